/- Walks and plain facts for the law RationalPowers, several texts in one: each theorem says what it shows; no condition beyond those that it names. -/
import Derived.Test.YtecfdemglbfnoaaProg
import Derived.Test.YtecfdemglbfnoaaMRationalPowersH
section
namespace Go.Proofs.Ytecfdemglbfnoaa.PT
open Go.RowKit Go.Proofs.YtecfdemglbfnoaaW.PrintWords Go.Proofs.YtecfdemglbfnoaaW.PrintLast Go.Proofs.YtecfdemglbfnoaaW.PrintMore
attribute [local go_sem] max2_int min2_int max_two min_two max_three min_three max_four min_four   -- for this text's walks alone
set_option linter.unusedVariables false
set_option linter.unusedSimpArgs false
end Go.Proofs.Ytecfdemglbfnoaa.PT
end
section
namespace Go.Proofs.Ytecfdemglbfnoaa.Num
open Go.RowKit Go.Proofs.Ytecfdemglbfnoaa.PT Go.Proofs.YtecfdemglbfnoaaW.PrintWords Go.Proofs.YtecfdemglbfnoaaW.PrintLast Go.Proofs.YtecfdemglbfnoaaW.PrintMore
theorem Ev_succ {α : Type} {g : Nat → Option α} {r : α} (h : Ev (fun k => g (k + 1)) r) : Ev g r := Ev.step (fun _ => rfl) h
end Go.Proofs.Ytecfdemglbfnoaa.Num
end
section
namespace Go.Proofs.Ytecfdemglbfnoaa.Num
open Go.RowKit Go.Proofs.Ytecfdemglbfnoaa.PT Go.Proofs.YtecfdemglbfnoaaW.PrintWords Go.Proofs.YtecfdemglbfnoaaW.PrintLast Go.Proofs.YtecfdemglbfnoaaW.PrintMore
theorem bits_or_comm (x y : Int) : Go.bits .or .u64 x y = Go.bits .or .u64 y x := by
  unfold Go.bits
  simp [BitVec.or_comm]
theorem padn_of_mod {z : List Int} (uz : U z) {K m : Nat} (hz : z.length = K) (h : valn z = m % pw K) : z = padn K m := by
  have h1 := padn_valn uz
  rw [hz, h] at h1
  rw [← h1]
  have e := Nat.mod_add_div m (pw K)
  conv => rhs; rw [← e]
  rw [padn_mod]
theorem stepat_f {u v : List Int} (uu : U u) (uv : U v) (h2 : 2 ≤ v.length) (hn : 2147483648 ≤ rd v ((v.length - 1 : Nat) : Int)) (hL : u.length ≤ 1000002) (j : Nat) (hj : j + v.length + 1 ≤ u.length) (hlt : valn (u.drop (j + 1)) < valn v) :
    Ev (fun k => stepat k u (j : Int) v (v.length : Int)) (((valn (u.drop j) / valn v : Nat) : Int), sp u j (padn (v.length + 1) (valn (u.drop j) % valn v))) := by
  obtain ⟨h3, h4⟩ := win_val uu uv j hj hlt
  have h5 := step_f (u := (u.drop j).take (v.length + 1)) (v := v) (U_take (U_drop uu j) _) uv (win_len u j (v.length + 1) (by omega)) h2 (by omega) hn (by rw [h3]; exact h4)
  rw [h3] at h5
  refine Ev.congr (f := fun k => (nat_step.f k ((u.drop j).take (v.length + 1)) v).bind fun r => some (r.1, sp u j r.2)) (fun k => ?_) (Ev.bind h5 (Ev.now _))
  unfold stepat
  rw [if_pos ⟨by omega, rfl, by rw [Int.toNat_natCast]; omega, by omega⟩, Int.toNat_natCast]
theorem long_l1 {u q : List Int} (uu : U u) (n K : Nat) (hn : n ≤ 31) (hk : K + 1 ≤ u.length) (hu : u.length ≤ 1000002) (d : Nat) : ∀ (i : Nat) (z : List Int), i + d = K → z.length = K → U z → valn (z.take i) = (valn u / 2 ^ n) % pw i →
    Ev (fun k => nat_longw.l1 k q z (n : Int) u (K : Int) (i : Int)) (q, padn K (valn u / 2 ^ n)) := by
  induction d with
  | zero =>
    intro i z hi hz uz hv
    obtain rfl : i = K := by omega
    rw [List.take_of_length_le (by omega)] at hv
    rw [← padn_of_mod uz hz hv]
    refine Ev.step (f := fun _ => some (q, z)) (fun k => ?_) (Ev.now _)
    simp only [nat_longw.l1]
    rw [if_neg (by omega)]
  | succ d ih =>
    intro i z hi hz uz hv
    obtain ⟨x, ex, hx⟩ := rd_nat uu (i : Int)
    obtain ⟨y, ey, hy⟩ := rd_nat uu ((i + 1 : Nat) : Int)
    have hl := limb_shr uu n hn i
    rw [ex, ey, Int.toNat_natCast, Int.toNat_natCast] at hl
    have et : shr .u64 (Go.bits .or .u64 (IntKind.u64.wrap (rd u (i : Int))) (IntKind.u64.wrap (IntKind.u64.wrap (rd u ((i + 1 : Nat) : Int)) * 4294967296))) (n : Int) % 4294967296 = (((valn u / 2 ^ n / pw i % 4294967296 : Nat)) : Int) := by
      have e : (y : Int) * 4294967296 = ((y * 4294967296 : Nat) : Int) := by simp
      rw [ex, ey, u64 (x := (x : Int)) (by omega) (by omega), u64 (x := (y : Int)) (by omega) (by omega), e, u64 (x := ((y * 4294967296 : Nat) : Int)) (by omega) (by omega), bits_or_comm, or64 32 _ _ (by simp) (by omega) (by omega) (by omega)]
      unfold shr
      have hm : min ((n : Int)).toNat IntKind.u64.bits = n := by
        rw [Int.toNat_natCast]; exact Nat.min_eq_left (by show n ≤ 64; omega)
      rw [hm, hl, Nat.add_comm (y * 4294967296), Nat.mul_comm y, Int.natCast_emod, Int.natCast_ediv, Int.natCast_pow]; rfl
    have hb : valn u / 2 ^ n / pw i % 4294967296 < 4294967296 := Nat.mod_lt _ (by decide)
    generalize hd : valn u / 2 ^ n / pw i % 4294967296 = D at et hb
    have step := ih (i + 1) (z.set i (D : Int)) (by omega) (by rw [List.length_set]; exact hz) (U_set uz (by omega) _) (by
      rw [valn_set_take z i _ (by omega), Int.toNat_natCast, hv, mod_pw_succ, hd])
    refine Ev.step (fun k => ?_) step
    simp only [nat_longw.l1]
    rw [up i (by omega), if_pos (by omega), if_pos (by omega), if_pos (by omega), if_pos (by omega), if_pos (by omega), if_pos (by omega), if_pos (by omega), et, Int.toNat_natCast]
theorem long_l0 {v : List Int} (uv : U v) (h2 : 2 ≤ v.length) (hn : 2147483648 ≤ rd v ((v.length - 1 : Nat) : Int)) (n : Nat) (hn31 : n ≤ 31) (S L : Nat) (hL : v.length + 1 ≤ L) (hL' : L ≤ 1000002) : ∀ (j : Nat) (q u : List Int), u.length = L → U u → q.length = L - v.length → U q → j ≤ L - v.length →
    valn (u.drop j) < valn v → valn (u.take j) + pw j * valn (u.drop j) + valn v * pw j * valn (q.drop j) = S →
    Ev (fun k => nat_longw.l0 k q (n : Int) v u (v.length : Int) ((j : Int) - 1)) (padn (L - v.length) (S / valn v), padn v.length (S % valn v / 2 ^ n)) := by
  intro j
  induction j with
  | zero =>
    intro q u hu uu hq uq _ hlt hS
    rw [List.take_zero, List.drop_zero, List.drop_zero, pw_zero, valn_nil, Nat.mul_one, Nat.one_mul, Nat.zero_add] at hS
    rw [List.drop_zero] at hlt
    have hv0 : 0 < valn v := by omega
    have h3 := quo_of (u := S) (v := valn v) (q := valn q) (by rw [← hS, Nat.mul_comm]; omega) (by rw [← hS, Nat.mul_comm]; omega)
    have h4 : S % valn v = valn u := by rw [h3.2, ← hS, Nat.mul_comm (valn v)]; omega
    have hqp : padn (L - v.length) (S / valn v) = q := by rw [h3.1, ← hq]; exact padn_valn uq
    rw [hqp, h4]
    have h5 := long_l1 (q := q) uu n v.length hn31 (by omega) (by omega) v.length 0 (List.replicate v.length 0) (by omega) (by simp) (U_replicate _) (by rw [List.take_zero, valn_nil, pw_zero, Nat.mod_one])
    refine Ev.step (fun k => ?_) h5
    simp only [nat_longw.l0]
    rw [if_neg (by omega), if_pos (by omega), Int.toNat_natCast, if_pos (by omega), Option.bind_some, List.length_replicate]; rfl
  | succ j ih =>
    intro q u hu uu hq uq hj hlt hS
    have hj1 : j + v.length + 1 ≤ u.length := by omega
    obtain ⟨h3, h4⟩ := win_val uu uv j hj1 hlt
    obtain ⟨a1, a2, a3, a4⟩ := win_after uu uv j hj1 hlt
    have hst := stepat_f uu uv h2 hn (by omega) j hj1 hlt
    have hv0 : 0 < valn v := by omega
    have hqb : valn (u.drop j) / valn v < 4294967296 := (Nat.div_lt_iff_lt_mul hv0).mpr h4
    have e0 : valn u = valn (u.take j) + pw j * valn (u.drop j) := valn_splitD u j
    have e1 : valn u = valn (u.take (j + 1)) + pw (j + 1) * valn (u.drop (j + 1)) := valn_splitD u (j + 1)
    rw [← e1, e0, pw_succ] at hS
    have hinv := long_inv hS
    have uq' : U (q.set j ((valn (u.drop j) / valn v : Nat) : Int)) := U_set uq ⟨Int.natCast_nonneg _, by omega⟩ _
    have hqd : valn ((q.set j ((valn (u.drop j) / valn v : Nat) : Int)).drop j) = valn (u.drop j) / valn v + 4294967296 * valn (q.drop (j + 1)) := by
      rw [valn_drop_rd, rd_set_eq _ _ _ (by omega), Int.toNat_natCast, List.drop_set_of_lt (by omega)]
    have htk : (sp u j (padn (v.length + 1) (valn (u.drop j) % valn v))).take j = u.take j := sp_take _ _ _ (by rw [padn_len]; omega)
    have step := ih (q.set j ((valn (u.drop j) / valn v : Nat) : Int)) (sp u j (padn (v.length + 1) (valn (u.drop j) % valn v))) (by rw [a4]; exact hu) a3 (by rw [List.length_set]; exact hq) uq' (by omega) (by rw [a1]; exact Nat.mod_lt _ hv0) (by
      rw [htk, a1, hqd]; exact hinv)
    refine Ev_succ ?_
    have ej : ((j + 1 : Nat) : Int) - 1 = (j : Int) := by omega
    simp only [nat_longw.l0, ej]
    refine Ev.congr (fun k => ?_) (Ev.bind (f := fun k r => nat_longw.l0 k (q.set j r.1) (n : Int) v r.2 (v.length : Int) ((j : Int) - 1)) hst step)
    rw [if_pos (by omega)]
    congr 1
    funext r
    rw [if_pos (by omega), if_pos (by omega), w64 (by omega) (by omega), Int.toNat_natCast]
theorem lz_top {n : Nat} (h0 : n ≠ 0) (h : n < 4294967296) : (n + 1) * 2 ^ (32 - sz n) ≤ 4294967296 := by
  have hb : sz n ≤ 32 := sz_le (b := 32) h
  have h3 := (sz_spec h0).2
  have e2 : (4294967296 : Nat) = 2 ^ sz n * 2 ^ (32 - sz n) := by rw [← Nat.pow_add, show sz n + (32 - sz n) = 32 from by omega]
  conv => rhs; rw [e2]
  exact Nat.mul_le_mul_right _ h3
theorem top_val {b : List Int} {M t : Nat} (hM : b.length = M + 1) (et : rd b (M : Int) = (t : Int)) : valn b = valn (b.take M) + pw M * t := by
  have a1 := valn_splitD b M
  have a2 := valn_drop_rd b M
  have z0 : b.drop (M + 1) = [] := List.drop_eq_nil_of_le (by omega)
  rw [z0, valn_nil, et, Int.toNat_natCast, Nat.mul_zero, Nat.add_zero] at a2
  rw [a1, a2]
theorem norm_up {x p t c B : Nat} (h1 : x < p) (h : (t + 1) * c ≤ B) (hc : 0 < c) : (x + p * t) * c < p * B := by
  have h2 : (x + p * t + 1) * c ≤ p * (t + 1) * c := Nat.mul_le_mul_right _ (by rw [Nat.mul_add, Nat.mul_one]; omega)
  have h3 : p * (t + 1) * c ≤ p * B := by rw [Nat.mul_assoc]; exact Nat.mul_le_mul_left _ h
  rw [Nat.add_mul _ 1, Nat.one_mul] at h2
  exact Nat.lt_of_lt_of_le (Nat.lt_add_of_pos_right hc) (Nat.le_trans h2 h3)
theorem norm_low {x p t c H : Nat} (h : H ≤ t * c) : p * H ≤ (x + p * t) * c := by
  rw [Nat.add_mul, Nat.mul_assoc]
  exact Nat.le_trans (Nat.mul_le_mul_left _ h) (Nat.le_add_left _ _)
theorem lb_len_eq {V M : Nat} (h1 : V < pw (M + 1)) (h2 : pw M ≤ V) : (lb V).length = M + 1 := by
  have h3 := lb_len_le h1
  have h4 := lt_pow_len V
  by_cases c : (lb V).length = M + 1
  · exact c
  · exact absurd (Nat.lt_of_lt_of_le h4 (Nat.le_trans (pw_mono (show (lb V).length ≤ M from by omega)) h2)) (Nat.lt_irrefl _)
theorem lb_top {V M H : Nat} (h2 : pw M * H ≤ V) (hl : (lb V).length = M + 1) : (H : Int) ≤ rd (lb V) (M : Int) := by
  obtain ⟨x, ex, hx⟩ := rd_nat (U_lb V) (M : Int)
  have a1 := top_val hl ex
  rw [valn_lb] at a1
  have a3 := take_lt' (U_lb V) M
  rw [ex]
  by_cases c : H ≤ x
  · omega
  · exfalso
    have h3 : pw M * (x + 1) ≤ pw M * H := Nat.mul_le_mul_left _ (by omega)
    rw [Nat.mul_add, Nat.mul_one] at h3
    generalize pw M * x = y at *
    generalize pw M * H = z at *
    omega
/-- The divisor, shifted so that its last limb is at least half the base. -/
theorem norm_div {b : List Int} (ub : U b) {M t : Nat} (hM : b.length = M + 1) (et : rd b (M : Int) = (t : Int)) (ht : t < 4294967296) (ht0 : t ≠ 0) :
    valn b * 2 ^ (32 - sz t) < pw (M + 1) ∧ (lb (valn b * 2 ^ (32 - sz t))).length = M + 1 ∧ 2147483648 ≤ rd (lb (valn b * 2 ^ (32 - sz t))) (M : Int) := by
  obtain ⟨z1, _, _⟩ := lz_shift ht0 ht
  have z4 := lz_top ht0 ht
  have tb := take_lt' ub M
  have sb := top_val hM et
  have v1 : valn b * 2 ^ (32 - sz t) < pw (M + 1) := by rw [sb, pw_succ]; exact norm_up tb z4 (Nat.two_pow_pos _)
  have v2 : pw M * 2147483648 ≤ valn b * 2 ^ (32 - sz t) := by rw [sb]; exact norm_low z1
  have v3 : pw M ≤ valn b * 2 ^ (32 - sz t) := Nat.le_trans (Nat.le_mul_of_pos_right _ (by decide)) v2
  have vl := lb_len_eq v1 v3
  exact ⟨v1, vl, lb_top v2 vl⟩
theorem den_low {b : List Int} {M t : Nat} (hM : b.length = M + 1) (et : rd b (M : Int) = (t : Int)) (ht0 : t ≠ 0) : pw M ≤ valn b := by
  rw [top_val hM et]
  exact Nat.le_trans (Nat.le_mul_of_pos_right _ (Nat.pos_of_ne_zero ht0)) (Nat.le_add_left _ _)
theorem num_high {a : List Int} (ua : U a) {B M J c : Nat} (hJ : a.length = M + J) (hB : pw M ≤ B) (hc : 0 < c) : valn a * c < B * c * pw J := by
  have va := valn_lt ua
  rw [hJ, pw_add] at va
  have h1 : valn a < B * pw J := Nat.lt_of_lt_of_le va (Nat.mul_le_mul_right _ hB)
  have h2 := Nat.mul_lt_mul_of_pos_right h1 hc
  rwa [Nat.mul_assoc, Nat.mul_comm (pw J), ← Nat.mul_assoc] at h2
theorem drop_lt {u : List Int} {J V : Nat} (h : valn u < V * pw J) : valn (u.drop J) < V := by
  have h1 := valn_splitD u J
  by_cases c : valn (u.drop J) < V
  · exact c
  · exfalso
    have h2 : V * pw J ≤ valn (u.drop J) * pw J := Nat.mul_le_mul_right _ (by omega)
    rw [Nat.mul_comm (valn _)] at h2
    generalize V * pw J = x at *
    generalize pw J * valn (u.drop J) = y at *
    omega
theorem longw_f {a b : List Int} (ua : U a) (ub : U b) (h2 : 2 ≤ b.length) (hba : b.length ≤ a.length) (htop : rd b ((b.length - 1 : Nat) : Int) ≠ 0) (ha : a.length ≤ 1000000) :
    Ev (fun k => nat_longw.f k a b) (padn (a.length + 1 - b.length) (valn a / valn b), padn b.length (valn a % valn b)) := by
  obtain ⟨M, hM⟩ : ∃ M, b.length = M + 1 := ⟨b.length - 1, by omega⟩
  rw [hM, Nat.add_sub_cancel] at htop
  obtain ⟨t, et, ht⟩ := rd_nat ub (M : Int)
  have ht0 : t ≠ 0 := by intro h; apply htop; rw [et, h]; rfl
  have z3 := (lz_shift ht0 ht).2.2
  obtain ⟨v1, vl, vt⟩ := norm_div ub hM et ht ht0
  have hb0 := den_low hM et ht0
  obtain ⟨J, hJ⟩ : ∃ J, a.length = M + J := ⟨a.length - M, by omega⟩
  have hlz := LeadingZeros32_f t ht
  obtain ⟨n, hn⟩ : ∃ n, 32 - sz t = n := ⟨_, rfl⟩
  rw [hn] at z3 v1 vl vt hlz
  have hc := Nat.two_pow_pos n
  have hcB : 2 ^ n < 4294967296 := Nat.lt_of_le_of_lt (Nat.pow_le_pow_right (by decide) z3) (by decide : 2 ^ 31 < 4294967296)
  have s2 := num_high ua hJ hb0 hc
  have s1 : valn a * 2 ^ n < pw (a.length + 1) := by rw [pw_succ]; exact Nat.mul_lt_mul'' (valn_lt ua) hcB
  have e1 : valn a * 2 ^ n / (valn b * 2 ^ n) = valn a / valn b := Nat.mul_div_mul_right _ _ hc
  have e2 : valn a * 2 ^ n % (valn b * 2 ^ n) / 2 ^ n = valn a % valn b := by rw [Nat.mul_mod_mul_right]; exact Nat.mul_div_cancel _ hc
  have hsh1 := shift_f ub n z3 (by omega)
  have hsh2 := shift_f ua n z3 (by omega)
  obtain ⟨V, hV⟩ : ∃ V, valn b * 2 ^ n = V := ⟨_, rfl⟩
  obtain ⟨S, hS⟩ : ∃ S, valn a * 2 ^ n = S := ⟨_, rfl⟩
  rw [hV] at v1 vl vt s2 e1 e2 hsh1
  rw [hS] at s1 s2 e1 e2 hsh2
  have hso := short_f (l := padn (b.length + 1) V) (U_padn _ _) (by rw [padn_len]; omega)
  rw [valn_padn_lt (Nat.lt_of_lt_of_le v1 (pw_mono (by omega)))] at hso
  have u0 : valn ((padn (a.length + 1) S).drop J) < V := drop_lt (by rw [valn_padn_lt s1]; exact s2)
  have main := long_l0 (v := lb V) (U_lb V) (by rw [vl, ← hM]; exact h2) (by rw [vl, Nat.add_sub_cancel]; exact vt) n z3 S (a.length + 1) (by omega) (by omega) J (List.replicate J 0) (padn (a.length + 1) S) (padn_len _ _) (U_padn _ _) (by rw [List.length_replicate]; omega) (U_replicate _) (by omega) (by rw [valn_lb]; exact u0) (by
    rw [show (List.replicate J (0 : Int)).drop J = [] from List.drop_eq_nil_of_le (by rw [List.length_replicate]; exact Nat.le_refl _), valn_nil, Nat.mul_zero, Nat.add_zero, ← valn_splitD, valn_padn_lt s1])
  rw [valn_lb, e1, e2, vl] at main
  rw [hM] at hsh1 hso ⊢
  have eJ : ((a.length + 1 : Nat) : Int) - ((M + 1 : Nat) : Int) = (J : Int) := by omega
  have c1 : (0 : Int) ≤ (M : Int) ∧ (M : Int) < ((M + 1 : Nat) : Int) ∧ (0 : Int) ≤ (J : Int) ∧ J ≤ 70368744177664 ∧ M < 9223372036854775807 := by omega
  have ws : wrap64 (((M + 1 : Nat) : Int) - 1) = (M : Int) ∧ wrap64 (J : Int) = (J : Int) ∧ wrap64 ((J : Int) - 1) = (J : Int) - 1 := ⟨dn M c1.2.2.2.2, w64 (by omega) (by omega), w64 (by omega) (by omega)⟩
  refine Ev.congr (f := fun k => (nat_shift.f k b (n : Int)).bind fun t139 => (nat_short.f k t139).bind fun t142 => (nat_shift.f k a (n : Int)).bind fun t145 =>
    (if 0 ≤ (wrap64 ((t145.length : Int) - (t142.length : Int))) then (if (wrap64 ((t145.length : Int) - (t142.length : Int)) : Int).toNat ≤ 70368744177664 then (nat_longw.l0 k (List.replicate (wrap64 ((t145.length : Int) - (t142.length : Int)) : Int).toNat 0) (n : Int) t142 t145 (t142.length : Int) (wrap64 ((wrap64 ((t145.length : Int) - (t142.length : Int))) - 1))) else (none)) else (none)))
    (fun k => ?_) (Ev.bind hsh1 (Ev.bind hso (Ev.bind hsh2 (Ev.congr (fun k => ?_) main))))
  · unfold nat_longw.f
    rw [hM, ws.1, if_pos c1.1, if_pos c1.2.1, et, hlz, Option.bind_some]
  · rw [padn_len, vl, eJ, ws.2.1, ws.2.2, if_pos c1.2.2.1, Int.toNat_natCast, if_pos c1.2.2.2.1]
end Go.Proofs.Ytecfdemglbfnoaa.Num
end
section
namespace Go.Proofs.Ytecfdemglbfnoaa.PT
open Go.RowKit Go.Proofs.Ytecfdemglbfnoaa.Num Go.Proofs.YtecfdemglbfnoaaW.PrintWords
def nat_long.f (l0 l1 : List Int) : Option (List Int × List Int) :=
  if 2 ≤ l1.length ∧ l1.length ≤ l0.length ∧ l1.getLastD 0 ≠ 0 ∧ (∀ x ∈ l0, 0 ≤ x ∧ x < 4294967296) ∧ (∀ x ∈ l1, 0 ≤ x ∧ x < 4294967296) ∧ l0.length ≤ 1000000 then
    some (padn (l0.length + 1 - l1.length) (valn l0 / valn l1), padn l1.length (valn l0 % valn l1)) else none
theorem rd_getLastD (l : List Int) : rd l ((l.length - 1 : Nat) : Int) = l.getLastD 0 := by
  unfold rd
  rw [Int.toNat_natCast, List.getLastD_eq_getLast?, List.getLast?_eq_getElem?, List.getD_eq_getElem?_getD]
theorem nat_long.calls (A0 : Option Addr) (c0 : Nat) (l0 : List Int) (A1 : Option Addr) (c1 : Nat) (l1 : List Int) (r1 : List Int) (r2 : List Int) (w : World) (hr0 : Kd.C (Kd.int .u32) w A0 l0.length l0) (hc0 : l0.length ≤ c0) (hr1 : Kd.C (Kd.int .u32) w A1 l1.length l1) (hc1 : l1.length ≤ c1) (h : nat_long.f l0 l1 = some (r1, r2)) :
    Calls Try.prog 187 #[.slice A0 l0.length c0, .slice A1 l1.length c1] w fun e w' => ∃ v0_ v1_ : Value, e = .returned (.tuple #[v0_, v1_]) ∧ Kd.R (Kd.int .u32) 48 w' w.heap.size (fun k_ => some k_ ≠ (v1_ : Value).ownBlock) v0_ r1 ∧ Kd.R (Kd.int .u32) 48 w' w.heap.size (fun k_ => some k_ ≠ (v0_ : Value).ownBlock) v1_ r2 ∧ Below w.heap.size w w' := by
  unfold nat_long.f at h
  split at h
  case isTrue c =>
    obtain ⟨h2, hba, hd, ua, ub, ha⟩ := c
    obtain ⟨k, hk⟩ := (longw_f (a := l0) (b := l1) ua ub h2 hba (by rw [rd_getLastD l1]; exact hd) ha).rounds
    exact nat_longw.calls k A0 c0 l0 A1 c1 l1 r1 r2 w hr0 hc0 hr1 hc1 (hk.trans h)
  case isFalse => exact absurd h (by simp)
end Go.Proofs.Ytecfdemglbfnoaa.PT
end
section
namespace Go.Proofs.Ytecfdemglbfnoaa.PT
open Go.RowKit Go.Proofs.YtecfdemglbfnoaaW.PrintWords Go.Proofs.YtecfdemglbfnoaaW.PrintLast Go.Proofs.YtecfdemglbfnoaaW.PrintMore
attribute [local go_sem] max2_int min2_int max_two min_two max_three min_three max_four min_four   -- for this text's walks alone
set_option linter.unusedVariables false
set_option linter.unusedSimpArgs false
def nat_DivMod.f (k : Nat) (l0 : List Int) (l1 : List Int) : Option (List Int × List Int × Int) := (nat_short.f k l0).bind fun t966 => ((nat_short.f k l1).bind fun t969 => (if (t969.length : Int) = 0 then (some (([] : List Int), ([] : List Int), 7)) else ((nat_Cmp.f k t966 t969).bind fun t972 => (if t972 < 0 then ((nat_Trim.f k t966).bind fun t973 => (some (([] : List Int), t973, 0))) else (if (t969.length : Int) = 1 then (if 0 < (t969.length : Int) then ((nat_digit.f k t966 (rd t969 0)).bind fun bt977 => ((nat_Of.f k (IntKind.u64.wrap (bt977.2))).bind fun t981 => (some (bt977.1, t981, 0)))) else (none)) else ((nat_long.f t966 t969).bind fun bt984 => ((nat_Trim.f k bt984.1).bind fun t990 => ((nat_Trim.f k bt984.2).bind fun t993 => (some (t990, t993, 0))))))))))
set_option maxHeartbeats 8000000 in
set_option maxRecDepth 100000 in
theorem nat_DivMod.calls (k : Nat) (P0_ : Nat → Prop) (A0 : Option Addr) (c0 : Nat) (l0 : List Int) (P1_ : Nat → Prop) (A1 : Option Addr) (c1 : Nat) (l1 : List Int) (r1 : List Int) (r2 : List Int) (r3 : Int) (w : World) (hs0 : Kd.V (Kd.int .u32) 48 w w.heap.size (fun k_ => P0_ k_) (.slice A0 l0.length c0) l0) (hs1 : Kd.V (Kd.int .u32) 48 w w.heap.size (fun k_ => P1_ k_) (.slice A1 l1.length c1) l1) (h : nat_DivMod.f k l0 l1 = some (r1, r2, r3)) :
 Calls Try.prog 167 #[.slice A0 l0.length c0, .slice A1 l1.length c1] w fun e w' => ∃ v0_ v1_ : Value, e = .returned (.tuple #[v0_, v1_, .int .i64 r3]) ∧ Kd.V (Kd.int .u32) 48 w' w.heap.size (fun k_ => ((P0_ k_ ∨ P1_ k_) ∨ w.heap.size ≤ k_)) v0_ r1 ∧ Kd.V (Kd.int .u32) 48 w' w.heap.size (fun k_ => ((P0_ k_ ∨ P1_ k_) ∨ w.heap.size ≤ k_)) v1_ r2 ∧ Below w.heap.size w w' := by
 have HO0 := Aside0.mk (show Kd.V (Kd.int .u32) 48 w w.heap.size (fun k_ => ((P0_ k_ ∨ P1_ k_) ∨ w.heap.size ≤ k_)) (.slice A0 l0.length c0) l0 from Kd.V_mono hs0 (fun k_ hk => .inl (.inl hk)))
 have HO1 := Aside0.mk (show Kd.V (Kd.int .u32) 48 w w.heap.size (fun k_ => ((P0_ k_ ∨ P1_ k_) ∨ w.heap.size ≤ k_)) (.slice A1 l1.length c1) l1 from Kd.V_mono hs1 (fun k_ hk => .inl (.inr hk)))
 have HB := Aside0.mk (Below.refl w.heap.size w)
 have H : ((nat_short.f k l0).bind fun t966 => ((nat_short.f k l1).bind fun t969 => (if (t969.length : Int) = 0 then (some (([] : List Int), ([] : List Int), 7)) else ((nat_Cmp.f k t966 t969).bind fun t972 => (if t972 < 0 then ((nat_Trim.f k t966).bind fun t973 => (some (([] : List Int), t973, 0))) else (if (t969.length : Int) = 1 then (if 0 < (t969.length : Int) then ((nat_digit.f k t966 (rd t969 0)).bind fun bt977 => ((nat_Of.f k (IntKind.u64.wrap (bt977.2))).bind fun t981 => (some (bt977.1, t981, 0)))) else (none)) else ((nat_long.f t966 t969).bind fun bt984 => ((nat_Trim.f k bt984.1).bind fun t990 => ((nat_Trim.f k bt984.2).bind fun t993 => (some (t990, t993, 0))))))))))) = some (r1, r2, r3) := h
 clear h
 replace H := Option.bind_eq_some_iff.mp H
 obtain ⟨t966, A30, H⟩ := H
 replace H : ((nat_short.f k l1).bind fun t969 => (if (t969.length : Int) = 0 then (some (([] : List Int), ([] : List Int), 7)) else ((nat_Cmp.f k t966 t969).bind fun t972 => (if t972 < 0 then ((nat_Trim.f k t966).bind fun t973 => (some (([] : List Int), t973, 0))) else (if (t969.length : Int) = 1 then (if 0 < (t969.length : Int) then ((nat_digit.f k t966 (rd t969 0)).bind fun bt977 => ((nat_Of.f k (IntKind.u64.wrap (bt977.2))).bind fun t981 => (some (bt977.1, t981, 0)))) else (none)) else ((nat_long.f t966 t969).bind fun bt984 => ((nat_Trim.f k bt984.1).bind fun t990 => ((nat_Trim.f k bt984.2).bind fun t993 => (some (t990, t993, 0)))))))))) = some (r1, r2, r3) := H
 have A3 := Aside0.mk A30
 clear A30
 replace H := Option.bind_eq_some_iff.mp H
 obtain ⟨t969, A40, H⟩ := H
 replace H : (if (t969.length : Int) = 0 then (some (([] : List Int), ([] : List Int), 7)) else ((nat_Cmp.f k t966 t969).bind fun t972 => (if t972 < 0 then ((nat_Trim.f k t966).bind fun t973 => (some (([] : List Int), t973, 0))) else (if (t969.length : Int) = 1 then (if 0 < (t969.length : Int) then ((nat_digit.f k t966 (rd t969 0)).bind fun bt977 => ((nat_Of.f k (IntKind.u64.wrap (bt977.2))).bind fun t981 => (some (bt977.1, t981, 0)))) else (none)) else ((nat_long.f t966 t969).bind fun bt984 => ((nat_Trim.f k bt984.1).bind fun t990 => ((nat_Trim.f k bt984.2).bind fun t993 => (some (t990, t993, 0))))))))) = some (r1, r2, r3) := H
 have A4 := Aside0.mk A40
 clear A40
 by_cases c5 : (t969.length : Int) = 0
 ·
  rw [if_pos c5] at H
  have c5b0 : ((t969.length : Int) == 0) = true := beq_iff_eq.mpr c5
  have c5b1 : ((t969.length : Int) != 0) = false := bne_eq_false_iff_eq.mpr c5
  clear c5
  simp only [Option.some.injEq, Prod.mk.injEq] at H
  obtain ⟨rfl, rfl, rfl⟩ := H
  go_enter Try.func167, Try.ntmps167
  go_wp2_with (first | ((with_reducible refine gate_callee (f := 179) rfl ?_); refine goesL_ (some 12) rfl rfl Try.func179 (by kernel_rfl) rfl #[.slice A0 l0.length c0] rfl lu ?_; (with_reducible refine (nat_short.calls k (fun k_ => ((P0_ k_ ∨ P1_ k_) ∨ w.heap.size ≤ k_)) _ _ l0 t966 _ ?side1 A3.out).mono ?_); (case side1 => exact HO0.out); rintro e w6 ⟨v967, rfl, ho0, hb⟩; refine ⟨_, rfl, ?_⟩; replace HO0 := Aside0.mk (Kd.V_below (vu HO0.out) hb); replace HO1 := Aside0.mk (Kd.V_below (vu HO1.out) hb); have HO968 := Aside0.mk (Kd.V_lower (Kd.V_mono (ok' := fun k_ => ((P0_ k_ ∨ P1_ k_) ∨ w.heap.size ≤ k_)) ho0 (fun k_ hk_ => Or.elim hk_ (fun hs_ => hs_) (fun hn_ => (.inr (Nat.le_trans (below_size (bu HB.out)) hn_))))) (below_size (bu HB.out))); replace HB := Aside0.mk (below_step (bu HB.out) hb); (try clear hb); (try clear hb2); (try clear hk); (try clear hi); (try clear ho0)) | ((with_reducible refine gate_callee (f := 179) rfl ?_); refine goesL_ (some 14) rfl rfl Try.func179 (by kernel_rfl) rfl #[.slice A1 l1.length c1] rfl lu ?_; (with_reducible refine (nat_short.calls k (fun k_ => ((P0_ k_ ∨ P1_ k_) ∨ w.heap.size ≤ k_)) _ _ l1 t969 _ ?side1 A4.out).mono ?_); (case side1 => exact HO1.out); rintro e w7 ⟨v970, rfl, ho0, hb⟩; refine ⟨_, rfl, ?_⟩; replace HO0 := Aside0.mk (Kd.V_below (vu HO0.out) hb); replace HO1 := Aside0.mk (Kd.V_below (vu HO1.out) hb); replace HO968 := Aside0.mk (Kd.V_below (vu HO968.out) hb); have HO971 := Aside0.mk (Kd.V_lower (Kd.V_mono (ok' := fun k_ => ((P0_ k_ ∨ P1_ k_) ∨ w.heap.size ≤ k_)) ho0 (fun k_ hk_ => Or.elim hk_ (fun hs_ => hs_) (fun hn_ => (.inr (Nat.le_trans (below_size (bu HB.out)) hn_))))) (below_size (bu HB.out))); replace HB := Aside0.mk (below_step (bu HB.out) hb); (try clear hb); (try clear hb2); (try clear hk); (try clear hi); (try clear ho0); obtain ⟨Ao8, co8, eo8⟩ := Kd.V_slice HO971.out; subst eo8))
  go_ret3
  exact ⟨_, _, by first | rfl | (simp [errW_none, errW_some] <;> rfl) | (simp [*, errW_none, errW_some] <;> rfl), Kd.V_nil _ _ _ _ _, Kd.V_nil _ _ _ _ _, by repeat (first | (with_reducible first | exact HB.out | apply below_alloc | apply pw_below_drewN | apply below_drew1) | exact HB.out)⟩
 ·
  rw [if_neg c5] at H
  have c5b0 : ((t969.length : Int) == 0) = false := beq_eq_false_iff_ne.mpr c5
  have c5b1 : ((t969.length : Int) != 0) = true := bne_iff_ne.mpr c5
  have c5b2 : ¬ (t969 = []) := fun h_ => c5 (by rw [h_]; rfl)
  replace H := Option.bind_eq_some_iff.mp H
  obtain ⟨t972, A90, H⟩ := H
  replace H : (if t972 < 0 then ((nat_Trim.f k t966).bind fun t973 => (some (([] : List Int), t973, 0))) else (if (t969.length : Int) = 1 then (if 0 < (t969.length : Int) then ((nat_digit.f k t966 (rd t969 0)).bind fun bt977 => ((nat_Of.f k (IntKind.u64.wrap (bt977.2))).bind fun t981 => (some (bt977.1, t981, 0)))) else (none)) else ((nat_long.f t966 t969).bind fun bt984 => ((nat_Trim.f k bt984.1).bind fun t990 => ((nat_Trim.f k bt984.2).bind fun t993 => (some (t990, t993, 0))))))) = some (r1, r2, r3) := H
  have A9 := Aside0.mk A90
  clear A90
  by_cases c10 : t972 < 0
  ·
   rw [if_pos c10] at H
   have c10b0 : decide (t972 < 0) = true := decide_eq_true c10
   clear c10
   replace H := Option.bind_eq_some_iff.mp H
   obtain ⟨t973, A110, H⟩ := H
   replace H : (some (([] : List Int), t973, 0)) = some (r1, r2, r3) := H
   have A11 := Aside0.mk A110
   clear A110
   simp only [Option.some.injEq, Prod.mk.injEq] at H
   obtain ⟨rfl, rfl, rfl⟩ := H
   go_enter Try.func167, Try.ntmps167
   go_wp2_with (first | ((with_reducible refine gate_callee (f := 179) rfl ?_); refine goesL_ (some 12) rfl rfl Try.func179 (by kernel_rfl) rfl #[.slice A0 l0.length c0] rfl lu ?_; (with_reducible refine (nat_short.calls k (fun k_ => ((P0_ k_ ∨ P1_ k_) ∨ w.heap.size ≤ k_)) _ _ l0 t966 _ ?side1 A3.out).mono ?_); (case side1 => exact HO0.out); rintro e w12 ⟨v967, rfl, ho0, hb⟩; refine ⟨_, rfl, ?_⟩; replace HO0 := Aside0.mk (Kd.V_below (vu HO0.out) hb); replace HO1 := Aside0.mk (Kd.V_below (vu HO1.out) hb); have HO968 := Aside0.mk (Kd.V_lower (Kd.V_mono (ok' := fun k_ => ((P0_ k_ ∨ P1_ k_) ∨ w.heap.size ≤ k_)) ho0 (fun k_ hk_ => Or.elim hk_ (fun hs_ => hs_) (fun hn_ => (.inr (Nat.le_trans (below_size (bu HB.out)) hn_))))) (below_size (bu HB.out))); replace HB := Aside0.mk (below_step (bu HB.out) hb); (try clear hb); (try clear hb2); (try clear hk); (try clear hi); (try clear ho0)) | ((with_reducible refine gate_callee (f := 179) rfl ?_); refine goesL_ (some 14) rfl rfl Try.func179 (by kernel_rfl) rfl #[.slice A1 l1.length c1] rfl lu ?_; (with_reducible refine (nat_short.calls k (fun k_ => ((P0_ k_ ∨ P1_ k_) ∨ w.heap.size ≤ k_)) _ _ l1 t969 _ ?side1 A4.out).mono ?_); (case side1 => exact HO1.out); rintro e w13 ⟨v970, rfl, ho0, hb⟩; refine ⟨_, rfl, ?_⟩; replace HO0 := Aside0.mk (Kd.V_below (vu HO0.out) hb); replace HO1 := Aside0.mk (Kd.V_below (vu HO1.out) hb); replace HO968 := Aside0.mk (Kd.V_below (vu HO968.out) hb); have HO971 := Aside0.mk (Kd.V_lower (Kd.V_mono (ok' := fun k_ => ((P0_ k_ ∨ P1_ k_) ∨ w.heap.size ≤ k_)) ho0 (fun k_ hk_ => Or.elim hk_ (fun hs_ => hs_) (fun hn_ => (.inr (Nat.le_trans (below_size (bu HB.out)) hn_))))) (below_size (bu HB.out))); replace HB := Aside0.mk (below_step (bu HB.out) hb); (try clear hb); (try clear hb2); (try clear hk); (try clear hi); (try clear ho0); obtain ⟨Ao14, co14, eo14⟩ := Kd.V_slice HO971.out; subst eo14; obtain ⟨Ao15, co15, eo15⟩ := Kd.V_slice HO968.out; subst eo15) | ((with_reducible refine gate_callee (f := 146) rfl ?_); refine goesL_ (some 22) rfl rfl Try.func146 (by kernel_rfl) rfl #[.slice Ao15 t966.length co15, .slice Ao14 t969.length co14] rfl lu ?_; (with_reducible refine (nat_Cmp.calls k _ _ t966 _ _ t969 t972 _ ?side1 ?side2 ?side3 ?side4 A9.out).mono ?_); (case side1 => repeat (first | exact (Kd.V_reads' HO968.out).2.2 | (with_reducible refine Kd.C_alloc ?_ _) | (with_reducible refine Kd.C_drewN ?_ _) | (with_reducible refine Kd.C_drew ?_))); (case side2 => exact (Kd.V_reads' HO968.out).2.1); (case side3 => repeat (first | exact (Kd.V_reads' HO971.out).2.2 | (with_reducible refine Kd.C_alloc ?_ _) | (with_reducible refine Kd.C_drewN ?_ _) | (with_reducible refine Kd.C_drew ?_))); (case side4 => exact (Kd.V_reads' HO971.out).2.1); rintro e w16 ⟨rfl, hb⟩; refine ⟨_, rfl, ?_⟩; replace HO0 := Aside0.mk (Kd.V_below (vu HO0.out) hb); replace HO1 := Aside0.mk (Kd.V_below (vu HO1.out) hb); replace HO968 := Aside0.mk (Kd.V_below (vu HO968.out) hb); replace HO971 := Aside0.mk (Kd.V_below (vu HO971.out) hb); replace HB := Aside0.mk (below_step (bu HB.out) hb); (try clear hb); (try clear hb2); (try clear hk); (try clear hi)) | ((with_reducible refine gate_callee (f := 177) rfl ?_); refine goesL_ (some 25) rfl rfl Try.func177 (by kernel_rfl) rfl #[.slice Ao15 t966.length co15] rfl lu ?_; (with_reducible refine (nat_Trim.calls k _ _ t966 t973 _ ?side1 ?side2 A11.out).mono ?_); (case side1 => repeat (first | exact (Kd.V_reads' HO968.out).2.2 | (with_reducible refine Kd.C_alloc ?_ _) | (with_reducible refine Kd.C_drewN ?_ _) | (with_reducible refine Kd.C_drew ?_))); (case side2 => exact (Kd.V_reads' HO968.out).2.1); rintro e w17 ⟨v974, rfl, ho0, hb⟩; refine ⟨_, rfl, ?_⟩; replace ho0 := R_V_base rfl ho0; replace HO0 := Aside0.mk (Kd.V_below (vu HO0.out) hb); replace HO1 := Aside0.mk (Kd.V_below (vu HO1.out) hb); replace HO968 := Aside0.mk (Kd.V_below (vu HO968.out) hb); replace HO971 := Aside0.mk (Kd.V_below (vu HO971.out) hb); have HO975 := Aside0.mk (Kd.V_lower (Kd.V_mono (ok' := fun k_ => ((P0_ k_ ∨ P1_ k_) ∨ w.heap.size ≤ k_)) ho0 (fun k_ hk_ => (.inr (Nat.le_trans (below_size (bu HB.out)) hk_)))) (below_size (bu HB.out))); replace HB := Aside0.mk (below_step (bu HB.out) hb); (try clear hb); (try clear hb2); (try clear hk); (try clear hi); (try clear ho0)))
   go_ret3
   exact ⟨_, _, by first | rfl | (simp [errW_none, errW_some] <;> rfl) | (simp [*, errW_none, errW_some] <;> rfl), Kd.V_nil _ _ _ _ _, by (with_reducible repeat (first | apply Kd.V_alloc | apply Kd.V_drewN | apply Kd.V_drew)); exact HO975.out, by repeat (first | (with_reducible first | exact HB.out | apply below_alloc | apply pw_below_drewN | apply below_drew1) | exact HB.out)⟩
  ·
   rw [if_neg c10] at H
   have c10b0 : decide (t972 < 0) = false := decide_eq_false c10
   clear c10
   by_cases c18 : (t969.length : Int) = 1
   ·
    rw [if_pos c18] at H
    have c18b0 : ((t969.length : Int) == 1) = true := beq_iff_eq.mpr c18
    have c18b1 : ((t969.length : Int) != 1) = false := bne_eq_false_iff_eq.mpr c18
    clear c18
    by_cases c19 : 0 < (t969.length : Int)
    ·
     rw [if_pos c19] at H
     have c19b0 : decide (0 < (t969.length : Int)) = true := decide_eq_true c19
     have c19b1 : decide (0 < t969.length) = true := decide_eq_true (by omega)
     clear c19
     replace H := Option.bind_eq_some_iff.mp H
     obtain ⟨⟨t977, t980⟩, A200, H⟩ := H
     replace H : ((nat_Of.f k (IntKind.u64.wrap (t980))).bind fun t981 => (some (t977, t981, 0))) = some (r1, r2, r3) := H
     have A20 := Aside0.mk A200
     clear A200
     replace H := Option.bind_eq_some_iff.mp H
     obtain ⟨t981, A210, H⟩ := H
     replace H : (some (t977, t981, 0)) = some (r1, r2, r3) := H
     have A21 := Aside0.mk A210
     clear A210
     simp only [Option.some.injEq, Prod.mk.injEq] at H
     obtain ⟨rfl, rfl, rfl⟩ := H
     go_enter Try.func167, Try.ntmps167
     go_wp2_with (first | ((with_reducible refine gate_callee (f := 179) rfl ?_); refine goesL_ (some 12) rfl rfl Try.func179 (by kernel_rfl) rfl #[.slice A0 l0.length c0] rfl lu ?_; (with_reducible refine (nat_short.calls k (fun k_ => ((P0_ k_ ∨ P1_ k_) ∨ w.heap.size ≤ k_)) _ _ l0 t966 _ ?side1 A3.out).mono ?_); (case side1 => exact HO0.out); rintro e w22 ⟨v967, rfl, ho0, hb⟩; refine ⟨_, rfl, ?_⟩; replace HO0 := Aside0.mk (Kd.V_below (vu HO0.out) hb); replace HO1 := Aside0.mk (Kd.V_below (vu HO1.out) hb); have HO968 := Aside0.mk (Kd.V_lower (Kd.V_mono (ok' := fun k_ => ((P0_ k_ ∨ P1_ k_) ∨ w.heap.size ≤ k_)) ho0 (fun k_ hk_ => Or.elim hk_ (fun hs_ => hs_) (fun hn_ => (.inr (Nat.le_trans (below_size (bu HB.out)) hn_))))) (below_size (bu HB.out))); replace HB := Aside0.mk (below_step (bu HB.out) hb); (try clear hb); (try clear hb2); (try clear hk); (try clear hi); (try clear ho0)) | ((with_reducible refine gate_callee (f := 179) rfl ?_); refine goesL_ (some 14) rfl rfl Try.func179 (by kernel_rfl) rfl #[.slice A1 l1.length c1] rfl lu ?_; (with_reducible refine (nat_short.calls k (fun k_ => ((P0_ k_ ∨ P1_ k_) ∨ w.heap.size ≤ k_)) _ _ l1 t969 _ ?side1 A4.out).mono ?_); (case side1 => exact HO1.out); rintro e w23 ⟨v970, rfl, ho0, hb⟩; refine ⟨_, rfl, ?_⟩; replace HO0 := Aside0.mk (Kd.V_below (vu HO0.out) hb); replace HO1 := Aside0.mk (Kd.V_below (vu HO1.out) hb); replace HO968 := Aside0.mk (Kd.V_below (vu HO968.out) hb); have HO971 := Aside0.mk (Kd.V_lower (Kd.V_mono (ok' := fun k_ => ((P0_ k_ ∨ P1_ k_) ∨ w.heap.size ≤ k_)) ho0 (fun k_ hk_ => Or.elim hk_ (fun hs_ => hs_) (fun hn_ => (.inr (Nat.le_trans (below_size (bu HB.out)) hn_))))) (below_size (bu HB.out))); replace HB := Aside0.mk (below_step (bu HB.out) hb); (try clear hb); (try clear hb2); (try clear hk); (try clear hi); (try clear ho0); obtain ⟨Ao24, co24, eo24⟩ := Kd.V_slice HO971.out; subst eo24; obtain ⟨Ao25, co25, eo25⟩ := Kd.V_slice HO968.out; subst eo25) | ((with_reducible refine gate_callee (f := 146) rfl ?_); refine goesL_ (some 22) rfl rfl Try.func146 (by kernel_rfl) rfl #[.slice Ao25 t966.length co25, .slice Ao24 t969.length co24] rfl lu ?_; (with_reducible refine (nat_Cmp.calls k _ _ t966 _ _ t969 t972 _ ?side1 ?side2 ?side3 ?side4 A9.out).mono ?_); (case side1 => repeat (first | exact (Kd.V_reads' HO968.out).2.2 | (with_reducible refine Kd.C_alloc ?_ _) | (with_reducible refine Kd.C_drewN ?_ _) | (with_reducible refine Kd.C_drew ?_))); (case side2 => exact (Kd.V_reads' HO968.out).2.1); (case side3 => repeat (first | exact (Kd.V_reads' HO971.out).2.2 | (with_reducible refine Kd.C_alloc ?_ _) | (with_reducible refine Kd.C_drewN ?_ _) | (with_reducible refine Kd.C_drew ?_))); (case side4 => exact (Kd.V_reads' HO971.out).2.1); rintro e w26 ⟨rfl, hb⟩; refine ⟨_, rfl, ?_⟩; replace HO0 := Aside0.mk (Kd.V_below (vu HO0.out) hb); replace HO1 := Aside0.mk (Kd.V_below (vu HO1.out) hb); replace HO968 := Aside0.mk (Kd.V_below (vu HO968.out) hb); replace HO971 := Aside0.mk (Kd.V_below (vu HO971.out) hb); replace HB := Aside0.mk (below_step (bu HB.out) hb); (try clear hb); (try clear hb2); (try clear hk); (try clear hi); have p976 : 0 ≤ (0 : Int) := (by omega); have q976 : 0 < (t969.length : Int) := of_decide_eq_true (by first | (with_reducible assumption) | assumption); obtain ⟨ad976, e976, hx976_0⟩ := Kd.at_int (Kd.V_reads' HO971.out).2.2 0 p976 q976; cases e976; have qi976 : (0 < t969.length) = True := eq_true (by omega); (try rw [show ((0 : Int)).toNat = 0 from rfl] at hx976_0); (try rw [Addr.add_zero'] at hx976_0); replace p976 := eq_true p976; replace q976 := eq_true q976) | ((with_reducible refine gate_callee (f := 186) rfl ?_); refine goesL_ (some 35) rfl rfl Try.func186 (by kernel_rfl) rfl #[.slice Ao25 t966.length co25, .int .u32 (rd t969 0)] rfl lu ?_; (with_reducible refine (nat_digit.calls k _ _ t966 (rd t969 0) t977 t980 _ ?side1 ?side2 A20.out).mono ?_); (case side1 => repeat (first | exact (Kd.V_reads' HO968.out).2.2 | (with_reducible refine Kd.C_alloc ?_ _) | (with_reducible refine Kd.C_drewN ?_ _) | (with_reducible refine Kd.C_drew ?_))); (case side2 => exact (Kd.V_reads' HO968.out).2.1); rintro e w27 ⟨v978, rfl, ho0, hb⟩; refine ⟨_, rfl, ?_⟩; replace HO0 := Aside0.mk (Kd.V_below (vu HO0.out) hb); replace HO1 := Aside0.mk (Kd.V_below (vu HO1.out) hb); replace HO968 := Aside0.mk (Kd.V_below (vu HO968.out) hb); replace HO971 := Aside0.mk (Kd.V_below (vu HO971.out) hb); have HO979 := Aside0.mk (Kd.V_lower (Kd.V_mono (ok' := fun k_ => ((P0_ k_ ∨ P1_ k_) ∨ w.heap.size ≤ k_)) ho0 (fun k_ hk_ => (.inr (Nat.le_trans (below_size (bu HB.out)) hk_)))) (below_size (bu HB.out))); replace HB := Aside0.mk (below_step (bu HB.out) hb); (try clear hb); (try clear hb2); (try clear hk); (try clear hi); (try clear ho0)) | ((with_reducible refine gate_callee (f := 141) rfl ?_); refine goesL_ (some 41) rfl rfl Try.func141 (by kernel_rfl) rfl #[.int .u64 (IntKind.u64.wrap (t980))] rfl lu ?_; (with_reducible refine (nat_Of.calls k (IntKind.u64.wrap (t980)) t981 _ A21.out).mono ?_); rintro e w28 ⟨v982, rfl, ho0, hb⟩; refine ⟨_, rfl, ?_⟩; replace ho0 := R_V_base rfl ho0; replace HO0 := Aside0.mk (Kd.V_below (vu HO0.out) hb); replace HO1 := Aside0.mk (Kd.V_below (vu HO1.out) hb); replace HO968 := Aside0.mk (Kd.V_below (vu HO968.out) hb); replace HO971 := Aside0.mk (Kd.V_below (vu HO971.out) hb); replace HO979 := Aside0.mk (Kd.V_below (vu HO979.out) hb); have HO983 := Aside0.mk (Kd.V_lower (Kd.V_mono (ok' := fun k_ => ((P0_ k_ ∨ P1_ k_) ∨ w.heap.size ≤ k_)) ho0 (fun k_ hk_ => (.inr (Nat.le_trans (below_size (bu HB.out)) hk_)))) (below_size (bu HB.out))); replace HB := Aside0.mk (below_step (bu HB.out) hb); (try clear hb); (try clear hb2); (try clear hk); (try clear hi); (try clear ho0)))
     go_ret3
     exact ⟨_, _, by first | rfl | (simp [errW_none, errW_some] <;> rfl) | (simp [*, errW_none, errW_some] <;> rfl), by (with_reducible repeat (first | apply Kd.V_alloc | apply Kd.V_drewN | apply Kd.V_drew)); exact HO979.out, by (with_reducible repeat (first | apply Kd.V_alloc | apply Kd.V_drewN | apply Kd.V_drew)); exact HO983.out, by repeat (first | (with_reducible first | exact HB.out | apply below_alloc | apply pw_below_drewN | apply below_drew1) | exact HB.out)⟩
    ·
     rw [if_neg c19] at H
     exact absurd H (by simp)
   ·
    rw [if_neg c18] at H
    have c18b0 : ((t969.length : Int) == 1) = false := beq_eq_false_iff_ne.mpr c18
    have c18b1 : ((t969.length : Int) != 1) = true := bne_iff_ne.mpr c18
    replace H := Option.bind_eq_some_iff.mp H
    obtain ⟨⟨t984, t987⟩, A290, H⟩ := H
    replace H : ((nat_Trim.f k t984).bind fun t990 => ((nat_Trim.f k t987).bind fun t993 => (some (t990, t993, 0)))) = some (r1, r2, r3) := H
    have A29 := Aside0.mk A290
    clear A290
    replace H := Option.bind_eq_some_iff.mp H
    obtain ⟨t990, A300, H⟩ := H
    replace H : ((nat_Trim.f k t987).bind fun t993 => (some (t990, t993, 0))) = some (r1, r2, r3) := H
    have A30 := Aside0.mk A300
    clear A300
    replace H := Option.bind_eq_some_iff.mp H
    obtain ⟨t993, A310, H⟩ := H
    replace H : (some (t990, t993, 0)) = some (r1, r2, r3) := H
    have A31 := Aside0.mk A310
    clear A310
    simp only [Option.some.injEq, Prod.mk.injEq] at H
    obtain ⟨rfl, rfl, rfl⟩ := H
    go_enter Try.func167, Try.ntmps167
    go_wp2_with (first | ((with_reducible refine gate_callee (f := 179) rfl ?_); refine goesL_ (some 12) rfl rfl Try.func179 (by kernel_rfl) rfl #[.slice A0 l0.length c0] rfl lu ?_; (with_reducible refine (nat_short.calls k (fun k_ => ((P0_ k_ ∨ P1_ k_) ∨ w.heap.size ≤ k_)) _ _ l0 t966 _ ?side1 A3.out).mono ?_); (case side1 => exact HO0.out); rintro e w32 ⟨v967, rfl, ho0, hb⟩; refine ⟨_, rfl, ?_⟩; replace HO0 := Aside0.mk (Kd.V_below (vu HO0.out) hb); replace HO1 := Aside0.mk (Kd.V_below (vu HO1.out) hb); have HO968 := Aside0.mk (Kd.V_lower (Kd.V_mono (ok' := fun k_ => ((P0_ k_ ∨ P1_ k_) ∨ w.heap.size ≤ k_)) ho0 (fun k_ hk_ => Or.elim hk_ (fun hs_ => hs_) (fun hn_ => (.inr (Nat.le_trans (below_size (bu HB.out)) hn_))))) (below_size (bu HB.out))); replace HB := Aside0.mk (below_step (bu HB.out) hb); (try clear hb); (try clear hb2); (try clear hk); (try clear hi); (try clear ho0)) | ((with_reducible refine gate_callee (f := 179) rfl ?_); refine goesL_ (some 14) rfl rfl Try.func179 (by kernel_rfl) rfl #[.slice A1 l1.length c1] rfl lu ?_; (with_reducible refine (nat_short.calls k (fun k_ => ((P0_ k_ ∨ P1_ k_) ∨ w.heap.size ≤ k_)) _ _ l1 t969 _ ?side1 A4.out).mono ?_); (case side1 => exact HO1.out); rintro e w33 ⟨v970, rfl, ho0, hb⟩; refine ⟨_, rfl, ?_⟩; replace HO0 := Aside0.mk (Kd.V_below (vu HO0.out) hb); replace HO1 := Aside0.mk (Kd.V_below (vu HO1.out) hb); replace HO968 := Aside0.mk (Kd.V_below (vu HO968.out) hb); have HO971 := Aside0.mk (Kd.V_lower (Kd.V_mono (ok' := fun k_ => ((P0_ k_ ∨ P1_ k_) ∨ w.heap.size ≤ k_)) ho0 (fun k_ hk_ => Or.elim hk_ (fun hs_ => hs_) (fun hn_ => (.inr (Nat.le_trans (below_size (bu HB.out)) hn_))))) (below_size (bu HB.out))); replace HB := Aside0.mk (below_step (bu HB.out) hb); (try clear hb); (try clear hb2); (try clear hk); (try clear hi); (try clear ho0); obtain ⟨Ao34, co34, eo34⟩ := Kd.V_slice HO971.out; subst eo34; obtain ⟨Ao35, co35, eo35⟩ := Kd.V_slice HO968.out; subst eo35) | ((with_reducible refine gate_callee (f := 146) rfl ?_); refine goesL_ (some 22) rfl rfl Try.func146 (by kernel_rfl) rfl #[.slice Ao35 t966.length co35, .slice Ao34 t969.length co34] rfl lu ?_; (with_reducible refine (nat_Cmp.calls k _ _ t966 _ _ t969 t972 _ ?side1 ?side2 ?side3 ?side4 A9.out).mono ?_); (case side1 => repeat (first | exact (Kd.V_reads' HO968.out).2.2 | (with_reducible refine Kd.C_alloc ?_ _) | (with_reducible refine Kd.C_drewN ?_ _) | (with_reducible refine Kd.C_drew ?_))); (case side2 => exact (Kd.V_reads' HO968.out).2.1); (case side3 => repeat (first | exact (Kd.V_reads' HO971.out).2.2 | (with_reducible refine Kd.C_alloc ?_ _) | (with_reducible refine Kd.C_drewN ?_ _) | (with_reducible refine Kd.C_drew ?_))); (case side4 => exact (Kd.V_reads' HO971.out).2.1); rintro e w36 ⟨rfl, hb⟩; refine ⟨_, rfl, ?_⟩; replace HO0 := Aside0.mk (Kd.V_below (vu HO0.out) hb); replace HO1 := Aside0.mk (Kd.V_below (vu HO1.out) hb); replace HO968 := Aside0.mk (Kd.V_below (vu HO968.out) hb); replace HO971 := Aside0.mk (Kd.V_below (vu HO971.out) hb); replace HB := Aside0.mk (below_step (bu HB.out) hb); (try clear hb); (try clear hb2); (try clear hk); (try clear hi)) | ((with_reducible refine gate_callee (f := 187) rfl ?_); refine goesL_ (some 45) rfl rfl Try.func187 (by kernel_rfl) rfl #[.slice Ao35 t966.length co35, .slice Ao34 t969.length co34] rfl lu ?_; (with_reducible refine (nat_long.calls _ _ t966 _ _ t969 t984 t987 _ ?side1 ?side2 ?side3 ?side4 A29.out).mono ?_); (case side1 => repeat (first | exact (Kd.V_reads' HO968.out).2.2 | (with_reducible refine Kd.C_alloc ?_ _) | (with_reducible refine Kd.C_drewN ?_ _) | (with_reducible refine Kd.C_drew ?_))); (case side2 => exact (Kd.V_reads' HO968.out).2.1); (case side3 => repeat (first | exact (Kd.V_reads' HO971.out).2.2 | (with_reducible refine Kd.C_alloc ?_ _) | (with_reducible refine Kd.C_drewN ?_ _) | (with_reducible refine Kd.C_drew ?_))); (case side4 => exact (Kd.V_reads' HO971.out).2.1); rintro e w37 ⟨v985, v988, rfl, ho0, ho1, hb⟩; refine ⟨_, rfl, ?_⟩; replace ho0 := R_V_base rfl ho0; replace ho1 := R_V_base rfl ho1; replace HO0 := Aside0.mk (Kd.V_below (vu HO0.out) hb); replace HO1 := Aside0.mk (Kd.V_below (vu HO1.out) hb); replace HO968 := Aside0.mk (Kd.V_below (vu HO968.out) hb); replace HO971 := Aside0.mk (Kd.V_below (vu HO971.out) hb); have HO986 := Aside0.mk (Kd.V_lower (Kd.V_mono (ok' := fun k_ => ((P0_ k_ ∨ P1_ k_) ∨ w.heap.size ≤ k_)) ho0 (fun k_ hk_ => (.inr (Nat.le_trans (below_size (bu HB.out)) hk_)))) (below_size (bu HB.out))); have HO989 := Aside0.mk (Kd.V_lower (Kd.V_mono (ok' := fun k_ => ((P0_ k_ ∨ P1_ k_) ∨ w.heap.size ≤ k_)) ho1 (fun k_ hk_ => (.inr (Nat.le_trans (below_size (bu HB.out)) hk_)))) (below_size (bu HB.out))); replace HB := Aside0.mk (below_step (bu HB.out) hb); (try clear hb); (try clear hb2); (try clear hk); (try clear hi); (try clear ho0); (try clear ho1); obtain ⟨Ao38, co38, eo38⟩ := Kd.V_slice HO986.out; subst eo38) | ((with_reducible refine gate_callee (f := 177) rfl ?_); refine goesL_ (some 49) rfl rfl Try.func177 (by kernel_rfl) rfl #[.slice Ao38 t984.length co38] rfl lu ?_; (with_reducible refine (nat_Trim.calls k _ _ t984 t990 _ ?side1 ?side2 A30.out).mono ?_); (case side1 => repeat (first | exact (Kd.V_reads' HO986.out).2.2 | (with_reducible refine Kd.C_alloc ?_ _) | (with_reducible refine Kd.C_drewN ?_ _) | (with_reducible refine Kd.C_drew ?_))); (case side2 => exact (Kd.V_reads' HO986.out).2.1); rintro e w39 ⟨v991, rfl, ho0, hb⟩; refine ⟨_, rfl, ?_⟩; replace ho0 := R_V_base rfl ho0; replace HO0 := Aside0.mk (Kd.V_below (vu HO0.out) hb); replace HO1 := Aside0.mk (Kd.V_below (vu HO1.out) hb); replace HO968 := Aside0.mk (Kd.V_below (vu HO968.out) hb); replace HO971 := Aside0.mk (Kd.V_below (vu HO971.out) hb); replace HO986 := Aside0.mk (Kd.V_below (vu HO986.out) hb); replace HO989 := Aside0.mk (Kd.V_below (vu HO989.out) hb); have HO992 := Aside0.mk (Kd.V_lower (Kd.V_mono (ok' := fun k_ => ((P0_ k_ ∨ P1_ k_) ∨ w.heap.size ≤ k_)) ho0 (fun k_ hk_ => (.inr (Nat.le_trans (below_size (bu HB.out)) hk_)))) (below_size (bu HB.out))); replace HB := Aside0.mk (below_step (bu HB.out) hb); (try clear hb); (try clear hb2); (try clear hk); (try clear hi); (try clear ho0); obtain ⟨Ao40, co40, eo40⟩ := Kd.V_slice HO989.out; subst eo40) | ((with_reducible refine gate_callee (f := 177) rfl ?_); refine goesL_ (some 51) rfl rfl Try.func177 (by kernel_rfl) rfl #[.slice Ao40 t987.length co40] rfl lu ?_; (with_reducible refine (nat_Trim.calls k _ _ t987 t993 _ ?side1 ?side2 A31.out).mono ?_); (case side1 => repeat (first | exact (Kd.V_reads' HO989.out).2.2 | (with_reducible refine Kd.C_alloc ?_ _) | (with_reducible refine Kd.C_drewN ?_ _) | (with_reducible refine Kd.C_drew ?_))); (case side2 => exact (Kd.V_reads' HO989.out).2.1); rintro e w41 ⟨v994, rfl, ho0, hb⟩; refine ⟨_, rfl, ?_⟩; replace ho0 := R_V_base rfl ho0; replace HO0 := Aside0.mk (Kd.V_below (vu HO0.out) hb); replace HO1 := Aside0.mk (Kd.V_below (vu HO1.out) hb); replace HO968 := Aside0.mk (Kd.V_below (vu HO968.out) hb); replace HO971 := Aside0.mk (Kd.V_below (vu HO971.out) hb); replace HO986 := Aside0.mk (Kd.V_below (vu HO986.out) hb); replace HO989 := Aside0.mk (Kd.V_below (vu HO989.out) hb); replace HO992 := Aside0.mk (Kd.V_below (vu HO992.out) hb); have HO995 := Aside0.mk (Kd.V_lower (Kd.V_mono (ok' := fun k_ => ((P0_ k_ ∨ P1_ k_) ∨ w.heap.size ≤ k_)) ho0 (fun k_ hk_ => (.inr (Nat.le_trans (below_size (bu HB.out)) hk_)))) (below_size (bu HB.out))); replace HB := Aside0.mk (below_step (bu HB.out) hb); (try clear hb); (try clear hb2); (try clear hk); (try clear hi); (try clear ho0)))
    go_ret3
    exact ⟨_, _, by first | rfl | (simp [errW_none, errW_some] <;> rfl) | (simp [*, errW_none, errW_some] <;> rfl), by (with_reducible repeat (first | apply Kd.V_alloc | apply Kd.V_drewN | apply Kd.V_drew)); exact HO992.out, by (with_reducible repeat (first | apply Kd.V_alloc | apply Kd.V_drewN | apply Kd.V_drew)); exact HO995.out, by repeat (first | (with_reducible first | exact HB.out | apply below_alloc | apply pw_below_drewN | apply below_drew1) | exact HB.out)⟩
end Go.Proofs.Ytecfdemglbfnoaa.PT
end
section
namespace Go.Proofs.Ytecfdemglbfnoaa.PT
open Go.RowKit Go.Proofs.YtecfdemglbfnoaaW.PrintWords Go.Proofs.YtecfdemglbfnoaaW.PrintLast Go.Proofs.YtecfdemglbfnoaaW.PrintMore
attribute [local go_sem] max2_int min2_int max_two min_two max_three min_three max_four min_four   -- for this text's walks alone
set_option linter.unusedVariables false
set_option linter.unusedSimpArgs false
def nat_Gcd.l0 : Nat → List Int → List Int → Option (List Int)
 | 0, _, _ => none
 | k + 1, x0, x1 => if (x1.length : Int) > 0 then ((nat_DivMod.f k x0 x1).bind fun bt1002 => (nat_Gcd.l0 k x1 bt1002.2.1)) else ((nat_Trim.f k x0).bind fun t1009 => (some t1009))
def nat_Gcd.f (k : Nat) (l0 : List Int) (l1 : List Int) : Option (List Int) := (nat_short.f k l0).bind fun t996 => ((nat_short.f k l1).bind fun t999 => (nat_Gcd.l0 k t996 t999))
set_option maxHeartbeats 8000000 in
set_option maxRecDepth 100000 in
theorem nat_Gcd.calls (k : Nat) (A0 : Option Addr) (c0 : Nat) (l0 : List Int) (A1 : Option Addr) (c1 : Nat) (l1 : List Int) (r : List Int) (w : World) (hr0 : Kd.C (Kd.int .u32) w A0 l0.length l0) (hc0 : l0.length ≤ c0) (hr1 : Kd.C (Kd.int .u32) w A1 l1.length l1) (hc1 : l1.length ≤ c1) (h : nat_Gcd.f k l0 l1 = some r) :
 Calls Try.prog 182 #[.slice A0 l0.length c0, .slice A1 l1.length c1] w fun e w' => ∃ v0_ : Value, e = .returned (v0_) ∧ Kd.R (Kd.int .u32) 48 w' w.heap.size (fun _ => True) v0_ r ∧ Below w.heap.size w w' := by
 have HR0 := Aside0.mk hr0
 have HC0 := Aside0.mk hc0
 clear hr0 hc0
 have HR1 := Aside0.mk hr1
 have HC1 := Aside0.mk hc1
 clear hr1 hc1
 have HB := Aside0.mk (Below.refl w.heap.size w)
 have H : ((nat_short.f k l0).bind fun t996 => ((nat_short.f k l1).bind fun t999 => (nat_Gcd.l0 k t996 t999))) = some r := h
 clear h
 replace H := Option.bind_eq_some_iff.mp H
 obtain ⟨t996, A30, H⟩ := H
 replace H : ((nat_short.f k l1).bind fun t999 => (nat_Gcd.l0 k t996 t999)) = some r := H
 have A3 := Aside0.mk A30
 clear A30
 replace H := Option.bind_eq_some_iff.mp H
 obtain ⟨t999, A40, H⟩ := H
 replace H : (nat_Gcd.l0 k t996 t999) = some r := H
 have A4 := Aside0.mk A40
 clear A40
 have H' := Aside0.mk H
 clear H
 go_enter Try.func182, Try.ntmps182
 go_wp2_with (first | ((with_reducible refine gate_callee (f := 179) rfl ?_); refine goesL_ (some 9) rfl rfl Try.func179 (by kernel_rfl) rfl #[.slice A0 l0.length c0] rfl lu ?_; (with_reducible refine (nat_short.calls k (fun k_ => k_ < w.heap.size) _ _ l0 t996 _ ?side1 A3.out).mono ?_); (case side1 => exact Kd.V_mk HC0.out (Kd.F_below (Kd.C_F (Kd.heap_int .u32) HR0.out) (bu HB.out))); rintro e w5 ⟨v997, rfl, ho0, hb⟩; refine ⟨_, rfl, ?_⟩; have HO998 := Aside0.mk (Kd.V_lower (Kd.V_mono (ok' := fun k_ => True) ho0 (fun k_ hk_ => trivial)) (below_size (bu HB.out))); replace HB := Aside0.mk (below_step (bu HB.out) hb); (try clear hb); (try clear hb2); (try clear hk); (try clear hi); (try clear ho0)) | ((with_reducible refine gate_callee (f := 179) rfl ?_); refine goesL_ (some 11) rfl rfl Try.func179 (by kernel_rfl) rfl #[.slice A1 l1.length c1] rfl lu ?_; (with_reducible refine (nat_short.calls k (fun k_ => k_ < w.heap.size) _ _ l1 t999 _ ?side1 A4.out).mono ?_); (case side1 => exact Kd.V_mk HC1.out (Kd.F_below (Kd.C_F (Kd.heap_int .u32) HR1.out) (bu HB.out))); rintro e w6 ⟨v1000, rfl, ho0, hb⟩; refine ⟨_, rfl, ?_⟩; replace HO998 := Aside0.mk (Kd.V_below (vu HO998.out) hb); have HO1001 := Aside0.mk (Kd.V_lower (Kd.V_mono (ok' := fun k_ => True) ho0 (fun k_ hk_ => trivial)) (below_size (bu HB.out))); replace HB := Aside0.mk (below_step (bu HB.out) hb); (try clear hb); (try clear hb2); (try clear hk); (try clear hi); (try clear ho0)))
 go_loopg [0, 1] k (fun kq v0 v1 w' => ∃ (x0_1 : List Int) (x1_1 : List Int), Aside0 (nat_Gcd.l0 kq x0_1 x1_1 = some r) ∧ Aside0 (kq ≤ k) ∧ Aside0 (Kd.V (Kd.int .u32) 48 w' w.heap.size (fun _ => True) v0 x0_1) ∧ Aside0 (Kd.V (Kd.int .u32) 48 w' w.heap.size (fun _ => True) v1 x1_1) ∧ Aside0 (Below w.heap.size w w'))
 case atStart => exact ⟨(t996), (t999), H', ⟨Nat.le_refl _⟩, ⟨by (with_reducible repeat (first | apply Kd.V_alloc | apply Kd.V_drewN | apply Kd.V_drew)); exact HO998.out⟩, ⟨by (with_reducible repeat (first | apply Kd.V_alloc | apply Kd.V_drewN | apply Kd.V_drew)); exact HO1001.out⟩, ⟨by repeat (first | (with_reducible first | exact HB.out | apply below_alloc | apply pw_below_drewN | apply below_drew1) | exact HB.out)⟩⟩
 case round =>
  clear H'
  try clear c1
  try clear p2
  obtain ⟨x0_1, x1_1, HA, HK1, HO_0, HO_1, HB⟩ := hrel
  cases gk with
  | zero => exact absurd HA.out (by simp [nat_Gcd.l0])
  | succ k1 =>
   have H := HA.out
   clear HA
   simp only [nat_Gcd.l0] at H
   by_cases c7 : (x1_1.length : Int) > 0
   ·
    rw [if_pos c7] at H
    have c7b0 : decide (0 < (x1_1.length : Int)) = true := decide_eq_true c7
    have c7b1 : decide (0 < x1_1.length) = true := decide_eq_true (by omega)
    clear c7
    replace H := Option.bind_eq_some_iff.mp H
    obtain ⟨⟨t1002, t1005, t1008⟩, A80, H⟩ := H
    replace H : (nat_Gcd.l0 k1 x1_1 t1005) = some r := H
    have A8 := Aside0.mk A80
    clear A80
    have H' := Aside0.mk H
    clear H
    obtain ⟨Ao9, co9, eo9⟩ := Kd.V_slice HO_1.out
    subst eo9
    obtain ⟨Ao10, co10, eo10⟩ := Kd.V_slice HO_0.out
    subst eo10
    go_wp2_with (first | ((with_reducible refine gate_callee (f := 167) rfl ?_); refine goesL_ (some 18) rfl rfl Try.func167 (by kernel_rfl) rfl #[.slice Ao10 x0_1.length co10, .slice Ao9 x1_1.length co9] rfl lu ?_; (with_reducible refine (nat_DivMod.calls k1 (fun k_ => True) _ _ x0_1 (fun k_ => True) _ _ x1_1 t1002 t1005 t1008 _ ?side1 ?side2 A8.out).mono ?_); (case side1 => exact HO_0.out); (case side2 => exact HO_1.out); rintro e w11 ⟨v1003, v1006, rfl, ho0, ho1, hb⟩; refine ⟨_, rfl, ?_⟩; replace HO_0 := Aside0.mk (Kd.V_below (vu HO_0.out) hb); replace HO_1 := Aside0.mk (Kd.V_below (vu HO_1.out) hb); have HO1004 := Aside0.mk (Kd.V_lower (Kd.V_mono (ok' := fun k_ => True) ho0 (fun k_ hk_ => trivial)) (below_size (bu HB.out))); have HO1007 := Aside0.mk (Kd.V_lower (Kd.V_mono (ok' := fun k_ => True) ho1 (fun k_ hk_ => trivial)) (below_size (bu HB.out))); replace HB := Aside0.mk (below_step (bu HB.out) hb); (try clear hb); (try clear hb2); (try clear hk); (try clear hi); (try clear ho0); (try clear ho1)))
    go_roundg k1
    case measure => have := HK1.out; omega
    case rel => exact ⟨(x1_1), (t1005), H', ⟨by have := HK1.out; omega⟩, ⟨by (with_reducible repeat (first | apply Kd.V_alloc | apply Kd.V_drewN | apply Kd.V_drew)); exact HO_1.out⟩, ⟨by (with_reducible repeat (first | apply Kd.V_alloc | apply Kd.V_drewN | apply Kd.V_drew)); exact HO1007.out⟩, ⟨by repeat (first | (with_reducible first | exact HB.out | apply below_alloc | apply pw_below_drewN | apply below_drew1) | exact HB.out)⟩⟩
   ·
    rw [if_neg c7] at H
    have c7b0 : decide (0 < (x1_1.length : Int)) = false := decide_eq_false c7
    have c7b1 : decide (0 < x1_1.length) = false := decide_eq_false (by omega)
    clear c7
    replace H := Option.bind_eq_some_iff.mp H
    obtain ⟨t1009, A120, H⟩ := H
    replace H : (some t1009) = some r := H
    have A12 := Aside0.mk A120
    clear A120
    obtain rfl := Option.some.inj H
    obtain ⟨Ao13, co13, eo13⟩ := Kd.V_slice HO_1.out
    subst eo13
    obtain ⟨Ao14, co14, eo14⟩ := Kd.V_slice HO_0.out
    subst eo14
    go_wp2_with (first | ((with_reducible refine gate_callee (f := 177) rfl ?_); refine goesL_ (some 25) rfl rfl Try.func177 (by kernel_rfl) rfl #[.slice Ao14 x0_1.length co14] rfl lu ?_; (with_reducible refine (nat_Trim.calls k1 _ _ x0_1 t1009 _ ?side1 ?side2 A12.out).mono ?_); (case side1 => repeat (first | exact (Kd.V_reads' HO_0.out).2.2 | (with_reducible refine Kd.C_alloc ?_ _) | (with_reducible refine Kd.C_drewN ?_ _) | (with_reducible refine Kd.C_drew ?_))); (case side2 => exact (Kd.V_reads' HO_0.out).2.1); rintro e w15 ⟨v1010, rfl, ho0, hb⟩; refine ⟨_, rfl, ?_⟩; replace HO_0 := Aside0.mk (Kd.V_elder' (vu HO_0.out) (Kd.R_base ho0) hb); replace HO_1 := Aside0.mk (Kd.V_elder' (vu HO_1.out) (Kd.R_base ho0) hb); have HO1011 := Aside0.mk (Kd.R_lower ho0 (below_size (bu HB.out))); replace HB := Aside0.mk (below_step (bu HB.out) hb); (try clear hb); (try clear hb2); (try clear hk); (try clear hi); (try clear ho0)))
    go_ret
    exact ⟨_, by first | rfl | (simp [errW_none, errW_some] <;> rfl) | (simp [*, errW_none, errW_some] <;> rfl), by (with_reducible repeat (first | apply Kd.R_alloc | apply Kd.R_drewN | apply Kd.R_drew)); exact HO1011.out, by repeat (first | (with_reducible first | exact HB.out | apply below_alloc | apply pw_below_drewN | apply below_drew1) | exact HB.out)⟩
end Go.Proofs.Ytecfdemglbfnoaa.PT
end
section
namespace Go.Proofs.Ytecfdemglbfnoaa.PT
open Go.RowKit Go.Proofs.YtecfdemglbfnoaaW.PrintWords Go.Proofs.YtecfdemglbfnoaaW.PrintLast Go.Proofs.YtecfdemglbfnoaaW.PrintMore
attribute [local go_sem] max2_int min2_int max_two min_two max_three min_three max_four min_four   -- for this text's walks alone
set_option linter.unusedVariables false
set_option linter.unusedSimpArgs false
def rational_canonical.j0 : Nat → Bool → List Int → List Int → Bool → Option (Bool × List Int × List Int)
 | 0, _, _, _, _ => none
 | k + 1, x0, x1, x2, x15 => if x15 = true then ((rational_one.f).bind fun t1015 => (some (false, ([] : List Int), t1015))) else ((nat_Gcd.f k x1 x2).bind fun t1018 => ((nat_DivMod.f k x1 t1018).bind fun bt1021 => ((nat_DivMod.f k x2 t1018).bind fun bt1028 => (some (x0, bt1021.1, bt1028.1)))))
def rational_canonical.f (k : Nat) (a0 : Bool) (l1 : List Int) (l2 : List Int) : Option (Bool × List Int × List Int) := (nat_Bits.f k l1).bind fun t1013 => (if t1013 = 0 then (rational_canonical.j0 k a0 l1 l2 true) else ((nat_Bits.f k l2).bind fun t1014 => (rational_canonical.j0 k a0 l1 l2 (t1014 == 0))))
set_option maxHeartbeats 8000000 in
set_option maxRecDepth 100000 in
theorem rational_canonical.calls (k : Nat) (a0 : Bool) (P1_ : Nat → Prop) (A1 : Option Addr) (c1 : Nat) (l1 : List Int) (P2_ : Nat → Prop) (A2 : Option Addr) (c2 : Nat) (l2 : List Int) (r1 : Bool) (r2 : List Int) (r3 : List Int) (w : World) (hs1 : Kd.V (Kd.int .u32) 48 w w.heap.size (fun k_ => P1_ k_) (.slice A1 l1.length c1) l1) (hs2 : Kd.V (Kd.int .u32) 48 w w.heap.size (fun k_ => P2_ k_) (.slice A2 l2.length c2) l2) (h : rational_canonical.f k a0 l1 l2 = some (r1, r2, r3)) :
 Calls Try.prog 155 #[.bool a0, .slice A1 l1.length c1, .slice A2 l2.length c2] w fun e w' => ∃ v1_ v2_ : Value, e = .returned (.agg #[.bool r1, v1_, v2_]) ∧ Kd.V (Kd.int .u32) 48 w' w.heap.size (fun k_ => ((P1_ k_ ∨ P2_ k_) ∨ w.heap.size ≤ k_)) v1_ r2 ∧ Kd.V (Kd.int .u32) 48 w' w.heap.size (fun k_ => ((P1_ k_ ∨ P2_ k_) ∨ w.heap.size ≤ k_)) v2_ r3 ∧ Below w.heap.size w w' := by
 have hu67 := Try.underlying67
 have HO1 := Aside0.mk (show Kd.V (Kd.int .u32) 48 w w.heap.size (fun k_ => ((P1_ k_ ∨ P2_ k_) ∨ w.heap.size ≤ k_)) (.slice A1 l1.length c1) l1 from Kd.V_mono hs1 (fun k_ hk => .inl (.inl hk)))
 have HO2 := Aside0.mk (show Kd.V (Kd.int .u32) 48 w w.heap.size (fun k_ => ((P1_ k_ ∨ P2_ k_) ∨ w.heap.size ≤ k_)) (.slice A2 l2.length c2) l2 from Kd.V_mono hs2 (fun k_ hk => .inl (.inr hk)))
 have HB := Aside0.mk (Below.refl w.heap.size w)
 have H : ((nat_Bits.f k l1).bind fun t1013 => (if t1013 = 0 then (rational_canonical.j0 k a0 l1 l2 true) else ((nat_Bits.f k l2).bind fun t1014 => (rational_canonical.j0 k a0 l1 l2 (t1014 == 0))))) = some (r1, r2, r3) := h
 clear h
 have HC4 := Aside0.mk H
 clear H
 go_enter Try.func155, Try.ntmps155
 go_upto_region 1 with (first | ((with_reducible refine gate_dst (N := 6) rfl ?_); refine box_event ?hg (N := 6) ?hd (cs := #[.bool false, .slice none 0 0, .slice none 0 0]) (t := 67) ?hr ?_; (case hd => rfl); (case hg => rfl); (case hr => first | (go_simp; done) | (go_simp; rfl)); intro gb1012 hg w5 hbox hb; replace HO1 := Aside0.mk (Kd.V_below (Kd.V_elderB (vu HO1.out) gb1012 (Nat.le_of_eq hg.symm)) hb); replace HO2 := Aside0.mk (Kd.V_below (Kd.V_elderB (vu HO2.out) gb1012 (Nat.le_of_eq hg.symm)) hb); have BK1012 := Aside0.mk (hbox); have GW1012 := Aside0.mk ((by rw [hg]; exact (below_size (bu HB.out)) : w.heap.size ≤ gb1012)); have GE1012 := Aside0.mk ((by rw [hg]; exact (below_size (bu HB.out)) : w.heap.size ≤ gb1012)); replace HB := Aside0.mk (below_step (bu HB.out) hb); clear hb hbox hg))
 (try simp only [Act.put, List.setIfInBounds_toArray, List.set_cons_zero, List.set_cons_succ])
 go_cut [15] (fun v15 wc => ∃ (kq : Nat) (x15_3 : Bool), v15 = .bool x15_3 ∧ Aside0 (rational_canonical.j0 kq a0 l1 l2 x15_3 = some (r1, r2, r3)) ∧ Aside0 (kq ≤ k) ∧ Aside0 (Kd.V (Kd.int .u32) 48 wc w.heap.size (fun k_ => ((P1_ k_ ∨ P2_ k_) ∨ w.heap.size ≤ k_) ∧ k_ ≠ gb1012) (.slice A1 l1.length c1) l1) ∧ Aside0 (Kd.V (Kd.int .u32) 48 wc w.heap.size (fun k_ => ((P1_ k_ ∨ P2_ k_) ∨ w.heap.size ≤ k_) ∧ k_ ≠ gb1012) (.slice A2 l2.length c2) l2) ∧ Aside0 (wc.heap[gb1012]? = some (.cells #[.bool false, (.slice none 0 0), (.slice none 0 0)] 67 (0, 0))) ∧ Aside0 (Below w.heap.size w wc))
 case first =>
  have H := HC4.out
  clear HC4
  replace H := Option.bind_eq_some_iff.mp H
  obtain ⟨t1013, A60, H⟩ := H
  replace H : (if t1013 = 0 then (rational_canonical.j0 k a0 l1 l2 true) else ((nat_Bits.f k l2).bind fun t1014 => (rational_canonical.j0 k a0 l1 l2 (t1014 == 0)))) = some (r1, r2, r3) := H
  have A6 := Aside0.mk A60
  clear A60
  by_cases c7 : t1013 = 0
  ·
   rw [if_pos c7] at H
   have c7b0 : (t1013 == 0) = true := beq_iff_eq.mpr c7
   have c7b1 : (t1013 != 0) = false := bne_eq_false_iff_eq.mpr c7
   clear c7
   (first | rw [c7b0] | rw [c7b1] | (simp only [i64_w, i32_w]; rw [c7b0]) | skip)
   have H' := Aside0.mk H
   clear H
   go_wp2_with (first | ((with_reducible refine gate_callee (f := 154) rfl ?_); refine goesL_ (some 9) rfl rfl Try.func154 (by kernel_rfl) rfl #[.slice A1 l1.length c1] rfl lu ?_; (with_reducible refine (nat_Bits.calls k _ _ l1 t1013 _ ?side1 ?side2 A6.out).mono ?_); (case side1 => repeat (first | exact (Kd.V_reads' HO1.out).2.2 | (with_reducible refine Kd.C_alloc ?_ _) | (with_reducible refine Kd.C_drewN ?_ _) | (with_reducible refine Kd.C_drew ?_))); (case side2 => exact (Kd.V_reads' HO1.out).2.1); rintro e w8 ⟨rfl, hb⟩; refine ⟨_, rfl, ?_⟩; replace HO1 := Aside0.mk (Kd.V_below (vu HO1.out) hb); replace HO2 := Aside0.mk (Kd.V_below (vu HO2.out) hb); replace BK1012 := Aside0.mk (blk_below (g := gb1012) (o := .cells #[.bool false, .slice none 0 0, .slice none 0 0] 67 (0, 0)) (ku BK1012.out) hb); replace HB := Aside0.mk (below_step (bu1 HB.out GE1012.out) hb); (try clear hb); (try clear hb2); (try clear hk); (try clear hi)))
   go_meet
   case rel => exact ⟨_, (true), (by first | rfl | (simp; done) | (simp [*]; done)), H', ⟨by first | omega | exact Nat.le_refl _⟩, ⟨by (with_reducible repeat (first | apply Kd.V_alloc | apply Kd.V_drewN | apply Kd.V_drew)); exact HO1.out⟩, ⟨by (with_reducible repeat (first | apply Kd.V_alloc | apply Kd.V_drewN | apply Kd.V_drew)); exact HO2.out⟩, ⟨by (with_reducible repeat (first | refine blk_drewN ?_ _ | refine blk_drew ?_ | refine blk_alloc ?_ _)); exact BK1012.out⟩, ⟨by repeat (first | (with_reducible first | exact HB.out | apply below_alloc | apply pw_below_drewN | apply below_drew1 | refine below_set ?_ GE1012.out) | exact HB.out)⟩⟩
  ·
   rw [if_neg c7] at H
   have c7b0 : (t1013 == 0) = false := beq_eq_false_iff_ne.mpr c7
   have c7b1 : (t1013 != 0) = true := bne_iff_ne.mpr c7
   (first | rw [c7b0] | rw [c7b1] | (simp only [i64_w, i32_w]; rw [c7b0]) | skip)
   replace H := Option.bind_eq_some_iff.mp H
   obtain ⟨t1014, A90, H⟩ := H
   replace H : (rational_canonical.j0 k a0 l1 l2 (t1014 == 0)) = some (r1, r2, r3) := H
   have A9 := Aside0.mk A90
   clear A90
   have H' := Aside0.mk H
   clear H
   go_wp2_with (first | ((with_reducible refine gate_callee (f := 154) rfl ?_); refine goesL_ (some 9) rfl rfl Try.func154 (by kernel_rfl) rfl #[.slice A1 l1.length c1] rfl lu ?_; (with_reducible refine (nat_Bits.calls k _ _ l1 t1013 _ ?side1 ?side2 A6.out).mono ?_); (case side1 => repeat (first | exact (Kd.V_reads' HO1.out).2.2 | (with_reducible refine Kd.C_alloc ?_ _) | (with_reducible refine Kd.C_drewN ?_ _) | (with_reducible refine Kd.C_drew ?_))); (case side2 => exact (Kd.V_reads' HO1.out).2.1); rintro e w10 ⟨rfl, hb⟩; refine ⟨_, rfl, ?_⟩; replace HO1 := Aside0.mk (Kd.V_below (vu HO1.out) hb); replace HO2 := Aside0.mk (Kd.V_below (vu HO2.out) hb); replace BK1012 := Aside0.mk (blk_below (g := gb1012) (o := .cells #[.bool false, .slice none 0 0, .slice none 0 0] 67 (0, 0)) (ku BK1012.out) hb); replace HB := Aside0.mk (below_step (bu1 HB.out GE1012.out) hb); (try clear hb); (try clear hb2); (try clear hk); (try clear hi)) | (go_at_call 154; (with_reducible refine (nat_Bits.calls k _ _ l2 t1014 _ ?side1 ?side2 A9.out).mono ?_); (case side1 => repeat (first | exact (Kd.V_reads' HO2.out).2.2 | (with_reducible refine Kd.C_alloc ?_ _) | (with_reducible refine Kd.C_drewN ?_ _) | (with_reducible refine Kd.C_drew ?_))); (case side2 => exact (Kd.V_reads' HO2.out).2.1); rintro e w11 ⟨rfl, hb⟩; replace HO1 := Aside0.mk (Kd.V_below (vu HO1.out) hb); replace HO2 := Aside0.mk (Kd.V_below (vu HO2.out) hb); replace BK1012 := Aside0.mk (blk_below (g := gb1012) (o := .cells #[.bool false, .slice none 0 0, .slice none 0 0] 67 (0, 0)) (ku BK1012.out) hb); replace HB := Aside0.mk (below_step (bu1 HB.out GE1012.out) hb); (try clear hb); (try clear hb2); (try clear hk); (try clear hi)))
   go_meet
   case rel => exact ⟨_, ((t1014 == 0)), (by first | rfl | (simp; done) | (simp [*]; done) | (cases t1014 <;> first | rfl | (simp; done))), H', ⟨by first | omega | exact Nat.le_refl _⟩, ⟨by (with_reducible repeat (first | apply Kd.V_alloc | apply Kd.V_drewN | apply Kd.V_drew)); exact HO1.out⟩, ⟨by (with_reducible repeat (first | apply Kd.V_alloc | apply Kd.V_drewN | apply Kd.V_drew)); exact HO2.out⟩, ⟨by (with_reducible repeat (first | refine blk_drewN ?_ _ | refine blk_drew ?_ | refine blk_alloc ?_ _)); exact BK1012.out⟩, ⟨by repeat (first | (with_reducible first | exact HB.out | apply below_alloc | apply pw_below_drewN | apply below_drew1 | refine below_set ?_ GE1012.out) | exact HB.out)⟩⟩
 case rest =>
  clear HC4
  try clear c1
  try clear c2
  try clear p2
  try clear c7
  try clear c7b0
  try clear c7b1
  obtain ⟨kq, x15_3, rfl, HA, HJ3, HO_1, HO_2, BK1012, HB⟩ := hcut
  cases kq with
  | zero => exact absurd HA.out (by simp [rational_canonical.j0])
  | succ kj3 =>
   have H := HA.out
   clear HA
   simp only [rational_canonical.j0] at H
   by_cases c12 : x15_3 = true
   ·
    subst c12
    have H1 : ((rational_one.f).bind fun t1015 => (some (false, ([] : List Int), t1015))) = some (r1, r2, r3) := by rw [if_pos rfl] at H; exact H
    clear H
    have H := H1
    clear H1
    replace H := Option.bind_eq_some_iff.mp H
    obtain ⟨t1015, A130, H⟩ := H
    replace H : (some (false, ([] : List Int), t1015)) = some (r1, r2, r3) := H
    have A13 := Aside0.mk A130
    clear A130
    simp only [Option.some.injEq, Prod.mk.injEq] at H
    obtain ⟨rfl, rfl, rfl⟩ := H
    go_wp2_with (first | ((with_reducible refine gate_callee (f := 161) rfl ?_); refine goesL_ (some 16) rfl rfl Try.func161 (by kernel_rfl) rfl #[] rfl lu ?_; (with_reducible refine (rational_one.calls  t1015 _ A13.out).mono ?_); rintro e w14 ⟨v1016, rfl, ho0, hb⟩; refine ⟨_, rfl, ?_⟩; replace ho0 := R_V_base rfl ho0; replace HO_1 := Aside0.mk (Kd.V_below (vu HO_1.out) hb); replace HO_2 := Aside0.mk (Kd.V_below (vu HO_2.out) hb); have HO1017 := Aside0.mk (Kd.V_lower (Kd.V_mono (ok' := fun k_ => ((P1_ k_ ∨ P2_ k_) ∨ w.heap.size ≤ k_) ∧ k_ ≠ gb1012) ho0 (fun k_ hk_ => ⟨(.inr (Nat.le_trans (below_size (bu1 HB.out GE1012.out)) hk_)), (Kd.freshB (g := gb1012) (o := .cells #[.bool false, .slice none 0 0, .slice none 0 0] 67 (0, 0)) (ku BK1012.out) k_ hk_)⟩)) (below_size (bu1 HB.out GE1012.out))); replace BK1012 := Aside0.mk (blk_below (g := gb1012) (o := .cells #[.bool false, .slice none 0 0, .slice none 0 0] 67 (0, 0)) (ku BK1012.out) hb); replace HB := Aside0.mk (below_step (bu1 HB.out GE1012.out) hb); (try clear hb); (try clear hb2); (try clear hk); (try clear hi); (try clear ho0); obtain ⟨Ao15, co15, eo15⟩ := Kd.V_slice HO1017.out; subst eo15; have hcz16_0 : w14.cell? ⟨gb1012, 0, none⟩ = some (.bool false) := (blk_cell BK1012.out 0).trans rfl; have hcz16_1 : w14.cell? ⟨gb1012, 1, none⟩ = some (.slice none 0 0) := (blk_cell BK1012.out 1).trans rfl; have hcz16_2 : w14.cell? ⟨gb1012, 2, none⟩ = some (.slice none 0 0) := (blk_cell BK1012.out 2).trans rfl; have hfz16_0 := blk_frozen BK1012.out 0; have hfz16_1 := blk_frozen BK1012.out 1; have hfz16_2 := blk_frozen BK1012.out 2))
    refine bodyPost_ret (results_cell_row rfl _ _ gb1012 67 #[.bool false, .slice none 0 0, .slice Ao15 t1015.length co15] (0, 0) _ rfl (by (with_reducible repeat (first | refine blk_drewN ?_ _ | refine blk_drew ?_ | refine blk_alloc ?_ _)); refine blk_put (cs := #[.bool false, .slice none 0 0, .slice none 0 0]) ?_ 2 _ rfl; (with_reducible repeat (first | refine blk_drewN ?_ _ | refine blk_drew ?_ | refine blk_alloc ?_ _)); refine blk_put (cs := #[.bool false, .slice none 0 0, .slice none 0 0]) ?_ 1 _ rfl; (with_reducible repeat (first | refine blk_drewN ?_ _ | refine blk_drew ?_ | refine blk_alloc ?_ _)); refine blk_put (cs := #[.bool false, .slice none 0 0, .slice none 0 0]) ?_ 0 _ rfl; (with_reducible repeat (first | refine blk_drewN ?_ _ | refine blk_drew ?_ | refine blk_alloc ?_ _)); exact BK1012.out) Try.underlying67 rfl (by kernel_rfl)) rfl ?_
    exact ⟨_, _, by first | rfl | (simp [errW_none, errW_some] <;> rfl) | (simp [*, errW_none, errW_some] <;> rfl), Kd.V_nil _ _ _ _ _, by (with_reducible repeat (first | apply Kd.V_alloc | apply Kd.V_drewN | apply Kd.V_drew)); exact Kd.V_mono (Kd.V_far (p := ⟨gb1012, 2, none⟩) (Kd.V_far (p := ⟨gb1012, 1, none⟩) (Kd.V_far (p := ⟨gb1012, 0, none⟩) (Kd.V_mono HO1017.out (fun k_ hk => (⟨hk, hk.2⟩ : _ ∧ k_ ≠ gb1012))) (fun _ hk => hk.2) (.bool false)) (fun _ hk => hk.2) (.slice none 0 0)) (fun _ hk => hk.2) (.slice Ao15 t1015.length co15)) (fun _ hk => hk.1.1), by repeat (first | (with_reducible first | exact HB.out | apply below_alloc | apply pw_below_drewN | apply below_drew1 | refine below_set ?_ GE1012.out) | exact HB.out)⟩
   ·
    replace c12 := Bool.eq_false_iff.mpr c12
    subst c12
    have H1 : ((nat_Gcd.f kj3 l1 l2).bind fun t1018 => ((nat_DivMod.f kj3 l1 t1018).bind fun bt1021 => ((nat_DivMod.f kj3 l2 t1018).bind fun bt1028 => (some (a0, bt1021.1, bt1028.1))))) = some (r1, r2, r3) := by rw [if_neg (show ¬ (false = true) by decide)] at H; exact H
    clear H
    have H := H1
    clear H1
    replace H := Option.bind_eq_some_iff.mp H
    obtain ⟨t1018, A170, H⟩ := H
    replace H : ((nat_DivMod.f kj3 l1 t1018).bind fun bt1021 => ((nat_DivMod.f kj3 l2 t1018).bind fun bt1028 => (some (a0, bt1021.1, bt1028.1)))) = some (r1, r2, r3) := H
    have A17 := Aside0.mk A170
    clear A170
    replace H := Option.bind_eq_some_iff.mp H
    obtain ⟨⟨t1021, t1024, t1027⟩, A180, H⟩ := H
    replace H : ((nat_DivMod.f kj3 l2 t1018).bind fun bt1028 => (some (a0, t1021, bt1028.1))) = some (r1, r2, r3) := H
    have A18 := Aside0.mk A180
    clear A180
    replace H := Option.bind_eq_some_iff.mp H
    obtain ⟨⟨t1028, t1031, t1034⟩, A190, H⟩ := H
    replace H : (some (a0, t1021, t1028)) = some (r1, r2, r3) := H
    have A19 := Aside0.mk A190
    clear A190
    simp only [Option.some.injEq, Prod.mk.injEq] at H
    obtain ⟨rfl, rfl, rfl⟩ := H
    go_wp2_with (first | ((with_reducible refine gate_callee (f := 182) rfl ?_); refine goesL_ (some 20) rfl rfl Try.func182 (by kernel_rfl) rfl #[.slice A1 l1.length c1, .slice A2 l2.length c2] rfl lu ?_; (with_reducible refine (nat_Gcd.calls kj3 _ _ l1 _ _ l2 t1018 _ ?side1 ?side2 ?side3 ?side4 A17.out).mono ?_); (case side1 => repeat (first | exact (Kd.V_reads' HO_1.out).2.2 | (with_reducible refine Kd.C_alloc ?_ _) | (with_reducible refine Kd.C_drewN ?_ _) | (with_reducible refine Kd.C_drew ?_))); (case side2 => exact (Kd.V_reads' HO_1.out).2.1); (case side3 => repeat (first | exact (Kd.V_reads' HO_2.out).2.2 | (with_reducible refine Kd.C_alloc ?_ _) | (with_reducible refine Kd.C_drewN ?_ _) | (with_reducible refine Kd.C_drew ?_))); (case side4 => exact (Kd.V_reads' HO_2.out).2.1); rintro e w20 ⟨v1019, rfl, ho0, hb⟩; refine ⟨_, rfl, ?_⟩; replace ho0 := R_V_base rfl ho0; replace HO_1 := Aside0.mk (Kd.V_below (vu HO_1.out) hb); replace HO_2 := Aside0.mk (Kd.V_below (vu HO_2.out) hb); have HO1020 := Aside0.mk (Kd.V_lower (Kd.V_mono (ok' := fun k_ => ((P1_ k_ ∨ P2_ k_) ∨ w.heap.size ≤ k_) ∧ k_ ≠ gb1012) ho0 (fun k_ hk_ => ⟨(.inr (Nat.le_trans (below_size (bu1 HB.out GE1012.out)) hk_)), (Kd.freshB (g := gb1012) (o := .cells #[.bool false, .slice none 0 0, .slice none 0 0] 67 (0, 0)) (ku BK1012.out) k_ hk_)⟩)) (below_size (bu1 HB.out GE1012.out))); replace BK1012 := Aside0.mk (blk_below (g := gb1012) (o := .cells #[.bool false, .slice none 0 0, .slice none 0 0] 67 (0, 0)) (ku BK1012.out) hb); replace HB := Aside0.mk (below_step (bu1 HB.out GE1012.out) hb); (try clear hb); (try clear hb2); (try clear hk); (try clear hi); (try clear ho0); obtain ⟨Ao21, co21, eo21⟩ := Kd.V_slice HO1020.out; subst eo21) | ((with_reducible refine gate_callee (f := 167) rfl ?_); refine goesL_ (some 24) rfl rfl Try.func167 (by kernel_rfl) rfl #[.slice A1 l1.length c1, .slice Ao21 t1018.length co21] rfl lu ?_; (with_reducible refine (nat_DivMod.calls kj3 (fun k_ => (((P1_ k_ ∨ P2_ k_) ∨ w.heap.size ≤ k_) ∧ k_ ≠ gb1012)) _ _ l1 (fun k_ => (((P1_ k_ ∨ P2_ k_) ∨ w.heap.size ≤ k_) ∧ k_ ≠ gb1012)) _ _ t1018 t1021 t1024 t1027 _ ?side1 ?side2 A18.out).mono ?_); (case side1 => exact HO_1.out); (case side2 => exact HO1020.out); rintro e w22 ⟨v1022, v1025, rfl, ho0, ho1, hb⟩; refine ⟨_, rfl, ?_⟩; replace HO_1 := Aside0.mk (Kd.V_below (vu HO_1.out) hb); replace HO_2 := Aside0.mk (Kd.V_below (vu HO_2.out) hb); replace HO1020 := Aside0.mk (Kd.V_below (vu HO1020.out) hb); have HO1023 := Aside0.mk (Kd.V_lower (Kd.V_mono (ok' := fun k_ => ((P1_ k_ ∨ P2_ k_) ∨ w.heap.size ≤ k_) ∧ k_ ≠ gb1012) ho0 (fun k_ hk_ => ⟨Or.elim hk_ (fun hs_ => Or.elim hs_ (fun hs_ => hs_.1) (fun hs_ => hs_.1)) (fun hn_ => (.inr (Nat.le_trans (below_size (bu1 HB.out GE1012.out)) hn_))), Or.elim hk_ (fun hs_ => Or.elim hs_ (fun hs_ => hs_.2) (fun hs_ => hs_.2)) (fun hn_ => (Kd.freshB (g := gb1012) (o := .cells #[.bool false, .slice none 0 0, .slice none 0 0] 67 (0, 0)) (ku BK1012.out) k_ hn_))⟩)) (below_size (bu1 HB.out GE1012.out))); have HO1026 := Aside0.mk (Kd.V_lower (Kd.V_mono (ok' := fun k_ => ((P1_ k_ ∨ P2_ k_) ∨ w.heap.size ≤ k_) ∧ k_ ≠ gb1012) ho1 (fun k_ hk_ => ⟨Or.elim hk_ (fun hs_ => Or.elim hs_ (fun hs_ => hs_.1) (fun hs_ => hs_.1)) (fun hn_ => (.inr (Nat.le_trans (below_size (bu1 HB.out GE1012.out)) hn_))), Or.elim hk_ (fun hs_ => Or.elim hs_ (fun hs_ => hs_.2) (fun hs_ => hs_.2)) (fun hn_ => (Kd.freshB (g := gb1012) (o := .cells #[.bool false, .slice none 0 0, .slice none 0 0] 67 (0, 0)) (ku BK1012.out) k_ hn_))⟩)) (below_size (bu1 HB.out GE1012.out))); replace BK1012 := Aside0.mk (blk_below (g := gb1012) (o := .cells #[.bool false, .slice none 0 0, .slice none 0 0] 67 (0, 0)) (ku BK1012.out) hb); replace HB := Aside0.mk (below_step (bu1 HB.out GE1012.out) hb); (try clear hb); (try clear hb2); (try clear hk); (try clear hi); (try clear ho0); (try clear ho1)) | ((with_reducible refine gate_callee (f := 167) rfl ?_); refine goesL_ (some 31) rfl rfl Try.func167 (by kernel_rfl) rfl #[.slice A2 l2.length c2, .slice Ao21 t1018.length co21] rfl lu ?_; (with_reducible refine (nat_DivMod.calls kj3 (fun k_ => (((P1_ k_ ∨ P2_ k_) ∨ w.heap.size ≤ k_) ∧ k_ ≠ gb1012)) _ _ l2 (fun k_ => (((P1_ k_ ∨ P2_ k_) ∨ w.heap.size ≤ k_) ∧ k_ ≠ gb1012)) _ _ t1018 t1028 t1031 t1034 _ ?side1 ?side2 A19.out).mono ?_); (case side1 => exact HO_2.out); (case side2 => exact HO1020.out); rintro e w23 ⟨v1029, v1032, rfl, ho0, ho1, hb⟩; refine ⟨_, rfl, ?_⟩; replace HO_1 := Aside0.mk (Kd.V_below (vu HO_1.out) hb); replace HO_2 := Aside0.mk (Kd.V_below (vu HO_2.out) hb); replace HO1020 := Aside0.mk (Kd.V_below (vu HO1020.out) hb); replace HO1023 := Aside0.mk (Kd.V_below (vu HO1023.out) hb); replace HO1026 := Aside0.mk (Kd.V_below (vu HO1026.out) hb); have HO1030 := Aside0.mk (Kd.V_lower (Kd.V_mono (ok' := fun k_ => ((P1_ k_ ∨ P2_ k_) ∨ w.heap.size ≤ k_) ∧ k_ ≠ gb1012) ho0 (fun k_ hk_ => ⟨Or.elim hk_ (fun hs_ => Or.elim hs_ (fun hs_ => hs_.1) (fun hs_ => hs_.1)) (fun hn_ => (.inr (Nat.le_trans (below_size (bu1 HB.out GE1012.out)) hn_))), Or.elim hk_ (fun hs_ => Or.elim hs_ (fun hs_ => hs_.2) (fun hs_ => hs_.2)) (fun hn_ => (Kd.freshB (g := gb1012) (o := .cells #[.bool false, .slice none 0 0, .slice none 0 0] 67 (0, 0)) (ku BK1012.out) k_ hn_))⟩)) (below_size (bu1 HB.out GE1012.out))); have HO1033 := Aside0.mk (Kd.V_lower (Kd.V_mono (ok' := fun k_ => ((P1_ k_ ∨ P2_ k_) ∨ w.heap.size ≤ k_) ∧ k_ ≠ gb1012) ho1 (fun k_ hk_ => ⟨Or.elim hk_ (fun hs_ => Or.elim hs_ (fun hs_ => hs_.1) (fun hs_ => hs_.1)) (fun hn_ => (.inr (Nat.le_trans (below_size (bu1 HB.out GE1012.out)) hn_))), Or.elim hk_ (fun hs_ => Or.elim hs_ (fun hs_ => hs_.2) (fun hs_ => hs_.2)) (fun hn_ => (Kd.freshB (g := gb1012) (o := .cells #[.bool false, .slice none 0 0, .slice none 0 0] 67 (0, 0)) (ku BK1012.out) k_ hn_))⟩)) (below_size (bu1 HB.out GE1012.out))); replace BK1012 := Aside0.mk (blk_below (g := gb1012) (o := .cells #[.bool false, .slice none 0 0, .slice none 0 0] 67 (0, 0)) (ku BK1012.out) hb); replace HB := Aside0.mk (below_step (bu1 HB.out GE1012.out) hb); (try clear hb); (try clear hb2); (try clear hk); (try clear hi); (try clear ho0); (try clear ho1); obtain ⟨Ao24, co24, eo24⟩ := Kd.V_slice HO1030.out; subst eo24; obtain ⟨Ao25, co25, eo25⟩ := Kd.V_slice HO1023.out; subst eo25; have hcz26_0 : w23.cell? ⟨gb1012, 0, none⟩ = some (.bool false) := (blk_cell BK1012.out 0).trans rfl; have hcz26_1 : w23.cell? ⟨gb1012, 1, none⟩ = some (.slice none 0 0) := (blk_cell BK1012.out 1).trans rfl; have hcz26_2 : w23.cell? ⟨gb1012, 2, none⟩ = some (.slice none 0 0) := (blk_cell BK1012.out 2).trans rfl; have hfz26_0 := blk_frozen BK1012.out 0; have hfz26_1 := blk_frozen BK1012.out 1; have hfz26_2 := blk_frozen BK1012.out 2))
    refine bodyPost_ret (results_cell_row rfl _ _ gb1012 67 #[.bool a0, .slice Ao25 t1021.length co25, .slice Ao24 t1028.length co24] (0, 0) _ rfl (by (with_reducible repeat (first | refine blk_drewN ?_ _ | refine blk_drew ?_ | refine blk_alloc ?_ _)); refine blk_put (cs := #[.bool a0, .slice Ao25 t1021.length co25, .slice none 0 0]) ?_ 2 _ rfl; (with_reducible repeat (first | refine blk_drewN ?_ _ | refine blk_drew ?_ | refine blk_alloc ?_ _)); refine blk_put (cs := #[.bool a0, .slice none 0 0, .slice none 0 0]) ?_ 1 _ rfl; (with_reducible repeat (first | refine blk_drewN ?_ _ | refine blk_drew ?_ | refine blk_alloc ?_ _)); refine blk_put (cs := #[.bool false, .slice none 0 0, .slice none 0 0]) ?_ 0 _ rfl; (with_reducible repeat (first | refine blk_drewN ?_ _ | refine blk_drew ?_ | refine blk_alloc ?_ _)); exact BK1012.out) Try.underlying67 rfl (by kernel_rfl)) rfl ?_
    exact ⟨_, _, by first | rfl | (simp [errW_none, errW_some] <;> rfl) | (simp [*, errW_none, errW_some] <;> rfl), by (with_reducible repeat (first | apply Kd.V_alloc | apply Kd.V_drewN | apply Kd.V_drew)); exact Kd.V_mono (Kd.V_far (p := ⟨gb1012, 2, none⟩) (Kd.V_far (p := ⟨gb1012, 1, none⟩) (Kd.V_far (p := ⟨gb1012, 0, none⟩) (Kd.V_mono HO1023.out (fun k_ hk => (⟨hk, hk.2⟩ : _ ∧ k_ ≠ gb1012))) (fun _ hk => hk.2) (.bool a0)) (fun _ hk => hk.2) (.slice Ao25 t1021.length co25)) (fun _ hk => hk.2) (.slice Ao24 t1028.length co24)) (fun _ hk => hk.1.1), by (with_reducible repeat (first | apply Kd.V_alloc | apply Kd.V_drewN | apply Kd.V_drew)); exact Kd.V_mono (Kd.V_far (p := ⟨gb1012, 2, none⟩) (Kd.V_far (p := ⟨gb1012, 1, none⟩) (Kd.V_far (p := ⟨gb1012, 0, none⟩) (Kd.V_mono HO1030.out (fun k_ hk => (⟨hk, hk.2⟩ : _ ∧ k_ ≠ gb1012))) (fun _ hk => hk.2) (.bool a0)) (fun _ hk => hk.2) (.slice Ao25 t1021.length co25)) (fun _ hk => hk.2) (.slice Ao24 t1028.length co24)) (fun _ hk => hk.1.1), by repeat (first | (with_reducible first | exact HB.out | apply below_alloc | apply pw_below_drewN | apply below_drew1 | refine below_set ?_ GE1012.out) | exact HB.out)⟩
end Go.Proofs.Ytecfdemglbfnoaa.PT
end
section
namespace Go.Proofs.Ytecfdemglbfnoaa.PT
open Go.RowKit Go.Proofs.YtecfdemglbfnoaaW.PrintWords Go.Proofs.YtecfdemglbfnoaaW.PrintLast Go.Proofs.YtecfdemglbfnoaaW.PrintMore
attribute [local go_sem] max2_int min2_int max_two min_two max_three min_three max_four min_four   -- for this text's walks alone
set_option linter.unusedVariables false
set_option linter.unusedSimpArgs false
def rational_Trim.f (k : Nat) (a0_0 : Bool) (l0_1 : List Int) (l0_2 : List Int) : Option (Bool × List Int × List Int) := (rational_canonical.f k a0_0 l0_1 l0_2).bind fun bt1256 => (some (bt1256.1, bt1256.2.1, bt1256.2.2))
set_option maxHeartbeats 8000000 in
set_option maxRecDepth 100000 in
theorem rational_Trim.calls (k : Nat) (a0_0 : Bool) (P0_1_ : Nat → Prop) (A0_1 : Option Addr) (c0_1 : Nat) (l0_1 : List Int) (P0_2_ : Nat → Prop) (A0_2 : Option Addr) (c0_2 : Nat) (l0_2 : List Int) (r1 : Bool) (r2 : List Int) (r3 : List Int) (w : World) (hs0_1 : Kd.V (Kd.int .u32) 48 w w.heap.size (fun k_ => P0_1_ k_) (.slice A0_1 l0_1.length c0_1) l0_1) (hs0_2 : Kd.V (Kd.int .u32) 48 w w.heap.size (fun k_ => P0_2_ k_) (.slice A0_2 l0_2.length c0_2) l0_2) (h : rational_Trim.f k a0_0 l0_1 l0_2 = some (r1, r2, r3)) :
 Calls Try.prog 87 #[.agg #[.bool a0_0, .slice A0_1 l0_1.length c0_1, .slice A0_2 l0_2.length c0_2]] w fun e w' => ∃ v1_ v2_ : Value, e = .returned (.agg #[.bool r1, v1_, v2_]) ∧ Kd.V (Kd.int .u32) 48 w' w.heap.size (fun k_ => ((P0_1_ k_ ∨ P0_2_ k_) ∨ w.heap.size ≤ k_)) v1_ r2 ∧ Kd.V (Kd.int .u32) 48 w' w.heap.size (fun k_ => ((P0_1_ k_ ∨ P0_2_ k_) ∨ w.heap.size ≤ k_)) v2_ r3 ∧ Below w.heap.size w w' := by
 have hu67 := Try.underlying67
 have HO0_1 := Aside0.mk (show Kd.V (Kd.int .u32) 48 w w.heap.size (fun k_ => ((P0_1_ k_ ∨ P0_2_ k_) ∨ w.heap.size ≤ k_)) (.slice A0_1 l0_1.length c0_1) l0_1 from Kd.V_mono hs0_1 (fun k_ hk => .inl (.inl hk)))
 have HO0_2 := Aside0.mk (show Kd.V (Kd.int .u32) 48 w w.heap.size (fun k_ => ((P0_1_ k_ ∨ P0_2_ k_) ∨ w.heap.size ≤ k_)) (.slice A0_2 l0_2.length c0_2) l0_2 from Kd.V_mono hs0_2 (fun k_ hk => .inl (.inr hk)))
 have HB := Aside0.mk (Below.refl w.heap.size w)
 have H : ((rational_canonical.f k a0_0 l0_1 l0_2).bind fun bt1256 => (some (bt1256.1, bt1256.2.1, bt1256.2.2))) = some (r1, r2, r3) := h
 clear h
 replace H := Option.bind_eq_some_iff.mp H
 obtain ⟨⟨t1256, t1257, t1260⟩, A20, H⟩ := H
 replace H : (some (t1256, t1257, t1260)) = some (r1, r2, r3) := H
 have A2 := Aside0.mk A20
 clear A20
 simp only [Option.some.injEq, Prod.mk.injEq] at H
 obtain ⟨rfl, rfl, rfl⟩ := H
 go_enter Try.func87, Try.ntmps87
 go_wp2_with (first | ((with_reducible refine gate_dst (N := 1) rfl ?_); refine box_event ?hg (N := 1) ?hd (cs := #[.bool a0_0, .slice A0_1 l0_1.length c0_1, .slice A0_2 l0_2.length c0_2]) (t := 67) ?hr ?_; (case hd => rfl); (case hg => rfl); (case hr => first | (go_simp; done) | (go_simp; rfl)); intro gb1254 hg w3 hbox hb; replace HO0_1 := Aside0.mk (Kd.V_below (Kd.V_elderB (vu HO0_1.out) gb1254 (Nat.le_of_eq hg.symm)) hb); replace HO0_2 := Aside0.mk (Kd.V_below (Kd.V_elderB (vu HO0_2.out) gb1254 (Nat.le_of_eq hg.symm)) hb); have BK1254 := Aside0.mk (hbox); have GW1254 := Aside0.mk ((by rw [hg]; exact (below_size (bu HB.out)) : w.heap.size ≤ gb1254)); have GE1254 := Aside0.mk ((by rw [hg]; exact (below_size (bu HB.out)) : w.heap.size ≤ gb1254)); replace HB := Aside0.mk (below_step (bu HB.out) hb); clear hb hbox hg) | ((with_reducible refine gate_dst (N := 2) rfl ?_); refine box_event ?hg (N := 2) ?hd (cs := #[.bool false, .slice none 0 0, .slice none 0 0]) (t := 67) ?hr ?_; (case hd => rfl); (case hg => rfl); (case hr => first | (go_simp; done) | (go_simp; rfl)); intro gb1255 hg w4 hbox hb; replace HO0_1 := Aside0.mk (Kd.V_below (Kd.V_elderB (vu HO0_1.out) gb1255 (Nat.le_of_eq hg.symm)) hb); replace HO0_2 := Aside0.mk (Kd.V_below (Kd.V_elderB (vu HO0_2.out) gb1255 (Nat.le_of_eq hg.symm)) hb); have BK1255 := Aside0.mk (hbox); have GW1255 := Aside0.mk ((by rw [hg]; exact (below_size (bu1 HB.out GE1254.out)) : w.heap.size ≤ gb1255)); have GE1255 := Aside0.mk ((by rw [hg]; exact (below_size (bu1 HB.out GE1254.out)) : w.heap.size ≤ gb1255)); replace HB := Aside0.mk (below_step (bu1 HB.out GE1254.out) hb); have NB1254_1255 := Aside0.mk ((by rw [hg]; exact Nat.ne_of_lt (blk_lt (g := gb1254) (o := .cells #[.bool a0_0, .slice A0_1 l0_1.length c0_1, .slice A0_2 l0_2.length c0_2] 67 (0, 0)) (ku BK1254.out)) : gb1254 ≠ gb1255)); have NB1255_1254 := Aside0.mk ((by rw [hg]; exact Nat.ne_of_gt (blk_lt (g := gb1254) (o := .cells #[.bool a0_0, .slice A0_1 l0_1.length c0_1, .slice A0_2 l0_2.length c0_2] 67 (0, 0)) (ku BK1254.out)) : gb1255 ≠ gb1254)); replace BK1254 := Aside0.mk (blk_below (g := gb1254) (o := .cells #[.bool a0_0, .slice A0_1 l0_1.length c0_1, .slice A0_2 l0_2.length c0_2] 67 (0, 0)) (ku BK1254.out) hb); clear hb hbox hg; have hnb5 := NB1254_1255.out; have hnc5 := NB1255_1254.out; have hcz6_0 : w4.cell? ⟨gb1254, 0, none⟩ = some (.bool a0_0) := (blk_cell BK1254.out 0).trans rfl; have hcz6_1 : w4.cell? ⟨gb1254, 1, none⟩ = some (.slice A0_1 l0_1.length c0_1) := (blk_cell BK1254.out 1).trans rfl; have hcz6_2 : w4.cell? ⟨gb1254, 2, none⟩ = some (.slice A0_2 l0_2.length c0_2) := (blk_cell BK1254.out 2).trans rfl; have hfz6_0 := blk_frozen BK1254.out 0; have hfz6_1 := blk_frozen BK1254.out 1; have hfz6_2 := blk_frozen BK1254.out 2) | ((with_reducible refine gate_callee (f := 155) rfl ?_); refine goesL_ (some 9) rfl rfl Try.func155 (by kernel_rfl) rfl #[.bool a0_0, .slice A0_1 l0_1.length c0_1, .slice A0_2 l0_2.length c0_2] rfl lu ?_; (with_reducible refine (rational_canonical.calls k a0_0 (fun k_ => ((((P0_1_ k_ ∨ P0_2_ k_) ∨ w.heap.size ≤ k_) ∧ k_ ≠ gb1254) ∧ k_ ≠ gb1255)) _ _ l0_1 (fun k_ => ((((P0_1_ k_ ∨ P0_2_ k_) ∨ w.heap.size ≤ k_) ∧ k_ ≠ gb1254) ∧ k_ ≠ gb1255)) _ _ l0_2 t1256 t1257 t1260 _ ?side1 ?side2 A2.out).mono ?_); (case side1 => exact HO0_1.out); (case side2 => exact HO0_2.out); rintro e w7 ⟨v1258, v1261, rfl, ho0, ho1, hb⟩; refine ⟨_, rfl, ?_⟩; replace HO0_1 := Aside0.mk (Kd.V_below (vu HO0_1.out) hb); replace HO0_2 := Aside0.mk (Kd.V_below (vu HO0_2.out) hb); have HO1259 := Aside0.mk (Kd.V_lower (Kd.V_mono (ok' := fun k_ => ((P0_1_ k_ ∨ P0_2_ k_) ∨ w.heap.size ≤ k_) ∧ k_ ≠ gb1254 ∧ k_ ≠ gb1255) ho0 (fun k_ hk_ => ⟨Or.elim hk_ (fun hs_ => Or.elim hs_ (fun hs_ => hs_.1.1) (fun hs_ => hs_.1.1)) (fun hn_ => (.inr (Nat.le_trans (below_size (bu2 HB.out GE1254.out GE1255.out)) hn_))), Or.elim hk_ (fun hs_ => Or.elim hs_ (fun hs_ => hs_.1.2) (fun hs_ => hs_.1.2)) (fun hn_ => (Kd.freshB (g := gb1254) (o := .cells #[.bool a0_0, .slice A0_1 l0_1.length c0_1, .slice A0_2 l0_2.length c0_2] 67 (0, 0)) (ku BK1254.out) k_ hn_)), Or.elim hk_ (fun hs_ => Or.elim hs_ (fun hs_ => hs_.2) (fun hs_ => hs_.2)) (fun hn_ => (Kd.freshB (g := gb1255) (o := .cells #[.bool false, .slice none 0 0, .slice none 0 0] 67 (0, 0)) (ku BK1255.out) k_ hn_))⟩)) (below_size (bu2 HB.out GE1254.out GE1255.out))); have HO1262 := Aside0.mk (Kd.V_lower (Kd.V_mono (ok' := fun k_ => ((P0_1_ k_ ∨ P0_2_ k_) ∨ w.heap.size ≤ k_) ∧ k_ ≠ gb1254 ∧ k_ ≠ gb1255) ho1 (fun k_ hk_ => ⟨Or.elim hk_ (fun hs_ => Or.elim hs_ (fun hs_ => hs_.1.1) (fun hs_ => hs_.1.1)) (fun hn_ => (.inr (Nat.le_trans (below_size (bu2 HB.out GE1254.out GE1255.out)) hn_))), Or.elim hk_ (fun hs_ => Or.elim hs_ (fun hs_ => hs_.1.2) (fun hs_ => hs_.1.2)) (fun hn_ => (Kd.freshB (g := gb1254) (o := .cells #[.bool a0_0, .slice A0_1 l0_1.length c0_1, .slice A0_2 l0_2.length c0_2] 67 (0, 0)) (ku BK1254.out) k_ hn_)), Or.elim hk_ (fun hs_ => Or.elim hs_ (fun hs_ => hs_.2) (fun hs_ => hs_.2)) (fun hn_ => (Kd.freshB (g := gb1255) (o := .cells #[.bool false, .slice none 0 0, .slice none 0 0] 67 (0, 0)) (ku BK1255.out) k_ hn_))⟩)) (below_size (bu2 HB.out GE1254.out GE1255.out))); replace BK1254 := Aside0.mk (blk_below (g := gb1254) (o := .cells #[.bool a0_0, .slice A0_1 l0_1.length c0_1, .slice A0_2 l0_2.length c0_2] 67 (0, 0)) (ku BK1254.out) hb); replace BK1255 := Aside0.mk (blk_below (g := gb1255) (o := .cells #[.bool false, .slice none 0 0, .slice none 0 0] 67 (0, 0)) (ku BK1255.out) hb); replace HB := Aside0.mk (below_step (bu2 HB.out GE1254.out GE1255.out) hb); (try clear hb); (try clear hb2); (try clear hk); (try clear hi); (try clear ho0); (try clear ho1); have hcz8_0 : w7.cell? ⟨gb1255, 0, none⟩ = some (.bool false) := (blk_cell BK1255.out 0).trans rfl; have hcz8_1 : w7.cell? ⟨gb1255, 1, none⟩ = some (.slice none 0 0) := (blk_cell BK1255.out 1).trans rfl; have hcz8_2 : w7.cell? ⟨gb1255, 2, none⟩ = some (.slice none 0 0) := (blk_cell BK1255.out 2).trans rfl; have hfz8_0 := blk_frozen BK1255.out 0; have hfz8_1 := blk_frozen BK1255.out 1; have hfz8_2 := blk_frozen BK1255.out 2; obtain ⟨Ao9, co9, eo9⟩ := Kd.V_slice HO1259.out; subst eo9; obtain ⟨Ao10, co10, eo10⟩ := Kd.V_slice HO1262.out; subst eo10))
 refine bodyPost_ret (results_cell_row rfl _ _ gb1255 67 #[.bool t1256, .slice Ao9 t1257.length co9, .slice Ao10 t1260.length co10] (0, 0) _ rfl (by (with_reducible repeat (first | refine blk_drewN ?_ _ | refine blk_drew ?_ | refine blk_alloc ?_ _)); refine blk_put (cs := #[.bool t1256, .slice Ao9 t1257.length co9, .slice none 0 0]) ?_ 2 _ rfl; (with_reducible repeat (first | refine blk_drewN ?_ _ | refine blk_drew ?_ | refine blk_alloc ?_ _)); refine blk_put (cs := #[.bool t1256, .slice none 0 0, .slice none 0 0]) ?_ 1 _ rfl; (with_reducible repeat (first | refine blk_drewN ?_ _ | refine blk_drew ?_ | refine blk_alloc ?_ _)); refine blk_put (cs := #[.bool false, .slice none 0 0, .slice none 0 0]) ?_ 0 _ rfl; (with_reducible repeat (first | refine blk_drewN ?_ _ | refine blk_drew ?_ | refine blk_alloc ?_ _)); exact BK1255.out) Try.underlying67 rfl (by kernel_rfl)) rfl ?_
 exact ⟨_, _, by first | rfl | (simp [errW_none, errW_some] <;> rfl) | (simp [*, errW_none, errW_some] <;> rfl), by (with_reducible repeat (first | apply Kd.V_alloc | apply Kd.V_drewN | apply Kd.V_drew)); exact Kd.V_mono (Kd.V_far (p := ⟨gb1255, 2, none⟩) (Kd.V_far (p := ⟨gb1255, 1, none⟩) (Kd.V_far (p := ⟨gb1255, 0, none⟩) (Kd.V_mono HO1259.out (fun k_ hk => (⟨hk, hk.2.2⟩ : _ ∧ k_ ≠ gb1255))) (fun _ hk => hk.2) (.bool t1256)) (fun _ hk => hk.2) (.slice Ao9 t1257.length co9)) (fun _ hk => hk.2) (.slice Ao10 t1260.length co10)) (fun _ hk => hk.1.1), by (with_reducible repeat (first | apply Kd.V_alloc | apply Kd.V_drewN | apply Kd.V_drew)); exact Kd.V_mono (Kd.V_far (p := ⟨gb1255, 2, none⟩) (Kd.V_far (p := ⟨gb1255, 1, none⟩) (Kd.V_far (p := ⟨gb1255, 0, none⟩) (Kd.V_mono HO1262.out (fun k_ hk => (⟨hk, hk.2.2⟩ : _ ∧ k_ ≠ gb1255))) (fun _ hk => hk.2) (.bool t1256)) (fun _ hk => hk.2) (.slice Ao9 t1257.length co9)) (fun _ hk => hk.2) (.slice Ao10 t1260.length co10)) (fun _ hk => hk.1.1), by repeat (first | (with_reducible first | exact HB.out | apply below_alloc | apply pw_below_drewN | apply below_drew1 | refine below_set ?_ GE1254.out | refine below_set ?_ GE1255.out) | exact HB.out)⟩
end Go.Proofs.Ytecfdemglbfnoaa.PT
end
section
namespace Go.Proofs.Ytecfdemglbfnoaa.PT
open Go.RowKit Go.Proofs.YtecfdemglbfnoaaW.PrintWords Go.Proofs.YtecfdemglbfnoaaW.PrintLast Go.Proofs.YtecfdemglbfnoaaW.PrintMore
attribute [local go_sem] max2_int min2_int max_two min_two max_three min_three max_four min_four   -- for this text's walks alone
set_option linter.unusedVariables false
set_option linter.unusedSimpArgs false
def rational_Sign.j0 : Nat → Bool → Bool → List Int → List Int → Option (Int)
 | 0, _, _, _, _ => none
 | k + 1, x3, x1285000, x1285001, x1285002 => if x3 = true then (some 0) else (if x1285000 = true then (some (-1)) else (some 1))
def rational_Sign.f (k : Nat) (a0_0 : Bool) (l0_1 : List Int) (l0_2 : List Int) : Option (Int) := (nat_Bits.f k l0_1).bind fun t1285 => (if t1285 = 0 then (rational_Sign.j0 k true a0_0 l0_1 l0_2) else ((nat_Bits.f k l0_2).bind fun t1286 => (rational_Sign.j0 k (t1286 == 0) a0_0 l0_1 l0_2)))
set_option maxHeartbeats 8000000 in
set_option maxRecDepth 100000 in
theorem rational_Sign.calls (k : Nat) (a0_0 : Bool) (A0_1 : Option Addr) (c0_1 : Nat) (l0_1 : List Int) (A0_2 : Option Addr) (c0_2 : Nat) (l0_2 : List Int) (r : Int) (w : World) (hr0_1 : Kd.C (Kd.int .u32) w A0_1 l0_1.length l0_1) (hc0_1 : l0_1.length ≤ c0_1) (hr0_2 : Kd.C (Kd.int .u32) w A0_2 l0_2.length l0_2) (hc0_2 : l0_2.length ≤ c0_2) (h : rational_Sign.f k a0_0 l0_1 l0_2 = some r) :
 Calls Try.prog 91 #[.agg #[.bool a0_0, .slice A0_1 l0_1.length c0_1, .slice A0_2 l0_2.length c0_2]] w fun e w' => e = .returned (.int .i64 r) ∧ Below w.heap.size w w' := by
 have hu67 := Try.underlying67
 have HR0_1 := Aside0.mk hr0_1
 have HC0_1 := Aside0.mk hc0_1
 clear hr0_1 hc0_1
 have HR0_2 := Aside0.mk hr0_2
 have HC0_2 := Aside0.mk hc0_2
 clear hr0_2 hc0_2
 have HB := Aside0.mk (Below.refl w.heap.size w)
 have H : ((nat_Bits.f k l0_1).bind fun t1285 => (if t1285 = 0 then (rational_Sign.j0 k true a0_0 l0_1 l0_2) else ((nat_Bits.f k l0_2).bind fun t1286 => (rational_Sign.j0 k (t1286 == 0) a0_0 l0_1 l0_2)))) = some r := h
 clear h
 have HC2 := Aside0.mk H
 clear H
 go_enter Try.func91, Try.ntmps91
 go_upto_region 1 with (first | ((with_reducible refine gate_dst (N := 1) rfl ?_); refine box_event ?hg (N := 1) ?hd (cs := #[.bool a0_0, .slice A0_1 l0_1.length c0_1, .slice A0_2 l0_2.length c0_2]) (t := 67) ?hr ?_; (case hd => rfl); (case hg => rfl); (case hr => first | (go_simp; done) | (go_simp; rfl)); intro gb1284 hg w3 hbox hb; have BK1284 := Aside0.mk (hbox); have GW1284 := Aside0.mk ((by rw [hg]; exact (below_size (bu HB.out)) : w.heap.size ≤ gb1284)); have GE1284 := Aside0.mk ((by rw [hg]; exact (below_size (bu HB.out)) : w.heap.size ≤ gb1284)); replace HB := Aside0.mk (below_step (bu HB.out) hb); clear hb hbox hg))
 (try simp only [Act.put, List.setIfInBounds_toArray, List.set_cons_zero, List.set_cons_succ])
 go_cut [3] (fun v3 wc => ∃ (kq : Nat) (x3_1 : Bool), v3 = .bool x3_1 ∧ Aside0 (rational_Sign.j0 kq x3_1 a0_0 l0_1 l0_2 = some r) ∧ Aside0 (kq ≤ k) ∧ Aside0 (wc.heap[gb1284]? = some (.cells #[.bool a0_0, (.slice A0_1 l0_1.length c0_1), (.slice A0_2 l0_2.length c0_2)] 67 (0, 0))) ∧ Aside0 (Below w.heap.size w wc))
 case first =>
  have H := HC2.out
  clear HC2
  replace H := Option.bind_eq_some_iff.mp H
  obtain ⟨t1285, A40, H⟩ := H
  replace H : (if t1285 = 0 then (rational_Sign.j0 k true a0_0 l0_1 l0_2) else ((nat_Bits.f k l0_2).bind fun t1286 => (rational_Sign.j0 k (t1286 == 0) a0_0 l0_1 l0_2))) = some r := H
  have A4 := Aside0.mk A40
  clear A40
  by_cases c5 : t1285 = 0
  ·
   rw [if_pos c5] at H
   have c5b0 : (t1285 == 0) = true := beq_iff_eq.mpr c5
   have c5b1 : (t1285 != 0) = false := bne_eq_false_iff_eq.mpr c5
   clear c5
   (first | rw [c5b0] | rw [c5b1] | (simp only [i64_w, i32_w]; rw [c5b0]) | skip)
   have H' := Aside0.mk H
   clear H
   have hcz6_0 : w3.cell? ⟨gb1284, 0, none⟩ = some (.bool a0_0) := (blk_cell BK1284.out 0).trans rfl
   have hcz6_1 : w3.cell? ⟨gb1284, 1, none⟩ = some (.slice A0_1 l0_1.length c0_1) := (blk_cell BK1284.out 1).trans rfl
   have hcz6_2 : w3.cell? ⟨gb1284, 2, none⟩ = some (.slice A0_2 l0_2.length c0_2) := (blk_cell BK1284.out 2).trans rfl
   have hfz6_0 := blk_frozen BK1284.out 0
   have hfz6_1 := blk_frozen BK1284.out 1
   have hfz6_2 := blk_frozen BK1284.out 2
   go_wp2_with (first | ((with_reducible refine gate_callee (f := 154) rfl ?_); refine goesL_ (some 6) rfl rfl Try.func154 (by kernel_rfl) rfl #[.slice A0_1 l0_1.length c0_1] rfl lu ?_; (with_reducible refine (nat_Bits.calls k _ _ l0_1 t1285 _ ?side1 ?side2 A4.out).mono ?_); (case side1 => repeat (first | exact (Kd.C_below HR0_1.out HB.out) | (with_reducible refine Kd.C_alloc ?_ _) | (with_reducible refine Kd.C_drewN ?_ _) | (with_reducible refine Kd.C_drew ?_))); (case side2 => exact HC0_1.out); rintro e w7 ⟨rfl, hb⟩; refine ⟨_, rfl, ?_⟩; replace BK1284 := Aside0.mk (blk_below (g := gb1284) (o := .cells #[.bool a0_0, .slice A0_1 l0_1.length c0_1, .slice A0_2 l0_2.length c0_2] 67 (0, 0)) (ku BK1284.out) hb); replace HB := Aside0.mk (below_step (bu1 HB.out GE1284.out) hb); (try clear hb); (try clear hb2); (try clear hk); (try clear hi)))
   go_meet
   case rel => exact ⟨_, (true), (by first | rfl | (simp; done) | (simp [*]; done)), H', ⟨by first | omega | exact Nat.le_refl _⟩, ⟨by (with_reducible repeat (first | refine blk_drewN ?_ _ | refine blk_drew ?_ | refine blk_alloc ?_ _)); exact BK1284.out⟩, ⟨by repeat (first | (with_reducible first | exact HB.out | apply below_alloc | apply pw_below_drewN | apply below_drew1 | refine below_set ?_ GE1284.out) | exact HB.out)⟩⟩
  ·
   rw [if_neg c5] at H
   have c5b0 : (t1285 == 0) = false := beq_eq_false_iff_ne.mpr c5
   have c5b1 : (t1285 != 0) = true := bne_iff_ne.mpr c5
   (first | rw [c5b0] | rw [c5b1] | (simp only [i64_w, i32_w]; rw [c5b0]) | skip)
   replace H := Option.bind_eq_some_iff.mp H
   obtain ⟨t1286, A80, H⟩ := H
   replace H : (rational_Sign.j0 k (t1286 == 0) a0_0 l0_1 l0_2) = some r := H
   have A8 := Aside0.mk A80
   clear A80
   have H' := Aside0.mk H
   clear H
   have hcz9_0 : w3.cell? ⟨gb1284, 0, none⟩ = some (.bool a0_0) := (blk_cell BK1284.out 0).trans rfl
   have hcz9_1 : w3.cell? ⟨gb1284, 1, none⟩ = some (.slice A0_1 l0_1.length c0_1) := (blk_cell BK1284.out 1).trans rfl
   have hcz9_2 : w3.cell? ⟨gb1284, 2, none⟩ = some (.slice A0_2 l0_2.length c0_2) := (blk_cell BK1284.out 2).trans rfl
   have hfz9_0 := blk_frozen BK1284.out 0
   have hfz9_1 := blk_frozen BK1284.out 1
   have hfz9_2 := blk_frozen BK1284.out 2
   go_wp2_with (first | ((with_reducible refine gate_callee (f := 154) rfl ?_); refine goesL_ (some 6) rfl rfl Try.func154 (by kernel_rfl) rfl #[.slice A0_1 l0_1.length c0_1] rfl lu ?_; (with_reducible refine (nat_Bits.calls k _ _ l0_1 t1285 _ ?side1 ?side2 A4.out).mono ?_); (case side1 => repeat (first | exact (Kd.C_below HR0_1.out HB.out) | (with_reducible refine Kd.C_alloc ?_ _) | (with_reducible refine Kd.C_drewN ?_ _) | (with_reducible refine Kd.C_drew ?_))); (case side2 => exact HC0_1.out); rintro e w10 ⟨rfl, hb⟩; refine ⟨_, rfl, ?_⟩; replace BK1284 := Aside0.mk (blk_below (g := gb1284) (o := .cells #[.bool a0_0, .slice A0_1 l0_1.length c0_1, .slice A0_2 l0_2.length c0_2] 67 (0, 0)) (ku BK1284.out) hb); replace HB := Aside0.mk (below_step (bu1 HB.out GE1284.out) hb); (try clear hb); (try clear hb2); (try clear hk); (try clear hi); have hcz11_0 : w10.cell? ⟨gb1284, 0, none⟩ = some (.bool a0_0) := (blk_cell BK1284.out 0).trans rfl; have hcz11_1 : w10.cell? ⟨gb1284, 1, none⟩ = some (.slice A0_1 l0_1.length c0_1) := (blk_cell BK1284.out 1).trans rfl; have hcz11_2 : w10.cell? ⟨gb1284, 2, none⟩ = some (.slice A0_2 l0_2.length c0_2) := (blk_cell BK1284.out 2).trans rfl; have hfz11_0 := blk_frozen BK1284.out 0; have hfz11_1 := blk_frozen BK1284.out 1; have hfz11_2 := blk_frozen BK1284.out 2) | (go_at_call 154; (with_reducible refine (nat_Bits.calls k _ _ l0_2 t1286 _ ?side1 ?side2 A8.out).mono ?_); (case side1 => repeat (first | exact (Kd.C_below HR0_2.out HB.out) | (with_reducible refine Kd.C_alloc ?_ _) | (with_reducible refine Kd.C_drewN ?_ _) | (with_reducible refine Kd.C_drew ?_))); (case side2 => exact HC0_2.out); rintro e w12 ⟨rfl, hb⟩; replace BK1284 := Aside0.mk (blk_below (g := gb1284) (o := .cells #[.bool a0_0, .slice A0_1 l0_1.length c0_1, .slice A0_2 l0_2.length c0_2] 67 (0, 0)) (ku BK1284.out) hb); replace HB := Aside0.mk (below_step (bu1 HB.out GE1284.out) hb); (try clear hb); (try clear hb2); (try clear hk); (try clear hi)))
   go_meet
   case rel => exact ⟨_, ((t1286 == 0)), (by first | rfl | (simp; done) | (simp [*]; done) | (cases t1286 <;> first | rfl | (simp; done))), H', ⟨by first | omega | exact Nat.le_refl _⟩, ⟨by (with_reducible repeat (first | refine blk_drewN ?_ _ | refine blk_drew ?_ | refine blk_alloc ?_ _)); exact BK1284.out⟩, ⟨by repeat (first | (with_reducible first | exact HB.out | apply below_alloc | apply pw_below_drewN | apply below_drew1 | refine below_set ?_ GE1284.out) | exact HB.out)⟩⟩
 case rest =>
  clear HC2
  try clear c1
  try clear p2
  try clear c5
  try clear c5b0
  try clear c5b1
  try clear c9
  try clear hcz11_0
  try clear hcz11_1
  try clear hcz11_2
  try clear hcz6_0
  try clear hcz6_1
  try clear hcz6_2
  try clear hcz9_0
  try clear hcz9_1
  try clear hcz9_2
  try clear hfz11_0
  try clear hfz11_1
  try clear hfz11_2
  try clear hfz6_0
  try clear hfz6_1
  try clear hfz6_2
  try clear hfz9_0
  try clear hfz9_1
  try clear hfz9_2
  obtain ⟨kq, x3_1, rfl, HA, HJ1, BK1284, HB⟩ := hcut
  cases kq with
  | zero => exact absurd HA.out (by simp [rational_Sign.j0])
  | succ kj1 =>
   have H := HA.out
   clear HA
   simp only [rational_Sign.j0] at H
   by_cases c13 : x3_1 = true
   ·
    subst c13
    have H1 : (some 0) = some r := by rw [if_pos rfl] at H; exact H
    clear H
    have H := H1
    clear H1
    obtain rfl := Option.some.inj H
    go_wp2
    go_ret
    exact ⟨by first | rfl | (simp [errW_none, errW_some] <;> rfl) | (simp [*, errW_none, errW_some] <;> rfl), by repeat (first | (with_reducible first | exact HB.out | apply below_alloc | apply pw_below_drewN | apply below_drew1 | refine below_set ?_ GE1284.out) | exact HB.out)⟩
   ·
    replace c13 := Bool.eq_false_iff.mpr c13
    subst c13
    have H1 : (if a0_0 = true then (some (-1)) else (some 1)) = some r := by rw [if_neg (show ¬ (false = true) by decide)] at H; exact H
    clear H
    have H := H1
    clear H1
    by_cases c14 : a0_0 = true
    ·
     subst c14
     have H1 : (some (-1)) = some r := by rw [if_pos rfl] at H; exact H
     clear H
     have H := H1
     clear H1
     obtain rfl := Option.some.inj H
     have hcz15_0 : wc.cell? ⟨gb1284, 0, none⟩ = some (.bool true) := (blk_cell BK1284.out 0).trans rfl
     have hcz15_1 : wc.cell? ⟨gb1284, 1, none⟩ = some (.slice A0_1 l0_1.length c0_1) := (blk_cell BK1284.out 1).trans rfl
     have hcz15_2 : wc.cell? ⟨gb1284, 2, none⟩ = some (.slice A0_2 l0_2.length c0_2) := (blk_cell BK1284.out 2).trans rfl
     have hfz15_0 := blk_frozen BK1284.out 0
     have hfz15_1 := blk_frozen BK1284.out 1
     have hfz15_2 := blk_frozen BK1284.out 2
     go_wp2
     go_ret
     exact ⟨by first | rfl | (simp [errW_none, errW_some] <;> rfl) | (simp [*, errW_none, errW_some] <;> rfl), by repeat (first | (with_reducible first | exact HB.out | apply below_alloc | apply pw_below_drewN | apply below_drew1 | refine below_set ?_ GE1284.out) | exact HB.out)⟩
    ·
     replace c14 := Bool.eq_false_iff.mpr c14
     subst c14
     have H1 : (some 1) = some r := by rw [if_neg (show ¬ (false = true) by decide)] at H; exact H
     clear H
     have H := H1
     clear H1
     obtain rfl := Option.some.inj H
     have hcz16_0 : wc.cell? ⟨gb1284, 0, none⟩ = some (.bool false) := (blk_cell BK1284.out 0).trans rfl
     have hcz16_1 : wc.cell? ⟨gb1284, 1, none⟩ = some (.slice A0_1 l0_1.length c0_1) := (blk_cell BK1284.out 1).trans rfl
     have hcz16_2 : wc.cell? ⟨gb1284, 2, none⟩ = some (.slice A0_2 l0_2.length c0_2) := (blk_cell BK1284.out 2).trans rfl
     have hfz16_0 := blk_frozen BK1284.out 0
     have hfz16_1 := blk_frozen BK1284.out 1
     have hfz16_2 := blk_frozen BK1284.out 2
     go_wp2
     go_ret
     exact ⟨by first | rfl | (simp [errW_none, errW_some] <;> rfl) | (simp [*, errW_none, errW_some] <;> rfl), by repeat (first | (with_reducible first | exact HB.out | apply below_alloc | apply pw_below_drewN | apply below_drew1 | refine below_set ?_ GE1284.out) | exact HB.out)⟩
end Go.Proofs.Ytecfdemglbfnoaa.PT
end
section
namespace Go.Proofs.Ytecfdemglbfnoaa.PT
open Go.RowKit Go.Proofs.YtecfdemglbfnoaaW.PrintWords Go.Proofs.YtecfdemglbfnoaaW.PrintLast Go.Proofs.YtecfdemglbfnoaaW.PrintMore
attribute [local go_sem] max2_int min2_int max_two min_two max_three min_three max_four min_four   -- for this text's walks alone
set_option linter.unusedVariables false
set_option linter.unusedSimpArgs false
mutual
def nat_Pow.j0 : Nat → List Int → Int → Int → Bool → Option (List Int × Int)
 | 0, _, _, _, _ => none
 | k + 1, x0, x1, x6, x13 => if x13 = true then (some ((([1] : List Int)), 0)) else (if x6 = 0 then (some (([] : List Int), 0)) else (if x1 > 131072 then (some (([] : List Int), 8)) else (if (wrap64 ((wrap64 (x6 - 1)) * x1)) ≥ 131072 then (some (([] : List Int), 8)) else ((nat_short.f k x0).bind fun t1471 => (nat_Pow.l0 k x1 (([1] : List Int)) t1471)))))
def nat_Pow.l0 : Nat → Int → List Int → List Int → Option (List Int × Int)
 | 0, _, _, _ => none
 | k + 1, x1, x7, x8 => if (Go.bits .and .i64 x1 1) = 1 then ((nat_times.f k x7 x8).bind fun t1474 => (if (x1 / 2) = 0 then (if (t1474.length : Int) > 4096 then (some (([] : List Int), 8)) else ((nat_Trim.f k t1474).bind fun t1477 => (some (t1477, 0)))) else ((nat_times.f k x8 x8).bind fun t1480 => (nat_Pow.l0 k (x1 / 2) t1474 t1480)))) else (if (x1 / 2) = 0 then (if (x7.length : Int) > 4096 then (some (([] : List Int), 8)) else ((nat_Trim.f k x7).bind fun t1483 => (some (t1483, 0)))) else ((nat_times.f k x8 x8).bind fun t1486 => (nat_Pow.l0 k (x1 / 2) x7 t1486)))
end
def nat_Pow.f (k : Nat) (l0 : List Int) (a1 : Int) : Option (List Int × Int) := if a1 < 0 then (some (([] : List Int), 6)) else ((nat_Bits.f k l0).bind fun t1464 => (if a1 = 0 then (nat_Pow.j0 k l0 a1 t1464 true) else (nat_Pow.j0 k l0 a1 t1464 (t1464 == 1))))
set_option maxHeartbeats 8000000 in
set_option maxRecDepth 100000 in
theorem nat_Pow.calls (k : Nat) (A0 : Option Addr) (c0 : Nat) (l0 : List Int) (a1 : Int) (r1 : List Int) (r2 : Int) (w : World) (hr0 : Kd.C (Kd.int .u32) w A0 l0.length l0) (hc0 : l0.length ≤ c0) (h : nat_Pow.f k l0 a1 = some (r1, r2)) :
 Calls Try.prog 162 #[.slice A0 l0.length c0, .int .i64 a1] w fun e w' => ∃ v0_ : Value, e = .returned (.tuple #[v0_, .int .i64 r2]) ∧ Kd.R (Kd.int .u32) 48 w' w.heap.size (fun _ => True) v0_ r1 ∧ Below w.heap.size w w' := by
 have HR0 := Aside0.mk hr0
 have HC0 := Aside0.mk hc0
 clear hr0 hc0
 have HB := Aside0.mk (Below.refl w.heap.size w)
 have H : (if a1 < 0 then (some (([] : List Int), 6)) else ((nat_Bits.f k l0).bind fun t1464 => (if a1 = 0 then (nat_Pow.j0 k l0 a1 t1464 true) else (nat_Pow.j0 k l0 a1 t1464 (t1464 == 1))))) = some (r1, r2) := h
 clear h
 by_cases c3 : a1 < 0
 ·
  rw [if_pos c3] at H
  have c3b0 : decide (a1 < 0) = true := decide_eq_true c3
  clear c3
  simp only [Option.some.injEq, Prod.mk.injEq] at H
  obtain ⟨rfl, rfl⟩ := H
  go_enter Try.func162, Try.ntmps162
  go_wp2
  go_ret2
  exact ⟨_, by first | rfl | (simp [errW_none, errW_some] <;> rfl) | (simp [*, errW_none, errW_some] <;> rfl), by first | exact Kd.R_nil _ _ _ _ _ | exact Kd.N_nil _ _ _ _ _ | exact Kd.V_nil _ _ _ _ _ | exact Kd.Q_nil _ _ _ _ _ | exact Kd.S_nil _ _ _ _ _, by repeat (first | (with_reducible first | exact HB.out | apply below_alloc | apply pw_below_drewN | apply below_drew1) | exact HB.out)⟩
 ·
  rw [if_neg c3] at H
  have c3b0 : decide (a1 < 0) = false := decide_eq_false c3
  clear c3
  replace H := Option.bind_eq_some_iff.mp H
  obtain ⟨t1464, A40, H⟩ := H
  replace H : (if a1 = 0 then (nat_Pow.j0 k l0 a1 t1464 true) else (nat_Pow.j0 k l0 a1 t1464 (t1464 == 1))) = some (r1, r2) := H
  have A4 := Aside0.mk A40
  clear A40
  have HC5 := Aside0.mk H
  clear H
  go_enter Try.func162, Try.ntmps162
  go_upto_region 4 with (first | ((with_reducible refine gate_callee (f := 154) rfl ?_); refine goesL_ (some 12) rfl rfl Try.func154 (by kernel_rfl) rfl #[.slice A0 l0.length c0] rfl lu ?_; (with_reducible refine (nat_Bits.calls k _ _ l0 t1464 _ ?side1 ?side2 A4.out).mono ?_); (case side1 => repeat (first | exact HR0.out | (with_reducible refine Kd.C_alloc ?_ _) | (with_reducible refine Kd.C_drewN ?_ _) | (with_reducible refine Kd.C_drew ?_))); (case side2 => exact HC0.out); rintro e w6 ⟨rfl, hb⟩; refine ⟨_, rfl, ?_⟩; replace HB := Aside0.mk (below_step (bu HB.out) hb); (try clear hb); (try clear hb2); (try clear hk); (try clear hi)))
  (try simp only [Act.put, List.setIfInBounds_toArray, List.set_cons_zero, List.set_cons_succ])
  go_cut [13] (fun v13 wc => ∃ (kq : Nat) (x13_4 : Bool), v13 = .bool x13_4 ∧ Aside0 (nat_Pow.j0 kq l0 a1 t1464 x13_4 = some (r1, r2)) ∧ Aside0 (kq ≤ k) ∧ Aside0 (Below w.heap.size w wc))
  case first =>
   have H := HC5.out
   clear HC5
   by_cases c7 : a1 = 0
   ·
    rw [if_pos c7] at H
    have c7b0 : (a1 == 0) = true := beq_iff_eq.mpr c7
    have c7b1 : (a1 != 0) = false := bne_eq_false_iff_eq.mpr c7
    clear c7
    (first | rw [c7b0] | rw [c7b1] | (simp only [i64_w, i32_w]; rw [c7b0]) | skip)
    have H' := Aside0.mk H
    clear H
    go_wp2
    go_meet
    case rel => exact ⟨_, (true), (by first | rfl | (simp; done) | (simp [*]; done)), H', ⟨by first | omega | exact Nat.le_refl _⟩, ⟨by repeat (first | (with_reducible first | exact HB.out | apply below_alloc | apply pw_below_drewN | apply below_drew1) | exact HB.out)⟩⟩
   ·
    rw [if_neg c7] at H
    have c7b0 : (a1 == 0) = false := beq_eq_false_iff_ne.mpr c7
    have c7b1 : (a1 != 0) = true := bne_iff_ne.mpr c7
    (first | rw [c7b0] | rw [c7b1] | (simp only [i64_w, i32_w]; rw [c7b0]) | skip)
    have H' := Aside0.mk H
    clear H
    go_wp2
    go_meet
    case rel => exact ⟨_, ((t1464 == 1)), (by first | rfl | (simp; done) | (simp [*]; done) | (cases t1464 <;> first | rfl | (simp; done))), H', ⟨by first | omega | exact Nat.le_refl _⟩, ⟨by repeat (first | (with_reducible first | exact HB.out | apply below_alloc | apply pw_below_drewN | apply below_drew1) | exact HB.out)⟩⟩
  case rest =>
   clear HC5
   try clear c1
   try clear p2
   try clear c3
   try clear c3b0
   try clear c7
   try clear c7b0
   try clear c7b1
   obtain ⟨kq, x13_4, rfl, HA, HJ4, HB⟩ := hcut
   cases kq with
   | zero => exact absurd HA.out (by simp [nat_Pow.j0])
   | succ kj4 =>
    have H := HA.out
    clear HA
    simp only [nat_Pow.j0] at H
    by_cases c8 : x13_4 = true
    ·
     subst c8
     have H1 : (some ((([1] : List Int)), 0)) = some (r1, r2) := by rw [if_pos rfl] at H; exact H
     clear H
     have H := H1
     clear H1
     obtain ⟨y1465, hy1465⟩ : ∃ y_ : List Int, y_ = (([1] : List Int)) := ⟨_, rfl⟩
     replace H : (some (y1465, 0)) = some (r1, r2) := by first | (rw [hy1465]; with_reducible exact H) | (have H2_ := (Option.bind_some _ _).symm.trans H; rw [hy1465]; with_reducible exact H2_) | (have H2_ := (Option.bind_some _ _).symm.trans H; with_reducible exact H2_) | with_reducible exact H | (rw [hy1465]; exact H) | exact H
     have Ny1465 := Aside0.mk hy1465
     clear hy1465
     simp only [Option.some.injEq, Prod.mk.injEq] at H
     obtain ⟨rfl, rfl⟩ := H
     go_wp2_with (first | ((with_reducible refine gate_dst (N := 20) rfl ?_); refine Kd.R_lit (Kd.int .u32) _ 48 ?hg (N := 20) ?hd (xs := ([1] : List Int)) (inner := [.int .u32 1]) (ok := fun _ => True) (okp := fun _ => True) ?hr ?hp (fun _ hk => hk) trivial (Below.refl _ _) (Nat.le_refl _) (by simp) ?_; (case hd => rfl); (case hg => rfl); (case hr => first | (go_simp; done) | (go_simp; rfl)); (case hp => exact (Reps.one (show Kd.M (Kd.int .u32) _ _ _ 1 [.int .u32 1] from rfl) (Reps.none _ _))); intro v1466 w9 ho10 hb hg_ hnew_; clear hg_ hnew_; (first | rw [← Ny1465.out] at ho10 | (simp only [Int.reduceToNat] at ho10; rw [← Ny1465.out] at ho10)); have HO1467 := Aside0.mk (Kd.R_lower ho10 (below_size (bu HB.out))); replace HB := Aside0.mk (below_step (bu HB.out) hb); clear hb ho10))
     go_ret2
     exact ⟨_, by first | rfl | (simp [errW_none, errW_some] <;> rfl) | (simp [*, errW_none, errW_some] <;> rfl), by (with_reducible repeat (first | apply Kd.R_alloc | apply Kd.R_drewN | apply Kd.R_drew)); exact HO1467.out, by repeat (first | (with_reducible first | exact HB.out | apply below_alloc | apply pw_below_drewN | apply below_drew1) | exact HB.out)⟩
    ·
     replace c8 := Bool.eq_false_iff.mpr c8
     subst c8
     have H1 : (if t1464 = 0 then (some (([] : List Int), 0)) else (if a1 > 131072 then (some (([] : List Int), 8)) else (if (wrap64 ((wrap64 (t1464 - 1)) * a1)) ≥ 131072 then (some (([] : List Int), 8)) else ((nat_short.f kj4 l0).bind fun t1471 => (nat_Pow.l0 kj4 a1 (([1] : List Int)) t1471))))) = some (r1, r2) := by rw [if_neg (show ¬ (false = true) by decide)] at H; exact H
     clear H
     have H := H1
     clear H1
     by_cases c11 : t1464 = 0
     ·
      rw [if_pos c11] at H
      have c11b0 : (t1464 == 0) = true := beq_iff_eq.mpr c11
      have c11b1 : (t1464 != 0) = false := bne_eq_false_iff_eq.mpr c11
      clear c11
      simp only [Option.some.injEq, Prod.mk.injEq] at H
      obtain ⟨rfl, rfl⟩ := H
      go_wp2
      go_ret2
      exact ⟨_, by first | rfl | (simp [errW_none, errW_some] <;> rfl) | (simp [*, errW_none, errW_some] <;> rfl), by first | exact Kd.R_nil _ _ _ _ _ | exact Kd.N_nil _ _ _ _ _ | exact Kd.V_nil _ _ _ _ _ | exact Kd.Q_nil _ _ _ _ _ | exact Kd.S_nil _ _ _ _ _, by repeat (first | (with_reducible first | exact HB.out | apply below_alloc | apply pw_below_drewN | apply below_drew1) | exact HB.out)⟩
     ·
      rw [if_neg c11] at H
      have c11b0 : (t1464 == 0) = false := beq_eq_false_iff_ne.mpr c11
      have c11b1 : (t1464 != 0) = true := bne_iff_ne.mpr c11
      by_cases c12 : a1 > 131072
      ·
       rw [if_pos c12] at H
       have c12b0 : decide (131072 < a1) = true := decide_eq_true c12
       clear c12
       simp only [Option.some.injEq, Prod.mk.injEq] at H
       obtain ⟨rfl, rfl⟩ := H
       go_wp2
       go_ret2
       exact ⟨_, by first | rfl | (simp [errW_none, errW_some] <;> rfl) | (simp [*, errW_none, errW_some] <;> rfl), by first | exact Kd.R_nil _ _ _ _ _ | exact Kd.N_nil _ _ _ _ _ | exact Kd.V_nil _ _ _ _ _ | exact Kd.Q_nil _ _ _ _ _ | exact Kd.S_nil _ _ _ _ _, by repeat (first | (with_reducible first | exact HB.out | apply below_alloc | apply pw_below_drewN | apply below_drew1) | exact HB.out)⟩
      ·
       rw [if_neg c12] at H
       have c12b0 : decide (131072 < a1) = false := decide_eq_false c12
       clear c12
       by_cases c13 : (wrap64 ((wrap64 (t1464 - 1)) * a1)) ≥ 131072
       ·
        rw [if_pos c13] at H
        have c13b0 : decide (131072 ≤ (wrap64 ((wrap64 (t1464 - 1)) * a1))) = true := decide_eq_true c13
        clear c13
        simp only [Option.some.injEq, Prod.mk.injEq] at H
        obtain ⟨rfl, rfl⟩ := H
        go_wp2
        go_ret2
        exact ⟨_, by first | rfl | (simp [errW_none, errW_some] <;> rfl) | (simp [*, errW_none, errW_some] <;> rfl), by first | exact Kd.R_nil _ _ _ _ _ | exact Kd.N_nil _ _ _ _ _ | exact Kd.V_nil _ _ _ _ _ | exact Kd.Q_nil _ _ _ _ _ | exact Kd.S_nil _ _ _ _ _, by repeat (first | (with_reducible first | exact HB.out | apply below_alloc | apply pw_below_drewN | apply below_drew1) | exact HB.out)⟩
       ·
        rw [if_neg c13] at H
        have c13b0 : decide (131072 ≤ (wrap64 ((wrap64 (t1464 - 1)) * a1))) = false := decide_eq_false c13
        clear c13
        obtain ⟨y1468, hy1468⟩ : ∃ y_ : List Int, y_ = (([1] : List Int)) := ⟨_, rfl⟩
        replace H : ((nat_short.f kj4 l0).bind fun t1471 => (nat_Pow.l0 kj4 a1 y1468 t1471)) = some (r1, r2) := by first | (rw [hy1468]; with_reducible exact H) | (have H2_ := (Option.bind_some _ _).symm.trans H; rw [hy1468]; with_reducible exact H2_) | (have H2_ := (Option.bind_some _ _).symm.trans H; with_reducible exact H2_) | with_reducible exact H | (rw [hy1468]; exact H) | exact H
        have Ny1468 := Aside0.mk hy1468
        clear hy1468
        replace H := Option.bind_eq_some_iff.mp H
        obtain ⟨t1471, A140, H⟩ := H
        replace H : (nat_Pow.l0 kj4 a1 y1468 t1471) = some (r1, r2) := H
        have A14 := Aside0.mk A140
        clear A140
        have H' := Aside0.mk H
        clear H
        go_wp2_with (first | ((with_reducible refine gate_dst (N := 34) rfl ?_); refine Kd.R_lit (Kd.int .u32) _ 48 ?hg (N := 34) ?hd (xs := ([1] : List Int)) (inner := [.int .u32 1]) (ok := fun _ => True) (okp := fun _ => True) ?hr ?hp (fun _ hk => hk) trivial (Below.refl _ _) (Nat.le_refl _) (by simp) ?_; (case hd => rfl); (case hg => rfl); (case hr => first | (go_simp; done) | (go_simp; rfl)); (case hp => exact (Reps.one (show Kd.M (Kd.int .u32) _ _ _ 1 [.int .u32 1] from rfl) (Reps.none _ _))); intro v1469 w15 ho16 hb hg_ hnew_; clear hg_ hnew_; (first | rw [← Ny1468.out] at ho16 | (simp only [Int.reduceToNat] at ho16; rw [← Ny1468.out] at ho16)); have HO1470 := Aside0.mk (Kd.R_lower ho16 (below_size (bu HB.out))); replace HB := Aside0.mk (below_step (bu HB.out) hb); clear hb ho16) | ((with_reducible refine gate_callee (f := 179) rfl ?_); refine goesL_ (some 36) rfl rfl Try.func179 (by kernel_rfl) rfl #[.slice A0 l0.length c0] rfl lu ?_; (with_reducible refine (nat_short.calls kj4 (fun k_ => k_ < w.heap.size) _ _ l0 t1471 _ ?side1 A14.out).mono ?_); (case side1 => exact Kd.V_mk HC0.out (Kd.F_below (Kd.C_F (Kd.heap_int .u32) HR0.out) (bu HB.out))); rintro e w17 ⟨v1472, rfl, ho0, hb⟩; refine ⟨_, rfl, ?_⟩; have HO1473 := Aside0.mk (Kd.V_lower (Kd.V_mono (ok' := fun k_ => some k_ ≠ (v1469 : Value).ownBlock) ho0 (fun k_ hk_ => Or.elim hk_ (fun hs_ => fun e_ => Nat.not_le.2 hs_ (Kd.R_base HO1470.out k_ e_.symm)) (fun hn_ => (Kd.fresh' (Kd.R_lt (by (with_reducible repeat (first | apply Kd.R_alloc | apply Kd.R_drewN | apply Kd.R_drew)); exact HO1470.out)) k_ hn_)))) (below_size (bu HB.out))); replace HO1470 := Aside0.mk (Kd.R_below (by (with_reducible repeat (first | apply Kd.R_alloc | apply Kd.R_drewN | apply Kd.R_drew)); exact HO1470.out) hb); replace HB := Aside0.mk (below_step (bu HB.out) hb); (try clear hb); (try clear hb2); (try clear hk); (try clear hi); (try clear ho0)))
        go_loopg [1, 7, 8] kj4 (fun kq v1 v7 v8 w' => ∃ (x1_2 : Int) (x7_2 : List Int) (x8_2 : List Int), v1 = .int .i64 x1_2 ∧ Aside0 (nat_Pow.l0 kq x1_2 x7_2 x8_2 = some (r1, r2)) ∧ Aside0 (kq ≤ kj4) ∧ Aside0 (Kd.V (Kd.int .u32) 48 w' w.heap.size (fun _ => True) v7 x7_2) ∧ Aside0 (Kd.V (Kd.int .u32) 48 w' w.heap.size (fun _ => True) v8 x8_2) ∧ Aside0 (Below w.heap.size w w'))
        case atStart => exact ⟨(a1), (y1468), (t1471), (by first | rfl | (simp; done) | (simp [*]; done)), H', ⟨Nat.le_refl _⟩, ⟨Kd.R_V (by (with_reducible repeat (first | apply Kd.R_alloc | apply Kd.R_drewN | apply Kd.R_drew)); exact HO1470.out)⟩, ⟨by (with_reducible repeat (first | apply Kd.V_alloc | apply Kd.V_drewN | apply Kd.V_drew)); exact Kd.V_mono HO1473.out (fun _ hk => trivial)⟩, ⟨by repeat (first | (with_reducible first | exact HB.out | apply below_alloc | apply pw_below_drewN | apply below_drew1) | exact HB.out)⟩⟩
        case round =>
         clear H'
         try clear c1
         try clear p2
         try clear c3
         try clear c3b0
         try clear p6
         try clear c7
         try clear c7b0
         try clear c7b1
         try clear c8
         try clear c11
         try clear c11b0
         try clear c11b1
         try clear c12
         try clear c12b0
         try clear c13
         try clear c13b0
         try clear c15
         try clear c16
         try clear c17
         try clear p2
         obtain ⟨x1_2, x7_2, x8_2, rfl, HA, HK2, HO_7, HO_8, HB⟩ := hrel
         cases gk with
         | zero => exact absurd HA.out (by simp [nat_Pow.l0])
         | succ k2 =>
          have H := HA.out
          clear HA
          simp only [nat_Pow.l0] at H
          by_cases c18 : (Go.bits .and .i64 x1_2 1) = 1
          ·
           rw [if_pos c18] at H
           have c18b0 : ((Go.bits .and .i64 x1_2 1) == 1) = true := beq_iff_eq.mpr c18
           have c18b1 : ((Go.bits .and .i64 x1_2 1) != 1) = false := bne_eq_false_iff_eq.mpr c18
           clear c18
           replace H := Option.bind_eq_some_iff.mp H
           obtain ⟨t1474, A190, H⟩ := H
           replace H : (if (x1_2 / 2) = 0 then (if (t1474.length : Int) > 4096 then (some (([] : List Int), 8)) else ((nat_Trim.f k2 t1474).bind fun t1477 => (some (t1477, 0)))) else ((nat_times.f k2 x8_2 x8_2).bind fun t1480 => (nat_Pow.l0 k2 (x1_2 / 2) t1474 t1480))) = some (r1, r2) := H
           have A19 := Aside0.mk A190
           clear A190
           by_cases c20 : (x1_2 / 2) = 0
           ·
            rw [if_pos c20] at H
            have c20b0 : ((x1_2 / 2) == 0) = true := beq_iff_eq.mpr c20
            have c20b1 : ((x1_2 / 2) != 0) = false := bne_eq_false_iff_eq.mpr c20
            clear c20
            by_cases c21 : (t1474.length : Int) > 4096
            ·
             rw [if_pos c21] at H
             have c21b0 : decide (4096 < (t1474.length : Int)) = true := decide_eq_true c21
             have c21b1 : decide (4096 < t1474.length) = true := decide_eq_true (by omega)
             clear c21
             simp only [Option.some.injEq, Prod.mk.injEq] at H
             obtain ⟨rfl, rfl⟩ := H
             obtain ⟨Ao22, co22, eo22⟩ := Kd.V_slice HO_7.out
             subst eo22
             obtain ⟨Ao23, co23, eo23⟩ := Kd.V_slice HO_8.out
             subst eo23
             go_wp2_with (first | ((with_reducible refine gate_callee (f := 180) rfl ?_); refine goesL_ (some 42) rfl rfl Try.func180 (by kernel_rfl) rfl #[.slice Ao22 x7_2.length co22, .slice Ao23 x8_2.length co23] rfl lu ?_; (with_reducible refine (nat_times.calls k2 _ _ x7_2 _ _ x8_2 t1474 _ ?side1 ?side2 ?side3 ?side4 A19.out).mono ?_); (case side1 => repeat (first | exact (Kd.V_reads' HO_7.out).2.2 | (with_reducible refine Kd.C_alloc ?_ _) | (with_reducible refine Kd.C_drewN ?_ _) | (with_reducible refine Kd.C_drew ?_))); (case side2 => exact (Kd.V_reads' HO_7.out).2.1); (case side3 => repeat (first | exact (Kd.V_reads' HO_8.out).2.2 | (with_reducible refine Kd.C_alloc ?_ _) | (with_reducible refine Kd.C_drewN ?_ _) | (with_reducible refine Kd.C_drew ?_))); (case side4 => exact (Kd.V_reads' HO_8.out).2.1); rintro e w24 ⟨v1475, rfl, ho0, hb⟩; refine ⟨_, rfl, ?_⟩; replace HO_7 := Aside0.mk (Kd.V_below (vu HO_7.out) hb); replace HO_8 := Aside0.mk (Kd.V_below (vu HO_8.out) hb); have HO1476 := Aside0.mk (Kd.V_lower (Kd.V_mono (ok' := fun k_ => True) ho0 (fun k_ hk_ => trivial)) (below_size (bu HB.out))); replace HB := Aside0.mk (below_step (bu HB.out) hb); (try clear hb); (try clear hb2); (try clear hk); (try clear hi); (try clear ho0); obtain ⟨Ao25, co25, eo25⟩ := Kd.V_slice HO1476.out; subst eo25))
             go_ret2
             exact ⟨_, by first | rfl | (simp [errW_none, errW_some] <;> rfl) | (simp [*, errW_none, errW_some] <;> rfl), by first | exact Kd.R_nil _ _ _ _ _ | exact Kd.N_nil _ _ _ _ _ | exact Kd.V_nil _ _ _ _ _ | exact Kd.Q_nil _ _ _ _ _ | exact Kd.S_nil _ _ _ _ _, by repeat (first | (with_reducible first | exact HB.out | apply below_alloc | apply pw_below_drewN | apply below_drew1) | exact HB.out)⟩
            ·
             rw [if_neg c21] at H
             have c21b0 : decide (4096 < (t1474.length : Int)) = false := decide_eq_false c21
             have c21b1 : decide (4096 < t1474.length) = false := decide_eq_false (by omega)
             clear c21
             replace H := Option.bind_eq_some_iff.mp H
             obtain ⟨t1477, A260, H⟩ := H
             replace H : (some (t1477, 0)) = some (r1, r2) := H
             have A26 := Aside0.mk A260
             clear A260
             simp only [Option.some.injEq, Prod.mk.injEq] at H
             obtain ⟨rfl, rfl⟩ := H
             obtain ⟨Ao27, co27, eo27⟩ := Kd.V_slice HO_7.out
             subst eo27
             obtain ⟨Ao28, co28, eo28⟩ := Kd.V_slice HO_8.out
             subst eo28
             go_wp2_with (first | ((with_reducible refine gate_callee (f := 180) rfl ?_); refine goesL_ (some 42) rfl rfl Try.func180 (by kernel_rfl) rfl #[.slice Ao27 x7_2.length co27, .slice Ao28 x8_2.length co28] rfl lu ?_; (with_reducible refine (nat_times.calls k2 _ _ x7_2 _ _ x8_2 t1474 _ ?side1 ?side2 ?side3 ?side4 A19.out).mono ?_); (case side1 => repeat (first | exact (Kd.V_reads' HO_7.out).2.2 | (with_reducible refine Kd.C_alloc ?_ _) | (with_reducible refine Kd.C_drewN ?_ _) | (with_reducible refine Kd.C_drew ?_))); (case side2 => exact (Kd.V_reads' HO_7.out).2.1); (case side3 => repeat (first | exact (Kd.V_reads' HO_8.out).2.2 | (with_reducible refine Kd.C_alloc ?_ _) | (with_reducible refine Kd.C_drewN ?_ _) | (with_reducible refine Kd.C_drew ?_))); (case side4 => exact (Kd.V_reads' HO_8.out).2.1); rintro e w29 ⟨v1475, rfl, ho0, hb⟩; refine ⟨_, rfl, ?_⟩; replace HO_7 := Aside0.mk (Kd.V_below (vu HO_7.out) hb); replace HO_8 := Aside0.mk (Kd.V_below (vu HO_8.out) hb); have HO1476 := Aside0.mk (Kd.V_lower (Kd.V_mono (ok' := fun k_ => True) ho0 (fun k_ hk_ => trivial)) (below_size (bu HB.out))); replace HB := Aside0.mk (below_step (bu HB.out) hb); (try clear hb); (try clear hb2); (try clear hk); (try clear hi); (try clear ho0); obtain ⟨Ao30, co30, eo30⟩ := Kd.V_slice HO1476.out; subst eo30) | ((with_reducible refine gate_callee (f := 177) rfl ?_); refine goesL_ (some 54) rfl rfl Try.func177 (by kernel_rfl) rfl #[.slice Ao30 t1474.length co30] rfl lu ?_; (with_reducible refine (nat_Trim.calls k2 _ _ t1474 t1477 _ ?side1 ?side2 A26.out).mono ?_); (case side1 => repeat (first | exact (Kd.V_reads' HO1476.out).2.2 | (with_reducible refine Kd.C_alloc ?_ _) | (with_reducible refine Kd.C_drewN ?_ _) | (with_reducible refine Kd.C_drew ?_))); (case side2 => exact (Kd.V_reads' HO1476.out).2.1); rintro e w31 ⟨v1478, rfl, ho0, hb⟩; refine ⟨_, rfl, ?_⟩; replace HO_7 := Aside0.mk (Kd.V_elder' (vu HO_7.out) (Kd.R_base ho0) hb); replace HO_8 := Aside0.mk (Kd.V_elder' (vu HO_8.out) (Kd.R_base ho0) hb); replace HO1476 := Aside0.mk (Kd.V_elder' (vu HO1476.out) (Kd.R_base ho0) hb); have HO1479 := Aside0.mk (Kd.R_lower ho0 (below_size (bu HB.out))); replace HB := Aside0.mk (below_step (bu HB.out) hb); (try clear hb); (try clear hb2); (try clear hk); (try clear hi); (try clear ho0)))
             go_ret2
             exact ⟨_, by first | rfl | (simp [errW_none, errW_some] <;> rfl) | (simp [*, errW_none, errW_some] <;> rfl), by (with_reducible repeat (first | apply Kd.R_alloc | apply Kd.R_drewN | apply Kd.R_drew)); exact HO1479.out, by repeat (first | (with_reducible first | exact HB.out | apply below_alloc | apply pw_below_drewN | apply below_drew1) | exact HB.out)⟩
           ·
            rw [if_neg c20] at H
            have c20b0 : ((x1_2 / 2) == 0) = false := beq_eq_false_iff_ne.mpr c20
            have c20b1 : ((x1_2 / 2) != 0) = true := bne_iff_ne.mpr c20
            replace H := Option.bind_eq_some_iff.mp H
            obtain ⟨t1480, A320, H⟩ := H
            replace H : (nat_Pow.l0 k2 (x1_2 / 2) t1474 t1480) = some (r1, r2) := H
            have A32 := Aside0.mk A320
            clear A320
            have H' := Aside0.mk H
            clear H
            obtain ⟨Ao33, co33, eo33⟩ := Kd.V_slice HO_7.out
            subst eo33
            obtain ⟨Ao34, co34, eo34⟩ := Kd.V_slice HO_8.out
            subst eo34
            go_wp2_with (first | ((with_reducible refine gate_callee (f := 180) rfl ?_); refine goesL_ (some 42) rfl rfl Try.func180 (by kernel_rfl) rfl #[.slice Ao33 x7_2.length co33, .slice Ao34 x8_2.length co34] rfl lu ?_; (with_reducible refine (nat_times.calls k2 _ _ x7_2 _ _ x8_2 t1474 _ ?side1 ?side2 ?side3 ?side4 A19.out).mono ?_); (case side1 => repeat (first | exact (Kd.V_reads' HO_7.out).2.2 | (with_reducible refine Kd.C_alloc ?_ _) | (with_reducible refine Kd.C_drewN ?_ _) | (with_reducible refine Kd.C_drew ?_))); (case side2 => exact (Kd.V_reads' HO_7.out).2.1); (case side3 => repeat (first | exact (Kd.V_reads' HO_8.out).2.2 | (with_reducible refine Kd.C_alloc ?_ _) | (with_reducible refine Kd.C_drewN ?_ _) | (with_reducible refine Kd.C_drew ?_))); (case side4 => exact (Kd.V_reads' HO_8.out).2.1); rintro e w35 ⟨v1475, rfl, ho0, hb⟩; refine ⟨_, rfl, ?_⟩; replace HO_7 := Aside0.mk (Kd.V_below (vu HO_7.out) hb); replace HO_8 := Aside0.mk (Kd.V_below (vu HO_8.out) hb); have HO1476 := Aside0.mk (Kd.V_lower (Kd.V_mono (ok' := fun k_ => True) ho0 (fun k_ hk_ => trivial)) (below_size (bu HB.out))); replace HB := Aside0.mk (below_step (bu HB.out) hb); (try clear hb); (try clear hb2); (try clear hk); (try clear hi); (try clear ho0)) | ((with_reducible refine gate_callee (f := 180) rfl ?_); refine goesL_ (some 49) rfl rfl Try.func180 (by kernel_rfl) rfl #[.slice Ao34 x8_2.length co34, .slice Ao34 x8_2.length co34] rfl lu ?_; (with_reducible refine (nat_times.calls k2 _ _ x8_2 _ _ x8_2 t1480 _ ?side1 ?side2 ?side3 ?side4 A32.out).mono ?_); (case side1 => repeat (first | exact (Kd.V_reads' HO_8.out).2.2 | (with_reducible refine Kd.C_alloc ?_ _) | (with_reducible refine Kd.C_drewN ?_ _) | (with_reducible refine Kd.C_drew ?_))); (case side2 => exact (Kd.V_reads' HO_8.out).2.1); (case side3 => repeat (first | exact (Kd.V_reads' HO_8.out).2.2 | (with_reducible refine Kd.C_alloc ?_ _) | (with_reducible refine Kd.C_drewN ?_ _) | (with_reducible refine Kd.C_drew ?_))); (case side4 => exact (Kd.V_reads' HO_8.out).2.1); rintro e w36 ⟨v1481, rfl, ho0, hb⟩; refine ⟨_, rfl, ?_⟩; replace HO_7 := Aside0.mk (Kd.V_below (vu HO_7.out) hb); replace HO_8 := Aside0.mk (Kd.V_below (vu HO_8.out) hb); replace HO1476 := Aside0.mk (Kd.V_below (vu HO1476.out) hb); have HO1482 := Aside0.mk (Kd.V_lower (Kd.V_mono (ok' := fun k_ => True) ho0 (fun k_ hk_ => trivial)) (below_size (bu HB.out))); replace HB := Aside0.mk (below_step (bu HB.out) hb); (try clear hb); (try clear hb2); (try clear hk); (try clear hi); (try clear ho0)))
            go_roundg k2
            case measure => have := HJ4.out; have := HK2.out; omega
            case rel => exact ⟨(x1_2 / 2), (t1474), (t1480), (by first | rfl | (simp; done) | (simp [*]; done)), H', ⟨by have := HJ4.out; have := HK2.out; omega⟩, ⟨by (with_reducible repeat (first | apply Kd.V_alloc | apply Kd.V_drewN | apply Kd.V_drew)); exact HO1476.out⟩, ⟨by (with_reducible repeat (first | apply Kd.V_alloc | apply Kd.V_drewN | apply Kd.V_drew)); exact HO1482.out⟩, ⟨by repeat (first | (with_reducible first | exact HB.out | apply below_alloc | apply pw_below_drewN | apply below_drew1) | exact HB.out)⟩⟩
          ·
           rw [if_neg c18] at H
           have c18b0 : ((Go.bits .and .i64 x1_2 1) == 1) = false := beq_eq_false_iff_ne.mpr c18
           have c18b1 : ((Go.bits .and .i64 x1_2 1) != 1) = true := bne_iff_ne.mpr c18
           by_cases c37 : (x1_2 / 2) = 0
           ·
            rw [if_pos c37] at H
            have c37b0 : ((x1_2 / 2) == 0) = true := beq_iff_eq.mpr c37
            have c37b1 : ((x1_2 / 2) != 0) = false := bne_eq_false_iff_eq.mpr c37
            clear c37
            by_cases c38 : (x7_2.length : Int) > 4096
            ·
             rw [if_pos c38] at H
             have c38b0 : decide (4096 < (x7_2.length : Int)) = true := decide_eq_true c38
             have c38b1 : decide (4096 < x7_2.length) = true := decide_eq_true (by omega)
             clear c38
             simp only [Option.some.injEq, Prod.mk.injEq] at H
             obtain ⟨rfl, rfl⟩ := H
             obtain ⟨Ao39, co39, eo39⟩ := Kd.V_slice HO_7.out
             subst eo39
             go_wp2
             go_ret2
             exact ⟨_, by first | rfl | (simp [errW_none, errW_some] <;> rfl) | (simp [*, errW_none, errW_some] <;> rfl), by first | exact Kd.R_nil _ _ _ _ _ | exact Kd.N_nil _ _ _ _ _ | exact Kd.V_nil _ _ _ _ _ | exact Kd.Q_nil _ _ _ _ _ | exact Kd.S_nil _ _ _ _ _, by repeat (first | (with_reducible first | exact HB.out | apply below_alloc | apply pw_below_drewN | apply below_drew1) | exact HB.out)⟩
            ·
             rw [if_neg c38] at H
             have c38b0 : decide (4096 < (x7_2.length : Int)) = false := decide_eq_false c38
             have c38b1 : decide (4096 < x7_2.length) = false := decide_eq_false (by omega)
             clear c38
             replace H := Option.bind_eq_some_iff.mp H
             obtain ⟨t1483, A400, H⟩ := H
             replace H : (some (t1483, 0)) = some (r1, r2) := H
             have A40 := Aside0.mk A400
             clear A400
             simp only [Option.some.injEq, Prod.mk.injEq] at H
             obtain ⟨rfl, rfl⟩ := H
             obtain ⟨Ao41, co41, eo41⟩ := Kd.V_slice HO_7.out
             subst eo41
             go_wp2_with (first | ((with_reducible refine gate_callee (f := 177) rfl ?_); refine goesL_ (some 54) rfl rfl Try.func177 (by kernel_rfl) rfl #[.slice Ao41 x7_2.length co41] rfl lu ?_; (with_reducible refine (nat_Trim.calls k2 _ _ x7_2 t1483 _ ?side1 ?side2 A40.out).mono ?_); (case side1 => repeat (first | exact (Kd.V_reads' HO_7.out).2.2 | (with_reducible refine Kd.C_alloc ?_ _) | (with_reducible refine Kd.C_drewN ?_ _) | (with_reducible refine Kd.C_drew ?_))); (case side2 => exact (Kd.V_reads' HO_7.out).2.1); rintro e w42 ⟨v1484, rfl, ho0, hb⟩; refine ⟨_, rfl, ?_⟩; replace HO_7 := Aside0.mk (Kd.V_elder' (vu HO_7.out) (Kd.R_base ho0) hb); replace HO_8 := Aside0.mk (Kd.V_elder' (vu HO_8.out) (Kd.R_base ho0) hb); have HO1485 := Aside0.mk (Kd.R_lower ho0 (below_size (bu HB.out))); replace HB := Aside0.mk (below_step (bu HB.out) hb); (try clear hb); (try clear hb2); (try clear hk); (try clear hi); (try clear ho0)))
             go_ret2
             exact ⟨_, by first | rfl | (simp [errW_none, errW_some] <;> rfl) | (simp [*, errW_none, errW_some] <;> rfl), by (with_reducible repeat (first | apply Kd.R_alloc | apply Kd.R_drewN | apply Kd.R_drew)); exact HO1485.out, by repeat (first | (with_reducible first | exact HB.out | apply below_alloc | apply pw_below_drewN | apply below_drew1) | exact HB.out)⟩
           ·
            rw [if_neg c37] at H
            have c37b0 : ((x1_2 / 2) == 0) = false := beq_eq_false_iff_ne.mpr c37
            have c37b1 : ((x1_2 / 2) != 0) = true := bne_iff_ne.mpr c37
            replace H := Option.bind_eq_some_iff.mp H
            obtain ⟨t1486, A430, H⟩ := H
            replace H : (nat_Pow.l0 k2 (x1_2 / 2) x7_2 t1486) = some (r1, r2) := H
            have A43 := Aside0.mk A430
            clear A430
            have H' := Aside0.mk H
            clear H
            obtain ⟨Ao44, co44, eo44⟩ := Kd.V_slice HO_8.out
            subst eo44
            go_wp2_with (first | ((with_reducible refine gate_callee (f := 180) rfl ?_); refine goesL_ (some 49) rfl rfl Try.func180 (by kernel_rfl) rfl #[.slice Ao44 x8_2.length co44, .slice Ao44 x8_2.length co44] rfl lu ?_; (with_reducible refine (nat_times.calls k2 _ _ x8_2 _ _ x8_2 t1486 _ ?side1 ?side2 ?side3 ?side4 A43.out).mono ?_); (case side1 => repeat (first | exact (Kd.V_reads' HO_8.out).2.2 | (with_reducible refine Kd.C_alloc ?_ _) | (with_reducible refine Kd.C_drewN ?_ _) | (with_reducible refine Kd.C_drew ?_))); (case side2 => exact (Kd.V_reads' HO_8.out).2.1); (case side3 => repeat (first | exact (Kd.V_reads' HO_8.out).2.2 | (with_reducible refine Kd.C_alloc ?_ _) | (with_reducible refine Kd.C_drewN ?_ _) | (with_reducible refine Kd.C_drew ?_))); (case side4 => exact (Kd.V_reads' HO_8.out).2.1); rintro e w45 ⟨v1487, rfl, ho0, hb⟩; refine ⟨_, rfl, ?_⟩; replace HO_7 := Aside0.mk (Kd.V_below (vu HO_7.out) hb); replace HO_8 := Aside0.mk (Kd.V_below (vu HO_8.out) hb); have HO1488 := Aside0.mk (Kd.V_lower (Kd.V_mono (ok' := fun k_ => True) ho0 (fun k_ hk_ => trivial)) (below_size (bu HB.out))); replace HB := Aside0.mk (below_step (bu HB.out) hb); (try clear hb); (try clear hb2); (try clear hk); (try clear hi); (try clear ho0)))
            go_roundg k2
            case measure => have := HJ4.out; have := HK2.out; omega
            case rel => exact ⟨(x1_2 / 2), (x7_2), (t1486), (by first | rfl | (simp; done) | (simp [*]; done)), H', ⟨by have := HJ4.out; have := HK2.out; omega⟩, ⟨by (with_reducible repeat (first | apply Kd.V_alloc | apply Kd.V_drewN | apply Kd.V_drew)); exact HO_7.out⟩, ⟨by (with_reducible repeat (first | apply Kd.V_alloc | apply Kd.V_drewN | apply Kd.V_drew)); exact HO1488.out⟩, ⟨by repeat (first | (with_reducible first | exact HB.out | apply below_alloc | apply pw_below_drewN | apply below_drew1) | exact HB.out)⟩⟩
end Go.Proofs.Ytecfdemglbfnoaa.PT
end
section
namespace Go.Proofs.Ytecfdemglbfnoaa.PT
open Go.RowKit Go.Proofs.YtecfdemglbfnoaaW.PrintWords Go.Proofs.YtecfdemglbfnoaaW.PrintLast Go.Proofs.YtecfdemglbfnoaaW.PrintMore
attribute [local go_sem] max2_int min2_int max_two min_two max_three min_three max_four min_four   -- for this text's walks alone
set_option linter.unusedVariables false
set_option linter.unusedSimpArgs false
mutual
def rational_Pow.j0 : Nat → Int → Bool → List Int → List Int → Option (Bool × List Int × List Int × Int)
 | 0, _, _, _, _ => none
 | k + 1, x1, x1490000, x1490001, x1490002 => if x1 = (-9223372036854775808) then ((nat_Bits.f k x1490001).bind fun t1499 => (if t1499 = 1 then ((nat_Bits.f k x1490002).bind fun t1500 => (rational_Pow.j1 k (wrap64 (x1 + 1)) ((Int.tmod x1 2) != 0) (t1500 == 1) x1490000 x1490001 x1490002)) else (rational_Pow.j1 k (wrap64 (x1 + 1)) ((Int.tmod x1 2) != 0) false x1490000 x1490001 x1490002))) else (rational_Pow.j2 k x1 ((Int.tmod x1 2) != 0) x1490000 x1490001 x1490002)
def rational_Pow.j2 : Nat → Int → Bool → Bool → List Int → List Int → Option (Bool × List Int × List Int × Int)
 | 0, _, _, _, _, _ => none
 | k + 1, x1, x6, x1490000, x1490001, x1490002 => if x1 < 0 then (rational_Pow.j3 k (wrap64 (-x1)) x6 x1490000 x1490001 x1490002) else (rational_Pow.j3 k x1 x6 x1490000 x1490001 x1490002)
def rational_Pow.j3 : Nat → Int → Bool → Bool → List Int → List Int → Option (Bool × List Int × List Int × Int)
 | 0, _, _, _, _, _ => none
 | k + 1, x1, x6, x1490000, x1490001, x1490002 => (nat_Pow.f k x1490001 x1).bind fun bt1507 => (if bt1507.2 = 0 then ((nat_Pow.f k x1490002 x1).bind fun bt1511 => (if bt1511.2 = 0 then (if x1490000 = true then ((rational_canonical.f k x6 bt1507.1 bt1511.1).bind fun bt1515 => (some (bt1515.1, bt1515.2.1, bt1515.2.2, 0))) else ((rational_canonical.f k false bt1507.1 bt1511.1).bind fun bt1522 => (some (bt1522.1, bt1522.2.1, bt1522.2.2, 0)))) else (some (false, ([] : List Int), ([] : List Int), bt1511.2)))) else (some (false, ([] : List Int), ([] : List Int), bt1507.2)))
def rational_Pow.j1 : Nat → Int → Bool → Bool → Bool → List Int → List Int → Option (Bool × List Int × List Int × Int)
 | 0, _, _, _, _, _, _ => none
 | k + 1, x1, x6, x40, x1490000, x1490001, x1490002 => if x40 = true then ((rational_one.f).bind fun t1501 => ((rational_one.f).bind fun t1504 => (some (false, t1501, t1504, 0)))) else (rational_Pow.j2 k x1 x6 x1490000 x1490001 x1490002)
end
def rational_Pow.f (k : Nat) (a0_0 : Bool) (l0_1 : List Int) (l0_2 : List Int) (a1 : Int) : Option (Bool × List Int × List Int × Int) := (rational_Trim.f k a0_0 l0_1 l0_2).bind fun bt1491 => (if a1 < 0 then ((rational_Sign.f k bt1491.1 bt1491.2.1 bt1491.2.2).bind fun t1498 => (if t1498 = 0 then (some (false, ([] : List Int), ([] : List Int), 7)) else (rational_Pow.j0 k a1 bt1491.1 bt1491.2.2 bt1491.2.1))) else (rational_Pow.j0 k a1 bt1491.1 bt1491.2.1 bt1491.2.2))
set_option maxHeartbeats 8000000 in
set_option maxRecDepth 100000 in
theorem rational_Pow.calls (k : Nat) (a0_0 : Bool) (P0_1_ : Nat → Prop) (A0_1 : Option Addr) (c0_1 : Nat) (l0_1 : List Int) (P0_2_ : Nat → Prop) (A0_2 : Option Addr) (c0_2 : Nat) (l0_2 : List Int) (a1 : Int) (r1 : Bool) (r2 : List Int) (r3 : List Int) (r4 : Int) (w : World) (hs0_1 : Kd.V (Kd.int .u32) 48 w w.heap.size (fun k_ => P0_1_ k_) (.slice A0_1 l0_1.length c0_1) l0_1) (hs0_2 : Kd.V (Kd.int .u32) 48 w w.heap.size (fun k_ => P0_2_ k_) (.slice A0_2 l0_2.length c0_2) l0_2) (h : rational_Pow.f k a0_0 l0_1 l0_2 a1 = some (r1, r2, r3, r4)) :
 Calls Try.prog 96 #[.agg #[.bool a0_0, .slice A0_1 l0_1.length c0_1, .slice A0_2 l0_2.length c0_2], .int .i64 a1] w fun e w' => ∃ v1_ v2_ : Value, e = .returned (.tuple #[.agg #[.bool r1, v1_, v2_], .int .i64 r4]) ∧ Kd.V (Kd.int .u32) 48 w' w.heap.size (fun k_ => ((P0_1_ k_ ∨ P0_2_ k_) ∨ w.heap.size ≤ k_)) v1_ r2 ∧ Kd.V (Kd.int .u32) 48 w' w.heap.size (fun k_ => ((P0_1_ k_ ∨ P0_2_ k_) ∨ w.heap.size ≤ k_)) v2_ r3 ∧ Below w.heap.size w w' := by
 have hu67 := Try.underlying67
 have HO0_1 := Aside0.mk (show Kd.V (Kd.int .u32) 48 w w.heap.size (fun k_ => ((P0_1_ k_ ∨ P0_2_ k_) ∨ w.heap.size ≤ k_)) (.slice A0_1 l0_1.length c0_1) l0_1 from Kd.V_mono hs0_1 (fun k_ hk => .inl (.inl hk)))
 have HO0_2 := Aside0.mk (show Kd.V (Kd.int .u32) 48 w w.heap.size (fun k_ => ((P0_1_ k_ ∨ P0_2_ k_) ∨ w.heap.size ≤ k_)) (.slice A0_2 l0_2.length c0_2) l0_2 from Kd.V_mono hs0_2 (fun k_ hk => .inl (.inr hk)))
 have HB := Aside0.mk (Below.refl w.heap.size w)
 have H : ((rational_Trim.f k a0_0 l0_1 l0_2).bind fun bt1491 => (if a1 < 0 then ((rational_Sign.f k bt1491.1 bt1491.2.1 bt1491.2.2).bind fun t1498 => (if t1498 = 0 then (some (false, ([] : List Int), ([] : List Int), 7)) else (rational_Pow.j0 k a1 bt1491.1 bt1491.2.2 bt1491.2.1))) else (rational_Pow.j0 k a1 bt1491.1 bt1491.2.1 bt1491.2.2))) = some (r1, r2, r3, r4) := h
 clear h
 replace H := Option.bind_eq_some_iff.mp H
 obtain ⟨⟨t1491, t1492, t1495⟩, A30, H⟩ := H
 replace H : (if a1 < 0 then ((rational_Sign.f k t1491 t1492 t1495).bind fun t1498 => (if t1498 = 0 then (some (false, ([] : List Int), ([] : List Int), 7)) else (rational_Pow.j0 k a1 t1491 t1495 t1492))) else (rational_Pow.j0 k a1 t1491 t1492 t1495)) = some (r1, r2, r3, r4) := H
 have A3 := Aside0.mk A30
 clear A30
 have HC4 := Aside0.mk H
 clear H
 go_enter Try.func96, Try.ntmps96
 go_upto_if 13 with (first | ((with_reducible refine gate_dst (N := 2) rfl ?_); refine box_event ?hg (N := 2) ?hd (cs := #[.bool a0_0, .slice A0_1 l0_1.length c0_1, .slice A0_2 l0_2.length c0_2]) (t := 67) ?hr ?_; (case hd => rfl); (case hg => rfl); (case hr => first | (go_simp; done) | (go_simp; rfl)); intro gb1489 hg w5 hbox hb; replace HO0_1 := ke HO0_1 hg hb; replace HO0_2 := ke HO0_2 hg hb; have BK1489 := Aside0.mk (hbox); have GW1489 := ng hg (bu HB.out); have GE1489 := ng hg (bu HB.out); replace HB := Aside0.mk (below_step (bu HB.out) hb); clear hb hbox hg) | ((with_reducible refine gate_dst (N := 4) rfl ?_); refine box_event ?hg (N := 4) ?hd (cs := #[.bool false, .slice none 0 0, .slice none 0 0]) (t := 67) ?hr ?_; (case hd => rfl); (case hg => rfl); (case hr => first | (go_simp; done) | (go_simp; rfl)); intro gb1490 hg w6 hbox hb; replace HO0_1 := ke HO0_1 hg hb; replace HO0_2 := ke HO0_2 hg hb; have BK1490 := Aside0.mk (hbox); have GW1490 := ng hg (bu1 HB.out GE1489.out); have GE1490 := ng hg (bu1 HB.out GE1489.out); replace HB := Aside0.mk (below_step (bu1 HB.out GE1489.out) hb); have NB1489_1490 := nl hg BK1489; have NB1490_1489 := nr hg BK1489; replace BK1489 := kb BK1489 hb; clear hb hbox hg; have hnb7 := NB1489_1490.out; have hnc7 := NB1490_1489.out; have hcz8_0 : w6.cell? ⟨gb1489, 0, none⟩ = some (.bool a0_0) := bc BK1489 0; have hcz8_1 : w6.cell? ⟨gb1489, 1, none⟩ = some (.slice A0_1 l0_1.length c0_1) := bc BK1489 1; have hcz8_2 : w6.cell? ⟨gb1489, 2, none⟩ = some (.slice A0_2 l0_2.length c0_2) := bc BK1489 2; have hfz8_0 := blk_frozen BK1489.out 0; have hfz8_1 := blk_frozen BK1489.out 1; have hfz8_2 := blk_frozen BK1489.out 2) | ((with_reducible refine gate_callee (f := 87) rfl ?_); refine goesL_ (some 11) rfl rfl Try.func87 (by kernel_rfl) rfl #[.agg #[.bool a0_0, .slice A0_1 l0_1.length c0_1, .slice A0_2 l0_2.length c0_2]] rfl lu ?_; (with_reducible refine (rational_Trim.calls k a0_0 (fun k_ => ((((P0_1_ k_ ∨ P0_2_ k_) ∨ w.heap.size ≤ k_) ∧ k_ ≠ gb1489) ∧ k_ ≠ gb1490)) _ _ l0_1 (fun k_ => ((((P0_1_ k_ ∨ P0_2_ k_) ∨ w.heap.size ≤ k_) ∧ k_ ≠ gb1489) ∧ k_ ≠ gb1490)) _ _ l0_2 t1491 t1492 t1495 _ ?side1 ?side2 A3.out).mono ?_); (case side1 => exact HO0_1.out); (case side2 => exact HO0_2.out); rintro e w9 ⟨v1493, v1496, rfl, ho0, ho1, hb⟩; refine ⟨_, rfl, ?_⟩; replace HO0_1 := kv HO0_1 hb; replace HO0_2 := kv HO0_2 hb; have HO1494 := ar w.heap.size (ok' := fun k_ => ((P0_1_ k_ ∨ P0_2_ k_) ∨ w.heap.size ≤ k_) ∧ k_ ≠ gb1489 ∧ k_ ≠ gb1490) ho0 (fa (f0 (below_size (bu2 HB.out GE1489.out GE1490.out))) (fa (fb BK1489) (fb BK1490))); have HO1497 := ar w.heap.size (ok' := fun k_ => ((P0_1_ k_ ∨ P0_2_ k_) ∨ w.heap.size ≤ k_) ∧ k_ ≠ gb1489 ∧ k_ ≠ gb1490) ho1 (fa (f0 (below_size (bu2 HB.out GE1489.out GE1490.out))) (fa (fb BK1489) (fb BK1490))); replace BK1489 := kb BK1489 hb; replace BK1490 := kb BK1490 hb; replace HB := Aside0.mk (below_step (bu2 HB.out GE1489.out GE1490.out) hb); (try clear hb); (try clear hb2); (try clear hk); (try clear hi); (try clear ho0); (try clear ho1); have hcz10_0 : w9.cell? ⟨gb1489, 0, none⟩ = some (.bool a0_0) := bc BK1489 0; have hcz10_1 : w9.cell? ⟨gb1489, 1, none⟩ = some (.slice A0_1 l0_1.length c0_1) := bc BK1489 1; have hcz10_2 : w9.cell? ⟨gb1489, 2, none⟩ = some (.slice A0_2 l0_2.length c0_2) := bc BK1489 2; have hfz10_0 := blk_frozen BK1489.out 0; have hfz10_1 := blk_frozen BK1489.out 1; have hfz10_2 := blk_frozen BK1489.out 2; obtain ⟨Ao11, co11, eo11⟩ := Kd.V_slice HO1494.out; subst eo11; obtain ⟨Ao12, co12, eo12⟩ := Kd.V_slice HO1497.out; subst eo12))
 (try simp only [Act.put, List.setIfInBounds_toArray, List.set_cons_zero, List.set_cons_succ])
 go_cut [] (fun wc => ∃ (kq : Nat) (x1490001_3 : List Int) (x1490002_3 : List Int) (x1491000_3 : Bool) (u1490001 : Value) (u1490002 : Value), Aside0 (rational_Pow.j0 kq a1 t1491 x1490001_3 x1490002_3 = some (r1, r2, r3, r4)) ∧ Aside0 (kq ≤ k) ∧ Aside0 (Kd.V (Kd.int .u32) 48 wc w.heap.size (fun k_ => ((P0_1_ k_ ∨ P0_2_ k_) ∨ w.heap.size ≤ k_) ∧ k_ ≠ gb1489 ∧ k_ ≠ gb1490) u1490001 x1490001_3) ∧ Aside0 (Kd.V (Kd.int .u32) 48 wc w.heap.size (fun k_ => ((P0_1_ k_ ∨ P0_2_ k_) ∨ w.heap.size ≤ k_) ∧ k_ ≠ gb1489 ∧ k_ ≠ gb1490) u1490002 x1490002_3) ∧ Aside0 (wc.heap[gb1489]? = some (.cells #[.bool t1491, u1490001, u1490002] 67 (0, 0))) ∧ Aside0 (wc.heap[gb1490]? = some (.cells #[.bool x1491000_3, (.slice none 0 0), (.slice none 0 0)] 67 (0, 0))) ∧ Aside0 (Below w.heap.size w wc))
 case first =>
  have H := HC4.out
  clear HC4
  by_cases c13 : a1 < 0
  ·
   rw [if_pos c13] at H
   have c13b0 : decide (a1 < 0) = true := decide_eq_true c13
   clear c13
   (first | rw [c13b0] | rw [c13b1] | (simp only [i64_w, i32_w]; rw [c13b0]) | skip)
   replace H := Option.bind_eq_some_iff.mp H
   obtain ⟨t1498, A140, H⟩ := H
   replace H : (if t1498 = 0 then (some (false, ([] : List Int), ([] : List Int), 7)) else (rational_Pow.j0 k a1 t1491 t1495 t1492)) = some (r1, r2, r3, r4) := H
   have A14 := Aside0.mk A140
   clear A140
   by_cases c15 : t1498 = 0
   ·
    rw [if_pos c15] at H
    have c15b0 : (t1498 == 0) = true := beq_iff_eq.mpr c15
    have c15b1 : (t1498 != 0) = false := bne_eq_false_iff_eq.mpr c15
    clear c15
    simp only [Option.some.injEq, Prod.mk.injEq] at H
    obtain ⟨rfl, rfl, rfl, rfl⟩ := H
    have hnb16 := NB1489_1490.out
    have hnc16 := NB1490_1489.out
    have hcz17_0 : w9.cell? ⟨gb1489, 0, none⟩ = some (.bool a0_0) := bc BK1489 0
    have hcz17_1 : w9.cell? ⟨gb1489, 1, none⟩ = some (.slice A0_1 l0_1.length c0_1) := bc BK1489 1
    have hcz17_2 : w9.cell? ⟨gb1489, 2, none⟩ = some (.slice A0_2 l0_2.length c0_2) := bc BK1489 2
    have hfz17_0 := blk_frozen BK1489.out 0
    have hfz17_1 := blk_frozen BK1489.out 1
    have hfz17_2 := blk_frozen BK1489.out 2
    go_wp2_with (first | ((with_reducible refine gate_callee (f := 91) rfl ?_); refine goesL_ (some 15) rfl rfl Try.func91 (by kernel_rfl) rfl #[.agg #[.bool t1491, .slice Ao11 t1492.length co11, .slice Ao12 t1495.length co12]] rfl lu ?_; (with_reducible refine (rational_Sign.calls k t1491 _ _ t1492 _ _ t1495 t1498 _ ?side1 ?side2 ?side3 ?side4 A14.out).mono ?_); (case side1 => exact vr HO1494.out); (case side2 => exact (Kd.V_reads' HO1494.out).2.1); (case side3 => exact vr HO1497.out); (case side4 => exact (Kd.V_reads' HO1497.out).2.1); rintro e w18 ⟨rfl, hb⟩; refine ⟨_, rfl, ?_⟩; replace HO0_1 := Aside0.mk (Kd.V_below (by (with_reducible repeat (first | apply Kd.V_alloc | apply Kd.V_drewN | apply Kd.V_drew)); exact (Kd.V_mono (Kd.V_far (p := ⟨gb1489, 2, none⟩) (Kd.V_far (p := ⟨gb1489, 1, none⟩) (Kd.V_far (p := ⟨gb1489, 0, none⟩) (Kd.V_mono HO0_1.out (fun k_ hk => (⟨hk, hk.1.2⟩ : _ ∧ k_ ≠ gb1489))) (fun _ hk => hk.2) (.bool t1491)) (fun _ hk => hk.2) (.slice Ao11 t1492.length co11)) (fun _ hk => hk.2) (.slice Ao12 t1495.length co12)) (fun _ h_ => h_.1))) hb); replace HO0_2 := Aside0.mk (Kd.V_below (by (with_reducible repeat (first | apply Kd.V_alloc | apply Kd.V_drewN | apply Kd.V_drew)); exact (Kd.V_mono (Kd.V_far (p := ⟨gb1489, 2, none⟩) (Kd.V_far (p := ⟨gb1489, 1, none⟩) (Kd.V_far (p := ⟨gb1489, 0, none⟩) (Kd.V_mono HO0_2.out (fun k_ hk => (⟨hk, hk.1.2⟩ : _ ∧ k_ ≠ gb1489))) (fun _ hk => hk.2) (.bool t1491)) (fun _ hk => hk.2) (.slice Ao11 t1492.length co11)) (fun _ hk => hk.2) (.slice Ao12 t1495.length co12)) (fun _ h_ => h_.1))) hb); replace HO1494 := Aside0.mk (Kd.V_below (by (with_reducible repeat (first | apply Kd.V_alloc | apply Kd.V_drewN | apply Kd.V_drew)); exact (Kd.V_mono (Kd.V_far (p := ⟨gb1489, 2, none⟩) (Kd.V_far (p := ⟨gb1489, 1, none⟩) (Kd.V_far (p := ⟨gb1489, 0, none⟩) (Kd.V_mono HO1494.out (fun k_ hk => (⟨hk, hk.2.1⟩ : _ ∧ k_ ≠ gb1489))) (fun _ hk => hk.2) (.bool t1491)) (fun _ hk => hk.2) (.slice Ao11 t1492.length co11)) (fun _ hk => hk.2) (.slice Ao12 t1495.length co12)) (fun _ h_ => h_.1))) hb); replace HO1497 := Aside0.mk (Kd.V_below (by (with_reducible repeat (first | apply Kd.V_alloc | apply Kd.V_drewN | apply Kd.V_drew)); exact (Kd.V_mono (Kd.V_far (p := ⟨gb1489, 2, none⟩) (Kd.V_far (p := ⟨gb1489, 1, none⟩) (Kd.V_far (p := ⟨gb1489, 0, none⟩) (Kd.V_mono HO1497.out (fun k_ hk => (⟨hk, hk.2.1⟩ : _ ∧ k_ ≠ gb1489))) (fun _ hk => hk.2) (.bool t1491)) (fun _ hk => hk.2) (.slice Ao11 t1492.length co11)) (fun _ hk => hk.2) (.slice Ao12 t1495.length co12)) (fun _ h_ => h_.1))) hb); replace BK1489 := Aside0.mk (blk_below (g := gb1489) (o := .cells #[.bool t1491, .slice Ao11 t1492.length co11, .slice Ao12 t1495.length co12] 67 (0, 0)) (by (with_reducible repeat (first | refine blk_drewN ?_ _ | refine blk_drew ?_ | refine blk_alloc ?_ _)); refine blk_put (cs := #[.bool t1491, .slice Ao11 t1492.length co11, .slice A0_2 l0_2.length c0_2]) ?_ 2 _ rfl; (with_reducible repeat (first | refine blk_drewN ?_ _ | refine blk_drew ?_ | refine blk_alloc ?_ _)); refine blk_put (cs := #[.bool t1491, .slice A0_1 l0_1.length c0_1, .slice A0_2 l0_2.length c0_2]) ?_ 1 _ rfl; (with_reducible repeat (first | refine blk_drewN ?_ _ | refine blk_drew ?_ | refine blk_alloc ?_ _)); refine blk_put (cs := #[.bool a0_0, .slice A0_1 l0_1.length c0_1, .slice A0_2 l0_2.length c0_2]) ?_ 0 _ rfl; (with_reducible repeat (first | refine blk_drewN ?_ _ | refine blk_drew ?_ | refine blk_alloc ?_ _)); exact BK1489.out) hb); replace BK1490 := Aside0.mk (blk_below (g := gb1490) (o := .cells #[.bool false, .slice none 0 0, .slice none 0 0] 67 (0, 0)) (kf NB1490_1489.out BK1490.out) hb); replace HB := Aside0.mk (below_step (bu2 HB.out GE1489.out GE1490.out) hb); (try clear hb); (try clear hb2); (try clear hk); (try clear hi); have hcz19_0 : w18.cell? ⟨gb1490, 0, none⟩ = some (.bool false) := bc BK1490 0; have hcz19_1 : w18.cell? ⟨gb1490, 1, none⟩ = some (.slice none 0 0) := bc BK1490 1; have hcz19_2 : w18.cell? ⟨gb1490, 2, none⟩ = some (.slice none 0 0) := bc BK1490 2; have hfz19_0 := blk_frozen BK1490.out 0; have hfz19_1 := blk_frozen BK1490.out 1; have hfz19_2 := blk_frozen BK1490.out 2))
    refine bodyPost_ret (results_ct rfl _ _ gb1490 67 #[.bool false, .slice none 0 0, .slice none 0 0] (0, 0) _ rfl (by (with_reducible repeat (first | refine blk_drewN ?_ _ | refine blk_drew ?_ | refine blk_alloc ?_ _)); refine blk_put (cs := #[.bool false, .slice none 0 0, .slice none 0 0]) ?_ 2 _ rfl; (with_reducible repeat (first | refine blk_drewN ?_ _ | refine blk_drew ?_ | refine blk_alloc ?_ _)); refine blk_put (cs := #[.bool false, .slice none 0 0, .slice none 0 0]) ?_ 1 _ rfl; (with_reducible repeat (first | refine blk_drewN ?_ _ | refine blk_drew ?_ | refine blk_alloc ?_ _)); refine blk_put (cs := #[.bool false, .slice none 0 0, .slice none 0 0]) ?_ 0 _ rfl; (with_reducible repeat (first | refine blk_drewN ?_ _ | refine blk_drew ?_ | refine blk_alloc ?_ _)); exact BK1490.out) Try.underlying67 rfl (by kernel_rfl)) rfl ?_
    exact ⟨_, _, by first | rfl | (simp [errW_none, errW_some] <;> rfl) | (simp [*, errW_none, errW_some] <;> rfl), Kd.V_nil _ _ _ _ _, Kd.V_nil _ _ _ _ _, by repeat (first | (with_reducible first | exact HB.out | apply below_alloc | apply pw_below_drewN | apply below_drew1 | refine below_set ?_ GE1489.out | refine below_set ?_ GE1490.out) | exact HB.out)⟩
   ·
    rw [if_neg c15] at H
    have c15b0 : (t1498 == 0) = false := beq_eq_false_iff_ne.mpr c15
    have c15b1 : (t1498 != 0) = true := bne_iff_ne.mpr c15
    have H' := Aside0.mk H
    clear H
    have hnb20 := NB1489_1490.out
    have hnc20 := NB1490_1489.out
    have hcz21_0 : w9.cell? ⟨gb1489, 0, none⟩ = some (.bool a0_0) := bc BK1489 0
    have hcz21_1 : w9.cell? ⟨gb1489, 1, none⟩ = some (.slice A0_1 l0_1.length c0_1) := bc BK1489 1
    have hcz21_2 : w9.cell? ⟨gb1489, 2, none⟩ = some (.slice A0_2 l0_2.length c0_2) := bc BK1489 2
    have hfz21_0 := blk_frozen BK1489.out 0
    have hfz21_1 := blk_frozen BK1489.out 1
    have hfz21_2 := blk_frozen BK1489.out 2
    go_wp2_with (first | ((with_reducible refine gate_callee (f := 91) rfl ?_); refine goesL_ (some 15) rfl rfl Try.func91 (by kernel_rfl) rfl #[.agg #[.bool t1491, .slice Ao11 t1492.length co11, .slice Ao12 t1495.length co12]] rfl lu ?_; (with_reducible refine (rational_Sign.calls k t1491 _ _ t1492 _ _ t1495 t1498 _ ?side1 ?side2 ?side3 ?side4 A14.out).mono ?_); (case side1 => exact vr HO1494.out); (case side2 => exact (Kd.V_reads' HO1494.out).2.1); (case side3 => exact vr HO1497.out); (case side4 => exact (Kd.V_reads' HO1497.out).2.1); rintro e w22 ⟨rfl, hb⟩; refine ⟨_, rfl, ?_⟩; replace HO0_1 := Aside0.mk (Kd.V_below (by (with_reducible repeat (first | apply Kd.V_alloc | apply Kd.V_drewN | apply Kd.V_drew)); exact (Kd.V_mono (Kd.V_far (p := ⟨gb1489, 2, none⟩) (Kd.V_far (p := ⟨gb1489, 1, none⟩) (Kd.V_far (p := ⟨gb1489, 0, none⟩) (Kd.V_mono HO0_1.out (fun k_ hk => (⟨hk, hk.1.2⟩ : _ ∧ k_ ≠ gb1489))) (fun _ hk => hk.2) (.bool t1491)) (fun _ hk => hk.2) (.slice Ao11 t1492.length co11)) (fun _ hk => hk.2) (.slice Ao12 t1495.length co12)) (fun _ h_ => h_.1))) hb); replace HO0_2 := Aside0.mk (Kd.V_below (by (with_reducible repeat (first | apply Kd.V_alloc | apply Kd.V_drewN | apply Kd.V_drew)); exact (Kd.V_mono (Kd.V_far (p := ⟨gb1489, 2, none⟩) (Kd.V_far (p := ⟨gb1489, 1, none⟩) (Kd.V_far (p := ⟨gb1489, 0, none⟩) (Kd.V_mono HO0_2.out (fun k_ hk => (⟨hk, hk.1.2⟩ : _ ∧ k_ ≠ gb1489))) (fun _ hk => hk.2) (.bool t1491)) (fun _ hk => hk.2) (.slice Ao11 t1492.length co11)) (fun _ hk => hk.2) (.slice Ao12 t1495.length co12)) (fun _ h_ => h_.1))) hb); replace HO1494 := Aside0.mk (Kd.V_below (by (with_reducible repeat (first | apply Kd.V_alloc | apply Kd.V_drewN | apply Kd.V_drew)); exact (Kd.V_mono (Kd.V_far (p := ⟨gb1489, 2, none⟩) (Kd.V_far (p := ⟨gb1489, 1, none⟩) (Kd.V_far (p := ⟨gb1489, 0, none⟩) (Kd.V_mono HO1494.out (fun k_ hk => (⟨hk, hk.2.1⟩ : _ ∧ k_ ≠ gb1489))) (fun _ hk => hk.2) (.bool t1491)) (fun _ hk => hk.2) (.slice Ao11 t1492.length co11)) (fun _ hk => hk.2) (.slice Ao12 t1495.length co12)) (fun _ h_ => h_.1))) hb); replace HO1497 := Aside0.mk (Kd.V_below (by (with_reducible repeat (first | apply Kd.V_alloc | apply Kd.V_drewN | apply Kd.V_drew)); exact (Kd.V_mono (Kd.V_far (p := ⟨gb1489, 2, none⟩) (Kd.V_far (p := ⟨gb1489, 1, none⟩) (Kd.V_far (p := ⟨gb1489, 0, none⟩) (Kd.V_mono HO1497.out (fun k_ hk => (⟨hk, hk.2.1⟩ : _ ∧ k_ ≠ gb1489))) (fun _ hk => hk.2) (.bool t1491)) (fun _ hk => hk.2) (.slice Ao11 t1492.length co11)) (fun _ hk => hk.2) (.slice Ao12 t1495.length co12)) (fun _ h_ => h_.1))) hb); replace BK1489 := Aside0.mk (blk_below (g := gb1489) (o := .cells #[.bool t1491, .slice Ao11 t1492.length co11, .slice Ao12 t1495.length co12] 67 (0, 0)) (by (with_reducible repeat (first | refine blk_drewN ?_ _ | refine blk_drew ?_ | refine blk_alloc ?_ _)); refine blk_put (cs := #[.bool t1491, .slice Ao11 t1492.length co11, .slice A0_2 l0_2.length c0_2]) ?_ 2 _ rfl; (with_reducible repeat (first | refine blk_drewN ?_ _ | refine blk_drew ?_ | refine blk_alloc ?_ _)); refine blk_put (cs := #[.bool t1491, .slice A0_1 l0_1.length c0_1, .slice A0_2 l0_2.length c0_2]) ?_ 1 _ rfl; (with_reducible repeat (first | refine blk_drewN ?_ _ | refine blk_drew ?_ | refine blk_alloc ?_ _)); refine blk_put (cs := #[.bool a0_0, .slice A0_1 l0_1.length c0_1, .slice A0_2 l0_2.length c0_2]) ?_ 0 _ rfl; (with_reducible repeat (first | refine blk_drewN ?_ _ | refine blk_drew ?_ | refine blk_alloc ?_ _)); exact BK1489.out) hb); replace BK1490 := Aside0.mk (blk_below (g := gb1490) (o := .cells #[.bool false, .slice none 0 0, .slice none 0 0] 67 (0, 0)) (kf NB1490_1489.out BK1490.out) hb); replace HB := Aside0.mk (below_step (bu2 HB.out GE1489.out GE1490.out) hb); (try clear hb); (try clear hb2); (try clear hk); (try clear hi); have hcz23_0 : w22.cell? ⟨gb1489, 0, none⟩ = some (.bool t1491) := bc BK1489 0; have hcz23_1 : w22.cell? ⟨gb1489, 1, none⟩ = some (.slice Ao11 t1492.length co11) := bc BK1489 1; have hcz23_2 : w22.cell? ⟨gb1489, 2, none⟩ = some (.slice Ao12 t1495.length co12) := bc BK1489 2; have hfz23_0 := blk_frozen BK1489.out 0; have hfz23_1 := blk_frozen BK1489.out 1; have hfz23_2 := blk_frozen BK1489.out 2))
    go_meet
    case rel => exact ⟨_, (t1495), (t1492), (false), (.slice Ao12 t1495.length co12), (.slice Ao11 t1492.length co11), H', ⟨by first | omega | exact Nat.le_refl _⟩, ⟨by exact vf HO1497.out⟩, ⟨by exact vf HO1494.out⟩, ⟨by (with_reducible repeat (first | refine blk_drewN ?_ _ | refine blk_drew ?_ | refine blk_alloc ?_ _)); refine blk_put (cs := #[.bool t1491, .slice Ao12 t1495.length co12, .slice Ao12 t1495.length co12]) ?_ 2 _ rfl; (with_reducible repeat (first | refine blk_drewN ?_ _ | refine blk_drew ?_ | refine blk_alloc ?_ _)); refine blk_put (cs := #[.bool t1491, .slice Ao11 t1492.length co11, .slice Ao12 t1495.length co12]) ?_ 1 _ rfl; (with_reducible repeat (first | refine blk_drewN ?_ _ | refine blk_drew ?_ | refine blk_alloc ?_ _)); exact BK1489.out⟩, ⟨by (with_reducible repeat (first | refine blk_drewN ?_ _ | refine blk_drew ?_ | refine blk_alloc ?_ _)); refine blk_far ?_ NB1490_1489.out _; (with_reducible repeat (first | refine blk_drewN ?_ _ | refine blk_drew ?_ | refine blk_alloc ?_ _)); refine blk_far ?_ NB1490_1489.out _; (with_reducible repeat (first | refine blk_drewN ?_ _ | refine blk_drew ?_ | refine blk_alloc ?_ _)); exact BK1490.out⟩, ⟨by repeat (first | (with_reducible first | exact HB.out | apply below_alloc | apply pw_below_drewN | apply below_drew1 | refine below_set ?_ GE1489.out | refine below_set ?_ GE1490.out) | exact HB.out)⟩⟩
  ·
   rw [if_neg c13] at H
   have c13b0 : decide (a1 < 0) = false := decide_eq_false c13
   clear c13
   (first | rw [c13b0] | rw [c13b1] | (simp only [i64_w, i32_w]; rw [c13b0]) | skip)
   have H' := Aside0.mk H
   clear H
   go_wp2
   go_meet
   case rel => exact ⟨_, (t1492), (t1495), (false), (.slice Ao11 t1492.length co11), (.slice Ao12 t1495.length co12), H', ⟨by first | omega | exact Nat.le_refl _⟩, ⟨by exact vf HO1494.out⟩, ⟨by exact vf HO1497.out⟩, ⟨by (with_reducible repeat (first | refine blk_drewN ?_ _ | refine blk_drew ?_ | refine blk_alloc ?_ _)); refine blk_put (cs := #[.bool t1491, .slice Ao11 t1492.length co11, .slice A0_2 l0_2.length c0_2]) ?_ 2 _ rfl; (with_reducible repeat (first | refine blk_drewN ?_ _ | refine blk_drew ?_ | refine blk_alloc ?_ _)); refine blk_put (cs := #[.bool t1491, .slice A0_1 l0_1.length c0_1, .slice A0_2 l0_2.length c0_2]) ?_ 1 _ rfl; (with_reducible repeat (first | refine blk_drewN ?_ _ | refine blk_drew ?_ | refine blk_alloc ?_ _)); refine blk_put (cs := #[.bool a0_0, .slice A0_1 l0_1.length c0_1, .slice A0_2 l0_2.length c0_2]) ?_ 0 _ rfl; (with_reducible repeat (first | refine blk_drewN ?_ _ | refine blk_drew ?_ | refine blk_alloc ?_ _)); exact BK1489.out⟩, ⟨by (with_reducible repeat (first | refine blk_drewN ?_ _ | refine blk_drew ?_ | refine blk_alloc ?_ _)); refine blk_far ?_ NB1490_1489.out _; (with_reducible repeat (first | refine blk_drewN ?_ _ | refine blk_drew ?_ | refine blk_alloc ?_ _)); refine blk_far ?_ NB1490_1489.out _; (with_reducible repeat (first | refine blk_drewN ?_ _ | refine blk_drew ?_ | refine blk_alloc ?_ _)); refine blk_far ?_ NB1490_1489.out _; (with_reducible repeat (first | refine blk_drewN ?_ _ | refine blk_drew ?_ | refine blk_alloc ?_ _)); exact BK1490.out⟩, ⟨by repeat (first | (with_reducible first | exact HB.out | apply below_alloc | apply pw_below_drewN | apply below_drew1 | refine below_set ?_ GE1489.out | refine below_set ?_ GE1490.out) | exact HB.out)⟩⟩
 case rest =>
  clear HC4
  try clear c1
  try clear c2
  try clear p2
  try clear c7
  try clear c8
  try clear c9
  try clear c13
  try clear c13b0
  try clear c13b1
  try clear c15
  try clear c15b0
  try clear c15b1
  try clear c16
  try clear c20
  try clear hcz10_0
  try clear hcz10_1
  try clear hcz10_2
  try clear hcz17_0
  try clear hcz17_1
  try clear hcz17_2
  try clear hcz19_0
  try clear hcz19_1
  try clear hcz19_2
  try clear hcz21_0
  try clear hcz21_1
  try clear hcz21_2
  try clear hcz23_0
  try clear hcz23_1
  try clear hcz23_2
  try clear hcz8_0
  try clear hcz8_1
  try clear hcz8_2
  try clear hfz10_0
  try clear hfz10_1
  try clear hfz10_2
  try clear hfz17_0
  try clear hfz17_1
  try clear hfz17_2
  try clear hfz19_0
  try clear hfz19_1
  try clear hfz19_2
  try clear hfz21_0
  try clear hfz21_1
  try clear hfz21_2
  try clear hfz23_0
  try clear hfz23_1
  try clear hfz23_2
  try clear hfz8_0
  try clear hfz8_1
  try clear hfz8_2
  obtain ⟨kq, x1490001_3, x1490002_3, x1491000_3, u1490001, u1490002, HA, HJ3, HO_1490001, HO_1490002, BK1489, BK1490, HB⟩ := hcut
  cases kq with
  | zero => exact absurd HA.out (by simp [rational_Pow.j0])
  | succ kj3 =>
   have H := HA.out
   clear HA
   simp only [rational_Pow.j0] at H
   have HC24 := Aside0.mk H
   clear H
   go_upto_if 28 with (fail)
   go_cut [1] (fun v1 wc => ∃ (kq : Nat) (x1_23 : Int) (x1491000_23 : Bool), v1 = .int .i64 x1_23 ∧ Aside0 (rational_Pow.j2 kq x1_23 ((Int.tmod a1 2) != 0) t1491 x1490001_3 x1490002_3 = some (r1, r2, r3, r4)) ∧ Aside0 (kq ≤ kj3) ∧ Aside0 (Kd.V (Kd.int .u32) 48 wc w.heap.size (fun k_ => ((P0_1_ k_ ∨ P0_2_ k_) ∨ w.heap.size ≤ k_) ∧ k_ ≠ gb1489 ∧ k_ ≠ gb1490) u1490001 x1490001_3) ∧ Aside0 (Kd.V (Kd.int .u32) 48 wc w.heap.size (fun k_ => ((P0_1_ k_ ∨ P0_2_ k_) ∨ w.heap.size ≤ k_) ∧ k_ ≠ gb1489 ∧ k_ ≠ gb1490) u1490002 x1490002_3) ∧ Aside0 (wc.heap[gb1489]? = some (.cells #[.bool t1491, u1490001, u1490002] 67 (0, 0))) ∧ Aside0 (wc.heap[gb1490]? = some (.cells #[.bool x1491000_23, (.slice none 0 0), (.slice none 0 0)] 67 (0, 0))) ∧ Aside0 (Below w.heap.size w wc))
   case first =>
    have H := HC24.out
    clear HC24
    by_cases c25 : a1 = (-9223372036854775808)
    ·
     rw [if_pos c25] at H
     have c25b0 : (a1 == (-9223372036854775808)) = true := beq_iff_eq.mpr c25
     have c25b1 : (a1 != (-9223372036854775808)) = false := bne_eq_false_iff_eq.mpr c25
     clear c25
     (first | rw [c25b0] | rw [c25b1] | (simp only [i64_w, i32_w]; rw [c25b0]) | skip)
     have HC26 := Aside0.mk H
     clear H
     go_upto_region 9 with (fail)
     go_cut [40] (fun v40 wc => ∃ (kq : Nat) (x40_25 : Bool), v40 = .bool x40_25 ∧ Aside0 (rational_Pow.j1 kq (wrap64 (a1 + 1)) ((Int.tmod a1 2) != 0) x40_25 t1491 x1490001_3 x1490002_3 = some (r1, r2, r3, r4)) ∧ Aside0 (kq ≤ kj3) ∧ Aside0 (Kd.V (Kd.int .u32) 48 wc w.heap.size (fun k_ => ((P0_1_ k_ ∨ P0_2_ k_) ∨ w.heap.size ≤ k_) ∧ k_ ≠ gb1489 ∧ k_ ≠ gb1490) u1490001 x1490001_3) ∧ Aside0 (Kd.V (Kd.int .u32) 48 wc w.heap.size (fun k_ => ((P0_1_ k_ ∨ P0_2_ k_) ∨ w.heap.size ≤ k_) ∧ k_ ≠ gb1489 ∧ k_ ≠ gb1490) u1490002 x1490002_3) ∧ Aside0 (wc.heap[gb1489]? = some (.cells #[.bool t1491, u1490001, u1490002] 67 (0, 0))) ∧ Aside0 (wc.heap[gb1490]? = some (.cells #[.bool x1491000_3, (.slice none 0 0), (.slice none 0 0)] 67 (0, 0))) ∧ Aside0 (Below w.heap.size w wc))
     case first =>
      have H := HC26.out
      clear HC26
      replace H := Option.bind_eq_some_iff.mp H
      obtain ⟨t1499, A270, H⟩ := H
      replace H : (if t1499 = 1 then ((nat_Bits.f kj3 x1490002_3).bind fun t1500 => (rational_Pow.j1 kj3 (wrap64 (a1 + 1)) ((Int.tmod a1 2) != 0) (t1500 == 1) t1491 x1490001_3 x1490002_3)) else (rational_Pow.j1 kj3 (wrap64 (a1 + 1)) ((Int.tmod a1 2) != 0) false t1491 x1490001_3 x1490002_3)) = some (r1, r2, r3, r4) := H
      have A27 := Aside0.mk A270
      clear A270
      by_cases c28 : t1499 = 1
      ·
       rw [if_pos c28] at H
       have c28b0 : (t1499 == 1) = true := beq_iff_eq.mpr c28
       have c28b1 : (t1499 != 1) = false := bne_eq_false_iff_eq.mpr c28
       clear c28
       (first | rw [c28b0] | rw [c28b1] | (simp only [i64_w, i32_w]; rw [c28b0]) | skip)
       replace H := Option.bind_eq_some_iff.mp H
       obtain ⟨t1500, A290, H⟩ := H
       replace H : (rational_Pow.j1 kj3 (wrap64 (a1 + 1)) ((Int.tmod a1 2) != 0) (t1500 == 1) t1491 x1490001_3 x1490002_3) = some (r1, r2, r3, r4) := H
       have A29 := Aside0.mk A290
       clear A290
       have H' := Aside0.mk H
       clear H
       have hnb30 := NB1489_1490.out
       have hnc30 := NB1490_1489.out
       have hcz31_0 : wc.cell? ⟨gb1489, 0, none⟩ = some (.bool t1491) := bc BK1489 0
       have hcz31_1 : wc.cell? ⟨gb1489, 1, none⟩ = some (u1490001) := bc BK1489 1
       have hcz31_2 : wc.cell? ⟨gb1489, 2, none⟩ = some (u1490002) := bc BK1489 2
       have hfz31_0 := blk_frozen BK1489.out 0
       have hfz31_1 := blk_frozen BK1489.out 1
       have hfz31_2 := blk_frozen BK1489.out 2
       obtain ⟨Ao32, co32, eo32⟩ := Kd.V_slice HO_1490001.out
       subst eo32
       go_wp2_with (first | ((with_reducible refine gate_callee (f := 154) rfl ?_); refine goesL_ (some 33) rfl rfl Try.func154 (by kernel_rfl) rfl #[.slice Ao32 x1490001_3.length co32] rfl lu ?_; (with_reducible refine (nat_Bits.calls kj3 _ _ x1490001_3 t1499 _ ?side1 ?side2 A27.out).mono ?_); (case side1 => exact cu (Kd.V_reads' HO_1490001.out).2.2); (case side2 => exact (Kd.V_reads' HO_1490001.out).2.1); rintro e w33 ⟨rfl, hb⟩; refine ⟨_, rfl, ?_⟩; replace HO_1490001 := kv HO_1490001 hb; replace HO_1490002 := kv HO_1490002 hb; replace BK1489 := kb BK1489 hb; replace BK1490 := kb BK1490 hb; replace HB := Aside0.mk (below_step (bu2 HB.out GE1489.out GE1490.out) hb); (try clear hb); (try clear hb2); (try clear hk); (try clear hi); have hcz34_0 : w33.cell? ⟨gb1489, 0, none⟩ = some (.bool t1491) := bc BK1489 0; have hcz34_1 : w33.cell? ⟨gb1489, 1, none⟩ = some (.slice Ao32 x1490001_3.length co32) := bc BK1489 1; have hcz34_2 : w33.cell? ⟨gb1489, 2, none⟩ = some (u1490002) := bc BK1489 2; have hfz34_0 := blk_frozen BK1489.out 0; have hfz34_1 := blk_frozen BK1489.out 1; have hfz34_2 := blk_frozen BK1489.out 2; obtain ⟨Ao35, co35, eo35⟩ := Kd.V_slice HO_1490002.out; subst eo35) | (go_at_call 154; (with_reducible refine (nat_Bits.calls kj3 _ _ x1490002_3 t1500 _ ?side1 ?side2 A29.out).mono ?_); (case side1 => exact cu (Kd.V_reads' HO_1490002.out).2.2); (case side2 => exact (Kd.V_reads' HO_1490002.out).2.1); rintro e w36 ⟨rfl, hb⟩; replace HO_1490001 := kv HO_1490001 hb; replace HO_1490002 := kv HO_1490002 hb; replace BK1489 := kb BK1489 hb; replace BK1490 := kb BK1490 hb; replace HB := Aside0.mk (below_step (bu2 HB.out GE1489.out GE1490.out) hb); (try clear hb); (try clear hb2); (try clear hk); (try clear hi)))
       go_meet
       case rel => exact ⟨_, ((t1500 == 1)), (by first | rfl | (simp; done) | (simp [*]; done) | (cases t1500 <;> first | rfl | (simp; done))), H', ⟨by have := HJ3.out; first | omega | exact Nat.le_refl _⟩, ⟨by (with_reducible repeat (first | apply Kd.V_alloc | apply Kd.V_drewN | apply Kd.V_drew)); exact HO_1490001.out⟩, ⟨by (with_reducible repeat (first | apply Kd.V_alloc | apply Kd.V_drewN | apply Kd.V_drew)); exact HO_1490002.out⟩, ⟨by (with_reducible repeat (first | refine blk_drewN ?_ _ | refine blk_drew ?_ | refine blk_alloc ?_ _)); exact BK1489.out⟩, ⟨by (with_reducible repeat (first | refine blk_drewN ?_ _ | refine blk_drew ?_ | refine blk_alloc ?_ _)); exact BK1490.out⟩, ⟨by repeat (first | (with_reducible first | exact HB.out | apply below_alloc | apply pw_below_drewN | apply below_drew1 | refine below_set ?_ GE1489.out | refine below_set ?_ GE1490.out) | exact HB.out)⟩⟩
      ·
       rw [if_neg c28] at H
       have c28b0 : (t1499 == 1) = false := beq_eq_false_iff_ne.mpr c28
       have c28b1 : (t1499 != 1) = true := bne_iff_ne.mpr c28
       (first | rw [c28b0] | rw [c28b1] | (simp only [i64_w, i32_w]; rw [c28b0]) | skip)
       have H' := Aside0.mk H
       clear H
       have hnb37 := NB1489_1490.out
       have hnc37 := NB1490_1489.out
       have hcz38_0 : wc.cell? ⟨gb1489, 0, none⟩ = some (.bool t1491) := bc BK1489 0
       have hcz38_1 : wc.cell? ⟨gb1489, 1, none⟩ = some (u1490001) := bc BK1489 1
       have hcz38_2 : wc.cell? ⟨gb1489, 2, none⟩ = some (u1490002) := bc BK1489 2
       have hfz38_0 := blk_frozen BK1489.out 0
       have hfz38_1 := blk_frozen BK1489.out 1
       have hfz38_2 := blk_frozen BK1489.out 2
       obtain ⟨Ao39, co39, eo39⟩ := Kd.V_slice HO_1490001.out
       subst eo39
       go_wp2_with (first | ((with_reducible refine gate_callee (f := 154) rfl ?_); refine goesL_ (some 33) rfl rfl Try.func154 (by kernel_rfl) rfl #[.slice Ao39 x1490001_3.length co39] rfl lu ?_; (with_reducible refine (nat_Bits.calls kj3 _ _ x1490001_3 t1499 _ ?side1 ?side2 A27.out).mono ?_); (case side1 => exact cu (Kd.V_reads' HO_1490001.out).2.2); (case side2 => exact (Kd.V_reads' HO_1490001.out).2.1); rintro e w40 ⟨rfl, hb⟩; refine ⟨_, rfl, ?_⟩; replace HO_1490001 := kv HO_1490001 hb; replace HO_1490002 := kv HO_1490002 hb; replace BK1489 := kb BK1489 hb; replace BK1490 := kb BK1490 hb; replace HB := Aside0.mk (below_step (bu2 HB.out GE1489.out GE1490.out) hb); (try clear hb); (try clear hb2); (try clear hk); (try clear hi)))
       go_meet
       case rel => exact ⟨_, (false), (by first | rfl | (simp; done) | (simp [*]; done)), H', ⟨by have := HJ3.out; first | omega | exact Nat.le_refl _⟩, ⟨by (with_reducible repeat (first | apply Kd.V_alloc | apply Kd.V_drewN | apply Kd.V_drew)); exact HO_1490001.out⟩, ⟨by (with_reducible repeat (first | apply Kd.V_alloc | apply Kd.V_drewN | apply Kd.V_drew)); exact HO_1490002.out⟩, ⟨by (with_reducible repeat (first | refine blk_drewN ?_ _ | refine blk_drew ?_ | refine blk_alloc ?_ _)); exact BK1489.out⟩, ⟨by (with_reducible repeat (first | refine blk_drewN ?_ _ | refine blk_drew ?_ | refine blk_alloc ?_ _)); exact BK1490.out⟩, ⟨by repeat (first | (with_reducible first | exact HB.out | apply below_alloc | apply pw_below_drewN | apply below_drew1 | refine below_set ?_ GE1489.out | refine below_set ?_ GE1490.out) | exact HB.out)⟩⟩
     case rest =>
      clear HC26
      try clear c1
      try clear c2
      try clear p2
      try clear c3
      try clear p6
      try clear c7
      try clear c8
      try clear c9
      try clear c13
      try clear c13b0
      try clear c13b1
      try clear c15
      try clear c15b0
      try clear c15b1
      try clear c16
      try clear c20
      try clear c25
      try clear c25b0
      try clear c25b1
      try clear c28
      try clear c28b0
      try clear c28b1
      try clear c30
      try clear c37
      try clear hcz10_0
      try clear hcz10_1
      try clear hcz10_2
      try clear hcz17_0
      try clear hcz17_1
      try clear hcz17_2
      try clear hcz19_0
      try clear hcz19_1
      try clear hcz19_2
      try clear hcz21_0
      try clear hcz21_1
      try clear hcz21_2
      try clear hcz23_0
      try clear hcz23_1
      try clear hcz23_2
      try clear hcz31_0
      try clear hcz31_1
      try clear hcz31_2
      try clear hcz34_0
      try clear hcz34_1
      try clear hcz34_2
      try clear hcz38_0
      try clear hcz38_1
      try clear hcz38_2
      try clear hcz8_0
      try clear hcz8_1
      try clear hcz8_2
      try clear hfz10_0
      try clear hfz10_1
      try clear hfz10_2
      try clear hfz17_0
      try clear hfz17_1
      try clear hfz17_2
      try clear hfz19_0
      try clear hfz19_1
      try clear hfz19_2
      try clear hfz21_0
      try clear hfz21_1
      try clear hfz21_2
      try clear hfz23_0
      try clear hfz23_1
      try clear hfz23_2
      try clear hfz31_0
      try clear hfz31_1
      try clear hfz31_2
      try clear hfz34_0
      try clear hfz34_1
      try clear hfz34_2
      try clear hfz38_0
      try clear hfz38_1
      try clear hfz38_2
      try clear hfz8_0
      try clear hfz8_1
      try clear hfz8_2
      try clear p2
      obtain ⟨kq, x40_25, rfl, HA, HJ25, HO_1490001, HO_1490002, BK1489, BK1490, HB⟩ := hcut
      cases kq with
      | zero => exact absurd HA.out (by simp [rational_Pow.j1])
      | succ kj25 =>
       have H := HA.out
       clear HA
       simp only [rational_Pow.j1] at H
       by_cases c41 : x40_25 = true
       ·
        subst c41
        have H1 : ((rational_one.f).bind fun t1501 => ((rational_one.f).bind fun t1504 => (some (false, t1501, t1504, 0)))) = some (r1, r2, r3, r4) := by rw [if_pos rfl] at H; exact H
        clear H
        have H := H1
        clear H1
        replace H := Option.bind_eq_some_iff.mp H
        obtain ⟨t1501, A420, H⟩ := H
        replace H : ((rational_one.f).bind fun t1504 => (some (false, t1501, t1504, 0))) = some (r1, r2, r3, r4) := H
        have A42 := Aside0.mk A420
        clear A420
        replace H := Option.bind_eq_some_iff.mp H
        obtain ⟨t1504, A430, H⟩ := H
        replace H : (some (false, t1501, t1504, 0)) = some (r1, r2, r3, r4) := H
        have A43 := Aside0.mk A430
        clear A430
        simp only [Option.some.injEq, Prod.mk.injEq] at H
        obtain ⟨rfl, rfl, rfl, rfl⟩ := H
        go_wp2_with (first | ((with_reducible refine gate_callee (f := 161) rfl ?_); refine goesL_ (some 41) rfl rfl Try.func161 (by kernel_rfl) rfl #[] rfl lu ?_; (with_reducible refine (rational_one.calls  t1501 _ A42.out).mono ?_); rintro e w44 ⟨v1502, rfl, ho0, hb⟩; refine ⟨_, rfl, ?_⟩; replace ho0 := R_V_base rfl ho0; replace HO_1490001 := kv HO_1490001 hb; replace HO_1490002 := kv HO_1490002 hb; have HO1503 := ar0 w.heap.size (ok' := fun k_ => ((P0_1_ k_ ∨ P0_2_ k_) ∨ w.heap.size ≤ k_) ∧ k_ ≠ gb1489 ∧ k_ ≠ gb1490) ho0 (fa (f0 (below_size (bu2 HB.out GE1489.out GE1490.out))) (fa (fb BK1489) (fb BK1490))); replace BK1489 := kb BK1489 hb; replace BK1490 := kb BK1490 hb; replace HB := Aside0.mk (below_step (bu2 HB.out GE1489.out GE1490.out) hb); (try clear hb); (try clear hb2); (try clear hk); (try clear hi); (try clear ho0)) | ((with_reducible refine gate_callee (f := 161) rfl ?_); refine goesL_ (some 42) rfl rfl Try.func161 (by kernel_rfl) rfl #[] rfl lu ?_; (with_reducible refine (rational_one.calls  t1504 _ A43.out).mono ?_); rintro e w45 ⟨v1505, rfl, ho0, hb⟩; refine ⟨_, rfl, ?_⟩; replace ho0 := R_V_base rfl ho0; replace HO_1490001 := kv HO_1490001 hb; replace HO_1490002 := kv HO_1490002 hb; replace HO1503 := kv HO1503 hb; have HO1506 := ar0 w.heap.size (ok' := fun k_ => ((P0_1_ k_ ∨ P0_2_ k_) ∨ w.heap.size ≤ k_) ∧ k_ ≠ gb1489 ∧ k_ ≠ gb1490) ho0 (fa (f0 (below_size (bu2 HB.out GE1489.out GE1490.out))) (fa (fb BK1489) (fb BK1490))); replace BK1489 := kb BK1489 hb; replace BK1490 := kb BK1490 hb; replace HB := Aside0.mk (below_step (bu2 HB.out GE1489.out GE1490.out) hb); (try clear hb); (try clear hb2); (try clear hk); (try clear hi); (try clear ho0); obtain ⟨Ao46, co46, eo46⟩ := Kd.V_slice HO1506.out; subst eo46; obtain ⟨Ao47, co47, eo47⟩ := Kd.V_slice HO1503.out; subst eo47; have hnb48 := NB1490_1489.out; have hnc48 := NB1489_1490.out; have hcz49_0 : w45.cell? ⟨gb1490, 0, none⟩ = some (.bool x1491000_3) := bc BK1490 0; have hcz49_1 : w45.cell? ⟨gb1490, 1, none⟩ = some (.slice none 0 0) := bc BK1490 1; have hcz49_2 : w45.cell? ⟨gb1490, 2, none⟩ = some (.slice none 0 0) := bc BK1490 2; have hfz49_0 := blk_frozen BK1490.out 0; have hfz49_1 := blk_frozen BK1490.out 1; have hfz49_2 := blk_frozen BK1490.out 2))
        refine bodyPost_ret (results_ct rfl _ _ gb1490 67 #[.bool false, .slice Ao47 t1501.length co47, .slice Ao46 t1504.length co46] (0, 0) _ rfl (by (with_reducible repeat (first | refine blk_drewN ?_ _ | refine blk_drew ?_ | refine blk_alloc ?_ _)); refine blk_put (cs := #[.bool false, .slice Ao47 t1501.length co47, .slice none 0 0]) ?_ 2 _ rfl; (with_reducible repeat (first | refine blk_drewN ?_ _ | refine blk_drew ?_ | refine blk_alloc ?_ _)); refine blk_put (cs := #[.bool false, .slice none 0 0, .slice none 0 0]) ?_ 1 _ rfl; (with_reducible repeat (first | refine blk_drewN ?_ _ | refine blk_drew ?_ | refine blk_alloc ?_ _)); refine blk_put (cs := #[.bool x1491000_3, .slice none 0 0, .slice none 0 0]) ?_ 0 _ rfl; (with_reducible repeat (first | refine blk_drewN ?_ _ | refine blk_drew ?_ | refine blk_alloc ?_ _)); exact BK1490.out) Try.underlying67 rfl (by kernel_rfl)) rfl ?_
        exact ⟨_, _, by first | rfl | (simp [errW_none, errW_some] <;> rfl) | (simp [*, errW_none, errW_some] <;> rfl), by exact vf HO1503.out, by exact vf HO1506.out, by repeat (first | (with_reducible first | exact HB.out | apply below_alloc | apply pw_below_drewN | apply below_drew1 | refine below_set ?_ GE1489.out | refine below_set ?_ GE1490.out) | exact HB.out)⟩
       ·
        replace c41 := Bool.eq_false_iff.mpr c41
        subst c41
        have H1 : (rational_Pow.j2 kj25 (wrap64 (a1 + 1)) ((Int.tmod a1 2) != 0) t1491 x1490001_3 x1490002_3) = some (r1, r2, r3, r4) := by rw [if_neg (show ¬ (false = true) by decide)] at H; exact H
        clear H
        have H := H1
        clear H1
        have H' := Aside0.mk H
        clear H
        go_wp2
        go_meet
        case rel => exact ⟨_, ((wrap64 (a1 + 1))), (x1491000_3), (by first | rfl | (simp; done) | (simp [*]; done)), H', ⟨by have := HJ3.out; have := HJ25.out; first | omega | exact Nat.le_refl _⟩, ⟨by (with_reducible repeat (first | apply Kd.V_alloc | apply Kd.V_drewN | apply Kd.V_drew)); exact HO_1490001.out⟩, ⟨by (with_reducible repeat (first | apply Kd.V_alloc | apply Kd.V_drewN | apply Kd.V_drew)); exact HO_1490002.out⟩, ⟨by (with_reducible repeat (first | refine blk_drewN ?_ _ | refine blk_drew ?_ | refine blk_alloc ?_ _)); exact BK1489.out⟩, ⟨by (with_reducible repeat (first | refine blk_drewN ?_ _ | refine blk_drew ?_ | refine blk_alloc ?_ _)); exact BK1490.out⟩, ⟨by repeat (first | (with_reducible first | exact HB.out | apply below_alloc | apply pw_below_drewN | apply below_drew1 | refine below_set ?_ GE1489.out | refine below_set ?_ GE1490.out) | exact HB.out)⟩⟩
    ·
     rw [if_neg c25] at H
     have c25b0 : (a1 == (-9223372036854775808)) = false := beq_eq_false_iff_ne.mpr c25
     have c25b1 : (a1 != (-9223372036854775808)) = true := bne_iff_ne.mpr c25
     (first | rw [c25b0] | rw [c25b1] | (simp only [i64_w, i32_w]; rw [c25b0]) | skip)
     have H' := Aside0.mk H
     clear H
     go_wp2
     go_meet
     case rel => exact ⟨_, (a1), (x1491000_3), (by first | rfl | (simp; done) | (simp [*]; done)), H', ⟨by have := HJ3.out; first | omega | exact Nat.le_refl _⟩, ⟨by (with_reducible repeat (first | apply Kd.V_alloc | apply Kd.V_drewN | apply Kd.V_drew)); exact HO_1490001.out⟩, ⟨by (with_reducible repeat (first | apply Kd.V_alloc | apply Kd.V_drewN | apply Kd.V_drew)); exact HO_1490002.out⟩, ⟨by (with_reducible repeat (first | refine blk_drewN ?_ _ | refine blk_drew ?_ | refine blk_alloc ?_ _)); exact BK1489.out⟩, ⟨by (with_reducible repeat (first | refine blk_drewN ?_ _ | refine blk_drew ?_ | refine blk_alloc ?_ _)); exact BK1490.out⟩, ⟨by repeat (first | (with_reducible first | exact HB.out | apply below_alloc | apply pw_below_drewN | apply below_drew1 | refine below_set ?_ GE1489.out | refine below_set ?_ GE1490.out) | exact HB.out)⟩⟩
   case rest =>
    clear HC24
    try clear c1
    try clear c2
    try clear p2
    try clear c3
    try clear c4
    try clear p6
    try clear c7
    try clear c8
    try clear c9
    try clear c13
    try clear c13b0
    try clear c13b1
    try clear c15
    try clear c15b0
    try clear c15b1
    try clear c16
    try clear c20
    try clear c25
    try clear c25b0
    try clear c25b1
    try clear c28
    try clear c28b0
    try clear c28b1
    try clear c30
    try clear c37
    try clear c41
    try clear c48
    try clear hcz10_0
    try clear hcz10_1
    try clear hcz10_2
    try clear hcz17_0
    try clear hcz17_1
    try clear hcz17_2
    try clear hcz19_0
    try clear hcz19_1
    try clear hcz19_2
    try clear hcz21_0
    try clear hcz21_1
    try clear hcz21_2
    try clear hcz23_0
    try clear hcz23_1
    try clear hcz23_2
    try clear hcz31_0
    try clear hcz31_1
    try clear hcz31_2
    try clear hcz34_0
    try clear hcz34_1
    try clear hcz34_2
    try clear hcz38_0
    try clear hcz38_1
    try clear hcz38_2
    try clear hcz49_0
    try clear hcz49_1
    try clear hcz49_2
    try clear hcz8_0
    try clear hcz8_1
    try clear hcz8_2
    try clear hfz10_0
    try clear hfz10_1
    try clear hfz10_2
    try clear hfz17_0
    try clear hfz17_1
    try clear hfz17_2
    try clear hfz19_0
    try clear hfz19_1
    try clear hfz19_2
    try clear hfz21_0
    try clear hfz21_1
    try clear hfz21_2
    try clear hfz23_0
    try clear hfz23_1
    try clear hfz23_2
    try clear hfz31_0
    try clear hfz31_1
    try clear hfz31_2
    try clear hfz34_0
    try clear hfz34_1
    try clear hfz34_2
    try clear hfz38_0
    try clear hfz38_1
    try clear hfz38_2
    try clear hfz49_0
    try clear hfz49_1
    try clear hfz49_2
    try clear hfz8_0
    try clear hfz8_1
    try clear hfz8_2
    try clear p2
    try clear p6
    obtain ⟨kq, x1_23, x1491000_23, rfl, HA, HJ23, HO_1490001, HO_1490002, BK1489, BK1490, HB⟩ := hcut
    cases kq with
    | zero => exact absurd HA.out (by simp [rational_Pow.j2])
    | succ kj23 =>
     have H := HA.out
     clear HA
     simp only [rational_Pow.j2] at H
     have HC50 := Aside0.mk H
     clear H
     go_upto_if 45 with (fail)
     go_cut [1] (fun v1 wc => ∃ (kq : Nat) (x1_49 : Int), v1 = .int .i64 x1_49 ∧ Aside0 (rational_Pow.j3 kq x1_49 ((Int.tmod a1 2) != 0) t1491 x1490001_3 x1490002_3 = some (r1, r2, r3, r4)) ∧ Aside0 (kq ≤ kj23) ∧ Aside0 (Kd.V (Kd.int .u32) 48 wc w.heap.size (fun k_ => ((P0_1_ k_ ∨ P0_2_ k_) ∨ w.heap.size ≤ k_) ∧ k_ ≠ gb1489 ∧ k_ ≠ gb1490) u1490001 x1490001_3) ∧ Aside0 (Kd.V (Kd.int .u32) 48 wc w.heap.size (fun k_ => ((P0_1_ k_ ∨ P0_2_ k_) ∨ w.heap.size ≤ k_) ∧ k_ ≠ gb1489 ∧ k_ ≠ gb1490) u1490002 x1490002_3) ∧ Aside0 (wc.heap[gb1489]? = some (.cells #[.bool t1491, u1490001, u1490002] 67 (0, 0))) ∧ Aside0 (wc.heap[gb1490]? = some (.cells #[.bool x1491000_23, (.slice none 0 0), (.slice none 0 0)] 67 (0, 0))) ∧ Aside0 (Below w.heap.size w wc))
     case first =>
      have H := HC50.out
      clear HC50
      by_cases c51 : x1_23 < 0
      ·
       rw [if_pos c51] at H
       have c51b0 : decide (x1_23 < 0) = true := decide_eq_true c51
       clear c51
       (first | rw [c51b0] | rw [c51b1] | (simp only [i64_w, i32_w]; rw [c51b0]) | skip)
       have H' := Aside0.mk H
       clear H
       go_wp2
       go_meet
       case rel => exact ⟨_, (wrap64 (-x1_23)), (by first | rfl | (simp; done) | (simp [*]; done)), H', ⟨by have := HJ3.out; have := HJ23.out; first | omega | exact Nat.le_refl _⟩, ⟨by (with_reducible repeat (first | apply Kd.V_alloc | apply Kd.V_drewN | apply Kd.V_drew)); exact HO_1490001.out⟩, ⟨by (with_reducible repeat (first | apply Kd.V_alloc | apply Kd.V_drewN | apply Kd.V_drew)); exact HO_1490002.out⟩, ⟨by (with_reducible repeat (first | refine blk_drewN ?_ _ | refine blk_drew ?_ | refine blk_alloc ?_ _)); exact BK1489.out⟩, ⟨by (with_reducible repeat (first | refine blk_drewN ?_ _ | refine blk_drew ?_ | refine blk_alloc ?_ _)); exact BK1490.out⟩, ⟨by repeat (first | (with_reducible first | exact HB.out | apply below_alloc | apply pw_below_drewN | apply below_drew1 | refine below_set ?_ GE1489.out | refine below_set ?_ GE1490.out) | exact HB.out)⟩⟩
      ·
       rw [if_neg c51] at H
       have c51b0 : decide (x1_23 < 0) = false := decide_eq_false c51
       clear c51
       (first | rw [c51b0] | rw [c51b1] | (simp only [i64_w, i32_w]; rw [c51b0]) | skip)
       have H' := Aside0.mk H
       clear H
       go_wp2
       go_meet
       case rel => exact ⟨_, (x1_23), (by first | rfl | (simp; done) | (simp [*]; done)), H', ⟨by have := HJ3.out; have := HJ23.out; first | omega | exact Nat.le_refl _⟩, ⟨by (with_reducible repeat (first | apply Kd.V_alloc | apply Kd.V_drewN | apply Kd.V_drew)); exact HO_1490001.out⟩, ⟨by (with_reducible repeat (first | apply Kd.V_alloc | apply Kd.V_drewN | apply Kd.V_drew)); exact HO_1490002.out⟩, ⟨by (with_reducible repeat (first | refine blk_drewN ?_ _ | refine blk_drew ?_ | refine blk_alloc ?_ _)); exact BK1489.out⟩, ⟨by (with_reducible repeat (first | refine blk_drewN ?_ _ | refine blk_drew ?_ | refine blk_alloc ?_ _)); exact BK1490.out⟩, ⟨by repeat (first | (with_reducible first | exact HB.out | apply below_alloc | apply pw_below_drewN | apply below_drew1 | refine below_set ?_ GE1489.out | refine below_set ?_ GE1490.out) | exact HB.out)⟩⟩
     case rest =>
      clear HC50
      try clear c1
      try clear c2
      try clear p2
      try clear c3
      try clear c4
      try clear c5
      try clear p6
      try clear c7
      try clear c8
      try clear c9
      try clear c13
      try clear c13b0
      try clear c13b1
      try clear c15
      try clear c15b0
      try clear c15b1
      try clear c16
      try clear c20
      try clear c25
      try clear c25b0
      try clear c25b1
      try clear c28
      try clear c28b0
      try clear c28b1
      try clear c30
      try clear c37
      try clear c41
      try clear c48
      try clear c51
      try clear c51b0
      try clear c51b1
      try clear hcz10_0
      try clear hcz10_1
      try clear hcz10_2
      try clear hcz17_0
      try clear hcz17_1
      try clear hcz17_2
      try clear hcz19_0
      try clear hcz19_1
      try clear hcz19_2
      try clear hcz21_0
      try clear hcz21_1
      try clear hcz21_2
      try clear hcz23_0
      try clear hcz23_1
      try clear hcz23_2
      try clear hcz31_0
      try clear hcz31_1
      try clear hcz31_2
      try clear hcz34_0
      try clear hcz34_1
      try clear hcz34_2
      try clear hcz38_0
      try clear hcz38_1
      try clear hcz38_2
      try clear hcz49_0
      try clear hcz49_1
      try clear hcz49_2
      try clear hcz8_0
      try clear hcz8_1
      try clear hcz8_2
      try clear hfz10_0
      try clear hfz10_1
      try clear hfz10_2
      try clear hfz17_0
      try clear hfz17_1
      try clear hfz17_2
      try clear hfz19_0
      try clear hfz19_1
      try clear hfz19_2
      try clear hfz21_0
      try clear hfz21_1
      try clear hfz21_2
      try clear hfz23_0
      try clear hfz23_1
      try clear hfz23_2
      try clear hfz31_0
      try clear hfz31_1
      try clear hfz31_2
      try clear hfz34_0
      try clear hfz34_1
      try clear hfz34_2
      try clear hfz38_0
      try clear hfz38_1
      try clear hfz38_2
      try clear hfz49_0
      try clear hfz49_1
      try clear hfz49_2
      try clear hfz8_0
      try clear hfz8_1
      try clear hfz8_2
      try clear p2
      try clear p6
      obtain ⟨kq, x1_49, rfl, HA, HJ49, HO_1490001, HO_1490002, BK1489, BK1490, HB⟩ := hcut
      cases kq with
      | zero => exact absurd HA.out (by simp [rational_Pow.j3])
      | succ kj49 =>
       have H := HA.out
       clear HA
       simp only [rational_Pow.j3] at H
       replace H := Option.bind_eq_some_iff.mp H
       obtain ⟨⟨t1507, t1510⟩, A520, H⟩ := H
       replace H : (if t1510 = 0 then ((nat_Pow.f kj49 x1490002_3 x1_49).bind fun bt1511 => (if bt1511.2 = 0 then (if t1491 = true then ((rational_canonical.f kj49 ((Int.tmod a1 2) != 0) t1507 bt1511.1).bind fun bt1515 => (some (bt1515.1, bt1515.2.1, bt1515.2.2, 0))) else ((rational_canonical.f kj49 false t1507 bt1511.1).bind fun bt1522 => (some (bt1522.1, bt1522.2.1, bt1522.2.2, 0)))) else (some (false, ([] : List Int), ([] : List Int), bt1511.2)))) else (some (false, ([] : List Int), ([] : List Int), t1510))) = some (r1, r2, r3, r4) := H
       have A52 := Aside0.mk A520
       clear A520
       by_cases c53 : t1510 = 0
       ·
        rw [if_pos c53] at H
        have c53b0 : (t1510 == 0) = true := beq_iff_eq.mpr c53
        have c53b1 : (t1510 != 0) = false := bne_eq_false_iff_eq.mpr c53
        clear c53
        replace H := Option.bind_eq_some_iff.mp H
        obtain ⟨⟨t1511, t1514⟩, A540, H⟩ := H
        replace H : (if t1514 = 0 then (if t1491 = true then ((rational_canonical.f kj49 ((Int.tmod a1 2) != 0) t1507 t1511).bind fun bt1515 => (some (bt1515.1, bt1515.2.1, bt1515.2.2, 0))) else ((rational_canonical.f kj49 false t1507 t1511).bind fun bt1522 => (some (bt1522.1, bt1522.2.1, bt1522.2.2, 0)))) else (some (false, ([] : List Int), ([] : List Int), t1514))) = some (r1, r2, r3, r4) := H
        have A54 := Aside0.mk A540
        clear A540
        by_cases c55 : t1514 = 0
        ·
         rw [if_pos c55] at H
         have c55b0 : (t1514 == 0) = true := beq_iff_eq.mpr c55
         have c55b1 : (t1514 != 0) = false := bne_eq_false_iff_eq.mpr c55
         clear c55
         by_cases c56 : t1491 = true
         ·
          subst c56
          have H1 : ((rational_canonical.f kj49 ((Int.tmod a1 2) != 0) t1507 t1511).bind fun bt1515 => (some (bt1515.1, bt1515.2.1, bt1515.2.2, 0))) = some (r1, r2, r3, r4) := by rw [if_pos rfl] at H; exact H
          clear H
          have H := H1
          clear H1
          replace H := Option.bind_eq_some_iff.mp H
          obtain ⟨⟨t1515, t1516, t1519⟩, A570, H⟩ := H
          replace H : (some (t1515, t1516, t1519, 0)) = some (r1, r2, r3, r4) := H
          have A57 := Aside0.mk A570
          clear A570
          simp only [Option.some.injEq, Prod.mk.injEq] at H
          obtain ⟨rfl, rfl, rfl, rfl⟩ := H
          have hnb58 := NB1489_1490.out
          have hnc58 := NB1490_1489.out
          have hcz59_0 : wc.cell? ⟨gb1489, 0, none⟩ = some (.bool true) := bc BK1489 0
          have hcz59_1 : wc.cell? ⟨gb1489, 1, none⟩ = some (u1490001) := bc BK1489 1
          have hcz59_2 : wc.cell? ⟨gb1489, 2, none⟩ = some (u1490002) := bc BK1489 2
          have hfz59_0 := blk_frozen BK1489.out 0
          have hfz59_1 := blk_frozen BK1489.out 1
          have hfz59_2 := blk_frozen BK1489.out 2
          obtain ⟨Ao60, co60, eo60⟩ := Kd.V_slice HO_1490001.out
          subst eo60
          go_wp2_with (first | ((with_reducible refine gate_callee (f := 162) rfl ?_); refine goesL_ (some 52) rfl rfl Try.func162 (by kernel_rfl) rfl #[.slice Ao60 x1490001_3.length co60, .int .i64 x1_49] rfl lu ?_; (with_reducible refine (nat_Pow.calls kj49 _ _ x1490001_3 x1_49 t1507 t1510 _ ?side1 ?side2 A52.out).mono ?_); (case side1 => exact cu (Kd.V_reads' HO_1490001.out).2.2); (case side2 => exact (Kd.V_reads' HO_1490001.out).2.1); rintro e w61 ⟨v1508, rfl, ho0, hb⟩; refine ⟨_, rfl, ?_⟩; replace ho0 := R_V_base rfl ho0; replace HO_1490001 := kv HO_1490001 hb; replace HO_1490002 := kv HO_1490002 hb; have HO1509 := ar0 w.heap.size (ok' := fun k_ => ((P0_1_ k_ ∨ P0_2_ k_) ∨ w.heap.size ≤ k_) ∧ k_ ≠ gb1489 ∧ k_ ≠ gb1490) ho0 (fa (f0 (below_size (bu2 HB.out GE1489.out GE1490.out))) (fa (fb BK1489) (fb BK1490))); replace BK1489 := kb BK1489 hb; replace BK1490 := kb BK1490 hb; replace HB := Aside0.mk (below_step (bu2 HB.out GE1489.out GE1490.out) hb); (try clear hb); (try clear hb2); (try clear hk); (try clear hi); (try clear ho0); have hcz62_0 : w61.cell? ⟨gb1489, 0, none⟩ = some (.bool true) := bc BK1489 0; have hcz62_1 : w61.cell? ⟨gb1489, 1, none⟩ = some (.slice Ao60 x1490001_3.length co60) := bc BK1489 1; have hcz62_2 : w61.cell? ⟨gb1489, 2, none⟩ = some (u1490002) := bc BK1489 2; have hfz62_0 := blk_frozen BK1489.out 0; have hfz62_1 := blk_frozen BK1489.out 1; have hfz62_2 := blk_frozen BK1489.out 2; obtain ⟨Ao63, co63, eo63⟩ := Kd.V_slice HO_1490002.out; subst eo63) | ((with_reducible refine gate_callee (f := 162) rfl ?_); refine goesL_ (some 63) rfl rfl Try.func162 (by kernel_rfl) rfl #[.slice Ao63 x1490002_3.length co63, .int .i64 x1_49] rfl lu ?_; (with_reducible refine (nat_Pow.calls kj49 _ _ x1490002_3 x1_49 t1511 t1514 _ ?side1 ?side2 A54.out).mono ?_); (case side1 => exact cu (Kd.V_reads' HO_1490002.out).2.2); (case side2 => exact (Kd.V_reads' HO_1490002.out).2.1); rintro e w64 ⟨v1512, rfl, ho0, hb⟩; refine ⟨_, rfl, ?_⟩; replace ho0 := R_V_base rfl ho0; replace HO_1490001 := kv HO_1490001 hb; replace HO_1490002 := kv HO_1490002 hb; replace HO1509 := kv HO1509 hb; have HO1513 := ar0 w.heap.size (ok' := fun k_ => ((P0_1_ k_ ∨ P0_2_ k_) ∨ w.heap.size ≤ k_) ∧ k_ ≠ gb1489 ∧ k_ ≠ gb1490) ho0 (fa (f0 (below_size (bu2 HB.out GE1489.out GE1490.out))) (fa (fb BK1489) (fb BK1490))); replace BK1489 := kb BK1489 hb; replace BK1490 := kb BK1490 hb; replace HB := Aside0.mk (below_step (bu2 HB.out GE1489.out GE1490.out) hb); (try clear hb); (try clear hb2); (try clear hk); (try clear hi); (try clear ho0); have hcz65_0 : w64.cell? ⟨gb1489, 0, none⟩ = some (.bool true) := bc BK1489 0; have hcz65_1 : w64.cell? ⟨gb1489, 1, none⟩ = some (.slice Ao60 x1490001_3.length co60) := bc BK1489 1; have hcz65_2 : w64.cell? ⟨gb1489, 2, none⟩ = some (.slice Ao63 x1490002_3.length co63) := bc BK1489 2; have hfz65_0 := blk_frozen BK1489.out 0; have hfz65_1 := blk_frozen BK1489.out 1; have hfz65_2 := blk_frozen BK1489.out 2; obtain ⟨Ao66, co66, eo66⟩ := Kd.V_slice HO1509.out; subst eo66; obtain ⟨Ao67, co67, eo67⟩ := Kd.V_slice HO1513.out; subst eo67) | ((with_reducible refine gate_callee (f := 155) rfl ?_); refine goesL_ (some 77) rfl rfl Try.func155 (by kernel_rfl) rfl #[.bool ((Int.tmod a1 2) != 0), .slice Ao66 t1507.length co66, .slice Ao67 t1511.length co67] rfl lu ?_; (with_reducible refine (rational_canonical.calls kj49 ((Int.tmod a1 2) != 0) (fun k_ => (((P0_1_ k_ ∨ P0_2_ k_) ∨ w.heap.size ≤ k_) ∧ (k_ ≠ gb1489 ∧ k_ ≠ gb1490))) _ _ t1507 (fun k_ => (((P0_1_ k_ ∨ P0_2_ k_) ∨ w.heap.size ≤ k_) ∧ (k_ ≠ gb1489 ∧ k_ ≠ gb1490))) _ _ t1511 t1515 t1516 t1519 _ ?side1 ?side2 A57.out).mono ?_); (case side1 => exact HO1509.out); (case side2 => exact HO1513.out); rintro e w68 ⟨v1517, v1520, rfl, ho0, ho1, hb⟩; refine ⟨_, rfl, ?_⟩; replace HO_1490001 := kv HO_1490001 hb; replace HO_1490002 := kv HO_1490002 hb; replace HO1509 := kv HO1509 hb; replace HO1513 := kv HO1513 hb; have HO1518 := ar w.heap.size (ok' := fun k_ => ((P0_1_ k_ ∨ P0_2_ k_) ∨ w.heap.size ≤ k_) ∧ k_ ≠ gb1489 ∧ k_ ≠ gb1490) ho0 (fa (f0 (below_size (bu2 HB.out GE1489.out GE1490.out))) (fa (fb BK1489) (fb BK1490))); have HO1521 := ar w.heap.size (ok' := fun k_ => ((P0_1_ k_ ∨ P0_2_ k_) ∨ w.heap.size ≤ k_) ∧ k_ ≠ gb1489 ∧ k_ ≠ gb1490) ho1 (fa (f0 (below_size (bu2 HB.out GE1489.out GE1490.out))) (fa (fb BK1489) (fb BK1490))); replace BK1489 := kb BK1489 hb; replace BK1490 := kb BK1490 hb; replace HB := Aside0.mk (below_step (bu2 HB.out GE1489.out GE1490.out) hb); (try clear hb); (try clear hb2); (try clear hk); (try clear hi); (try clear ho0); (try clear ho1); have hcz69_0 : w68.cell? ⟨gb1490, 0, none⟩ = some (.bool x1491000_23) := bc BK1490 0; have hcz69_1 : w68.cell? ⟨gb1490, 1, none⟩ = some (.slice none 0 0) := bc BK1490 1; have hcz69_2 : w68.cell? ⟨gb1490, 2, none⟩ = some (.slice none 0 0) := bc BK1490 2; have hfz69_0 := blk_frozen BK1490.out 0; have hfz69_1 := blk_frozen BK1490.out 1; have hfz69_2 := blk_frozen BK1490.out 2; obtain ⟨Ao70, co70, eo70⟩ := Kd.V_slice HO1518.out; subst eo70; obtain ⟨Ao71, co71, eo71⟩ := Kd.V_slice HO1521.out; subst eo71))
          refine bodyPost_ret (results_ct rfl _ _ gb1490 67 #[.bool t1515, .slice Ao70 t1516.length co70, .slice Ao71 t1519.length co71] (0, 0) _ rfl (by (with_reducible repeat (first | refine blk_drewN ?_ _ | refine blk_drew ?_ | refine blk_alloc ?_ _)); refine blk_put (cs := #[.bool t1515, .slice Ao70 t1516.length co70, .slice none 0 0]) ?_ 2 _ rfl; (with_reducible repeat (first | refine blk_drewN ?_ _ | refine blk_drew ?_ | refine blk_alloc ?_ _)); refine blk_put (cs := #[.bool t1515, .slice none 0 0, .slice none 0 0]) ?_ 1 _ rfl; (with_reducible repeat (first | refine blk_drewN ?_ _ | refine blk_drew ?_ | refine blk_alloc ?_ _)); refine blk_put (cs := #[.bool x1491000_23, .slice none 0 0, .slice none 0 0]) ?_ 0 _ rfl; (with_reducible repeat (first | refine blk_drewN ?_ _ | refine blk_drew ?_ | refine blk_alloc ?_ _)); exact BK1490.out) Try.underlying67 rfl (by kernel_rfl)) rfl ?_
          exact ⟨_, _, by first | rfl | (simp [errW_none, errW_some] <;> rfl) | (simp [*, errW_none, errW_some] <;> rfl), by exact vf HO1518.out, by exact vf HO1521.out, by repeat (first | (with_reducible first | exact HB.out | apply below_alloc | apply pw_below_drewN | apply below_drew1 | refine below_set ?_ GE1489.out | refine below_set ?_ GE1490.out) | exact HB.out)⟩
         ·
          replace c56 := Bool.eq_false_iff.mpr c56
          subst c56
          have H1 : ((rational_canonical.f kj49 false t1507 t1511).bind fun bt1522 => (some (bt1522.1, bt1522.2.1, bt1522.2.2, 0))) = some (r1, r2, r3, r4) := by rw [if_neg (show ¬ (false = true) by decide)] at H; exact H
          clear H
          have H := H1
          clear H1
          replace H := Option.bind_eq_some_iff.mp H
          obtain ⟨⟨t1522, t1523, t1526⟩, A720, H⟩ := H
          replace H : (some (t1522, t1523, t1526, 0)) = some (r1, r2, r3, r4) := H
          have A72 := Aside0.mk A720
          clear A720
          simp only [Option.some.injEq, Prod.mk.injEq] at H
          obtain ⟨rfl, rfl, rfl, rfl⟩ := H
          have hnb73 := NB1489_1490.out
          have hnc73 := NB1490_1489.out
          have hcz74_0 : wc.cell? ⟨gb1489, 0, none⟩ = some (.bool false) := bc BK1489 0
          have hcz74_1 : wc.cell? ⟨gb1489, 1, none⟩ = some (u1490001) := bc BK1489 1
          have hcz74_2 : wc.cell? ⟨gb1489, 2, none⟩ = some (u1490002) := bc BK1489 2
          have hfz74_0 := blk_frozen BK1489.out 0
          have hfz74_1 := blk_frozen BK1489.out 1
          have hfz74_2 := blk_frozen BK1489.out 2
          obtain ⟨Ao75, co75, eo75⟩ := Kd.V_slice HO_1490001.out
          subst eo75
          go_wp2_with (first | ((with_reducible refine gate_callee (f := 162) rfl ?_); refine goesL_ (some 52) rfl rfl Try.func162 (by kernel_rfl) rfl #[.slice Ao75 x1490001_3.length co75, .int .i64 x1_49] rfl lu ?_; (with_reducible refine (nat_Pow.calls kj49 _ _ x1490001_3 x1_49 t1507 t1510 _ ?side1 ?side2 A52.out).mono ?_); (case side1 => exact cu (Kd.V_reads' HO_1490001.out).2.2); (case side2 => exact (Kd.V_reads' HO_1490001.out).2.1); rintro e w76 ⟨v1508, rfl, ho0, hb⟩; refine ⟨_, rfl, ?_⟩; replace ho0 := R_V_base rfl ho0; replace HO_1490001 := kv HO_1490001 hb; replace HO_1490002 := kv HO_1490002 hb; have HO1509 := ar0 w.heap.size (ok' := fun k_ => ((P0_1_ k_ ∨ P0_2_ k_) ∨ w.heap.size ≤ k_) ∧ k_ ≠ gb1489 ∧ k_ ≠ gb1490) ho0 (fa (f0 (below_size (bu2 HB.out GE1489.out GE1490.out))) (fa (fb BK1489) (fb BK1490))); replace BK1489 := kb BK1489 hb; replace BK1490 := kb BK1490 hb; replace HB := Aside0.mk (below_step (bu2 HB.out GE1489.out GE1490.out) hb); (try clear hb); (try clear hb2); (try clear hk); (try clear hi); (try clear ho0); have hcz77_0 : w76.cell? ⟨gb1489, 0, none⟩ = some (.bool false) := bc BK1489 0; have hcz77_1 : w76.cell? ⟨gb1489, 1, none⟩ = some (.slice Ao75 x1490001_3.length co75) := bc BK1489 1; have hcz77_2 : w76.cell? ⟨gb1489, 2, none⟩ = some (u1490002) := bc BK1489 2; have hfz77_0 := blk_frozen BK1489.out 0; have hfz77_1 := blk_frozen BK1489.out 1; have hfz77_2 := blk_frozen BK1489.out 2; obtain ⟨Ao78, co78, eo78⟩ := Kd.V_slice HO_1490002.out; subst eo78) | ((with_reducible refine gate_callee (f := 162) rfl ?_); refine goesL_ (some 63) rfl rfl Try.func162 (by kernel_rfl) rfl #[.slice Ao78 x1490002_3.length co78, .int .i64 x1_49] rfl lu ?_; (with_reducible refine (nat_Pow.calls kj49 _ _ x1490002_3 x1_49 t1511 t1514 _ ?side1 ?side2 A54.out).mono ?_); (case side1 => exact cu (Kd.V_reads' HO_1490002.out).2.2); (case side2 => exact (Kd.V_reads' HO_1490002.out).2.1); rintro e w79 ⟨v1512, rfl, ho0, hb⟩; refine ⟨_, rfl, ?_⟩; replace ho0 := R_V_base rfl ho0; replace HO_1490001 := kv HO_1490001 hb; replace HO_1490002 := kv HO_1490002 hb; replace HO1509 := kv HO1509 hb; have HO1513 := ar0 w.heap.size (ok' := fun k_ => ((P0_1_ k_ ∨ P0_2_ k_) ∨ w.heap.size ≤ k_) ∧ k_ ≠ gb1489 ∧ k_ ≠ gb1490) ho0 (fa (f0 (below_size (bu2 HB.out GE1489.out GE1490.out))) (fa (fb BK1489) (fb BK1490))); replace BK1489 := kb BK1489 hb; replace BK1490 := kb BK1490 hb; replace HB := Aside0.mk (below_step (bu2 HB.out GE1489.out GE1490.out) hb); (try clear hb); (try clear hb2); (try clear hk); (try clear hi); (try clear ho0); have hcz80_0 : w79.cell? ⟨gb1489, 0, none⟩ = some (.bool false) := bc BK1489 0; have hcz80_1 : w79.cell? ⟨gb1489, 1, none⟩ = some (.slice Ao75 x1490001_3.length co75) := bc BK1489 1; have hcz80_2 : w79.cell? ⟨gb1489, 2, none⟩ = some (.slice Ao78 x1490002_3.length co78) := bc BK1489 2; have hfz80_0 := blk_frozen BK1489.out 0; have hfz80_1 := blk_frozen BK1489.out 1; have hfz80_2 := blk_frozen BK1489.out 2; obtain ⟨Ao81, co81, eo81⟩ := Kd.V_slice HO1509.out; subst eo81; obtain ⟨Ao82, co82, eo82⟩ := Kd.V_slice HO1513.out; subst eo82) | ((with_reducible refine gate_callee (f := 155) rfl ?_); refine goesL_ (some 77) rfl rfl Try.func155 (by kernel_rfl) rfl #[.bool false, .slice Ao81 t1507.length co81, .slice Ao82 t1511.length co82] rfl lu ?_; (with_reducible refine (rational_canonical.calls kj49 false (fun k_ => (((P0_1_ k_ ∨ P0_2_ k_) ∨ w.heap.size ≤ k_) ∧ (k_ ≠ gb1489 ∧ k_ ≠ gb1490))) _ _ t1507 (fun k_ => (((P0_1_ k_ ∨ P0_2_ k_) ∨ w.heap.size ≤ k_) ∧ (k_ ≠ gb1489 ∧ k_ ≠ gb1490))) _ _ t1511 t1522 t1523 t1526 _ ?side1 ?side2 A72.out).mono ?_); (case side1 => exact HO1509.out); (case side2 => exact HO1513.out); rintro e w83 ⟨v1524, v1527, rfl, ho0, ho1, hb⟩; refine ⟨_, rfl, ?_⟩; replace HO_1490001 := kv HO_1490001 hb; replace HO_1490002 := kv HO_1490002 hb; replace HO1509 := kv HO1509 hb; replace HO1513 := kv HO1513 hb; have HO1525 := ar w.heap.size (ok' := fun k_ => ((P0_1_ k_ ∨ P0_2_ k_) ∨ w.heap.size ≤ k_) ∧ k_ ≠ gb1489 ∧ k_ ≠ gb1490) ho0 (fa (f0 (below_size (bu2 HB.out GE1489.out GE1490.out))) (fa (fb BK1489) (fb BK1490))); have HO1528 := ar w.heap.size (ok' := fun k_ => ((P0_1_ k_ ∨ P0_2_ k_) ∨ w.heap.size ≤ k_) ∧ k_ ≠ gb1489 ∧ k_ ≠ gb1490) ho1 (fa (f0 (below_size (bu2 HB.out GE1489.out GE1490.out))) (fa (fb BK1489) (fb BK1490))); replace BK1489 := kb BK1489 hb; replace BK1490 := kb BK1490 hb; replace HB := Aside0.mk (below_step (bu2 HB.out GE1489.out GE1490.out) hb); (try clear hb); (try clear hb2); (try clear hk); (try clear hi); (try clear ho0); (try clear ho1); have hcz84_0 : w83.cell? ⟨gb1490, 0, none⟩ = some (.bool x1491000_23) := bc BK1490 0; have hcz84_1 : w83.cell? ⟨gb1490, 1, none⟩ = some (.slice none 0 0) := bc BK1490 1; have hcz84_2 : w83.cell? ⟨gb1490, 2, none⟩ = some (.slice none 0 0) := bc BK1490 2; have hfz84_0 := blk_frozen BK1490.out 0; have hfz84_1 := blk_frozen BK1490.out 1; have hfz84_2 := blk_frozen BK1490.out 2; obtain ⟨Ao85, co85, eo85⟩ := Kd.V_slice HO1525.out; subst eo85; obtain ⟨Ao86, co86, eo86⟩ := Kd.V_slice HO1528.out; subst eo86))
          refine bodyPost_ret (results_ct rfl _ _ gb1490 67 #[.bool t1522, .slice Ao85 t1523.length co85, .slice Ao86 t1526.length co86] (0, 0) _ rfl (by (with_reducible repeat (first | refine blk_drewN ?_ _ | refine blk_drew ?_ | refine blk_alloc ?_ _)); refine blk_put (cs := #[.bool t1522, .slice Ao85 t1523.length co85, .slice none 0 0]) ?_ 2 _ rfl; (with_reducible repeat (first | refine blk_drewN ?_ _ | refine blk_drew ?_ | refine blk_alloc ?_ _)); refine blk_put (cs := #[.bool t1522, .slice none 0 0, .slice none 0 0]) ?_ 1 _ rfl; (with_reducible repeat (first | refine blk_drewN ?_ _ | refine blk_drew ?_ | refine blk_alloc ?_ _)); refine blk_put (cs := #[.bool x1491000_23, .slice none 0 0, .slice none 0 0]) ?_ 0 _ rfl; (with_reducible repeat (first | refine blk_drewN ?_ _ | refine blk_drew ?_ | refine blk_alloc ?_ _)); exact BK1490.out) Try.underlying67 rfl (by kernel_rfl)) rfl ?_
          exact ⟨_, _, by first | rfl | (simp [errW_none, errW_some] <;> rfl) | (simp [*, errW_none, errW_some] <;> rfl), by exact vf HO1525.out, by exact vf HO1528.out, by repeat (first | (with_reducible first | exact HB.out | apply below_alloc | apply pw_below_drewN | apply below_drew1 | refine below_set ?_ GE1489.out | refine below_set ?_ GE1490.out) | exact HB.out)⟩
        ·
         rw [if_neg c55] at H
         have c55b0 : (t1514 == 0) = false := beq_eq_false_iff_ne.mpr c55
         have c55b1 : (t1514 != 0) = true := bne_iff_ne.mpr c55
         simp only [Option.some.injEq, Prod.mk.injEq] at H
         obtain ⟨rfl, rfl, rfl, rfl⟩ := H
         have hnb87 := NB1489_1490.out
         have hnc87 := NB1490_1489.out
         have hcz88_0 : wc.cell? ⟨gb1489, 0, none⟩ = some (.bool t1491) := bc BK1489 0
         have hcz88_1 : wc.cell? ⟨gb1489, 1, none⟩ = some (u1490001) := bc BK1489 1
         have hcz88_2 : wc.cell? ⟨gb1489, 2, none⟩ = some (u1490002) := bc BK1489 2
         have hfz88_0 := blk_frozen BK1489.out 0
         have hfz88_1 := blk_frozen BK1489.out 1
         have hfz88_2 := blk_frozen BK1489.out 2
         obtain ⟨Ao89, co89, eo89⟩ := Kd.V_slice HO_1490001.out
         subst eo89
         go_wp2_with (first | ((with_reducible refine gate_callee (f := 162) rfl ?_); refine goesL_ (some 52) rfl rfl Try.func162 (by kernel_rfl) rfl #[.slice Ao89 x1490001_3.length co89, .int .i64 x1_49] rfl lu ?_; (with_reducible refine (nat_Pow.calls kj49 _ _ x1490001_3 x1_49 t1507 t1510 _ ?side1 ?side2 A52.out).mono ?_); (case side1 => exact cu (Kd.V_reads' HO_1490001.out).2.2); (case side2 => exact (Kd.V_reads' HO_1490001.out).2.1); rintro e w90 ⟨v1508, rfl, ho0, hb⟩; refine ⟨_, rfl, ?_⟩; replace ho0 := R_V_base rfl ho0; replace HO_1490001 := kv HO_1490001 hb; replace HO_1490002 := kv HO_1490002 hb; have HO1509 := ar0 w.heap.size (ok' := fun k_ => ((P0_1_ k_ ∨ P0_2_ k_) ∨ w.heap.size ≤ k_) ∧ k_ ≠ gb1489 ∧ k_ ≠ gb1490) ho0 (fa (f0 (below_size (bu2 HB.out GE1489.out GE1490.out))) (fa (fb BK1489) (fb BK1490))); replace BK1489 := kb BK1489 hb; replace BK1490 := kb BK1490 hb; replace HB := Aside0.mk (below_step (bu2 HB.out GE1489.out GE1490.out) hb); (try clear hb); (try clear hb2); (try clear hk); (try clear hi); (try clear ho0); have hcz91_0 : w90.cell? ⟨gb1489, 0, none⟩ = some (.bool t1491) := bc BK1489 0; have hcz91_1 : w90.cell? ⟨gb1489, 1, none⟩ = some (.slice Ao89 x1490001_3.length co89) := bc BK1489 1; have hcz91_2 : w90.cell? ⟨gb1489, 2, none⟩ = some (u1490002) := bc BK1489 2; have hfz91_0 := blk_frozen BK1489.out 0; have hfz91_1 := blk_frozen BK1489.out 1; have hfz91_2 := blk_frozen BK1489.out 2; obtain ⟨Ao92, co92, eo92⟩ := Kd.V_slice HO_1490002.out; subst eo92) | ((with_reducible refine gate_callee (f := 162) rfl ?_); refine goesL_ (some 63) rfl rfl Try.func162 (by kernel_rfl) rfl #[.slice Ao92 x1490002_3.length co92, .int .i64 x1_49] rfl lu ?_; (with_reducible refine (nat_Pow.calls kj49 _ _ x1490002_3 x1_49 t1511 t1514 _ ?side1 ?side2 A54.out).mono ?_); (case side1 => exact cu (Kd.V_reads' HO_1490002.out).2.2); (case side2 => exact (Kd.V_reads' HO_1490002.out).2.1); rintro e w93 ⟨v1512, rfl, ho0, hb⟩; refine ⟨_, rfl, ?_⟩; replace ho0 := R_V_base rfl ho0; replace HO_1490001 := kv HO_1490001 hb; replace HO_1490002 := kv HO_1490002 hb; replace HO1509 := kv HO1509 hb; have HO1513 := ar0 w.heap.size (ok' := fun k_ => ((P0_1_ k_ ∨ P0_2_ k_) ∨ w.heap.size ≤ k_) ∧ k_ ≠ gb1489 ∧ k_ ≠ gb1490) ho0 (fa (f0 (below_size (bu2 HB.out GE1489.out GE1490.out))) (fa (fb BK1489) (fb BK1490))); replace BK1489 := kb BK1489 hb; replace BK1490 := kb BK1490 hb; replace HB := Aside0.mk (below_step (bu2 HB.out GE1489.out GE1490.out) hb); (try clear hb); (try clear hb2); (try clear hk); (try clear hi); (try clear ho0); have hcz94_0 : w93.cell? ⟨gb1490, 0, none⟩ = some (.bool x1491000_23) := bc BK1490 0; have hcz94_1 : w93.cell? ⟨gb1490, 1, none⟩ = some (.slice none 0 0) := bc BK1490 1; have hcz94_2 : w93.cell? ⟨gb1490, 2, none⟩ = some (.slice none 0 0) := bc BK1490 2; have hfz94_0 := blk_frozen BK1490.out 0; have hfz94_1 := blk_frozen BK1490.out 1; have hfz94_2 := blk_frozen BK1490.out 2))
         refine bodyPost_ret (results_ct rfl _ _ gb1490 67 #[.bool false, .slice none 0 0, .slice none 0 0] (0, 0) _ rfl (by (with_reducible repeat (first | refine blk_drewN ?_ _ | refine blk_drew ?_ | refine blk_alloc ?_ _)); refine blk_put (cs := #[.bool false, .slice none 0 0, .slice none 0 0]) ?_ 2 _ rfl; (with_reducible repeat (first | refine blk_drewN ?_ _ | refine blk_drew ?_ | refine blk_alloc ?_ _)); refine blk_put (cs := #[.bool false, .slice none 0 0, .slice none 0 0]) ?_ 1 _ rfl; (with_reducible repeat (first | refine blk_drewN ?_ _ | refine blk_drew ?_ | refine blk_alloc ?_ _)); refine blk_put (cs := #[.bool x1491000_23, .slice none 0 0, .slice none 0 0]) ?_ 0 _ rfl; (with_reducible repeat (first | refine blk_drewN ?_ _ | refine blk_drew ?_ | refine blk_alloc ?_ _)); exact BK1490.out) Try.underlying67 rfl (by kernel_rfl)) rfl ?_
         exact ⟨_, _, by first | rfl | (simp [errW_none, errW_some] <;> rfl) | (simp [*, errW_none, errW_some] <;> rfl), Kd.V_nil _ _ _ _ _, Kd.V_nil _ _ _ _ _, by repeat (first | (with_reducible first | exact HB.out | apply below_alloc | apply pw_below_drewN | apply below_drew1 | refine below_set ?_ GE1489.out | refine below_set ?_ GE1490.out) | exact HB.out)⟩
       ·
        rw [if_neg c53] at H
        have c53b0 : (t1510 == 0) = false := beq_eq_false_iff_ne.mpr c53
        have c53b1 : (t1510 != 0) = true := bne_iff_ne.mpr c53
        simp only [Option.some.injEq, Prod.mk.injEq] at H
        obtain ⟨rfl, rfl, rfl, rfl⟩ := H
        have hnb95 := NB1489_1490.out
        have hnc95 := NB1490_1489.out
        have hcz96_0 : wc.cell? ⟨gb1489, 0, none⟩ = some (.bool t1491) := bc BK1489 0
        have hcz96_1 : wc.cell? ⟨gb1489, 1, none⟩ = some (u1490001) := bc BK1489 1
        have hcz96_2 : wc.cell? ⟨gb1489, 2, none⟩ = some (u1490002) := bc BK1489 2
        have hfz96_0 := blk_frozen BK1489.out 0
        have hfz96_1 := blk_frozen BK1489.out 1
        have hfz96_2 := blk_frozen BK1489.out 2
        obtain ⟨Ao97, co97, eo97⟩ := Kd.V_slice HO_1490001.out
        subst eo97
        go_wp2_with (first | ((with_reducible refine gate_callee (f := 162) rfl ?_); refine goesL_ (some 52) rfl rfl Try.func162 (by kernel_rfl) rfl #[.slice Ao97 x1490001_3.length co97, .int .i64 x1_49] rfl lu ?_; (with_reducible refine (nat_Pow.calls kj49 _ _ x1490001_3 x1_49 t1507 t1510 _ ?side1 ?side2 A52.out).mono ?_); (case side1 => exact cu (Kd.V_reads' HO_1490001.out).2.2); (case side2 => exact (Kd.V_reads' HO_1490001.out).2.1); rintro e w98 ⟨v1508, rfl, ho0, hb⟩; refine ⟨_, rfl, ?_⟩; replace ho0 := R_V_base rfl ho0; replace HO_1490001 := kv HO_1490001 hb; replace HO_1490002 := kv HO_1490002 hb; have HO1509 := ar0 w.heap.size (ok' := fun k_ => ((P0_1_ k_ ∨ P0_2_ k_) ∨ w.heap.size ≤ k_) ∧ k_ ≠ gb1489 ∧ k_ ≠ gb1490) ho0 (fa (f0 (below_size (bu2 HB.out GE1489.out GE1490.out))) (fa (fb BK1489) (fb BK1490))); replace BK1489 := kb BK1489 hb; replace BK1490 := kb BK1490 hb; replace HB := Aside0.mk (below_step (bu2 HB.out GE1489.out GE1490.out) hb); (try clear hb); (try clear hb2); (try clear hk); (try clear hi); (try clear ho0); have hcz99_0 : w98.cell? ⟨gb1490, 0, none⟩ = some (.bool x1491000_23) := bc BK1490 0; have hcz99_1 : w98.cell? ⟨gb1490, 1, none⟩ = some (.slice none 0 0) := bc BK1490 1; have hcz99_2 : w98.cell? ⟨gb1490, 2, none⟩ = some (.slice none 0 0) := bc BK1490 2; have hfz99_0 := blk_frozen BK1490.out 0; have hfz99_1 := blk_frozen BK1490.out 1; have hfz99_2 := blk_frozen BK1490.out 2))
        refine bodyPost_ret (results_ct rfl _ _ gb1490 67 #[.bool false, .slice none 0 0, .slice none 0 0] (0, 0) _ rfl (by (with_reducible repeat (first | refine blk_drewN ?_ _ | refine blk_drew ?_ | refine blk_alloc ?_ _)); refine blk_put (cs := #[.bool false, .slice none 0 0, .slice none 0 0]) ?_ 2 _ rfl; (with_reducible repeat (first | refine blk_drewN ?_ _ | refine blk_drew ?_ | refine blk_alloc ?_ _)); refine blk_put (cs := #[.bool false, .slice none 0 0, .slice none 0 0]) ?_ 1 _ rfl; (with_reducible repeat (first | refine blk_drewN ?_ _ | refine blk_drew ?_ | refine blk_alloc ?_ _)); refine blk_put (cs := #[.bool x1491000_23, .slice none 0 0, .slice none 0 0]) ?_ 0 _ rfl; (with_reducible repeat (first | refine blk_drewN ?_ _ | refine blk_drew ?_ | refine blk_alloc ?_ _)); exact BK1490.out) Try.underlying67 rfl (by kernel_rfl)) rfl ?_
        exact ⟨_, _, by first | rfl | (simp [errW_none, errW_some] <;> rfl) | (simp [*, errW_none, errW_some] <;> rfl), Kd.V_nil _ _ _ _ _, Kd.V_nil _ _ _ _ _, by repeat (first | (with_reducible first | exact HB.out | apply below_alloc | apply pw_below_drewN | apply below_drew1 | refine below_set ?_ GE1489.out | refine below_set ?_ GE1490.out) | exact HB.out)⟩
end Go.Proofs.Ytecfdemglbfnoaa.PT
end
section
namespace Go.Proofs.Ytecfdemglbfnoaa.PT
open Go.RowKit Go.Proofs.YtecfdemglbfnoaaW.PrintWords Go.Proofs.YtecfdemglbfnoaaW.PrintLast Go.Proofs.YtecfdemglbfnoaaW.PrintMore
attribute [local go_sem] max2_int min2_int max_two min_two max_three min_three max_four min_four   -- for this text's walks alone
set_option linter.unusedVariables false
set_option linter.unusedSimpArgs false
def codewrightref01_Zero.f (k : Nat) (l0 : List Int) : Option (Bool) := (codewrightref01_Trim.f k l0).bind fun t538 => (some ((t538.length : Int) == 0))
set_option maxHeartbeats 8000000 in
set_option maxRecDepth 100000 in
theorem codewrightref01_Zero.calls (k : Nat) (A0 : Option Addr) (c0 : Nat) (l0 : List Int) (r : Bool) (w : World) (hr0 : Kd.C (Kd.int .u32) w A0 l0.length l0) (hc0 : l0.length ≤ c0) (h : codewrightref01_Zero.f k l0 = some r) :
 Calls Try.prog 150 #[.slice A0 l0.length c0] w fun e w' => e = .returned (.bool r) ∧ Below w.heap.size w w' := by
 have HR0 := Aside0.mk hr0
 have HC0 := Aside0.mk hc0
 clear hr0 hc0
 have HB := Aside0.mk (Below.refl w.heap.size w)
 have H : ((codewrightref01_Trim.f k l0).bind fun t538 => (some ((t538.length : Int) == 0))) = some r := h
 clear h
 replace H := Option.bind_eq_some_iff.mp H
 obtain ⟨t538, A20, H⟩ := H
 replace H : (some ((t538.length : Int) == 0)) = some r := H
 have A2 := Aside0.mk A20
 clear A20
 obtain rfl := Option.some.inj H
 go_enter Try.func150, Try.ntmps150
 go_wp2_with (first | ((with_reducible refine gate_callee (f := 144) rfl ?_); refine goesL_ (some 4) rfl rfl Try.func144 (by kernel_rfl) rfl #[.slice A0 l0.length c0] rfl lu ?_; (with_reducible refine (codewrightref01_Trim.calls k _ _ l0 t538 _ ?side1 ?side2 A2.out).mono ?_); (case side1 => repeat (first | exact HR0.out | (with_reducible refine Kd.C_alloc ?_ _) | (with_reducible refine Kd.C_drewN ?_ _) | (with_reducible refine Kd.C_drew ?_))); (case side2 => exact HC0.out); rintro e w3 ⟨v539, rfl, ho0, hb⟩; refine ⟨_, rfl, ?_⟩; have HO540 := Aside0.mk (Kd.R_lower ho0 (below_size (bu HB.out))); replace HB := Aside0.mk (below_step (bu HB.out) hb); (try clear hb); (try clear hb2); (try clear hk); (try clear hi); (try clear ho0); obtain ⟨Ao4, co4, eo4⟩ := Kd.R_slice HO540.out; subst eo4))
 go_ret
 exact ⟨by first | rfl | (simp [errW_none, errW_some] <;> rfl) | (simp [*, errW_none, errW_some] <;> rfl), by repeat (first | (with_reducible first | exact HB.out | apply below_alloc | apply pw_below_drewN | apply below_drew1) | exact HB.out)⟩
end Go.Proofs.Ytecfdemglbfnoaa.PT
end
section
namespace Go.Proofs.Ytecfdemglbfnoaa.PT
open Go.RowKit Go.Proofs.YtecfdemglbfnoaaW.PrintWords Go.Proofs.YtecfdemglbfnoaaW.PrintLast Go.Proofs.YtecfdemglbfnoaaW.PrintMore
attribute [local go_sem] max2_int min2_int max_two min_two max_three min_three max_four min_four   -- for this text's walks alone
set_option linter.unusedVariables false
set_option linter.unusedSimpArgs false
def codewrightref01_Sub.l0 : Nat → List Int → List Int → List Int → Int → Int → Option (List Int)
 | 0, _, _, _, _, _ => none
 | k + 1, x0, x1, x5, x6, x7 => if x7 < (x0.length : Int) then ((codewrightref01_limb.f x0 x7).bind fun t1044 => ((codewrightref01_limb.f x1 x7).bind fun t1045 => (if x5.length < 35184372088832 then (codewrightref01_Sub.l0 k x0 x1 (x5 ++ [(Int.tmod (IntKind.u64.wrap ((IntKind.u64.wrap ((IntKind.u64.wrap (t1044 + 4294967296)) - t1045)) - x6)) 4294967296) % 4294967296]) (IntKind.u64.wrap (1 - (IntKind.u64.wrap (Int.tdiv (IntKind.u64.wrap ((IntKind.u64.wrap ((IntKind.u64.wrap (t1044 + 4294967296)) - t1045)) - x6)) 4294967296)))) (wrap64 (x7 + 1))) else (none)))) else ((codewrightref01_Trim.f k x5).bind fun t1049 => (some t1049))
def codewrightref01_Sub.f (k : Nat) (l0 : List Int) (l1 : List Int) : Option (List Int) := codewrightref01_Sub.l0 k l0 l1 ([] : List Int) 0 0
set_option maxHeartbeats 8000000 in
set_option maxRecDepth 100000 in
theorem codewrightref01_Sub.calls (k : Nat) (A0 : Option Addr) (c0 : Nat) (l0 : List Int) (A1 : Option Addr) (c1 : Nat) (l1 : List Int) (r : List Int) (w : World) (hr0 : Kd.C (Kd.int .u32) w A0 l0.length l0) (hc0 : l0.length ≤ c0) (hr1 : Kd.C (Kd.int .u32) w A1 l1.length l1) (hc1 : l1.length ≤ c1) (h : codewrightref01_Sub.f k l0 l1 = some r) :
 Calls Try.prog 166 #[.slice A0 l0.length c0, .slice A1 l1.length c1] w fun e w' => ∃ v0_ : Value, e = .returned (v0_) ∧ Kd.R (Kd.int .u32) 48 w' w.heap.size (fun _ => True) v0_ r ∧ Below w.heap.size w w' := by
 have HR0 := Aside0.mk hr0
 have HC0 := Aside0.mk hc0
 clear hr0 hc0
 have HR1 := Aside0.mk hr1
 have HC1 := Aside0.mk hc1
 clear hr1 hc1
 have HB := Aside0.mk (Below.refl w.heap.size w)
 have H : (codewrightref01_Sub.l0 k l0 l1 ([] : List Int) 0 0) = some r := h
 clear h
 have H' := Aside0.mk H
 clear H
 go_enter Try.func166, Try.ntmps166
 go_wp2
 go_loopg [5, 6, 7] k (fun kq v5 v6 v7 w' => ∃ (x5_1 : List Int) (x6_1 : Int) (x7_1 : Int), v6 = .int .u64 x6_1 ∧ v7 = .int .i64 x7_1 ∧ Aside0 (codewrightref01_Sub.l0 kq l0 l1 x5_1 x6_1 x7_1 = some r) ∧ Aside0 (kq ≤ k) ∧ Aside0 (Kd.R (Kd.int .u32) 48 w' w.heap.size (fun _ => True) v5 x5_1) ∧ Aside0 (Below w.heap.size w w'))
 case atStart => exact ⟨(([] : List Int)), (0), (0), (by first | rfl | (simp; done) | (simp [*]; done)), (by first | rfl | (simp; done) | (simp [*]; done)), H', ⟨Nat.le_refl _⟩, ⟨by first | exact Kd.R_nil _ _ _ _ _ | exact Kd.N_nil _ _ _ _ _ | exact Kd.V_nil _ _ _ _ _ | exact Kd.Q_nil _ _ _ _ _ | exact Kd.S_nil _ _ _ _ _⟩, ⟨by repeat (first | (with_reducible first | exact HB.out | apply below_alloc | apply pw_below_drewN | apply below_drew1) | exact HB.out)⟩⟩
 case round =>
  clear H'
  try clear c1
  try clear p2
  obtain ⟨x5_1, x6_1, x7_1, rfl, rfl, HA, HK1, HO_5, HB⟩ := hrel
  cases gk with
  | zero => exact absurd HA.out (by simp [codewrightref01_Sub.l0])
  | succ k1 =>
   have H := HA.out
   clear HA
   simp only [codewrightref01_Sub.l0] at H
   by_cases c3 : x7_1 < (l0.length : Int)
   ·
    rw [if_pos c3] at H
    have c3b0 : decide (x7_1 < (l0.length : Int)) = true := decide_eq_true c3
    clear c3
    replace H := Option.bind_eq_some_iff.mp H
    obtain ⟨t1044, A40, H⟩ := H
    replace H : ((codewrightref01_limb.f l1 x7_1).bind fun t1045 => (if x5_1.length < 35184372088832 then (codewrightref01_Sub.l0 k1 l0 l1 (x5_1 ++ [(Int.tmod (IntKind.u64.wrap ((IntKind.u64.wrap ((IntKind.u64.wrap (t1044 + 4294967296)) - t1045)) - x6_1)) 4294967296) % 4294967296]) (IntKind.u64.wrap (1 - (IntKind.u64.wrap (Int.tdiv (IntKind.u64.wrap ((IntKind.u64.wrap ((IntKind.u64.wrap (t1044 + 4294967296)) - t1045)) - x6_1)) 4294967296)))) (wrap64 (x7_1 + 1))) else (none))) = some r := H
    have A4 := Aside0.mk A40
    clear A40
    replace H := Option.bind_eq_some_iff.mp H
    obtain ⟨t1045, A50, H⟩ := H
    replace H : (if x5_1.length < 35184372088832 then (codewrightref01_Sub.l0 k1 l0 l1 (x5_1 ++ [(Int.tmod (IntKind.u64.wrap ((IntKind.u64.wrap ((IntKind.u64.wrap (t1044 + 4294967296)) - t1045)) - x6_1)) 4294967296) % 4294967296]) (IntKind.u64.wrap (1 - (IntKind.u64.wrap (Int.tdiv (IntKind.u64.wrap ((IntKind.u64.wrap ((IntKind.u64.wrap (t1044 + 4294967296)) - t1045)) - x6_1)) 4294967296)))) (wrap64 (x7_1 + 1))) else (none)) = some r := H
    have A5 := Aside0.mk A50
    clear A50
    by_cases c6 : x5_1.length < 35184372088832
    ·
     rw [if_pos c6] at H
     have LMc6 := Aside0.mk c6
     clear c6
     obtain ⟨y1046, hy1046⟩ : ∃ y_ : List Int, y_ = (x5_1 ++ [(Int.tmod (IntKind.u64.wrap ((IntKind.u64.wrap ((IntKind.u64.wrap (t1044 + 4294967296)) - t1045)) - x6_1)) 4294967296) % 4294967296]) := ⟨_, rfl⟩
     replace H : (codewrightref01_Sub.l0 k1 l0 l1 y1046 (IntKind.u64.wrap (1 - (IntKind.u64.wrap (Int.tdiv (IntKind.u64.wrap ((IntKind.u64.wrap ((IntKind.u64.wrap (t1044 + 4294967296)) - t1045)) - x6_1)) 4294967296)))) (wrap64 (x7_1 + 1))) = some r := by first | (rw [hy1046]; with_reducible exact H) | (have H2_ := (Option.bind_some _ _).symm.trans H; rw [hy1046]; with_reducible exact H2_) | (have H2_ := (Option.bind_some _ _).symm.trans H; with_reducible exact H2_) | with_reducible exact H | (rw [hy1046]; exact H) | exact H
     have Ny1046 := Aside0.mk hy1046
     clear hy1046
     have H' := Aside0.mk H
     clear H
     go_wp2_with (first | ((with_reducible refine gate_callee (f := 143) rfl ?_); refine goesL_ (some 17) rfl rfl Try.func143 (by kernel_rfl) rfl #[.slice A0 l0.length c0, .int .i64 x7_1] rfl lu ?_; (with_reducible refine (codewrightref01_limb.calls _ _ l0 x7_1 t1044 _ ?side1 ?side2 A4.out).mono ?_); (case side1 => repeat (first | exact (Kd.C_below HR0.out HB.out) | (with_reducible refine Kd.C_alloc ?_ _) | (with_reducible refine Kd.C_drewN ?_ _) | (with_reducible refine Kd.C_drew ?_))); (case side2 => exact HC0.out); rintro e w' ⟨rfl, ⟨nd, rfl⟩⟩; refine ⟨_, rfl, ?_⟩) | ((with_reducible refine gate_callee (f := 143) rfl ?_); refine goesL_ (some 21) rfl rfl Try.func143 (by kernel_rfl) rfl #[.slice A1 l1.length c1, .int .i64 x7_1] rfl lu ?_; (with_reducible refine (codewrightref01_limb.calls _ _ l1 x7_1 t1045 _ ?side1 ?side2 A5.out).mono ?_); (case side1 => repeat (first | exact (Kd.C_below HR1.out (bu HB.out)) | (with_reducible refine Kd.C_alloc ?_ _) | (with_reducible refine Kd.C_drewN ?_ _) | (with_reducible refine Kd.C_drew ?_))); (case side2 => exact HC1.out); rintro e w' ⟨rfl, ⟨nd, rfl⟩⟩; refine ⟨_, rfl, ?_⟩) | ((with_reducible refine gate_builtin (b := .append) (xs := #[.tmp 25, .tmp 29]) rfl ?_); at_builtin; refine Kd.R_append (Kd.int .u32) (w0 := w) w.heap.size rfl (.tmp 25) (.tmp 29) 42 48 (.int .u32 0) 4 rfl Try.underlying42 info48 rfl (by decide) (by omega) u5 x5_1 ((Int.tmod (IntKind.u64.wrap ((IntKind.u64.wrap ((IntKind.u64.wrap (t1044 + 4294967296)) - t1045)) - x6_1)) 4294967296) % 4294967296) [.int .u32 ((Int.tmod (IntKind.u64.wrap ((IntKind.u64.wrap ((IntKind.u64.wrap (t1044 + 4294967296)) - t1045)) - x6_1)) 4294967296) % 4294967296)] (fun _ => True) (fun _ => False) rfl rfl ?aP (fun _ hk => hk.elim) ?aF ?aO ?aB ?aS ?aL ?_; (case aP => exact rfl); (case aB => exact (bu HB.out)); (case aF => exact (fun _ _ => trivial)); (case aO => exact (by (with_reducible repeat (first | apply Kd.R_alloc | apply Kd.R_drewN | apply Kd.R_drew)); exact HO_5.out)); (case aS => exact (below_size (bu HB.out))); (case aL => have := LMc6.out; omega); intro v1047 w7 ho hb hg hat; rw [← Ny1046.out] at ho; replace HB := Aside0.mk (hb); have HO1048 := Aside0.mk (ho); clear HO_5 ho hb hg hat))
     go_roundg k1
     case measure => have := HK1.out; omega
     case rel => exact ⟨(y1046), (IntKind.u64.wrap (1 - (IntKind.u64.wrap (Int.tdiv (IntKind.u64.wrap ((IntKind.u64.wrap ((IntKind.u64.wrap (t1044 + 4294967296)) - t1045)) - x6_1)) 4294967296)))), (wrap64 (x7_1 + 1)), (by first | rfl | (simp; done) | (simp [*]; done)), (by first | rfl | (simp; done) | (simp [*]; done)), H', ⟨by have := HK1.out; omega⟩, ⟨by (with_reducible repeat (first | apply Kd.R_alloc | apply Kd.R_drewN | apply Kd.R_drew)); exact HO1048.out⟩, ⟨by repeat (first | (with_reducible first | exact HB.out | apply below_alloc | apply pw_below_drewN | apply below_drew1) | exact HB.out)⟩⟩
    ·
     rw [if_neg c6] at H
     exact absurd H (by simp)
   ·
    rw [if_neg c3] at H
    have c3b0 : decide (x7_1 < (l0.length : Int)) = false := decide_eq_false c3
    clear c3
    replace H := Option.bind_eq_some_iff.mp H
    obtain ⟨t1049, A80, H⟩ := H
    replace H : (some t1049) = some r := H
    have A8 := Aside0.mk A80
    clear A80
    obtain rfl := Option.some.inj H
    obtain ⟨Ao9, co9, eo9⟩ := Kd.R_slice HO_5.out
    subst eo9
    go_wp2_with (first | ((with_reducible refine gate_callee (f := 144) rfl ?_); refine goesL_ (some 35) rfl rfl Try.func144 (by kernel_rfl) rfl #[.slice Ao9 x5_1.length co9] rfl lu ?_; (with_reducible refine (codewrightref01_Trim.calls k1 _ _ x5_1 t1049 _ ?side1 ?side2 A8.out).mono ?_); (case side1 => repeat (first | exact (Kd.R_reads' HO_5.out).2.2 | (with_reducible refine Kd.C_alloc ?_ _) | (with_reducible refine Kd.C_drewN ?_ _) | (with_reducible refine Kd.C_drew ?_))); (case side2 => exact (Kd.R_reads' HO_5.out).2.1); rintro e w10 ⟨v1050, rfl, ho0, hb⟩; refine ⟨_, rfl, ?_⟩; have HO1051 := Aside0.mk (Kd.R_lower (Kd.R_new' ho0 (Kd.R_lt (by (with_reducible repeat (first | apply Kd.R_alloc | apply Kd.R_drewN | apply Kd.R_drew)); exact HO_5.out))) (below_size (bu HB.out))); replace HO_5 := Aside0.mk (Kd.R_elder' (by (with_reducible repeat (first | apply Kd.R_alloc | apply Kd.R_drewN | apply Kd.R_drew)); exact HO_5.out) (Kd.R_base ho0) hb); replace HB := Aside0.mk (below_step (bu HB.out) hb); (try clear hb); (try clear hb2); (try clear hk); (try clear hi); (try clear ho0)))
    go_ret
    exact ⟨_, by first | rfl | (simp [errW_none, errW_some] <;> rfl) | (simp [*, errW_none, errW_some] <;> rfl), by (with_reducible repeat (first | apply Kd.R_alloc | apply Kd.R_drewN | apply Kd.R_drew)); exact Kd.R_mono HO1051.out (fun _ hk => trivial), by repeat (first | (with_reducible first | exact HB.out | apply below_alloc | apply pw_below_drewN | apply below_drew1) | exact HB.out)⟩
end Go.Proofs.Ytecfdemglbfnoaa.PT
end
section
namespace Go.Proofs.Ytecfdemglbfnoaa.PT
open Go.RowKit Go.Proofs.YtecfdemglbfnoaaW.PrintWords Go.Proofs.YtecfdemglbfnoaaW.PrintLast Go.Proofs.YtecfdemglbfnoaaW.PrintMore
attribute [local go_sem] max2_int min2_int max_two min_two max_three min_three max_four min_four   -- for this text's walks alone
set_option linter.unusedVariables false
set_option linter.unusedSimpArgs false
def codewrightref01_Bits.l0 : Nat → Int → Int → Option (Int)
 | 0, _, _ => none
 | k + 1, x3, x4 => if x4 > 0 then (codewrightref01_Bits.l0 k (wrap64 (x3 + 1)) ((Int.tdiv x4 2) % 4294967296)) else (some x3)
def codewrightref01_Bits.f (k : Nat) (l0 : List Int) : Option (Int) := (codewrightref01_Trim.f k l0).bind fun t1052 => (if (t1052.length : Int) = 0 then (some 0) else (if 0 ≤ (wrap64 ((t1052.length : Int) - 1)) then (if (wrap64 ((t1052.length : Int) - 1)) < (t1052.length : Int) then (codewrightref01_Bits.l0 k (wrap64 (32 * (wrap64 ((t1052.length : Int) - 1)))) (rd t1052 (wrap64 ((t1052.length : Int) - 1)))) else (none)) else (none)))
set_option maxHeartbeats 8000000 in
set_option maxRecDepth 100000 in
theorem codewrightref01_Bits.calls (k : Nat) (A0 : Option Addr) (c0 : Nat) (l0 : List Int) (r : Int) (w : World) (hr0 : Kd.C (Kd.int .u32) w A0 l0.length l0) (hc0 : l0.length ≤ c0) (h : codewrightref01_Bits.f k l0 = some r) :
 Calls Try.prog 183 #[.slice A0 l0.length c0] w fun e w' => e = .returned (.int .i64 r) ∧ Below w.heap.size w w' := by
 have HR0 := Aside0.mk hr0
 have HC0 := Aside0.mk hc0
 clear hr0 hc0
 have HB := Aside0.mk (Below.refl w.heap.size w)
 have H : ((codewrightref01_Trim.f k l0).bind fun t1052 => (if (t1052.length : Int) = 0 then (some 0) else (if 0 ≤ (wrap64 ((t1052.length : Int) - 1)) then (if (wrap64 ((t1052.length : Int) - 1)) < (t1052.length : Int) then (codewrightref01_Bits.l0 k (wrap64 (32 * (wrap64 ((t1052.length : Int) - 1)))) (rd t1052 (wrap64 ((t1052.length : Int) - 1)))) else (none)) else (none)))) = some r := h
 clear h
 replace H := Option.bind_eq_some_iff.mp H
 obtain ⟨t1052, A20, H⟩ := H
 replace H : (if (t1052.length : Int) = 0 then (some 0) else (if 0 ≤ (wrap64 ((t1052.length : Int) - 1)) then (if (wrap64 ((t1052.length : Int) - 1)) < (t1052.length : Int) then (codewrightref01_Bits.l0 k (wrap64 (32 * (wrap64 ((t1052.length : Int) - 1)))) (rd t1052 (wrap64 ((t1052.length : Int) - 1)))) else (none)) else (none))) = some r := H
 have A2 := Aside0.mk A20
 clear A20
 by_cases c3 : (t1052.length : Int) = 0
 ·
  rw [if_pos c3] at H
  have c3b0 : ((t1052.length : Int) == 0) = true := beq_iff_eq.mpr c3
  have c3b1 : ((t1052.length : Int) != 0) = false := bne_eq_false_iff_eq.mpr c3
  clear c3
  obtain rfl := Option.some.inj H
  go_enter Try.func183, Try.ntmps183
  go_wp2_with (first | ((with_reducible refine gate_callee (f := 144) rfl ?_); refine goesL_ (some 6) rfl rfl Try.func144 (by kernel_rfl) rfl #[.slice A0 l0.length c0] rfl lu ?_; (with_reducible refine (codewrightref01_Trim.calls k _ _ l0 t1052 _ ?side1 ?side2 A2.out).mono ?_); (case side1 => repeat (first | exact HR0.out | (with_reducible refine Kd.C_alloc ?_ _) | (with_reducible refine Kd.C_drewN ?_ _) | (with_reducible refine Kd.C_drew ?_))); (case side2 => exact HC0.out); rintro e w4 ⟨v1053, rfl, ho0, hb⟩; refine ⟨_, rfl, ?_⟩; have HO1054 := Aside0.mk (Kd.R_lower ho0 (below_size (bu HB.out))); replace HB := Aside0.mk (below_step (bu HB.out) hb); (try clear hb); (try clear hb2); (try clear hk); (try clear hi); (try clear ho0); obtain ⟨Ao5, co5, eo5⟩ := Kd.R_slice HO1054.out; subst eo5))
  go_ret
  exact ⟨by first | rfl | (simp [errW_none, errW_some] <;> rfl) | (simp [*, errW_none, errW_some] <;> rfl), by repeat (first | (with_reducible first | exact HB.out | apply below_alloc | apply pw_below_drewN | apply below_drew1) | exact HB.out)⟩
 ·
  rw [if_neg c3] at H
  have c3b0 : ((t1052.length : Int) == 0) = false := beq_eq_false_iff_ne.mpr c3
  have c3b1 : ((t1052.length : Int) != 0) = true := bne_iff_ne.mpr c3
  have c3b2 : ¬ (t1052 = []) := fun h_ => c3 (by rw [h_]; rfl)
  obtain ⟨ji6, hji6⟩ : ∃ j_ : Int, (wrap64 ((t1052.length : Int) - 1)) = j_ := ⟨_, rfl⟩
  replace H : (if 0 ≤ (ji6) then (if (ji6) < (t1052.length : Int) then (codewrightref01_Bits.l0 k (wrap64 (32 * (ji6))) (rd t1052 (ji6))) else (none)) else (none)) = some r := by first | (rw [hji6] at H; exact H) | (simp only [hji6] at H ⊢; exact H)
  (try rw [hji6] at A2)
  have hji6w : (IntKind.i64.wrap ((t1052.length : Int) - 1)) = ji6 := (i64_w _).trans hji6
  by_cases c7 : 0 ≤ (ji6)
  ·
   rw [if_pos c7] at H
   have c7b0 : decide (0 ≤ (ji6)) = true := decide_eq_true c7
   clear c7
   by_cases c8 : (ji6) < (t1052.length : Int)
   ·
    rw [if_pos c8] at H
    have c8b0 : decide ((ji6) < (t1052.length : Int)) = true := decide_eq_true c8
    clear c8
    have H' := Aside0.mk H
    clear H
    go_enter Try.func183, Try.ntmps183
    go_wp2_with (first | ((with_reducible refine gate_callee (f := 144) rfl ?_); refine goesL_ (some 6) rfl rfl Try.func144 (by kernel_rfl) rfl #[.slice A0 l0.length c0] rfl lu ?_; (with_reducible refine (codewrightref01_Trim.calls k _ _ l0 t1052 _ ?side1 ?side2 A2.out).mono ?_); (case side1 => repeat (first | exact HR0.out | (with_reducible refine Kd.C_alloc ?_ _) | (with_reducible refine Kd.C_drewN ?_ _) | (with_reducible refine Kd.C_drew ?_))); (case side2 => exact HC0.out); rintro e w9 ⟨v1053, rfl, ho0, hb⟩; refine ⟨_, rfl, ?_⟩; have HO1054 := Aside0.mk (Kd.R_lower ho0 (below_size (bu HB.out))); replace HB := Aside0.mk (below_step (bu HB.out) hb); (try clear hb); (try clear hb2); (try clear hk); (try clear hi); (try clear ho0); obtain ⟨Ao10, co10, eo10⟩ := Kd.R_slice HO1054.out; subst eo10; have p1055 : 0 ≤ ((ji6) : Int) := of_decide_eq_true (by first | (with_reducible assumption) | assumption); have q1055 : (ji6) < (t1052.length : Int) := of_decide_eq_true (by first | (with_reducible assumption) | assumption); obtain ⟨ad1055, e1055, hx1055_0⟩ := Kd.at_int (Kd.R_reads' HO1054.out).2.2 (ji6) p1055 q1055; cases e1055; replace p1055 := eq_true p1055; replace q1055 := eq_true q1055))
    go_loopg [3, 4] k (fun kq v3 v4 w' => ∃ (x3_1 : Int) (x4_1 : Int), v3 = .int .i64 x3_1 ∧ v4 = .int .u32 x4_1 ∧ Aside0 (codewrightref01_Bits.l0 kq x3_1 x4_1 = some r) ∧ Aside0 (kq ≤ k) ∧ Aside0 (Below w.heap.size w w'))
    case atStart => exact ⟨(wrap64 (32 * (ji6))), (rd t1052 (ji6)), (by first | rfl | (simp; done) | (simp only [← hji6] <;> (first | rfl | simp)) | (simp [*]; done)), (by first | rfl | (simp; done) | (simp only [← hji6] <;> (first | rfl | simp)) | (simp [*]; done)), H', ⟨Nat.le_refl _⟩, ⟨by repeat (first | (with_reducible first | exact HB.out | apply below_alloc | apply pw_below_drewN | apply below_drew1) | exact HB.out)⟩⟩
    case round =>
     clear H'
     try clear c1
     try clear p1
     try clear q1
     try clear hx1
     try clear p2
     try clear c3
     try clear c3b0
     try clear c3b1
     try clear c3b2
     try clear p6
     try clear c7
     try clear c7b0
     try clear c8
     try clear c8b0
     try clear p10
     try clear q10
     try clear hx10
     try clear hx1055_0
     try clear p1055
     try clear q1055
     obtain ⟨x3_1, x4_1, rfl, rfl, HA, HK1, HB⟩ := hrel
     cases gk with
     | zero => exact absurd HA.out (by simp [codewrightref01_Bits.l0])
     | succ k1 =>
      have H := HA.out
      clear HA
      simp only [codewrightref01_Bits.l0] at H
      by_cases c11 : x4_1 > 0
      ·
       rw [if_pos c11] at H
       have c11b0 : decide (0 < x4_1) = true := decide_eq_true c11
       clear c11
       have H' := Aside0.mk H
       clear H
       go_wp2
       go_roundg k1
       case measure => have := HK1.out; omega
       case rel => exact ⟨(wrap64 (x3_1 + 1)), ((Int.tdiv x4_1 2) % 4294967296), (by first | rfl | (simp; done) | (simp [*]; done)), (by first | rfl | (simp; done) | (simp [*]; done)), H', ⟨by have := HK1.out; omega⟩, ⟨by repeat (first | (with_reducible first | exact HB.out | apply below_alloc | apply pw_below_drewN | apply below_drew1) | exact HB.out)⟩⟩
      ·
       rw [if_neg c11] at H
       have c11b0 : decide (0 < x4_1) = false := decide_eq_false c11
       clear c11
       obtain rfl := Option.some.inj H
       go_wp2
       go_ret
       exact ⟨by first | rfl | (simp [errW_none, errW_some] <;> rfl) | (simp only [← hji6]; first | rfl | (simp [errW_none, errW_some] <;> rfl)) | (simp [*, errW_none, errW_some] <;> rfl), by repeat (first | (with_reducible first | exact HB.out | apply below_alloc | apply pw_below_drewN | apply below_drew1) | exact HB.out)⟩
   ·
    rw [if_neg c8] at H
    exact absurd H (by simp)
  ·
   rw [if_neg c7] at H
   exact absurd H (by simp)
end Go.Proofs.Ytecfdemglbfnoaa.PT
end
section
namespace Go.Proofs.Ytecfdemglbfnoaa.PT
open Go.RowKit Go.Proofs.YtecfdemglbfnoaaW.PrintWords Go.Proofs.YtecfdemglbfnoaaW.PrintLast Go.Proofs.YtecfdemglbfnoaaW.PrintMore
attribute [local go_sem] max2_int min2_int max_two min_two max_three min_three max_four min_four   -- for this text's walks alone
set_option linter.unusedVariables false
set_option linter.unusedSimpArgs false
def codewrightref01_shift.l0 : Nat → List Int → Int → List Int → Int → Int → Option (List Int)
 | 0, _, _, _, _, _ => none
 | k + 1, x0, x1, x5, x6, x7 => if x7 < (x0.length : Int) then (if 0 ≤ x7 then (if 0 ≤ (Int.tmod x1 32) then (if x5.length < 35184372088832 then (codewrightref01_shift.l0 k x0 x1 (x5 ++ [(Int.tmod (IntKind.u64.wrap ((shl .u64 (IntKind.u64.wrap (rd x0 x7)) (Int.tmod x1 32)) + x6)) 4294967296) % 4294967296]) (IntKind.u64.wrap (Int.tdiv (IntKind.u64.wrap ((shl .u64 (IntKind.u64.wrap (rd x0 x7)) (Int.tmod x1 32)) + x6)) 4294967296)) (wrap64 (x7 + 1))) else (none)) else (none)) else (none)) else (if x5.length < 35184372088832 then ((codewrightref01_Trim.f k (x5 ++ [(x6) % 4294967296])).bind fun t1066 => (some t1066)) else (none))
def codewrightref01_shift.f (k : Nat) (l0 : List Int) (a1 : Int) : Option (List Int) := if 0 ≤ (wrap64 (Int.tdiv a1 32)) then (if (wrap64 (Int.tdiv a1 32) : Int).toNat ≤ 70368744177664 then (codewrightref01_shift.l0 k l0 a1 (List.replicate (wrap64 (Int.tdiv a1 32) : Int).toNat 0) 0 0) else (none)) else (none)
set_option maxHeartbeats 8000000 in
set_option maxRecDepth 100000 in
theorem codewrightref01_shift.calls (k : Nat) (A0 : Option Addr) (c0 : Nat) (l0 : List Int) (a1 : Int) (r : List Int) (w : World) (hr0 : Kd.C (Kd.int .u32) w A0 l0.length l0) (hc0 : l0.length ≤ c0) (h : codewrightref01_shift.f k l0 a1 = some r) :
 Calls Try.prog 184 #[.slice A0 l0.length c0, .int .i64 a1] w fun e w' => ∃ v0_ : Value, e = .returned (v0_) ∧ Kd.R (Kd.int .u32) 48 w' w.heap.size (fun _ => True) v0_ r ∧ Below w.heap.size w w' := by
 have HR0 := Aside0.mk hr0
 have HC0 := Aside0.mk hc0
 clear hr0 hc0
 have HB := Aside0.mk (Below.refl w.heap.size w)
 have H : (if 0 ≤ (wrap64 (Int.tdiv a1 32)) then (if (wrap64 (Int.tdiv a1 32) : Int).toNat ≤ 70368744177664 then (codewrightref01_shift.l0 k l0 a1 (List.replicate (wrap64 (Int.tdiv a1 32) : Int).toNat 0) 0 0) else (none)) else (none)) = some r := h
 clear h
 obtain ⟨ji3, hji3⟩ : ∃ j_ : Int, (wrap64 (Int.tdiv a1 32)) = j_ := ⟨_, rfl⟩
 replace H : (if 0 ≤ (ji3) then (if (ji3 : Int).toNat ≤ 70368744177664 then (codewrightref01_shift.l0 k l0 a1 (List.replicate (ji3 : Int).toNat 0) 0 0) else (none)) else (none)) = some r := by first | (rw [hji3] at H; exact H) | (simp only [hji3] at H ⊢; exact H)
 have hji3w : (IntKind.i64.wrap (Int.tdiv a1 32)) = ji3 := (i64_w _).trans hji3
 by_cases c4 : 0 ≤ (ji3)
 ·
  rw [if_pos c4] at H
  have c4b0 := eq_true c4
  have c4b1 : decide (0 ≤ (ji3)) = true := decide_eq_true c4
  clear c4
  by_cases c5 : (ji3 : Int).toNat ≤ 70368744177664
  ·
   rw [if_pos c5] at H
   have c5b0 := eq_true c5
   have c5b1 : decide ((ji3 : Int).toNat ≤ 70368744177664) = true := decide_eq_true c5
   clear c5
   obtain ⟨y1056, hy1056⟩ : ∃ y_ : List Int, y_ = (List.replicate (ji3 : Int).toNat 0) := ⟨_, rfl⟩
   replace H : (codewrightref01_shift.l0 k l0 a1 y1056 0 0) = some r := by first | (rw [hy1056]; with_reducible exact H) | (have H2_ := (Option.bind_some _ _).symm.trans H; rw [hy1056]; with_reducible exact H2_) | (have H2_ := (Option.bind_some _ _).symm.trans H; with_reducible exact H2_) | with_reducible exact H | (rw [hy1056]; exact H) | exact H
   have Ny1056 := Aside0.mk hy1056
   clear hy1056
   have H' := Aside0.mk H
   clear H
   go_enter Try.func184, Try.ntmps184
   go_wp2_with (first | ((with_reducible refine gate_dst (N := 11) rfl ?_); refine Kd.R_make (Kd.int .u32) _ 48 rfl (N := 11) rfl 42 _ _ rfl ji3 rfl rfl Try.underlying42 (.int .u32 0) 4 info48 rfl (by decide) (by omega) 0 (ok := fun _ => True) (okp := fun _ => True) rfl (fun _ hk => hk) trivial (of_decide_eq_true (by first | (with_reducible assumption) | assumption)) (Nat.le_trans (Nat.mul_le_mul_right _ (of_decide_eq_true (by first | (with_reducible assumption) | assumption) : ji3.toNat ≤ 70368744177664)) (by omega)) (Below.refl _ _) (Nat.le_refl _) ?_; intro v1057 w6 ho7 hb hg_ hnew_; clear hg_ hnew_; (first | rw [← Ny1056.out] at ho7 | (simp only [Int.reduceToNat] at ho7; rw [← Ny1056.out] at ho7)); have HO1058 := Aside0.mk (Kd.R_lower ho7 (below_size (bu HB.out))); replace HB := Aside0.mk (below_step (bu HB.out) hb); clear hb ho7))
   go_loopg [5, 6, 7] k (fun kq v5 v6 v7 w' => ∃ (x5_1 : List Int) (x6_1 : Int) (x7_1 : Int), v6 = .int .u64 x6_1 ∧ v7 = .int .i64 x7_1 ∧ Aside0 (codewrightref01_shift.l0 kq l0 a1 x5_1 x6_1 x7_1 = some r) ∧ Aside0 (kq ≤ k) ∧ Aside0 (Kd.R (Kd.int .u32) 48 w' w.heap.size (fun _ => True) v5 x5_1) ∧ Aside0 (Below w.heap.size w w'))
   case atStart => exact ⟨(y1056), (0), (0), (by first | rfl | (simp; done) | (simp [*]; done)), (by first | rfl | (simp; done) | (simp [*]; done)), H', ⟨Nat.le_refl _⟩, ⟨by (with_reducible repeat (first | apply Kd.R_alloc | apply Kd.R_drewN | apply Kd.R_drew)); exact HO1058.out⟩, ⟨by repeat (first | (with_reducible first | exact HB.out | apply below_alloc | apply pw_below_drewN | apply below_drew1) | exact HB.out)⟩⟩
   case round =>
    clear H'
    try clear c1
    try clear p2
    try clear c4
    try clear c4b0
    try clear c4b1
    try clear c5
    try clear c5b0
    try clear c5b1
    try clear p6
    obtain ⟨x5_1, x6_1, x7_1, rfl, rfl, HA, HK1, HO_5, HB⟩ := hrel
    cases gk with
    | zero => exact absurd HA.out (by simp [codewrightref01_shift.l0])
    | succ k1 =>
     have H := HA.out
     clear HA
     simp only [codewrightref01_shift.l0] at H
     by_cases c8 : x7_1 < (l0.length : Int)
     ·
      rw [if_pos c8] at H
      have c8b0 : decide (x7_1 < (l0.length : Int)) = true := decide_eq_true c8
      clear c8
      by_cases c9 : 0 ≤ x7_1
      ·
       rw [if_pos c9] at H
       have c9b0 : decide (0 ≤ x7_1) = true := decide_eq_true c9
       clear c9
       obtain ⟨ji10, hji10⟩ : ∃ j_ : Int, (Int.tmod a1 32) = j_ := ⟨_, rfl⟩
       replace H : (if 0 ≤ (ji10) then (if x5_1.length < 35184372088832 then (codewrightref01_shift.l0 k1 l0 a1 (x5_1 ++ [(Int.tmod (IntKind.u64.wrap ((shl .u64 (IntKind.u64.wrap (rd l0 x7_1)) (ji10)) + x6_1)) 4294967296) % 4294967296]) (IntKind.u64.wrap (Int.tdiv (IntKind.u64.wrap ((shl .u64 (IntKind.u64.wrap (rd l0 x7_1)) (ji10)) + x6_1)) 4294967296)) (wrap64 (x7_1 + 1))) else (none)) else (none)) = some r := by first | (rw [hji10] at H; exact H) | (simp only [hji10] at H ⊢; exact H)
       by_cases c11 : 0 ≤ (ji10)
       ·
        rw [if_pos c11] at H
        have c11b0 := eq_true c11
        have c11b1 : decide (0 ≤ (ji10)) = true := decide_eq_true c11
        clear c11
        obtain ⟨ji12, hji12⟩ : ∃ j_ : Int, (shl .u64 (IntKind.u64.wrap (rd l0 x7_1)) (ji10)) = j_ := ⟨_, rfl⟩
        replace H : (if x5_1.length < 35184372088832 then (codewrightref01_shift.l0 k1 l0 a1 (x5_1 ++ [(Int.tmod (IntKind.u64.wrap ((ji12) + x6_1)) 4294967296) % 4294967296]) (IntKind.u64.wrap (Int.tdiv (IntKind.u64.wrap ((ji12) + x6_1)) 4294967296)) (wrap64 (x7_1 + 1))) else (none)) = some r := by first | (rw [hji12] at H; exact H) | (simp only [hji12] at H ⊢; exact H)
        have hji12_ : (IntKind.u64.wrap ((IntKind.u64.wrap (rd l0 x7_1)) * 2 ^ min (ji10).toNat 64)) = ji12 := hji12
        have hji12z : (ji10) ≤ 64 → (IntKind.u64.wrap ((IntKind.u64.wrap (rd l0 x7_1)) * 2 ^ (ji10).toNat)) = ji12 := shl_small hji12
        by_cases c13 : x5_1.length < 35184372088832
        ·
         rw [if_pos c13] at H
         have LMc13 := Aside0.mk c13
         clear c13
         obtain ⟨y1060, hy1060⟩ : ∃ y_ : List Int, y_ = (x5_1 ++ [(Int.tmod (IntKind.u64.wrap ((ji12) + x6_1)) 4294967296) % 4294967296]) := ⟨_, rfl⟩
         replace H : (codewrightref01_shift.l0 k1 l0 a1 y1060 (IntKind.u64.wrap (Int.tdiv (IntKind.u64.wrap ((ji12) + x6_1)) 4294967296)) (wrap64 (x7_1 + 1))) = some r := by first | (rw [hy1060]; with_reducible exact H) | (have H2_ := (Option.bind_some _ _).symm.trans H; rw [hy1060]; with_reducible exact H2_) | (have H2_ := (Option.bind_some _ _).symm.trans H; with_reducible exact H2_) | with_reducible exact H | (rw [hy1060]; exact H) | exact H
         have Ny1060 := Aside0.mk hy1060
         clear hy1060
         have H' := Aside0.mk H
         clear H
         have p1059 : 0 ≤ (x7_1 : Int) := of_decide_eq_true (by first | (with_reducible assumption) | assumption)
         have q1059 : x7_1 < (l0.length : Int) := of_decide_eq_true (by first | (with_reducible assumption) | assumption)
         obtain ⟨ad1059, e1059, hx1059_0⟩ := Kd.at_int HR0.out x7_1 p1059 q1059
         cases e1059
         replace hx1059_0 := (HB.out.cell (World.block_lt_of_cell? w _ hx1059_0)).trans hx1059_0
         replace p1059 := eq_true p1059
         replace q1059 := eq_true q1059
         go_wp2_with (first | ((with_reducible refine gate_builtin (b := .append) (xs := #[.tmp 28, .tmp 32]) rfl ?_); at_builtin; refine Kd.R_append (Kd.int .u32) (w0 := w) w.heap.size rfl (.tmp 28) (.tmp 32) 42 48 (.int .u32 0) 4 rfl Try.underlying42 info48 rfl (by decide) (by omega) u5 x5_1 ((Int.tmod (IntKind.u64.wrap ((ji12) + x6_1)) 4294967296) % 4294967296) [.int .u32 ((Int.tmod (IntKind.u64.wrap ((ji12) + x6_1)) 4294967296) % 4294967296)] (fun _ => True) (fun _ => False) rfl rfl ?aP (fun _ hk => hk.elim) ?aF ?aO ?aB ?aS ?aL ?_; (case aP => exact rfl); (case aB => exact (bu HB.out)); (case aF => exact (fun _ _ => trivial)); (case aO => exact (by (with_reducible repeat (first | apply Kd.R_alloc | apply Kd.R_drewN | apply Kd.R_drew)); exact HO_5.out)); (case aS => exact (below_size (bu HB.out))); (case aL => have := LMc13.out; omega); intro v1061 w14 ho hb hg hat; rw [← Ny1060.out] at ho; replace HB := Aside0.mk (hb); have HO1062 := Aside0.mk (ho); clear HO_5 ho hb hg hat))
         go_roundg k1
         case measure => have := HK1.out; omega
         case rel => exact ⟨(y1060), (IntKind.u64.wrap (Int.tdiv (IntKind.u64.wrap ((ji12) + x6_1)) 4294967296)), (wrap64 (x7_1 + 1)), (by first | rfl | (simp; done) | (simp only [← hji12] <;> (first | rfl | simp)) | (simp [*]; done)), (by first | rfl | (simp; done) | (simp [*]; done)), H', ⟨by have := HK1.out; omega⟩, ⟨by (with_reducible repeat (first | apply Kd.R_alloc | apply Kd.R_drewN | apply Kd.R_drew)); exact HO1062.out⟩, ⟨by repeat (first | (with_reducible first | exact HB.out | apply below_alloc | apply pw_below_drewN | apply below_drew1) | exact HB.out)⟩⟩
        ·
         rw [if_neg c13] at H
         exact absurd H (by simp)
       ·
        rw [if_neg c11] at H
        exact absurd H (by simp)
      ·
       rw [if_neg c9] at H
       exact absurd H (by simp)
     ·
      rw [if_neg c8] at H
      have c8b0 : decide (x7_1 < (l0.length : Int)) = false := decide_eq_false c8
      clear c8
      by_cases c15 : x5_1.length < 35184372088832
      ·
       rw [if_pos c15] at H
       have LMc15 := Aside0.mk c15
       clear c15
       obtain ⟨y1063, hy1063⟩ : ∃ y_ : List Int, y_ = (x5_1 ++ [(x6_1) % 4294967296]) := ⟨_, rfl⟩
       replace H : ((codewrightref01_Trim.f k1 y1063).bind fun t1066 => (some t1066)) = some r := by first | (rw [hy1063]; with_reducible exact H) | (have H2_ := (Option.bind_some _ _).symm.trans H; rw [hy1063]; with_reducible exact H2_) | (have H2_ := (Option.bind_some _ _).symm.trans H; with_reducible exact H2_) | with_reducible exact H | (rw [hy1063]; exact H) | exact H
       have Ny1063 := Aside0.mk hy1063
       clear hy1063
       replace H := Option.bind_eq_some_iff.mp H
       obtain ⟨t1066, A160, H⟩ := H
       replace H : (some t1066) = some r := H
       have A16 := Aside0.mk A160
       clear A160
       obtain rfl := Option.some.inj H
       go_wp2_with (first | ((with_reducible refine gate_builtin (b := .append) (xs := #[.tmp 36, .tmp 39]) rfl ?_); at_builtin; refine Kd.R_append (Kd.int .u32) (w0 := w) w.heap.size rfl (.tmp 36) (.tmp 39) 42 48 (.int .u32 0) 4 rfl Try.underlying42 info48 rfl (by decide) (by omega) u5 x5_1 ((x6_1) % 4294967296) [.int .u32 ((x6_1) % 4294967296)] (fun _ => True) (fun _ => False) rfl rfl ?aP (fun _ hk => hk.elim) ?aF ?aO ?aB ?aS ?aL ?_; (case aP => exact rfl); (case aB => exact (bu HB.out)); (case aF => exact (fun _ _ => trivial)); (case aO => exact (by (with_reducible repeat (first | apply Kd.R_alloc | apply Kd.R_drewN | apply Kd.R_drew)); exact HO_5.out)); (case aS => exact (below_size (bu HB.out))); (case aL => have := LMc15.out; omega); intro v1064 w17 ho hb hg hat; rw [← Ny1063.out] at ho; replace HB := Aside0.mk (hb); have HO1065 := Aside0.mk (ho); clear HO_5 ho hb hg hat; obtain ⟨Ao18, co18, eo18⟩ := Kd.R_slice HO1065.out; subst eo18) | ((with_reducible refine gate_callee (f := 144) rfl ?_); refine goesL_ (some 41) rfl rfl Try.func144 (by kernel_rfl) rfl #[.slice Ao18 y1063.length co18] rfl lu ?_; (with_reducible refine (codewrightref01_Trim.calls k1 _ _ y1063 t1066 _ ?side1 ?side2 A16.out).mono ?_); (case side1 => repeat (first | exact (Kd.R_reads' HO1065.out).2.2 | (with_reducible refine Kd.C_alloc ?_ _) | (with_reducible refine Kd.C_drewN ?_ _) | (with_reducible refine Kd.C_drew ?_))); (case side2 => exact (Kd.R_reads' HO1065.out).2.1); rintro e w19 ⟨v1067, rfl, ho0, hb⟩; refine ⟨_, rfl, ?_⟩; have HO1068 := Aside0.mk (Kd.R_lower (Kd.R_new' ho0 (Kd.R_lt (by (with_reducible repeat (first | apply Kd.R_alloc | apply Kd.R_drewN | apply Kd.R_drew)); exact HO1065.out))) (below_size (bu HB.out))); replace HO1065 := Aside0.mk (Kd.R_elder' (by (with_reducible repeat (first | apply Kd.R_alloc | apply Kd.R_drewN | apply Kd.R_drew)); exact HO1065.out) (Kd.R_base ho0) hb); replace HB := Aside0.mk (below_step (bu HB.out) hb); (try clear hb); (try clear hb2); (try clear hk); (try clear hi); (try clear ho0)))
       go_ret
       exact ⟨_, by first | rfl | (simp [errW_none, errW_some] <;> rfl) | (simp only [← hji3]; first | rfl | (simp [errW_none, errW_some] <;> rfl)) | (simp [*, errW_none, errW_some] <;> rfl), by (with_reducible repeat (first | apply Kd.R_alloc | apply Kd.R_drewN | apply Kd.R_drew)); exact Kd.R_mono HO1068.out (fun _ hk => trivial), by repeat (first | (with_reducible first | exact HB.out | apply below_alloc | apply pw_below_drewN | apply below_drew1) | exact HB.out)⟩
      ·
       rw [if_neg c15] at H
       exact absurd H (by simp)
  ·
   rw [if_neg c5] at H
   exact absurd H (by simp)
 ·
  rw [if_neg c4] at H
  exact absurd H (by simp)
end Go.Proofs.Ytecfdemglbfnoaa.PT
end
