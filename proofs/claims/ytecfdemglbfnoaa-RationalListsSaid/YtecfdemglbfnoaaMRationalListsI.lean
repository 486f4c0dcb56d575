/- Walks and plain facts for the law RationalLists, several texts in one: each theorem says what it shows; no condition beyond those that it names. -/
import Derived.Test.YtecfdemglbfnoaaProg
import Derived.Test.YtecfdemglbfnoaaMRationalListsH
section
namespace Go.Proofs.Ytecfdemglbfnoaa.Num
open Go.RowKit Go.Proofs.Ytecfdemglbfnoaa.PT Go.Proofs.YtecfdemglbfnoaaW.PrintWords Go.Proofs.YtecfdemglbfnoaaW.PrintLast Go.Proofs.YtecfdemglbfnoaaW.PrintMore
theorem bits_or_comm (x y : Int) : Go.bits .or .u64 x y = Go.bits .or .u64 y x := by
  unfold Go.bits
  simp [BitVec.or_comm]
theorem padn_of_mod {z : List Int} (uz : U z) {K m : Nat} (hz : z.length = K) (h : valn z = m % pw K) : z = padn K m := by
  have h1 := padn_valn uz
  rw [hz, h] at h1
  rw [← h1]
  have e := Nat.mod_add_div m (pw K)
  conv => rhs; rw [← e]
  rw [padn_mod]
theorem stepat_f {u v : List Int} (uu : U u) (uv : U v) (h2 : 2 ≤ v.length) (hn : 2147483648 ≤ rd v ((v.length - 1 : Nat) : Int)) (hL : u.length ≤ 1000002) (j : Nat) (hj : j + v.length + 1 ≤ u.length) (hlt : valn (u.drop (j + 1)) < valn v) :
    Ev (fun k => stepat k u (j : Int) v (v.length : Int)) (((valn (u.drop j) / valn v : Nat) : Int), sp u j (padn (v.length + 1) (valn (u.drop j) % valn v))) := by
  obtain ⟨h3, h4⟩ := win_val uu uv j hj hlt
  have h5 := step_f (u := (u.drop j).take (v.length + 1)) (v := v) (U_take (U_drop uu j) _) uv (win_len u j (v.length + 1) (by omega)) h2 (by omega) hn (by rw [h3]; exact h4)
  rw [h3] at h5
  refine Ev.congr (f := fun k => (nat_step.f k ((u.drop j).take (v.length + 1)) v).bind fun r => some (r.1, sp u j r.2)) (fun k => ?_) (Ev.bind h5 (Ev.now _))
  unfold stepat
  rw [if_pos ⟨by omega, rfl, by rw [Int.toNat_natCast]; omega, by omega⟩, Int.toNat_natCast]
theorem long_l1 {u q : List Int} (uu : U u) (n K : Nat) (hn : n ≤ 31) (hk : K + 1 ≤ u.length) (hu : u.length ≤ 1000002) (d : Nat) : ∀ (i : Nat) (z : List Int), i + d = K → z.length = K → U z → valn (z.take i) = (valn u / 2 ^ n) % pw i →
    Ev (fun k => nat_longw.l1 k q z (n : Int) u (K : Int) (i : Int)) (q, padn K (valn u / 2 ^ n)) := by
  induction d with
  | zero =>
    intro i z hi hz uz hv
    obtain rfl : i = K := by omega
    rw [List.take_of_length_le (by omega)] at hv
    rw [← padn_of_mod uz hz hv]
    refine Ev.step (f := fun _ => some (q, z)) (fun k => ?_) (Ev.now _)
    simp only [nat_longw.l1]
    rw [if_neg (by omega)]
  | succ d ih =>
    intro i z hi hz uz hv
    obtain ⟨x, ex, hx⟩ := rd_nat uu (i : Int)
    obtain ⟨y, ey, hy⟩ := rd_nat uu ((i + 1 : Nat) : Int)
    have hl := limb_shr uu n hn i
    rw [ex, ey, Int.toNat_natCast, Int.toNat_natCast] at hl
    have et : shr .u64 (Go.bits .or .u64 (IntKind.u64.wrap (rd u (i : Int))) (IntKind.u64.wrap (IntKind.u64.wrap (rd u ((i + 1 : Nat) : Int)) * 4294967296))) (n : Int) % 4294967296 = (((valn u / 2 ^ n / pw i % 4294967296 : Nat)) : Int) := by
      have e : (y : Int) * 4294967296 = ((y * 4294967296 : Nat) : Int) := by simp
      rw [ex, ey, u64 (x := (x : Int)) (by omega) (by omega), u64 (x := (y : Int)) (by omega) (by omega), e, u64 (x := ((y * 4294967296 : Nat) : Int)) (by omega) (by omega), bits_or_comm, or64 32 _ _ (by simp) (by omega) (by omega) (by omega)]
      unfold shr
      have hm : min ((n : Int)).toNat IntKind.u64.bits = n := by
        rw [Int.toNat_natCast]; exact Nat.min_eq_left (by show n ≤ 64; omega)
      rw [hm, hl, Nat.add_comm (y * 4294967296), Nat.mul_comm y, Int.natCast_emod, Int.natCast_ediv, Int.natCast_pow]; rfl
    have hb : valn u / 2 ^ n / pw i % 4294967296 < 4294967296 := Nat.mod_lt _ (by decide)
    generalize hd : valn u / 2 ^ n / pw i % 4294967296 = D at et hb
    have step := ih (i + 1) (z.set i (D : Int)) (by omega) (by rw [List.length_set]; exact hz) (U_set uz (by omega) _) (by
      rw [valn_set_take z i _ (by omega), Int.toNat_natCast, hv, mod_pw_succ, hd])
    refine Ev.step (fun k => ?_) step
    simp only [nat_longw.l1]
    rw [up i (by omega), if_pos (by omega), if_pos (by omega), if_pos (by omega), if_pos (by omega), if_pos (by omega), if_pos (by omega), if_pos (by omega), et, Int.toNat_natCast]
theorem long_l0 {v : List Int} (uv : U v) (h2 : 2 ≤ v.length) (hn : 2147483648 ≤ rd v ((v.length - 1 : Nat) : Int)) (n : Nat) (hn31 : n ≤ 31) (S L : Nat) (hL : v.length + 1 ≤ L) (hL' : L ≤ 1000002) : ∀ (j : Nat) (q u : List Int), u.length = L → U u → q.length = L - v.length → U q → j ≤ L - v.length →
    valn (u.drop j) < valn v → valn (u.take j) + pw j * valn (u.drop j) + valn v * pw j * valn (q.drop j) = S →
    Ev (fun k => nat_longw.l0 k q (n : Int) v u (v.length : Int) ((j : Int) - 1)) (padn (L - v.length) (S / valn v), padn v.length (S % valn v / 2 ^ n)) := by
  intro j
  induction j with
  | zero =>
    intro q u hu uu hq uq _ hlt hS
    rw [List.take_zero, List.drop_zero, List.drop_zero, pw_zero, valn_nil, Nat.mul_one, Nat.one_mul, Nat.zero_add] at hS
    rw [List.drop_zero] at hlt
    have hv0 : 0 < valn v := by omega
    have h3 := quo_of (u := S) (v := valn v) (q := valn q) (by rw [← hS, Nat.mul_comm]; omega) (by rw [← hS, Nat.mul_comm]; omega)
    have h4 : S % valn v = valn u := by rw [h3.2, ← hS, Nat.mul_comm (valn v)]; omega
    have hqp : padn (L - v.length) (S / valn v) = q := by rw [h3.1, ← hq]; exact padn_valn uq
    rw [hqp, h4]
    have h5 := long_l1 (q := q) uu n v.length hn31 (by omega) (by omega) v.length 0 (List.replicate v.length 0) (by omega) (by simp) (U_replicate _) (by rw [List.take_zero, valn_nil, pw_zero, Nat.mod_one])
    refine Ev.step (fun k => ?_) h5
    simp only [nat_longw.l0]
    rw [if_neg (by omega), if_pos (by omega), Int.toNat_natCast, if_pos (by omega), Option.bind_some, List.length_replicate]; rfl
  | succ j ih =>
    intro q u hu uu hq uq hj hlt hS
    have hj1 : j + v.length + 1 ≤ u.length := by omega
    obtain ⟨h3, h4⟩ := win_val uu uv j hj1 hlt
    obtain ⟨a1, a2, a3, a4⟩ := win_after uu uv j hj1 hlt
    have hst := stepat_f uu uv h2 hn (by omega) j hj1 hlt
    have hv0 : 0 < valn v := by omega
    have hqb : valn (u.drop j) / valn v < 4294967296 := (Nat.div_lt_iff_lt_mul hv0).mpr h4
    have e0 : valn u = valn (u.take j) + pw j * valn (u.drop j) := valn_splitD u j
    have e1 : valn u = valn (u.take (j + 1)) + pw (j + 1) * valn (u.drop (j + 1)) := valn_splitD u (j + 1)
    rw [← e1, e0, pw_succ] at hS
    have hinv := long_inv hS
    have uq' : U (q.set j ((valn (u.drop j) / valn v : Nat) : Int)) := U_set uq ⟨Int.natCast_nonneg _, by omega⟩ _
    have hqd : valn ((q.set j ((valn (u.drop j) / valn v : Nat) : Int)).drop j) = valn (u.drop j) / valn v + 4294967296 * valn (q.drop (j + 1)) := by
      rw [valn_drop_rd, rd_set_eq _ _ _ (by omega), Int.toNat_natCast, List.drop_set_of_lt (by omega)]
    have htk : (sp u j (padn (v.length + 1) (valn (u.drop j) % valn v))).take j = u.take j := sp_take _ _ _ (by rw [padn_len]; omega)
    have step := ih (q.set j ((valn (u.drop j) / valn v : Nat) : Int)) (sp u j (padn (v.length + 1) (valn (u.drop j) % valn v))) (by rw [a4]; exact hu) a3 (by rw [List.length_set]; exact hq) uq' (by omega) (by rw [a1]; exact Nat.mod_lt _ hv0) (by
      rw [htk, a1, hqd]; exact hinv)
    refine Ev_succ ?_
    have ej : ((j + 1 : Nat) : Int) - 1 = (j : Int) := by omega
    simp only [nat_longw.l0, ej]
    refine Ev.congr (fun k => ?_) (Ev.bind (f := fun k r => nat_longw.l0 k (q.set j r.1) (n : Int) v r.2 (v.length : Int) ((j : Int) - 1)) hst step)
    rw [if_pos (by omega)]
    congr 1
    funext r
    rw [if_pos (by omega), if_pos (by omega), w64 (by omega) (by omega), Int.toNat_natCast]
theorem lz_top {n : Nat} (h0 : n ≠ 0) (h : n < 4294967296) : (n + 1) * 2 ^ (32 - sz n) ≤ 4294967296 := by
  have hb : sz n ≤ 32 := sz_le (b := 32) h
  have h3 := (sz_spec h0).2
  have e2 : (4294967296 : Nat) = 2 ^ sz n * 2 ^ (32 - sz n) := by rw [← Nat.pow_add, show sz n + (32 - sz n) = 32 from by omega]
  conv => rhs; rw [e2]
  exact Nat.mul_le_mul_right _ h3
theorem top_val {b : List Int} {M t : Nat} (hM : b.length = M + 1) (et : rd b (M : Int) = (t : Int)) : valn b = valn (b.take M) + pw M * t := by
  have a1 := valn_splitD b M
  have a2 := valn_drop_rd b M
  have z0 : b.drop (M + 1) = [] := List.drop_eq_nil_of_le (by omega)
  rw [z0, valn_nil, et, Int.toNat_natCast, Nat.mul_zero, Nat.add_zero] at a2
  rw [a1, a2]
theorem norm_up {x p t c B : Nat} (h1 : x < p) (h : (t + 1) * c ≤ B) (hc : 0 < c) : (x + p * t) * c < p * B := by
  have h2 : (x + p * t + 1) * c ≤ p * (t + 1) * c := Nat.mul_le_mul_right _ (by rw [Nat.mul_add, Nat.mul_one]; omega)
  have h3 : p * (t + 1) * c ≤ p * B := by rw [Nat.mul_assoc]; exact Nat.mul_le_mul_left _ h
  rw [Nat.add_mul _ 1, Nat.one_mul] at h2
  exact Nat.lt_of_lt_of_le (Nat.lt_add_of_pos_right hc) (Nat.le_trans h2 h3)
theorem norm_low {x p t c H : Nat} (h : H ≤ t * c) : p * H ≤ (x + p * t) * c := by
  rw [Nat.add_mul, Nat.mul_assoc]
  exact Nat.le_trans (Nat.mul_le_mul_left _ h) (Nat.le_add_left _ _)
theorem lb_len_eq {V M : Nat} (h1 : V < pw (M + 1)) (h2 : pw M ≤ V) : (lb V).length = M + 1 := by
  have h3 := lb_len_le h1
  have h4 := lt_pow_len V
  by_cases c : (lb V).length = M + 1
  · exact c
  · exact absurd (Nat.lt_of_lt_of_le h4 (Nat.le_trans (pw_mono (show (lb V).length ≤ M from by omega)) h2)) (Nat.lt_irrefl _)
theorem lb_top {V M H : Nat} (h2 : pw M * H ≤ V) (hl : (lb V).length = M + 1) : (H : Int) ≤ rd (lb V) (M : Int) := by
  obtain ⟨x, ex, hx⟩ := rd_nat (U_lb V) (M : Int)
  have a1 := top_val hl ex
  rw [valn_lb] at a1
  have a3 := take_lt' (U_lb V) M
  rw [ex]
  by_cases c : H ≤ x
  · omega
  · exfalso
    have h3 : pw M * (x + 1) ≤ pw M * H := Nat.mul_le_mul_left _ (by omega)
    rw [Nat.mul_add, Nat.mul_one] at h3
    generalize pw M * x = y at *
    generalize pw M * H = z at *
    omega
theorem norm_div {b : List Int} (ub : U b) {M t : Nat} (hM : b.length = M + 1) (et : rd b (M : Int) = (t : Int)) (ht : t < 4294967296) (ht0 : t ≠ 0) :
    valn b * 2 ^ (32 - sz t) < pw (M + 1) ∧ (lb (valn b * 2 ^ (32 - sz t))).length = M + 1 ∧ 2147483648 ≤ rd (lb (valn b * 2 ^ (32 - sz t))) (M : Int) := by
  obtain ⟨z1, _, _⟩ := lz_shift ht0 ht
  have z4 := lz_top ht0 ht
  have tb := take_lt' ub M
  have sb := top_val hM et
  have v1 : valn b * 2 ^ (32 - sz t) < pw (M + 1) := by rw [sb, pw_succ]; exact norm_up tb z4 (Nat.two_pow_pos _)
  have v2 : pw M * 2147483648 ≤ valn b * 2 ^ (32 - sz t) := by rw [sb]; exact norm_low z1
  have v3 : pw M ≤ valn b * 2 ^ (32 - sz t) := Nat.le_trans (Nat.le_mul_of_pos_right _ (by decide)) v2
  have vl := lb_len_eq v1 v3
  exact ⟨v1, vl, lb_top v2 vl⟩
theorem den_low {b : List Int} {M t : Nat} (hM : b.length = M + 1) (et : rd b (M : Int) = (t : Int)) (ht0 : t ≠ 0) : pw M ≤ valn b := by
  rw [top_val hM et]
  exact Nat.le_trans (Nat.le_mul_of_pos_right _ (Nat.pos_of_ne_zero ht0)) (Nat.le_add_left _ _)
theorem num_high {a : List Int} (ua : U a) {B M J c : Nat} (hJ : a.length = M + J) (hB : pw M ≤ B) (hc : 0 < c) : valn a * c < B * c * pw J := by
  have va := valn_lt ua
  rw [hJ, pw_add] at va
  have h1 : valn a < B * pw J := Nat.lt_of_lt_of_le va (Nat.mul_le_mul_right _ hB)
  have h2 := Nat.mul_lt_mul_of_pos_right h1 hc
  rwa [Nat.mul_assoc, Nat.mul_comm (pw J), ← Nat.mul_assoc] at h2
theorem drop_lt {u : List Int} {J V : Nat} (h : valn u < V * pw J) : valn (u.drop J) < V := by
  have h1 := valn_splitD u J
  by_cases c : valn (u.drop J) < V
  · exact c
  · exfalso
    have h2 : V * pw J ≤ valn (u.drop J) * pw J := Nat.mul_le_mul_right _ (by omega)
    rw [Nat.mul_comm (valn _)] at h2
    generalize V * pw J = x at *
    generalize pw J * valn (u.drop J) = y at *
    omega
theorem longw_f {a b : List Int} (ua : U a) (ub : U b) (h2 : 2 ≤ b.length) (hba : b.length ≤ a.length) (htop : rd b ((b.length - 1 : Nat) : Int) ≠ 0) (ha : a.length ≤ 1000000) :
    Ev (fun k => nat_longw.f k a b) (padn (a.length + 1 - b.length) (valn a / valn b), padn b.length (valn a % valn b)) := by
  obtain ⟨M, hM⟩ : ∃ M, b.length = M + 1 := ⟨b.length - 1, by omega⟩
  rw [hM, Nat.add_sub_cancel] at htop
  obtain ⟨t, et, ht⟩ := rd_nat ub (M : Int)
  have ht0 : t ≠ 0 := by intro h; apply htop; rw [et, h]; rfl
  have z3 := (lz_shift ht0 ht).2.2
  obtain ⟨v1, vl, vt⟩ := norm_div ub hM et ht ht0
  have hb0 := den_low hM et ht0
  obtain ⟨J, hJ⟩ : ∃ J, a.length = M + J := ⟨a.length - M, by omega⟩
  have hlz := LeadingZeros32_f t ht
  obtain ⟨n, hn⟩ : ∃ n, 32 - sz t = n := ⟨_, rfl⟩
  rw [hn] at z3 v1 vl vt hlz
  have hc := Nat.two_pow_pos n
  have hcB : 2 ^ n < 4294967296 := Nat.lt_of_le_of_lt (Nat.pow_le_pow_right (by decide) z3) (by decide : 2 ^ 31 < 4294967296)
  have s2 := num_high ua hJ hb0 hc
  have s1 : valn a * 2 ^ n < pw (a.length + 1) := by rw [pw_succ]; exact Nat.mul_lt_mul'' (valn_lt ua) hcB
  have e1 : valn a * 2 ^ n / (valn b * 2 ^ n) = valn a / valn b := Nat.mul_div_mul_right _ _ hc
  have e2 : valn a * 2 ^ n % (valn b * 2 ^ n) / 2 ^ n = valn a % valn b := by rw [Nat.mul_mod_mul_right]; exact Nat.mul_div_cancel _ hc
  have hsh1 := shift_f ub n z3 (by omega)
  have hsh2 := shift_f ua n z3 (by omega)
  obtain ⟨V, hV⟩ : ∃ V, valn b * 2 ^ n = V := ⟨_, rfl⟩
  obtain ⟨S, hS⟩ : ∃ S, valn a * 2 ^ n = S := ⟨_, rfl⟩
  rw [hV] at v1 vl vt s2 e1 e2 hsh1
  rw [hS] at s1 s2 e1 e2 hsh2
  have hso := short_f (l := padn (b.length + 1) V) (U_padn _ _) (by rw [padn_len]; omega)
  rw [valn_padn_lt (Nat.lt_of_lt_of_le v1 (pw_mono (by omega)))] at hso
  have u0 : valn ((padn (a.length + 1) S).drop J) < V := drop_lt (by rw [valn_padn_lt s1]; exact s2)
  have main := long_l0 (v := lb V) (U_lb V) (by rw [vl, ← hM]; exact h2) (by rw [vl, Nat.add_sub_cancel]; exact vt) n z3 S (a.length + 1) (by omega) (by omega) J (List.replicate J 0) (padn (a.length + 1) S) (padn_len _ _) (U_padn _ _) (by rw [List.length_replicate]; omega) (U_replicate _) (by omega) (by rw [valn_lb]; exact u0) (by
    rw [show (List.replicate J (0 : Int)).drop J = [] from List.drop_eq_nil_of_le (by rw [List.length_replicate]; exact Nat.le_refl _), valn_nil, Nat.mul_zero, Nat.add_zero, ← valn_splitD, valn_padn_lt s1])
  rw [valn_lb, e1, e2, vl] at main
  rw [hM] at hsh1 hso ⊢
  have eJ : ((a.length + 1 : Nat) : Int) - ((M + 1 : Nat) : Int) = (J : Int) := by omega
  have c1 : (0 : Int) ≤ (M : Int) ∧ (M : Int) < ((M + 1 : Nat) : Int) ∧ (0 : Int) ≤ (J : Int) ∧ J ≤ 70368744177664 ∧ M < 9223372036854775807 := by omega
  have ws : wrap64 (((M + 1 : Nat) : Int) - 1) = (M : Int) ∧ wrap64 (J : Int) = (J : Int) ∧ wrap64 ((J : Int) - 1) = (J : Int) - 1 := ⟨dn M c1.2.2.2.2, w64 (by omega) (by omega), w64 (by omega) (by omega)⟩
  refine Ev.congr (f := fun k => (nat_shift.f k b (n : Int)).bind fun t139 => (nat_short.f k t139).bind fun t142 => (nat_shift.f k a (n : Int)).bind fun t145 =>
    (if 0 ≤ (wrap64 ((t145.length : Int) - (t142.length : Int))) then (if (wrap64 ((t145.length : Int) - (t142.length : Int)) : Int).toNat ≤ 70368744177664 then (nat_longw.l0 k (List.replicate (wrap64 ((t145.length : Int) - (t142.length : Int)) : Int).toNat 0) (n : Int) t142 t145 (t142.length : Int) (wrap64 ((wrap64 ((t145.length : Int) - (t142.length : Int))) - 1))) else (none)) else (none)))
    (fun k => ?_) (Ev.bind hsh1 (Ev.bind hso (Ev.bind hsh2 (Ev.congr (fun k => ?_) main))))
  · unfold nat_longw.f
    rw [hM, ws.1, if_pos c1.1, if_pos c1.2.1, et, hlz, Option.bind_some]
  · rw [padn_len, vl, eJ, ws.2.1, ws.2.2, if_pos c1.2.2.1, Int.toNat_natCast, if_pos c1.2.2.2.1]
end Go.Proofs.Ytecfdemglbfnoaa.Num
end
section
namespace Go.Proofs.Ytecfdemglbfnoaa.PT
open Go.RowKit Go.Proofs.Ytecfdemglbfnoaa.Num Go.Proofs.YtecfdemglbfnoaaW.PrintWords
def nat_long.f (l0 l1 : List Int) : Option (List Int × List Int) :=
  if 2 ≤ l1.length ∧ l1.length ≤ l0.length ∧ l1.getLastD 0 ≠ 0 ∧ (∀ x ∈ l0, 0 ≤ x ∧ x < 4294967296) ∧ (∀ x ∈ l1, 0 ≤ x ∧ x < 4294967296) ∧ l0.length ≤ 1000000 then
    some (padn (l0.length + 1 - l1.length) (valn l0 / valn l1), padn l1.length (valn l0 % valn l1)) else none
theorem rd_getLastD (l : List Int) : rd l ((l.length - 1 : Nat) : Int) = l.getLastD 0 := by
  unfold rd
  rw [Int.toNat_natCast, List.getLastD_eq_getLast?, List.getLast?_eq_getElem?, List.getD_eq_getElem?_getD]
theorem nat_long.calls (A0 : Option Addr) (c0 : Nat) (l0 : List Int) (A1 : Option Addr) (c1 : Nat) (l1 : List Int) (r1 : List Int) (r2 : List Int) (w : World) (hr0 : Kd.C (Kd.int .u32) w A0 l0.length l0) (hc0 : l0.length ≤ c0) (hr1 : Kd.C (Kd.int .u32) w A1 l1.length l1) (hc1 : l1.length ≤ c1) (h : nat_long.f l0 l1 = some (r1, r2)) :
    Calls Try.prog 187 #[.slice A0 l0.length c0, .slice A1 l1.length c1] w fun e w' => ∃ v0_ v1_ : Value, e = .returned (.tuple #[v0_, v1_]) ∧ Kd.R (Kd.int .u32) 48 w' w.heap.size (fun k_ => some k_ ≠ (v1_ : Value).ownBlock) v0_ r1 ∧ Kd.R (Kd.int .u32) 48 w' w.heap.size (fun k_ => some k_ ≠ (v0_ : Value).ownBlock) v1_ r2 ∧ Below w.heap.size w w' := by
  unfold nat_long.f at h
  split at h
  case isTrue c =>
    obtain ⟨h2, hba, hd, ua, ub, ha⟩ := c
    obtain ⟨k, hk⟩ := (longw_f (a := l0) (b := l1) ua ub h2 hba (by rw [rd_getLastD l1]; exact hd) ha).rounds
    exact nat_longw.calls k A0 c0 l0 A1 c1 l1 r1 r2 w hr0 hc0 hr1 hc1 (hk.trans h)
  case isFalse => exact absurd h (by simp)
end Go.Proofs.Ytecfdemglbfnoaa.PT
end
section
namespace Go.Proofs.Ytecfdemglbfnoaa.PT
open Go.RowKit Go.Proofs.YtecfdemglbfnoaaW.PrintWords Go.Proofs.YtecfdemglbfnoaaW.PrintLast Go.Proofs.YtecfdemglbfnoaaW.PrintMore
attribute [local go_sem] max2_int min2_int max_two min_two max_three min_three max_four min_four
set_option linter.unusedVariables false
set_option linter.unusedSimpArgs false
set_option maxHeartbeats 8000000
set_option maxRecDepth 100000
def nat_DivMod.f (k : Nat) (l0 : List Int) (l1 : List Int) : Option (List Int × List Int × Int) := (nat_short.f k l0).bind fun t966 => ((nat_short.f k l1).bind fun t969 => (if (t969.length : Int) = 0 then (some (([] : List Int), ([] : List Int), 7)) else ((nat_Cmp.f k t966 t969).bind fun t972 => (if t972 < 0 then ((nat_Trim.f k t966).bind fun t973 => (some (([] : List Int), t973, 0))) else (if (t969.length : Int) = 1 then (if 0 < (t969.length : Int) then ((nat_digit.f k t966 (rd t969 0)).bind fun bt977 => ((nat_Of.f k (IntKind.u64.wrap (bt977.2))).bind fun t981 => (some (bt977.1, t981, 0)))) else (none)) else ((nat_long.f t966 t969).bind fun bt984 => ((nat_Trim.f k bt984.1).bind fun t990 => ((nat_Trim.f k bt984.2).bind fun t993 => (some (t990, t993, 0))))))))))
theorem nat_DivMod.calls (k : Nat) (P0_ : Nat → Prop) (A0 : Option Addr) (c0 : Nat) (l0 : List Int) (P1_ : Nat → Prop) (A1 : Option Addr) (c1 : Nat) (l1 : List Int) (r1 : List Int) (r2 : List Int) (r3 : Int) (w : World) (hs0 : Kd.V (Kd.int .u32) 48 w w.heap.size (fun k_ => P0_ k_) (.slice A0 l0.length c0) l0) (hs1 : Kd.V (Kd.int .u32) 48 w w.heap.size (fun k_ => P1_ k_) (.slice A1 l1.length c1) l1) (h : nat_DivMod.f k l0 l1 = some (r1, r2, r3)) :
 Calls Try.prog 167 #[.slice A0 l0.length c0, .slice A1 l1.length c1] w fun e w' => ∃ v0_ v1_ : Value, e = .returned (.tuple #[v0_, v1_, .int .i64 r3]) ∧ Kd.V (Kd.int .u32) 48 w' w.heap.size (fun k_ => ((P0_ k_ ∨ P1_ k_) ∨ w.heap.size ≤ k_)) v0_ r1 ∧ Kd.V (Kd.int .u32) 48 w' w.heap.size (fun k_ => ((P0_ k_ ∨ P1_ k_) ∨ w.heap.size ≤ k_)) v1_ r2 ∧ Below w.heap.size w w' := by
 have af := am (show Kd.V (Kd.int .u32) 48 w w.heap.size (fun k_ => ((P0_ k_ ∨ P1_ k_) ∨ w.heap.size ≤ k_)) (.slice A0 l0.length c0) l0 from Kd.V_mono hs0 (fun k_ hk => .inl (.inl hk)))
 have ag := am (show Kd.V (Kd.int .u32) 48 w w.heap.size (fun k_ => ((P0_ k_ ∨ P1_ k_) ∨ w.heap.size ≤ k_)) (.slice A1 l1.length c1) l1 from Kd.V_mono hs1 (fun k_ hk => .inl (.inr hk)))
 have HB := am (Below.refl w.heap.size w)
 have H : ((nat_short.f k l0).bind fun ae => ((nat_short.f k l1).bind fun ac => (if (ac.length : Int) = 0 then (some (([] : List Int), ([] : List Int), 7)) else ((nat_Cmp.f k ae ac).bind fun aj => (if aj < 0 then ((nat_Trim.f k ae).bind fun aq => (some (([] : List Int), aq, 0))) else (if (ac.length : Int) = 1 then (if 0 < (ac.length : Int) then ((nat_digit.f k ae (rd ac 0)).bind fun ao => ((nat_Of.f k (IntKind.u64.wrap (ao.2))).bind fun au => (some (ao.1, au, 0)))) else (none)) else ((nat_long.f ae ac).bind fun ap => ((nat_Trim.f k ap.1).bind fun av => ((nat_Trim.f k ap.2).bind fun aw => (some (av, aw, 0))))))))))) = some (r1, r2, r3) := h
 clear h
 obtain ⟨ae, A3, H⟩ := bs H
 (try dsimp -simprocs only at H)
 obtain ⟨ac, A4, H⟩ := bs H
 (try dsimp -simprocs only at H)
 by_cases c5 : (ac.length : Int) = 0
 ·
  rw [if_pos c5] at H
  have aU : ((ac.length : Int) == 0) = true := beq_iff_eq.mpr c5
  have aV : ((ac.length : Int) != 0) = false := bne_eq_false_iff_eq.mpr c5
  clear c5
  simp only [Option.some.injEq, Prod.mk.injEq] at H
  obtain ⟨rfl, rfl, rfl⟩ := H
  go_enter Try.func167, Try.ntmps167
  go_wp2_with (first | ((with_reducible refine gate_callee (f := 179) rfl ?_); refine goesL_ (some 12) rfl rfl Try.func179 (by kernel_rfl) rfl #[.slice A0 l0.length c0] rfl lu ?_; (with_reducible refine (nat_short.calls k (fun k_ => ((P0_ k_ ∨ P1_ k_) ∨ w.heap.size ≤ k_)) _ _ l0 ae _ ?side1 A3.out).mono ?_); (case side1 => exact vz af.out); rintro e w6 ⟨ax, rfl, ad, hb⟩; refine ⟨_, rfl, ?_⟩; replace af := kv af hb; replace ag := kv ag hb; have aa := ar w.heap.size (ok' := fun k_ => ((P0_ k_ ∨ P1_ k_) ∨ w.heap.size ≤ k_)) ad (fz HB); replace HB := be HB hb; (try clear hb); (try clear ad)) | ((with_reducible refine gate_callee (f := 179) rfl ?_); refine goesL_ (some 14) rfl rfl Try.func179 (by kernel_rfl) rfl #[.slice A1 l1.length c1] rfl lu ?_; (with_reducible refine (nat_short.calls k (fun k_ => ((P0_ k_ ∨ P1_ k_) ∨ w.heap.size ≤ k_)) _ _ l1 ac _ ?side1 A4.out).mono ?_); (case side1 => exact vz ag.out); rintro e w7 ⟨ay, rfl, ad, hb⟩; refine ⟨_, rfl, ?_⟩; replace af := kv af hb; replace ag := kv ag hb; replace aa := kv aa hb; have ab := ar w.heap.size (ok' := fun k_ => ((P0_ k_ ∨ P1_ k_) ∨ w.heap.size ≤ k_)) ad (fz HB); replace HB := be HB hb; (try clear hb); (try clear ad); obtain ⟨bA, bB, bh⟩ := Kd.V_slice ab.out; subst bh))
  go_ret3
  exact ⟨_, _, by first | rfl | (simp [errW_none, errW_some] <;> rfl) | (simp [*, errW_none, errW_some] <;> rfl), Kd.V_nil _ _ _ _ _, Kd.V_nil _ _ _ _ _, by repeat (first | (with_reducible first | exact HB.out | apply below_alloc | apply pw_below_drewN | apply below_drew1) | exact HB.out)⟩
 ·
  rw [if_neg c5] at H
  have aU : ((ac.length : Int) == 0) = false := beq_eq_false_iff_ne.mpr c5
  have aV : ((ac.length : Int) != 0) = true := bne_iff_ne.mpr c5
  have bi : ¬ (ac = []) := fun h_ => c5 (by rw [h_]; rfl)
  obtain ⟨aj, A9, H⟩ := bs H
  (try dsimp -simprocs only at H)
  by_cases aD : aj < 0
  ·
   rw [if_pos aD] at H
   have aE : decide (aj < 0) = true := decide_eq_true aD
   clear aD
   obtain ⟨aq, bj, H⟩ := bs H
   (try dsimp -simprocs only at H)
   simp only [Option.some.injEq, Prod.mk.injEq] at H
   obtain ⟨rfl, rfl, rfl⟩ := H
   go_enter Try.func167, Try.ntmps167
   go_wp2_with (first | ((with_reducible refine gate_callee (f := 179) rfl ?_); refine goesL_ (some 12) rfl rfl Try.func179 (by kernel_rfl) rfl #[.slice A0 l0.length c0] rfl lu ?_; (with_reducible refine (nat_short.calls k (fun k_ => ((P0_ k_ ∨ P1_ k_) ∨ w.heap.size ≤ k_)) _ _ l0 ae _ ?side1 A3.out).mono ?_); (case side1 => exact vz af.out); rintro e bC ⟨ax, rfl, ad, hb⟩; refine ⟨_, rfl, ?_⟩; replace af := kv af hb; replace ag := kv ag hb; have aa := ar w.heap.size (ok' := fun k_ => ((P0_ k_ ∨ P1_ k_) ∨ w.heap.size ≤ k_)) ad (fz HB); replace HB := be HB hb; (try clear hb); (try clear ad)) | ((with_reducible refine gate_callee (f := 179) rfl ?_); refine goesL_ (some 14) rfl rfl Try.func179 (by kernel_rfl) rfl #[.slice A1 l1.length c1] rfl lu ?_; (with_reducible refine (nat_short.calls k (fun k_ => ((P0_ k_ ∨ P1_ k_) ∨ w.heap.size ≤ k_)) _ _ l1 ac _ ?side1 A4.out).mono ?_); (case side1 => exact vz ag.out); rintro e bD ⟨ay, rfl, ad, hb⟩; refine ⟨_, rfl, ?_⟩; replace af := kv af hb; replace ag := kv ag hb; replace aa := kv aa hb; have ab := ar w.heap.size (ok' := fun k_ => ((P0_ k_ ∨ P1_ k_) ∨ w.heap.size ≤ k_)) ad (fz HB); replace HB := be HB hb; (try clear hb); (try clear ad); obtain ⟨aW, aX, aY⟩ := Kd.V_slice ab.out; subst aY; obtain ⟨aF, aG, aZ⟩ := Kd.V_slice aa.out; subst aZ) | ((with_reducible refine gate_callee (f := 146) rfl ?_); refine goesL_ (some 22) rfl rfl Try.func146 (by kernel_rfl) rfl #[.slice aF ae.length aG, .slice aW ac.length aX] rfl lu ?_; (with_reducible refine (nat_Cmp.calls k _ _ ae _ _ ac aj _ ?side1 ?side2 ?side3 ?side4 A9.out).mono ?_); (case side1 => exact cu (Kd.V_reads' aa.out).2.2); (case side2 => exact (Kd.V_reads' aa.out).2.1); (case side3 => exact cu (Kd.V_reads' ab.out).2.2); (case side4 => exact (Kd.V_reads' ab.out).2.1); rintro e bE ⟨rfl, hb⟩; refine ⟨_, rfl, ?_⟩; replace af := kv af hb; replace ag := kv ag hb; replace aa := kv aa hb; replace ab := kv ab hb; replace HB := be HB hb; (try clear hb)) | ((with_reducible refine gate_callee (f := 177) rfl ?_); refine goesL_ (some 25) rfl rfl Try.func177 (by kernel_rfl) rfl #[.slice aF ae.length aG] rfl lu ?_; (with_reducible refine (nat_Trim.calls k _ _ ae aq _ ?side1 ?side2 bj.out).mono ?_); (case side1 => exact cu (Kd.V_reads' aa.out).2.2); (case side2 => exact (Kd.V_reads' aa.out).2.1); rintro e bF ⟨bk, rfl, ad, hb⟩; refine ⟨_, rfl, ?_⟩; replace ad := R_V_base rfl ad; replace af := kv af hb; replace ag := kv ag hb; replace aa := kv aa hb; replace ab := kv ab hb; have aH := ar0 w.heap.size (ok' := fun k_ => ((P0_ k_ ∨ P1_ k_) ∨ w.heap.size ≤ k_)) ad (fz HB); replace HB := be HB hb; (try clear hb); (try clear ad)))
   go_ret3
   exact ⟨_, _, by first | rfl | (simp [errW_none, errW_some] <;> rfl) | (simp [*, errW_none, errW_some] <;> rfl), Kd.V_nil _ _ _ _ _, by (with_reducible repeat (first | apply Kd.V_alloc | apply Kd.V_drewN | apply Kd.V_drew)); exact aH.out, by repeat (first | (with_reducible first | exact HB.out | apply below_alloc | apply pw_below_drewN | apply below_drew1) | exact HB.out)⟩
  ·
   rw [if_neg aD] at H
   have aE : decide (aj < 0) = false := decide_eq_false aD
   clear aD
   by_cases az : (ac.length : Int) = 1
   ·
    rw [if_pos az] at H
    have aI : ((ac.length : Int) == 1) = true := beq_iff_eq.mpr az
    have aJ : ((ac.length : Int) != 1) = false := bne_eq_false_iff_eq.mpr az
    clear az
    by_cases aS : 0 < (ac.length : Int)
    ·
     rw [if_pos aS] at H
     have bf : decide (0 < (ac.length : Int)) = true := decide_eq_true aS
     have bg : decide (0 < ac.length) = true := decide_eq_true (by omega)
     clear aS
     obtain ⟨⟨a0, aA⟩, bl, H⟩ := bs H
     (try dsimp -simprocs only at H)
     obtain ⟨au, bm, H⟩ := bs H
     (try dsimp -simprocs only at H)
     simp only [Option.some.injEq, Prod.mk.injEq] at H
     obtain ⟨rfl, rfl, rfl⟩ := H
     go_enter Try.func167, Try.ntmps167
     go_wp2_with (first | ((with_reducible refine gate_callee (f := 179) rfl ?_); refine goesL_ (some 12) rfl rfl Try.func179 (by kernel_rfl) rfl #[.slice A0 l0.length c0] rfl lu ?_; (with_reducible refine (nat_short.calls k (fun k_ => ((P0_ k_ ∨ P1_ k_) ∨ w.heap.size ≤ k_)) _ _ l0 ae _ ?side1 A3.out).mono ?_); (case side1 => exact vz af.out); rintro e bG ⟨ax, rfl, ad, hb⟩; refine ⟨_, rfl, ?_⟩; replace af := kv af hb; replace ag := kv ag hb; have aa := ar w.heap.size (ok' := fun k_ => ((P0_ k_ ∨ P1_ k_) ∨ w.heap.size ≤ k_)) ad (fz HB); replace HB := be HB hb; (try clear hb); (try clear ad)) | ((with_reducible refine gate_callee (f := 179) rfl ?_); refine goesL_ (some 14) rfl rfl Try.func179 (by kernel_rfl) rfl #[.slice A1 l1.length c1] rfl lu ?_; (with_reducible refine (nat_short.calls k (fun k_ => ((P0_ k_ ∨ P1_ k_) ∨ w.heap.size ≤ k_)) _ _ l1 ac _ ?side1 A4.out).mono ?_); (case side1 => exact vz ag.out); rintro e bH ⟨ay, rfl, ad, hb⟩; refine ⟨_, rfl, ?_⟩; replace af := kv af hb; replace ag := kv ag hb; replace aa := kv aa hb; have ab := ar w.heap.size (ok' := fun k_ => ((P0_ k_ ∨ P1_ k_) ∨ w.heap.size ≤ k_)) ad (fz HB); replace HB := be HB hb; (try clear hb); (try clear ad); obtain ⟨a1, a2, a3⟩ := Kd.V_slice ab.out; subst a3; obtain ⟨aK, aL, a4⟩ := Kd.V_slice aa.out; subst a4) | ((with_reducible refine gate_callee (f := 146) rfl ?_); refine goesL_ (some 22) rfl rfl Try.func146 (by kernel_rfl) rfl #[.slice aK ae.length aL, .slice a1 ac.length a2] rfl lu ?_; (with_reducible refine (nat_Cmp.calls k _ _ ae _ _ ac aj _ ?side1 ?side2 ?side3 ?side4 A9.out).mono ?_); (case side1 => exact cu (Kd.V_reads' aa.out).2.2); (case side2 => exact (Kd.V_reads' aa.out).2.1); (case side3 => exact cu (Kd.V_reads' ab.out).2.2); (case side4 => exact (Kd.V_reads' ab.out).2.1); rintro e bI ⟨rfl, hb⟩; refine ⟨_, rfl, ?_⟩; replace af := kv af hb; replace ag := kv ag hb; replace aa := kv aa hb; replace ab := kv ab hb; replace HB := be HB hb; (try clear hb); have p976 : 0 ≤ (0 : Int) := (by omega); have q976 : 0 < (ac.length : Int) := of_decide_eq_true (by first | (with_reducible assumption) | assumption); obtain ⟨ad976, e976, ak⟩ := Kd.at_int (Kd.V_reads' ab.out).2.2 0 p976 q976; cases e976; have qi976 : (0 < ac.length) = True := eq_true (by omega); (try rw [show ((0 : Int)).toNat = 0 from rfl] at ak); (try rw [Addr.add_zero'] at ak); replace p976 := eq_true p976; replace q976 := eq_true q976) | ((with_reducible refine gate_callee (f := 186) rfl ?_); refine goesL_ (some 35) rfl rfl Try.func186 (by kernel_rfl) rfl #[.slice aK ae.length aL, .int .u32 (rd ac 0)] rfl lu ?_; (with_reducible refine (nat_digit.calls k _ _ ae (rd ac 0) a0 aA _ ?side1 ?side2 bl.out).mono ?_); (case side1 => exact cu (Kd.V_reads' aa.out).2.2); (case side2 => exact (Kd.V_reads' aa.out).2.1); rintro e bJ ⟨bn, rfl, ad, hb⟩; refine ⟨_, rfl, ?_⟩; replace af := kv af hb; replace ag := kv ag hb; replace aa := kv aa hb; replace ab := kv ab hb; have al := ar0 w.heap.size (ok' := fun k_ => ((P0_ k_ ∨ P1_ k_) ∨ w.heap.size ≤ k_)) ad (fz HB); replace HB := be HB hb; (try clear hb); (try clear ad)) | ((with_reducible refine gate_callee (f := 141) rfl ?_); refine goesL_ (some 41) rfl rfl Try.func141 (by kernel_rfl) rfl #[.int .u64 (IntKind.u64.wrap (aA))] rfl lu ?_; (with_reducible refine (nat_Of.calls k (IntKind.u64.wrap (aA)) au _ bm.out).mono ?_); rintro e bK ⟨bo, rfl, ad, hb⟩; refine ⟨_, rfl, ?_⟩; replace ad := R_V_base rfl ad; replace af := kv af hb; replace ag := kv ag hb; replace aa := kv aa hb; replace ab := kv ab hb; replace al := kv al hb; have aM := ar0 w.heap.size (ok' := fun k_ => ((P0_ k_ ∨ P1_ k_) ∨ w.heap.size ≤ k_)) ad (fz HB); replace HB := be HB hb; (try clear hb); (try clear ad)))
     go_ret3
     exact ⟨_, _, by first | rfl | (simp [errW_none, errW_some] <;> rfl) | (simp [*, errW_none, errW_some] <;> rfl), by (with_reducible repeat (first | apply Kd.V_alloc | apply Kd.V_drewN | apply Kd.V_drew)); exact al.out, by (with_reducible repeat (first | apply Kd.V_alloc | apply Kd.V_drewN | apply Kd.V_drew)); exact aM.out, by repeat (first | (with_reducible first | exact HB.out | apply below_alloc | apply pw_below_drewN | apply below_drew1) | exact HB.out)⟩
    ·
     rw [if_neg aS] at H
     exact absurd H (by simp)
   ·
    rw [if_neg az] at H
    have aI : ((ac.length : Int) == 1) = false := beq_eq_false_iff_ne.mpr az
    have aJ : ((ac.length : Int) != 1) = true := bne_iff_ne.mpr az
    obtain ⟨⟨aB, aC⟩, bp, H⟩ := bs H
    (try dsimp -simprocs only at H)
    obtain ⟨av, bq, H⟩ := bs H
    (try dsimp -simprocs only at H)
    obtain ⟨aw, br, H⟩ := bs H
    (try dsimp -simprocs only at H)
    simp only [Option.some.injEq, Prod.mk.injEq] at H
    obtain ⟨rfl, rfl, rfl⟩ := H
    go_enter Try.func167, Try.ntmps167
    go_wp2_with (first | ((with_reducible refine gate_callee (f := 179) rfl ?_); refine goesL_ (some 12) rfl rfl Try.func179 (by kernel_rfl) rfl #[.slice A0 l0.length c0] rfl lu ?_; (with_reducible refine (nat_short.calls k (fun k_ => ((P0_ k_ ∨ P1_ k_) ∨ w.heap.size ≤ k_)) _ _ l0 ae _ ?side1 A3.out).mono ?_); (case side1 => exact vz af.out); rintro e bL ⟨ax, rfl, ad, hb⟩; refine ⟨_, rfl, ?_⟩; replace af := kv af hb; replace ag := kv ag hb; have aa := ar w.heap.size (ok' := fun k_ => ((P0_ k_ ∨ P1_ k_) ∨ w.heap.size ≤ k_)) ad (fz HB); replace HB := be HB hb; (try clear hb); (try clear ad)) | ((with_reducible refine gate_callee (f := 179) rfl ?_); refine goesL_ (some 14) rfl rfl Try.func179 (by kernel_rfl) rfl #[.slice A1 l1.length c1] rfl lu ?_; (with_reducible refine (nat_short.calls k (fun k_ => ((P0_ k_ ∨ P1_ k_) ∨ w.heap.size ≤ k_)) _ _ l1 ac _ ?side1 A4.out).mono ?_); (case side1 => exact vz ag.out); rintro e bM ⟨ay, rfl, ad, hb⟩; refine ⟨_, rfl, ?_⟩; replace af := kv af hb; replace ag := kv ag hb; replace aa := kv aa hb; have ab := ar w.heap.size (ok' := fun k_ => ((P0_ k_ ∨ P1_ k_) ∨ w.heap.size ≤ k_)) ad (fz HB); replace HB := be HB hb; (try clear hb); (try clear ad); obtain ⟨aN, aO, a5⟩ := Kd.V_slice ab.out; subst a5; obtain ⟨aP, aQ, a6⟩ := Kd.V_slice aa.out; subst a6) | ((with_reducible refine gate_callee (f := 146) rfl ?_); refine goesL_ (some 22) rfl rfl Try.func146 (by kernel_rfl) rfl #[.slice aP ae.length aQ, .slice aN ac.length aO] rfl lu ?_; (with_reducible refine (nat_Cmp.calls k _ _ ae _ _ ac aj _ ?side1 ?side2 ?side3 ?side4 A9.out).mono ?_); (case side1 => exact cu (Kd.V_reads' aa.out).2.2); (case side2 => exact (Kd.V_reads' aa.out).2.1); (case side3 => exact cu (Kd.V_reads' ab.out).2.2); (case side4 => exact (Kd.V_reads' ab.out).2.1); rintro e bN ⟨rfl, hb⟩; refine ⟨_, rfl, ?_⟩; replace af := kv af hb; replace ag := kv ag hb; replace aa := kv aa hb; replace ab := kv ab hb; replace HB := be HB hb; (try clear hb)) | ((with_reducible refine gate_callee (f := 187) rfl ?_); refine goesL_ (some 45) rfl rfl Try.func187 (by kernel_rfl) rfl #[.slice aP ae.length aQ, .slice aN ac.length aO] rfl lu ?_; (with_reducible refine (nat_long.calls _ _ ae _ _ ac aB aC _ ?side1 ?side2 ?side3 ?side4 bp.out).mono ?_); (case side1 => exact cu (Kd.V_reads' aa.out).2.2); (case side2 => exact (Kd.V_reads' aa.out).2.1); (case side3 => exact cu (Kd.V_reads' ab.out).2.2); (case side4 => exact (Kd.V_reads' ab.out).2.1); rintro e bO ⟨bv, bw, rfl, ad, aT, hb⟩; refine ⟨_, rfl, ?_⟩; replace ad := R_V_base rfl ad; replace aT := R_V_base rfl aT; replace af := kv af hb; replace ag := kv ag hb; replace aa := kv aa hb; replace ab := kv ab hb; have ah := ar0 w.heap.size (ok' := fun k_ => ((P0_ k_ ∨ P1_ k_) ∨ w.heap.size ≤ k_)) ad (fz HB); have ai := ar0 w.heap.size (ok' := fun k_ => ((P0_ k_ ∨ P1_ k_) ∨ w.heap.size ≤ k_)) aT (fz HB); replace HB := be HB hb; (try clear hb); (try clear ad); (try clear aT); obtain ⟨a7, a8, a9⟩ := Kd.V_slice ah.out; subst a9) | ((with_reducible refine gate_callee (f := 177) rfl ?_); refine goesL_ (some 49) rfl rfl Try.func177 (by kernel_rfl) rfl #[.slice a7 aB.length a8] rfl lu ?_; (with_reducible refine (nat_Trim.calls k _ _ aB av _ ?side1 ?side2 bq.out).mono ?_); (case side1 => exact cu (Kd.V_reads' ah.out).2.2); (case side2 => exact (Kd.V_reads' ah.out).2.1); rintro e bP ⟨bx, rfl, ad, hb⟩; refine ⟨_, rfl, ?_⟩; replace ad := R_V_base rfl ad; replace af := kv af hb; replace ag := kv ag hb; replace aa := kv aa hb; replace ab := kv ab hb; replace ah := kv ah hb; replace ai := kv ai hb; have an := ar0 w.heap.size (ok' := fun k_ => ((P0_ k_ ∨ P1_ k_) ∨ w.heap.size ≤ k_)) ad (fz HB); replace HB := be HB hb; (try clear hb); (try clear ad); obtain ⟨ba, bb, bd⟩ := Kd.V_slice ai.out; subst bd) | ((with_reducible refine gate_callee (f := 177) rfl ?_); refine goesL_ (some 51) rfl rfl Try.func177 (by kernel_rfl) rfl #[.slice ba aC.length bb] rfl lu ?_; (with_reducible refine (nat_Trim.calls k _ _ aC aw _ ?side1 ?side2 br.out).mono ?_); (case side1 => exact cu (Kd.V_reads' ai.out).2.2); (case side2 => exact (Kd.V_reads' ai.out).2.1); rintro e bQ ⟨bz, rfl, ad, hb⟩; refine ⟨_, rfl, ?_⟩; replace ad := R_V_base rfl ad; replace af := kv af hb; replace ag := kv ag hb; replace aa := kv aa hb; replace ab := kv ab hb; replace ah := kv ah hb; replace ai := kv ai hb; replace an := kv an hb; have aR := ar0 w.heap.size (ok' := fun k_ => ((P0_ k_ ∨ P1_ k_) ∨ w.heap.size ≤ k_)) ad (fz HB); replace HB := be HB hb; (try clear hb); (try clear ad)))
    go_ret3
    exact ⟨_, _, by first | rfl | (simp [errW_none, errW_some] <;> rfl) | (simp [*, errW_none, errW_some] <;> rfl), by (with_reducible repeat (first | apply Kd.V_alloc | apply Kd.V_drewN | apply Kd.V_drew)); exact an.out, by (with_reducible repeat (first | apply Kd.V_alloc | apply Kd.V_drewN | apply Kd.V_drew)); exact aR.out, by repeat (first | (with_reducible first | exact HB.out | apply below_alloc | apply pw_below_drewN | apply below_drew1) | exact HB.out)⟩
def nat_Gcd.l0 : Nat → List Int → List Int → Option (List Int)
 | 0, _, _ => none
 | k + 1, x0, x1 => if (x1.length : Int) > 0 then ((nat_DivMod.f k x0 x1).bind fun bt1002 => (nat_Gcd.l0 k x1 bt1002.2.1)) else ((nat_Trim.f k x0).bind fun t1009 => (some t1009))
def nat_Gcd.f (k : Nat) (l0 : List Int) (l1 : List Int) : Option (List Int) := (nat_short.f k l0).bind fun t996 => ((nat_short.f k l1).bind fun t999 => (nat_Gcd.l0 k t996 t999))
theorem nat_Gcd.calls (k : Nat) (A0 : Option Addr) (c0 : Nat) (l0 : List Int) (A1 : Option Addr) (c1 : Nat) (l1 : List Int) (r : List Int) (w : World) (hr0 : Kd.C (Kd.int .u32) w A0 l0.length l0) (hc0 : l0.length ≤ c0) (hr1 : Kd.C (Kd.int .u32) w A1 l1.length l1) (hc1 : l1.length ≤ c1) (h : nat_Gcd.f k l0 l1 = some r) :
 Calls Try.prog 182 #[.slice A0 l0.length c0, .slice A1 l1.length c1] w fun e w' => ∃ v0_ : Value, e = .returned (v0_) ∧ Kd.R (Kd.int .u32) 48 w' w.heap.size (fun _ => True) v0_ r ∧ Below w.heap.size w w' := by
 have aI := am hr0
 have aJ := am hc0
 clear hr0 hc0
 have aK := am hr1
 have aL := am hc1
 clear hr1 hc1
 have HB := am (Below.refl w.heap.size w)
 have H : ((nat_short.f k l0).bind fun af => ((nat_short.f k l1).bind fun ag => (nat_Gcd.l0 k af ag))) = some r := h
 clear h
 obtain ⟨af, A3, H⟩ := bs H
 (try dsimp -simprocs only at H)
 obtain ⟨ag, A4, H⟩ := bs H
 replace H : (nat_Gcd.l0 k af ag) = some r := H
 have H' := am H
 clear H
 go_enter Try.func182, Try.ntmps182
 go_wp2_with (first | ((with_reducible refine gate_callee (f := 179) rfl ?_); refine goesL_ (some 9) rfl rfl Try.func179 (by kernel_rfl) rfl #[.slice A0 l0.length c0] rfl lu ?_; (with_reducible refine (nat_short.calls k (fun k_ => k_ < w.heap.size) _ _ l0 af _ ?side1 A3.out).mono ?_); (case side1 => exact Kd.V_mk aJ.out (Kd.F_below (Kd.C_F (Kd.heap_int .u32) aI.out) (bu HB.out))); rintro e w5 ⟨aM, rfl, ae, hb⟩; refine ⟨_, rfl, ?_⟩; have ah := am (Kd.V_lower (Kd.V_mono (ok' := fun k_ => True) ae (fun k_ hk_ => trivial)) (below_size (bu HB.out))); replace HB := be HB hb; (try clear hb); (try clear ae)) | ((with_reducible refine gate_callee (f := 179) rfl ?_); refine goesL_ (some 11) rfl rfl Try.func179 (by kernel_rfl) rfl #[.slice A1 l1.length c1] rfl lu ?_; (with_reducible refine (nat_short.calls k (fun k_ => k_ < w.heap.size) _ _ l1 ag _ ?side1 A4.out).mono ?_); (case side1 => exact Kd.V_mk aL.out (Kd.F_below (Kd.C_F (Kd.heap_int .u32) aK.out) (bu HB.out))); rintro e w6 ⟨aD, rfl, ae, hb⟩; refine ⟨_, rfl, ?_⟩; replace ah := kv ah hb; have ak := am (Kd.V_lower (Kd.V_mono (ok' := fun k_ => True) ae (fun k_ hk_ => trivial)) (below_size (bu HB.out))); replace HB := be HB hb; (try clear hb); (try clear ae)))
 go_loopg [0, 1] k (fun kq v0 v1 w' => ∃ (ad : List Int) (aa : List Int), Aside0 (nat_Gcd.l0 kq ad aa = some r) ∧ Aside0 (kq ≤ k) ∧ Aside0 (Kd.V (Kd.int .u32) 48 w' w.heap.size (fun _ => True) v0 ad) ∧ Aside0 (Kd.V (Kd.int .u32) 48 w' w.heap.size (fun _ => True) v1 aa) ∧ Aside0 (Below w.heap.size w w'))
 case atStart => exact ⟨(af), (ag), H', ⟨Nat.le_refl _⟩, ⟨by (with_reducible repeat (first | apply Kd.V_alloc | apply Kd.V_drewN | apply Kd.V_drew)); exact ah.out⟩, ⟨by (with_reducible repeat (first | apply Kd.V_alloc | apply Kd.V_drewN | apply Kd.V_drew)); exact ak.out⟩, ⟨by repeat (first | (with_reducible first | exact HB.out | apply below_alloc | apply pw_below_drewN | apply below_drew1) | exact HB.out)⟩⟩
 case round =>
  clear H'
  try clear c1
  try clear p2
  obtain ⟨ad, aa, HA, HK1, ab, ac, HB⟩ := hrel
  cases gk with
  | zero => exact absurd HA.out (by simp [nat_Gcd.l0])
  | succ k1 =>
   have H := HA.out
   clear HA
   simp only [nat_Gcd.l0] at H
   by_cases c7 : (aa.length : Int) > 0
   ·
    rw [if_pos c7] at H
    have aq : decide (0 < (aa.length : Int)) = true := decide_eq_true c7
    have au : decide (0 < aa.length) = true := decide_eq_true (by omega)
    clear c7
    obtain ⟨⟨ao, ai, ap⟩, A8, H⟩ := bs H
    replace H : (nat_Gcd.l0 k1 aa ai) = some r := H
    have H' := am H
    clear H
    obtain ⟨aN, aO, aP⟩ := Kd.V_slice ac.out
    subst aP
    obtain ⟨av, aw, ax⟩ := Kd.V_slice ab.out
    subst ax
    go_wp2_with (first | ((with_reducible refine gate_callee (f := 167) rfl ?_); refine goesL_ (some 18) rfl rfl Try.func167 (by kernel_rfl) rfl #[.slice av ad.length aw, .slice aN aa.length aO] rfl lu ?_; (with_reducible refine (nat_DivMod.calls k1 (fun k_ => True) _ _ ad (fun k_ => True) _ _ aa ao ai ap _ ?side1 ?side2 A8.out).mono ?_); (case side1 => exact vz ab.out); (case side2 => exact vz ac.out); rintro e aT ⟨aE, aF, rfl, ae, aG, hb⟩; refine ⟨_, rfl, ?_⟩; replace ab := kv ab hb; replace ac := kv ac hb; have ay := am (Kd.V_lower (Kd.V_mono (ok' := fun k_ => True) ae (fun k_ hk_ => trivial)) (below_size (bu HB.out))); have al := am (Kd.V_lower (Kd.V_mono (ok' := fun k_ => True) aG (fun k_ hk_ => trivial)) (below_size (bu HB.out))); replace HB := be HB hb; (try clear hb); (try clear ae); (try clear aG)))
    go_roundg k1
    case measure => have := HK1.out; omega
    case rel => exact ⟨(aa), (ai), H', ⟨by have := HK1.out; omega⟩, ⟨by (with_reducible repeat (first | apply Kd.V_alloc | apply Kd.V_drewN | apply Kd.V_drew)); exact ac.out⟩, ⟨by (with_reducible repeat (first | apply Kd.V_alloc | apply Kd.V_drewN | apply Kd.V_drew)); exact al.out⟩, ⟨by repeat (first | (with_reducible first | exact HB.out | apply below_alloc | apply pw_below_drewN | apply below_drew1) | exact HB.out)⟩⟩
   ·
    rw [if_neg c7] at H
    have aq : decide (0 < (aa.length : Int)) = false := decide_eq_false c7
    have au : decide (0 < aa.length) = false := decide_eq_false (by omega)
    clear c7
    obtain ⟨aj, aQ, H⟩ := bs H
    replace H : (some aj) = some r := H
    obtain rfl := Option.some.inj H
    obtain ⟨aR, aS, az⟩ := Kd.V_slice ac.out
    subst az
    obtain ⟨aA, aB, aC⟩ := Kd.V_slice ab.out
    subst aC
    go_wp2_with (first | ((with_reducible refine gate_callee (f := 177) rfl ?_); refine goesL_ (some 25) rfl rfl Try.func177 (by kernel_rfl) rfl #[.slice aA ad.length aB] rfl lu ?_; (with_reducible refine (nat_Trim.calls k1 _ _ ad aj _ ?side1 ?side2 aQ.out).mono ?_); (case side1 => exact cu (Kd.V_reads' ab.out).2.2); (case side2 => exact (Kd.V_reads' ab.out).2.1); rintro e aU ⟨aH, rfl, ae, hb⟩; refine ⟨_, rfl, ?_⟩; replace ab := am (Kd.V_elder' (vu ab.out) (Kd.R_base ae) hb); replace ac := am (Kd.V_elder' (vu ac.out) (Kd.R_base ae) hb); have an := am (Kd.R_lower ae (below_size (bu HB.out))); replace HB := be HB hb; (try clear hb); (try clear ae)))
    go_ret
    exact ⟨_, by first | rfl | (simp [errW_none, errW_some] <;> rfl) | (simp [*, errW_none, errW_some] <;> rfl), by (with_reducible repeat (first | apply Kd.R_alloc | apply Kd.R_drewN | apply Kd.R_drew)); exact an.out, by repeat (first | (with_reducible first | exact HB.out | apply below_alloc | apply pw_below_drewN | apply below_drew1) | exact HB.out)⟩
def rational_canonical.j0 : Nat → Bool → List Int → List Int → Bool → Option (Bool × List Int × List Int)
 | 0, _, _, _, _ => none
 | k + 1, x0, x1, x2, x15 => if x15 = true then ((rational_one.f).bind fun t1015 => (some (false, ([] : List Int), t1015))) else ((nat_Gcd.f k x1 x2).bind fun t1018 => ((nat_DivMod.f k x1 t1018).bind fun bt1021 => ((nat_DivMod.f k x2 t1018).bind fun bt1028 => (some (x0, bt1021.1, bt1028.1)))))
def rational_canonical.f (k : Nat) (a0 : Bool) (l1 : List Int) (l2 : List Int) : Option (Bool × List Int × List Int) := (nat_Bits.f k l1).bind fun t1013 => (if t1013 = 0 then (rational_canonical.j0 k a0 l1 l2 true) else ((nat_Bits.f k l2).bind fun t1014 => (rational_canonical.j0 k a0 l1 l2 (t1014 == 0))))
theorem rational_canonical.calls (k : Nat) (a0 : Bool) (P1_ : Nat → Prop) (A1 : Option Addr) (c1 : Nat) (l1 : List Int) (P2_ : Nat → Prop) (A2 : Option Addr) (c2 : Nat) (l2 : List Int) (r1 : Bool) (r2 : List Int) (r3 : List Int) (w : World) (hs1 : Kd.V (Kd.int .u32) 48 w w.heap.size (fun k_ => P1_ k_) (.slice A1 l1.length c1) l1) (hs2 : Kd.V (Kd.int .u32) 48 w w.heap.size (fun k_ => P2_ k_) (.slice A2 l2.length c2) l2) (h : rational_canonical.f k a0 l1 l2 = some (r1, r2, r3)) :
 Calls Try.prog 155 #[.bool a0, .slice A1 l1.length c1, .slice A2 l2.length c2] w fun e w' => ∃ v1_ v2_ : Value, e = .returned (.agg #[.bool r1, v1_, v2_]) ∧ Kd.V (Kd.int .u32) 48 w' w.heap.size (fun k_ => ((P1_ k_ ∨ P2_ k_) ∨ w.heap.size ≤ k_)) v1_ r2 ∧ Kd.V (Kd.int .u32) 48 w' w.heap.size (fun k_ => ((P1_ k_ ∨ P2_ k_) ∨ w.heap.size ≤ k_)) v2_ r3 ∧ Below w.heap.size w w' := by
 have bi := Try.underlying67
 have al := am (show Kd.V (Kd.int .u32) 48 w w.heap.size (fun k_ => ((P1_ k_ ∨ P2_ k_) ∨ w.heap.size ≤ k_)) (.slice A1 l1.length c1) l1 from Kd.V_mono hs1 (fun k_ hk => .inl (.inl hk)))
 have aq := am (show Kd.V (Kd.int .u32) 48 w w.heap.size (fun k_ => ((P1_ k_ ∨ P2_ k_) ∨ w.heap.size ≤ k_)) (.slice A2 l2.length c2) l2 from Kd.V_mono hs2 (fun k_ hk => .inl (.inr hk)))
 have HB := am (Below.refl w.heap.size w)
 have H : ((nat_Bits.f k l1).bind fun ae => (if ae = 0 then (rational_canonical.j0 k a0 l1 l2 true) else ((nat_Bits.f k l2).bind fun aj => (rational_canonical.j0 k a0 l1 l2 (aj == 0))))) = some (r1, r2, r3) := h
 clear h
 have aW := am H
 clear H
 go_enter Try.func155, Try.ntmps155
 go_upto_region 1 with (first | ((with_reducible refine gate_dst (N := 6) rfl ?_); refine box_event ?hg (N := 6) ?hd (cs := #[.bool false, .slice none 0 0, .slice none 0 0]) (t := 67) ?hr ?_; (case hd => rfl); (case hg => rfl); (case hr => first | (go_simp; done) | (go_simp; rfl)); intro ac hg w5 hbox hb; replace al := ke al hg hb; replace aq := ke aq hg hb; have aa := am (hbox); have aX := ng hg (bu HB.out); have ab := ng hg (bu HB.out); replace HB := be HB hb; clear hb hbox hg))
 (try simp only [Act.put, List.setIfInBounds_toArray, List.set_cons_zero, List.set_cons_succ])
 go_cut [15] (fun bj wc => ∃ (kq : Nat) (an : Bool), bj = .bool an ∧ Aside0 (rational_canonical.j0 kq a0 l1 l2 an = some (r1, r2, r3)) ∧ Aside0 (kq ≤ k) ∧ Aside0 (Kd.V (Kd.int .u32) 48 wc w.heap.size (fun k_ => ((P1_ k_ ∨ P2_ k_) ∨ w.heap.size ≤ k_) ∧ k_ ≠ ac) (.slice A1 l1.length c1) l1) ∧ Aside0 (Kd.V (Kd.int .u32) 48 wc w.heap.size (fun k_ => ((P1_ k_ ∨ P2_ k_) ∨ w.heap.size ≤ k_) ∧ k_ ≠ ac) (.slice A2 l2.length c2) l2) ∧ Aside0 (wc.heap[ac]? = some (.cells #[.bool false, (.slice none 0 0), (.slice none 0 0)] 67 (0, 0))) ∧ Aside0 (Below w.heap.size w wc))
 case first =>
  have H := aW.out
  clear aW
  obtain ⟨ae, A6, H⟩ := bs H
  (try dsimp -simprocs only at H)
  by_cases c7 : ae = 0
  ·
   rw [if_pos c7] at H
   have ap : (ae == 0) = true := beq_iff_eq.mpr c7
   have ax : (ae != 0) = false := bne_eq_false_iff_eq.mpr c7
   clear c7
   (first | rw [ap] | rw [ax] | (simp only [i64_w, i32_w]; rw [ap]) | skip)
   have H' := am H
   clear H
   go_wp2_with (first | ((with_reducible refine gate_callee (f := 154) rfl ?_); refine goesL_ (some 9) rfl rfl Try.func154 (by kernel_rfl) rfl #[.slice A1 l1.length c1] rfl lu ?_; (with_reducible refine (nat_Bits.calls k _ _ l1 ae _ ?side1 ?side2 A6.out).mono ?_); (case side1 => exact cu (Kd.V_reads' al.out).2.2); (case side2 => exact (Kd.V_reads' al.out).2.1); rintro e w8 ⟨rfl, hb⟩; refine ⟨_, rfl, ?_⟩; replace al := kv al hb; replace aq := kv aq hb; replace aa := kb aa hb; replace HB := be1 HB ab hb; (try clear hb)))
   go_meet
   case rel => exact ⟨_, (true), (by first | rfl | (simp; done) | (simp [*]; done)), H', ⟨by first | omega | exact Nat.le_refl _⟩, ⟨by (with_reducible repeat (first | apply Kd.V_alloc | apply Kd.V_drewN | apply Kd.V_drew)); exact al.out⟩, ⟨by (with_reducible repeat (first | apply Kd.V_alloc | apply Kd.V_drewN | apply Kd.V_drew)); exact aq.out⟩, ⟨by (with_reducible repeat (first | refine blk_drewN ?_ _ | refine blk_drew ?_ | refine blk_alloc ?_ _)); exact aa.out⟩, ⟨by repeat (first | (with_reducible first | exact HB.out | apply below_alloc | apply pw_below_drewN | apply below_drew1 | refine below_set ?_ ab.out) | exact HB.out)⟩⟩
  ·
   rw [if_neg c7] at H
   have ap : (ae == 0) = false := beq_eq_false_iff_ne.mpr c7
   have ax : (ae != 0) = true := bne_iff_ne.mpr c7
   (first | rw [ap] | rw [ax] | (simp only [i64_w, i32_w]; rw [ap]) | skip)
   obtain ⟨aj, A9, H⟩ := bs H
   (try dsimp -simprocs only at H)
   have H' := am H
   clear H
   go_wp2_with (first | ((with_reducible refine gate_callee (f := 154) rfl ?_); refine goesL_ (some 9) rfl rfl Try.func154 (by kernel_rfl) rfl #[.slice A1 l1.length c1] rfl lu ?_; (with_reducible refine (nat_Bits.calls k _ _ l1 ae _ ?side1 ?side2 A6.out).mono ?_); (case side1 => exact cu (Kd.V_reads' al.out).2.2); (case side2 => exact (Kd.V_reads' al.out).2.1); rintro e bo ⟨rfl, hb⟩; refine ⟨_, rfl, ?_⟩; replace al := kv al hb; replace aq := kv aq hb; replace aa := kb aa hb; replace HB := be1 HB ab hb; (try clear hb)) | (go_at_call 154; (with_reducible refine (nat_Bits.calls k _ _ l2 aj _ ?side1 ?side2 A9.out).mono ?_); (case side1 => exact cu (Kd.V_reads' aq.out).2.2); (case side2 => exact (Kd.V_reads' aq.out).2.1); rintro e bp ⟨rfl, hb⟩; replace al := kv al hb; replace aq := kv aq hb; replace aa := kb aa hb; replace HB := be1 HB ab hb; (try clear hb)))
   go_meet
   case rel => exact ⟨_, ((aj == 0)), (by first | rfl | (simp; done) | (simp [*]; done) | (cases aj <;> first | rfl | (simp; done))), H', ⟨by first | omega | exact Nat.le_refl _⟩, ⟨by (with_reducible repeat (first | apply Kd.V_alloc | apply Kd.V_drewN | apply Kd.V_drew)); exact al.out⟩, ⟨by (with_reducible repeat (first | apply Kd.V_alloc | apply Kd.V_drewN | apply Kd.V_drew)); exact aq.out⟩, ⟨by (with_reducible repeat (first | refine blk_drewN ?_ _ | refine blk_drew ?_ | refine blk_alloc ?_ _)); exact aa.out⟩, ⟨by repeat (first | (with_reducible first | exact HB.out | apply below_alloc | apply pw_below_drewN | apply below_drew1 | refine below_set ?_ ab.out) | exact HB.out)⟩⟩
 case rest =>
  clear aW
  try clear c1
  try clear c2
  try clear p2
  try clear c7
  try clear ap
  try clear ax
  obtain ⟨kq, an, rfl, HA, HJ3, ag, ah, aa, HB⟩ := hcut
  cases kq with
  | zero => exact absurd HA.out (by simp [rational_canonical.j0])
  | succ kj3 =>
   have H := HA.out
   clear HA
   simp only [rational_canonical.j0] at H
   by_cases aJ : an = true
   ·
    subst aJ
    have H1 : ((rational_one.f).bind fun ao => (some (false, ([] : List Int), ao))) = some (r1, r2, r3) := by rw [if_pos rfl] at H; exact H
    clear H
    have H := H1
    clear H1
    obtain ⟨ao, bk, H⟩ := bs H
    (try dsimp -simprocs only at H)
    simp only [Option.some.injEq, Prod.mk.injEq] at H
    obtain ⟨rfl, rfl, rfl⟩ := H
    go_wp2_with (first | ((with_reducible refine gate_callee (f := 161) rfl ?_); refine goesL_ (some 16) rfl rfl Try.func161 (by kernel_rfl) rfl #[] rfl lu ?_; (with_reducible refine (rational_one.calls  ao _ bk.out).mono ?_); rintro e bq ⟨ba, rfl, ak, hb⟩; refine ⟨_, rfl, ?_⟩; replace ak := R_V_base rfl ak; replace ag := kv ag hb; replace ah := kv ah hb; have au := ar0 w.heap.size (ok' := fun k_ => ((P1_ k_ ∨ P2_ k_) ∨ w.heap.size ≤ k_) ∧ k_ ≠ ac) ak (fa (fz1 HB ab) (fb aa)); replace aa := kb aa hb; replace HB := be1 HB ab hb; (try clear hb); (try clear ak); obtain ⟨aY, aZ, a1⟩ := Kd.V_slice au.out; subst a1; obtain ⟨aK, aL, aM, aN, aO, aP⟩ := bz aa))
    refine bodyPost_ret (results_cell_row rfl _ _ ac 67 #[.bool false, .slice none 0 0, .slice aY ao.length aZ] (0, 0) _ rfl (kp aa.out) Try.underlying67 rfl (by kernel_rfl)) rfl ?_
    exact ⟨_, _, by first | rfl | (simp [errW_none, errW_some] <;> rfl) | (simp [*, errW_none, errW_some] <;> rfl), Kd.V_nil _ _ _ _ _, by exact vf au.out, by repeat (first | (with_reducible first | exact HB.out | apply below_alloc | apply pw_below_drewN | apply below_drew1 | refine below_set ?_ ab.out) | exact HB.out)⟩
   ·
    replace aJ := Bool.eq_false_iff.mpr aJ
    subst aJ
    have H1 : ((nat_Gcd.f kj3 l1 l2).bind fun af => ((nat_DivMod.f kj3 l1 af).bind fun aA => ((nat_DivMod.f kj3 l2 af).bind fun aB => (some (a0, aA.1, aB.1))))) = some (r1, r2, r3) := by rw [if_neg (show ¬ (false = true) by decide)] at H; exact H
    clear H
    have H := H1
    clear H1
    obtain ⟨af, bl, H⟩ := bs H
    (try dsimp -simprocs only at H)
    obtain ⟨⟨ay, aC, aD⟩, bm, H⟩ := bs H
    (try dsimp -simprocs only at H)
    obtain ⟨⟨az, aE, aF⟩, bn, H⟩ := bs H
    (try dsimp -simprocs only at H)
    simp only [Option.some.injEq, Prod.mk.injEq] at H
    obtain ⟨rfl, rfl, rfl⟩ := H
    go_wp2_with (first | ((with_reducible refine gate_callee (f := 182) rfl ?_); refine goesL_ (some 20) rfl rfl Try.func182 (by kernel_rfl) rfl #[.slice A1 l1.length c1, .slice A2 l2.length c2] rfl lu ?_; (with_reducible refine (nat_Gcd.calls kj3 _ _ l1 _ _ l2 af _ ?side1 ?side2 ?side3 ?side4 bl.out).mono ?_); (case side1 => exact cu (Kd.V_reads' ag.out).2.2); (case side2 => exact (Kd.V_reads' ag.out).2.1); (case side3 => exact cu (Kd.V_reads' ah.out).2.2); (case side4 => exact (Kd.V_reads' ah.out).2.1); rintro e br ⟨bb, rfl, ak, hb⟩; refine ⟨_, rfl, ?_⟩; replace ak := R_V_base rfl ak; replace ag := kv ag hb; replace ah := kv ah hb; have ad := ar0 w.heap.size (ok' := fun k_ => ((P1_ k_ ∨ P2_ k_) ∨ w.heap.size ≤ k_) ∧ k_ ≠ ac) ak (fa (fz1 HB ab) (fb aa)); replace aa := kb aa hb; replace HB := be1 HB ab hb; (try clear hb); (try clear ak); obtain ⟨aG, aH, a2⟩ := Kd.V_slice ad.out; subst a2) | ((with_reducible refine gate_callee (f := 167) rfl ?_); refine goesL_ (some 24) rfl rfl Try.func167 (by kernel_rfl) rfl #[.slice A1 l1.length c1, .slice aG af.length aH] rfl lu ?_; (with_reducible refine (nat_DivMod.calls kj3 (fun k_ => (((P1_ k_ ∨ P2_ k_) ∨ w.heap.size ≤ k_) ∧ k_ ≠ ac)) _ _ l1 (fun k_ => (((P1_ k_ ∨ P2_ k_) ∨ w.heap.size ≤ k_) ∧ k_ ≠ ac)) _ _ af ay aC aD _ ?side1 ?side2 bm.out).mono ?_); (case side1 => exact vz ag.out); (case side2 => exact vz ad.out); rintro e bv ⟨bd, bf, rfl, ak, aI, hb⟩; refine ⟨_, rfl, ?_⟩; replace ag := kv ag hb; replace ah := kv ah hb; replace ad := kv ad hb; have ai := ar w.heap.size (ok' := fun k_ => ((P1_ k_ ∨ P2_ k_) ∨ w.heap.size ≤ k_) ∧ k_ ≠ ac) ak (fa (fz1 HB ab) (fb aa)); have av := ar w.heap.size (ok' := fun k_ => ((P1_ k_ ∨ P2_ k_) ∨ w.heap.size ≤ k_) ∧ k_ ≠ ac) aI (fa (fz1 HB ab) (fb aa)); replace aa := kb aa hb; replace HB := be1 HB ab hb; (try clear hb); (try clear ak); (try clear aI)) | ((with_reducible refine gate_callee (f := 167) rfl ?_); refine goesL_ (some 31) rfl rfl Try.func167 (by kernel_rfl) rfl #[.slice A2 l2.length c2, .slice aG af.length aH] rfl lu ?_; (with_reducible refine (nat_DivMod.calls kj3 (fun k_ => (((P1_ k_ ∨ P2_ k_) ∨ w.heap.size ≤ k_) ∧ k_ ≠ ac)) _ _ l2 (fun k_ => (((P1_ k_ ∨ P2_ k_) ∨ w.heap.size ≤ k_) ∧ k_ ≠ ac)) _ _ af az aE aF _ ?side1 ?side2 bn.out).mono ?_); (case side1 => exact vz ah.out); (case side2 => exact vz ad.out); rintro e bw ⟨bg, bh, rfl, ak, aI, hb⟩; refine ⟨_, rfl, ?_⟩; replace ag := kv ag hb; replace ah := kv ah hb; replace ad := kv ad hb; replace ai := kv ai hb; replace av := kv av hb; have aw := ar w.heap.size (ok' := fun k_ => ((P1_ k_ ∨ P2_ k_) ∨ w.heap.size ≤ k_) ∧ k_ ≠ ac) ak (fa (fz1 HB ab) (fb aa)); have a3 := ar w.heap.size (ok' := fun k_ => ((P1_ k_ ∨ P2_ k_) ∨ w.heap.size ≤ k_) ∧ k_ ≠ ac) aI (fa (fz1 HB ab) (fb aa)); replace aa := kb aa hb; replace HB := be1 HB ab hb; (try clear hb); (try clear ak); (try clear aI); obtain ⟨a4, a5, a6⟩ := Kd.V_slice aw.out; subst a6; obtain ⟨a7, a8, a9⟩ := Kd.V_slice ai.out; subst a9; obtain ⟨aQ, aR, aS, aT, aU, aV⟩ := bz aa))
    refine bodyPost_ret (results_cell_row rfl _ _ ac 67 #[.bool a0, .slice a7 ay.length a8, .slice a4 az.length a5] (0, 0) _ rfl (kp aa.out) Try.underlying67 rfl (by kernel_rfl)) rfl ?_
    exact ⟨_, _, by first | rfl | (simp [errW_none, errW_some] <;> rfl) | (simp [*, errW_none, errW_some] <;> rfl), by exact vf ai.out, by exact vf aw.out, by repeat (first | (with_reducible first | exact HB.out | apply below_alloc | apply pw_below_drewN | apply below_drew1 | refine below_set ?_ ab.out) | exact HB.out)⟩
def rational_Trim.f (k : Nat) (a0_0 : Bool) (l0_1 : List Int) (l0_2 : List Int) : Option (Bool × List Int × List Int) := (rational_canonical.f k a0_0 l0_1 l0_2).bind fun bt1256 => (some (bt1256.1, bt1256.2.1, bt1256.2.2))
theorem rational_Trim.calls (k : Nat) (a0_0 : Bool) (P0_1_ : Nat → Prop) (A0_1 : Option Addr) (c0_1 : Nat) (l0_1 : List Int) (P0_2_ : Nat → Prop) (A0_2 : Option Addr) (c0_2 : Nat) (l0_2 : List Int) (r1 : Bool) (r2 : List Int) (r3 : List Int) (w : World) (hs0_1 : Kd.V (Kd.int .u32) 48 w w.heap.size (fun k_ => P0_1_ k_) (.slice A0_1 l0_1.length c0_1) l0_1) (hs0_2 : Kd.V (Kd.int .u32) 48 w w.heap.size (fun k_ => P0_2_ k_) (.slice A0_2 l0_2.length c0_2) l0_2) (h : rational_Trim.f k a0_0 l0_1 l0_2 = some (r1, r2, r3)) :
 Calls Try.prog 87 #[.agg #[.bool a0_0, .slice A0_1 l0_1.length c0_1, .slice A0_2 l0_2.length c0_2]] w fun e w' => ∃ v1_ v2_ : Value, e = .returned (.agg #[.bool r1, v1_, v2_]) ∧ Kd.V (Kd.int .u32) 48 w' w.heap.size (fun k_ => ((P0_1_ k_ ∨ P0_2_ k_) ∨ w.heap.size ≤ k_)) v1_ r2 ∧ Kd.V (Kd.int .u32) 48 w' w.heap.size (fun k_ => ((P0_1_ k_ ∨ P0_2_ k_) ∨ w.heap.size ≤ k_)) v2_ r3 ∧ Below w.heap.size w w' := by
 have aP := Try.underlying67
 have ad := am (show Kd.V (Kd.int .u32) 48 w w.heap.size (fun k_ => ((P0_1_ k_ ∨ P0_2_ k_) ∨ w.heap.size ≤ k_)) (.slice A0_1 l0_1.length c0_1) l0_1 from Kd.V_mono hs0_1 (fun k_ hk => .inl (.inl hk)))
 have ae := am (show Kd.V (Kd.int .u32) 48 w w.heap.size (fun k_ => ((P0_1_ k_ ∨ P0_2_ k_) ∨ w.heap.size ≤ k_)) (.slice A0_2 l0_2.length c0_2) l0_2 from Kd.V_mono hs0_2 (fun k_ hk => .inl (.inr hk)))
 have HB := am (Below.refl w.heap.size w)
 have H : ((rational_canonical.f k a0_0 l0_1 l0_2).bind fun ak => (some (ak.1, ak.2.1, ak.2.2))) = some (r1, r2, r3) := h
 clear h
 obtain ⟨⟨ao, ap, aq⟩, A2, H⟩ := bs H
 (try dsimp -simprocs only at H)
 simp only [Option.some.injEq, Prod.mk.injEq] at H
 obtain ⟨rfl, rfl, rfl⟩ := H
 go_enter Try.func87, Try.ntmps87
 go_wp2_with (first | ((with_reducible refine gate_dst (N := 1) rfl ?_); refine box_event ?hg (N := 1) ?hd (cs := #[.bool a0_0, .slice A0_1 l0_1.length c0_1, .slice A0_2 l0_2.length c0_2]) (t := 67) ?hr ?_; (case hd => rfl); (case hg => rfl); (case hr => first | (go_simp; done) | (go_simp; rfl)); intro ag hg w3 hbox hb; replace ad := ke ad hg hb; replace ae := ke ae hg hb; have aa := am (hbox); have au := ng hg (bu HB.out); have ab := ng hg (bu HB.out); replace HB := be HB hb; clear hb hbox hg) | ((with_reducible refine gate_dst (N := 2) rfl ?_); refine box_event ?hg (N := 2) ?hd (cs := #[.bool false, .slice none 0 0, .slice none 0 0]) (t := 67) ?hr ?_; (case hd => rfl); (case hg => rfl); (case hr => first | (go_simp; done) | (go_simp; rfl)); intro af hg w4 hbox hb; replace ad := ke ad hg hb; replace ae := ke ae hg hb; have ac := am (hbox); have av := ng hg (bu1 HB.out ab.out); have ah := ng hg (bu1 HB.out ab.out); replace HB := be1 HB ab hb; have ai := nl hg aa; have aj := nr hg aa; replace aa := kb aa hb; clear hb hbox hg; have aQ := ai.out; have aR := aj.out; obtain ⟨aw, ax, ay, az, aA, aB⟩ := bz aa) | ((with_reducible refine gate_callee (f := 155) rfl ?_); refine goesL_ (some 9) rfl rfl Try.func155 (by kernel_rfl) rfl #[.bool a0_0, .slice A0_1 l0_1.length c0_1, .slice A0_2 l0_2.length c0_2] rfl lu ?_; (with_reducible refine (rational_canonical.calls k a0_0 (fun k_ => ((((P0_1_ k_ ∨ P0_2_ k_) ∨ w.heap.size ≤ k_) ∧ k_ ≠ ag) ∧ k_ ≠ af)) _ _ l0_1 (fun k_ => ((((P0_1_ k_ ∨ P0_2_ k_) ∨ w.heap.size ≤ k_) ∧ k_ ≠ ag) ∧ k_ ≠ af)) _ _ l0_2 ao ap aq _ ?side1 ?side2 A2.out).mono ?_); (case side1 => exact vz ad.out); (case side2 => exact vz ae.out); rintro e w7 ⟨aL, aM, rfl, aN, aO, hb⟩; refine ⟨_, rfl, ?_⟩; replace ad := kv ad hb; replace ae := kv ae hb; have al := ar w.heap.size (ok' := fun k_ => ((P0_1_ k_ ∨ P0_2_ k_) ∨ w.heap.size ≤ k_) ∧ k_ ≠ ag ∧ k_ ≠ af) aN (fa (fz2 HB ab ah) (fa (fb aa) (fb ac))); have an := ar w.heap.size (ok' := fun k_ => ((P0_1_ k_ ∨ P0_2_ k_) ∨ w.heap.size ≤ k_) ∧ k_ ≠ ag ∧ k_ ≠ af) aO (fa (fz2 HB ab ah) (fa (fb aa) (fb ac))); replace aa := kb aa hb; replace ac := kb ac hb; replace HB := be2 HB ab ah hb; (try clear hb); (try clear aN); (try clear aO); obtain ⟨aC, aD, aE, aF, aG, aH⟩ := bz ac; obtain ⟨aS, aT, aU⟩ := Kd.V_slice al.out; subst aU; obtain ⟨aI, aJ, aK⟩ := Kd.V_slice an.out; subst aK))
 refine bodyPost_ret (results_cell_row rfl _ _ af 67 #[.bool ao, .slice aS ap.length aT, .slice aI aq.length aJ] (0, 0) _ rfl (kp ac.out) Try.underlying67 rfl (by kernel_rfl)) rfl ?_
 exact ⟨_, _, by first | rfl | (simp [errW_none, errW_some] <;> rfl) | (simp [*, errW_none, errW_some] <;> rfl), by exact vf al.out, by exact vf an.out, by repeat (first | (with_reducible first | exact HB.out | apply below_alloc | apply pw_below_drewN | apply below_drew1 | refine below_set ?_ ab.out | refine below_set ?_ ah.out) | exact HB.out)⟩
def rational_Mul.l0 : Nat → Bool → List Int → List Int → List (S67) → Int → Int → Option (Bool × List Int × List Int)
 | 0, _, _, _, _, _, _ => none
 | k + 1, x3, x4, x5, x11, x12, x13 => if x13 < x12 then (if 0 ≤ x13 then (if x13 < (x11.length : Int) then ((rational_Trim.f k ((rd_T67 x11 x13).f0) ((rd_T67 x11 x13).f1) ((rd_T67 x11 x13).f2)).bind fun bt1360 => ((nat_Mul.f k (([x4, bt1360.2.1] : List (List Int)))).bind fun t1370 => ((nat_Mul.f k (([x5, bt1360.2.2] : List (List Int)))).bind fun t1376 => ((rational_canonical.f k (x3 != bt1360.1) t1370 t1376).bind fun bt1379 => (rational_Mul.l0 k bt1379.1 bt1379.2.1 bt1379.2.2 x11 x12 (wrap64 (x13 + 1))))))) else (none)) else (none)) else (some (x3, x4, x5))
def rational_Mul.f (k : Nat) (l0 : List (S67)) : Option (Bool × List Int × List Int) := (rational_one.f).bind fun t1352 => ((rational_one.f).bind fun t1355 => (rational_Mul.l0 k false t1352 t1355 l0 (l0.length : Int) 0))
def rational_Mul.T6 : Bool × List (List Nat × List Nat) := (true, [([], []), ([], []), ([1], [1]), ([0, 2], [0, 2]), ([], []), ([], []), ([5], [5]), ([4, 6], [4, 6]), ([7], [7]), ([], []), ([], []), ([10], [10]), ([9, 11], [9, 11]), ([12, 8], [12]), ([3, 8, 13, 13], [3, 8, 13]), ([], []), ([15, 14, 14, 0, 1, 2, 3, 4, 5, 6, 7, 8, 9, 10, 11, 12, 13, 14, 15], [14, 15])])
def rational_Mul.B6 : List Nat := [0, 0, 2, 7, 0, 0, 32, 112, 240, 0, 0, 1024, 3584, 8176, 16383, 0, 65535]
theorem rational_Mul.tab6 : rtab .any (opsOf Try.f95 6) = rational_Mul.T6 := by kernel_rfl
theorem rational_Mul.bits6 : waitsOk rational_Mul.T6.2 rational_Mul.B6 = true := by kernel_rfl
def rational_Mul.T7 : Bool × List (List Nat × List Nat) := (true, [([], []), ([0], [0]), ([], []), ([2], [2]), ([], []), ([4], [4]), ([1, 0, 1], [1]), ([3, 6, 0, 1, 2, 3, 6], [3]), ([5, 7, 0, 1, 2, 3, 4, 5, 6, 7], [5])])
def rational_Mul.B7 : List Nat := [0, 1, 0, 4, 0, 16, 3, 79, 255]
theorem rational_Mul.tab7 : rtab .any (opsOf Try.f95 7) = rational_Mul.T7 := by kernel_rfl
theorem rational_Mul.bits7 : waitsOk rational_Mul.T7.2 rational_Mul.B7 = true := by kernel_rfl
theorem rational_Mul.calls (k : Nat) (P0_ : Nat → Prop) (A0 : Option Addr) (c0 : Nat) (l0 : List (S67)) (r1 : Bool) (r2 : List Int) (r3 : List Int) (w : World) (hs0 : Kd.V k67 67 w w.heap.size (fun k_ => P0_ k_) (.slice A0 l0.length c0) l0) (h : rational_Mul.f k l0 = some (r1, r2, r3)) :
 Calls Try.prog 95 #[.slice A0 l0.length c0] w fun e w' => ∃ v1_ v2_ : Value, e = .returned (.agg #[.bool r1, v1_, v2_]) ∧ Kd.V (Kd.int .u32) 48 w' w.heap.size (fun k_ => (P0_ k_ ∨ w.heap.size ≤ k_)) v1_ r2 ∧ Kd.V (Kd.int .u32) 48 w' w.heap.size (fun k_ => (P0_ k_ ∨ w.heap.size ≤ k_)) v2_ r3 ∧ Below w.heap.size w w' := by
 have dY := Try.underlying67
 have cn := am (show Kd.V k67 67 w w.heap.size (fun k_ => (P0_ k_ ∨ w.heap.size ≤ k_)) (.slice A0 l0.length c0) l0 from Kd.V_mono hs0 (fun k_ hk => .inl hk))
 have HB := am (Below.refl w.heap.size w)
 have H : ((rational_one.f).bind fun bY => ((rational_one.f).bind fun bZ => (rational_Mul.l0 k false bY bZ l0 (l0.length : Int) 0))) = some (r1, r2, r3) := h
 clear h
 obtain ⟨bY, A2, H⟩ := bs H
 (try dsimp -simprocs only at H)
 obtain ⟨bZ, A3, H⟩ := bs H
 (try dsimp -simprocs only at H)
 have H' := am H
 clear H
 go_enter Try.func95, Try.ntmps95
 go_wp2_with (first | ((with_reducible refine gate_dst (N := 2) rfl ?_); refine box_event ?hg (N := 2) ?hd (cs := #[.bool false, .slice none 0 0, .slice none 0 0]) (t := 67) ?hr ?_; (case hd => rfl); (case hg => rfl); (case hr => first | (go_simp; done) | (go_simp; rfl)); intro ab hg w4 hbox hb; replace cn := ke cn hg hb; have ag := am (hbox); have dE := ng hg (bu HB.out); have aj := ng hg (bu HB.out); replace HB := be HB hb; clear hb hbox hg) | ((with_reducible refine gate_callee (f := 161) rfl ?_); refine goesL_ (some 9) rfl rfl Try.func161 (by kernel_rfl) rfl #[] rfl lu ?_; (with_reducible refine (rational_one.calls  bY _ A2.out).mono ?_); rintro e w5 ⟨dP, rfl, bB, hb⟩; refine ⟨_, rfl, ?_⟩; replace bB := R_V_base rfl bB; replace cn := kv cn hb; have bU := ar0 w.heap.size (ok' := fun k_ => (P0_ k_ ∨ w.heap.size ≤ k_) ∧ k_ ≠ ab) bB (fa (fz1 HB aj) (fb ag)); replace ag := kb ag hb; replace HB := be1 HB aj hb; (try clear hb); (try clear bB)) | ((with_reducible refine gate_callee (f := 161) rfl ?_); refine goesL_ (some 10) rfl rfl Try.func161 (by kernel_rfl) rfl #[] rfl lu ?_; (with_reducible refine (rational_one.calls  bZ _ A3.out).mono ?_); rintro e w6 ⟨dQ, rfl, bB, hb⟩; refine ⟨_, rfl, ?_⟩; replace bB := R_V_base rfl bB; replace cn := kv cn hb; replace bU := kv bU hb; have co := ar0 w.heap.size (ok' := fun k_ => (P0_ k_ ∨ w.heap.size ≤ k_) ∧ k_ ≠ ab) bB (fa (fz1 HB aj) (fb ag)); replace ag := kb ag hb; replace HB := be1 HB aj hb; (try clear hb); (try clear bB)))
 go_loopg [3, 4, 5, 13] k (fun kq v3 v4 v5 dZ w' => ∃ (bS : Bool) (aU : List Int) (aN : List Int) (aw : Int), v3 = .bool bS ∧ dZ = .int .i64 aw ∧ Aside0 (rational_Mul.l0 kq bS aU aN l0 (l0.length : Int) aw = some (r1, r2, r3)) ∧ Aside0 (kq ≤ k) ∧ Aside0 (Kd.V (Kd.int .u32) 48 w' w.heap.size (fun k_ => (P0_ k_ ∨ w.heap.size ≤ k_) ∧ k_ ≠ ab) v4 aU) ∧ Aside0 (Kd.V (Kd.int .u32) 48 w' w.heap.size (fun k_ => (P0_ k_ ∨ w.heap.size ≤ k_) ∧ k_ ≠ ab) v5 aN) ∧ Aside0 (Kd.V k67 67 w' w.heap.size (fun k_ => (P0_ k_ ∨ w.heap.size ≤ k_) ∧ k_ ≠ ab) (.slice A0 l0.length c0) l0) ∧ Aside0 (w'.heap[ab]? = some (.cells #[.bool false, (.slice none 0 0), (.slice none 0 0)] 67 (0, 0))) ∧ Aside0 (Below w.heap.size w w'))
 case atStart => exact ⟨(false), (bY), (bZ), (0), (by first | rfl | (simp; done) | (simp [*]; done)), (by first | rfl | (simp; done) | (simp [*]; done)), H', ⟨Nat.le_refl _⟩, ⟨by (with_reducible repeat (first | apply Kd.V_alloc | apply Kd.V_drewN | apply Kd.V_drew)); exact bU.out⟩, ⟨by (with_reducible repeat (first | apply Kd.V_alloc | apply Kd.V_drewN | apply Kd.V_drew)); exact co.out⟩, ⟨by (with_reducible repeat (first | apply Kd.V_alloc | apply Kd.V_drewN | apply Kd.V_drew)); exact cn.out⟩, ⟨by (with_reducible repeat (first | refine blk_drewN ?_ _ | refine blk_drew ?_ | refine blk_alloc ?_ _)); exact ag.out⟩, ⟨by repeat (first | (with_reducible first | exact HB.out | apply below_alloc | apply pw_below_drewN | apply below_drew1 | refine below_set ?_ aj.out) | exact HB.out)⟩⟩
 case round =>
  clear H'
  try clear c1
  try clear p2
  obtain ⟨bS, aU, aN, aw, rfl, rfl, HA, HK1, aC, aB, ao, ag, HB⟩ := hrel
  cases gk with
  | zero => exact absurd HA.out (by simp [rational_Mul.l0])
  | succ k1 =>
   have H := HA.out
   clear HA
   simp only [rational_Mul.l0] at H
   by_cases c7 : aw < (l0.length : Int)
   ·
    rw [if_pos c7] at H
    have dF : decide (aw < (l0.length : Int)) = true := decide_eq_true c7
    clear c7
    by_cases c8 : 0 ≤ aw
    ·
     rw [if_pos c8] at H
     have d0 : decide (0 ≤ aw) = true := decide_eq_true c8
     clear c8
     by_cases c9 : aw < (l0.length : Int)
     ·
      rw [if_pos c9] at H
      have d1 : decide (aw < (l0.length : Int)) = true := decide_eq_true c9
      clear c9
      obtain ⟨⟨aD, aq, ap⟩, d2, H⟩ := bs H
      (try dsimp -simprocs only at H)
      obtain ⟨aL, bV⟩ : ∃ y_ : List (List Int), y_ = (([aU, aq] : List (List Int))) := ⟨_, rfl⟩
      rw [← bV] at H
      have bG := am bV
      clear bV
      obtain ⟨a7, db, H⟩ := bs H
      (try dsimp -simprocs only at H)
      obtain ⟨a8, bW⟩ : ∃ y_ : List (List Int), y_ = (([aN, ap] : List (List Int))) := ⟨_, rfl⟩
      rw [← bW] at H
      have bp := am bW
      clear bW
      obtain ⟨bE, dR, H⟩ := bs H
      (try dsimp -simprocs only at H)
      obtain ⟨⟨aX, aW, aY⟩, dS, H⟩ := bs H
      (try dsimp -simprocs only at H)
      have H' := am H
      clear H
      have p1358 : 0 ≤ (aw : Int) := of_decide_eq_true (by first | (with_reducible assumption) | assumption)
      have q1358 : aw < (l0.length : Int) := of_decide_eq_true (by first | (with_reducible assumption) | assumption)
      obtain ⟨ad1358, aQ, aR, aO, aP, e1358, cK, b3, b4, hl1358_1, hi1358_1, hl1358_2, hi1358_2⟩ := at_T67 (Kd.V_reads' ao.out).2.2 aw p1358 q1358
      cases e1358
      obtain ⟨ce1358, hce1358, hMe1358, hcc1358⟩ := Kd.V_get ao.out z67 aw p1358 (by first | exact q1358 | exact of_decide_eq_true (by first | (with_reducible assumption) | assumption) | (have e_ := (Kd.V_reads' ao.out).1; omega))
      obtain ⟨ua1358_1, uc1358_1, ua1358_2, uc1358_2, rfl, ul1358_1, ge1358_1, ul1358_2, ge1358_2⟩ := k67_openF hMe1358
      have hv1358_1 := hcc1358 1 _ rfl
      rw [add_field _ _ 1 (by omega)] at hv1358_1
      replace hv1358_1 := Option.some.inj (hv1358_1.symm.trans b3)
      injection hv1358_1 with hva_ hvn_ hvc_
      rw [hva_] at ge1358_1
      rw [hvc_] at ul1358_1
      have ad := am (show Kd.V (Kd.int .u32) 48 _ w.heap.size _ _ ((rd_T67 l0 aw).f1) from Kd.V_mk ul1358_1 ge1358_1)
      clear hva_ hvn_ hvc_ ge1358_1 ul1358_1
      have hv1358_2 := hcc1358 2 _ rfl
      rw [add_field _ _ 2 (by omega)] at hv1358_2
      replace hv1358_2 := Option.some.inj (hv1358_2.symm.trans b4)
      injection hv1358_2 with hva_ hvn_ hvc_
      rw [hva_] at ge1358_2
      rw [hvc_] at ul1358_2
      have ae := am (show Kd.V (Kd.int .u32) 48 _ w.heap.size _ _ ((rd_T67 l0 aw).f2) from Kd.V_mk ul1358_2 ge1358_2)
      clear hva_ hvn_ hvc_ ge1358_2 ul1358_2
      clear hcc1358 hce1358
      have cL := am hi1358_1
      have cM := am hl1358_1
      clear hi1358_1 hl1358_1
      have cN := am hi1358_2
      have cO := am hl1358_2
      clear hi1358_2 hl1358_2
      replace p1358 := eq_true p1358
      replace q1358 := eq_true q1358
      try go_wp2_with (first | ((with_reducible refine gate_dst (N := 7) rfl ?_); refine box_event ?hg (N := 7) ?hd (cs := #[.bool false, .slice none 0 0, .slice none 0 0]) (t := 67) ?hr ?_; (case hd => rfl); (case hg => rfl); (case hr => first | (go_simp; done) | (go_simp; rfl)); intro aa hg d3 hbox hb; replace aC := ke aC hg hb; replace aB := ke aB hg hb; replace ao := ke ao hg hb; replace ad := ke ad hg hb; replace ae := ke ae hg hb; have ac := am (hbox); have dG := ng hg (bu1 HB.out aj.out); have al := ng hg (bu1 HB.out aj.out); replace HB := be1 HB aj hb; have bo := nl hg ag; have bT := nr hg ag; replace ag := kb ag hb; clear hb hbox hg; have dT := bT.out; have dU := bo.out; obtain ⟨dc, dd, de, df, dg, dh⟩ := bz ac) | ((with_reducible refine gate_store (t := 67) (p := 7) rfl ?_); refine store_event (t := 67) (p := 7) (v := ?vo_w17) (w1 := (((d3.setCell ⟨aa, 0, none⟩ (.bool ((rd_T67 l0 aw).f0))).setCell ⟨aa, 1, none⟩ (.slice aQ ((rd_T67 l0 aw).f1).length aR)).setCell ⟨aa, 2, none⟩ (.slice aO ((rd_T67 l0 aw).f2).length aP))) ?hg ?ho ?hn ?hr ?_; (case ho => rfl); (case hg => rfl); (case hn => rfl); (case hr => first | (go_simp; done) | (go_simp; rfl)); intro cl hw; have b9 : Aside0 (Kd.V (Kd.int .u32) 48 cl w.heap.size (fun k_ => (P0_ k_ ∨ w.heap.size ≤ k_) ∧ k_ ≠ ab ∧ k_ ≠ aa) u4 aU) := ⟨(by rw [hw]; exact vf aC.out)⟩; have ca : Aside0 (Kd.V (Kd.int .u32) 48 cl w.heap.size (fun k_ => (P0_ k_ ∨ w.heap.size ≤ k_) ∧ k_ ≠ ab ∧ k_ ≠ aa) u5 aN) := ⟨(by rw [hw]; exact vf aB.out)⟩; have cb : Aside0 (Kd.V k67 67 cl w.heap.size (fun k_ => (P0_ k_ ∨ w.heap.size ≤ k_) ∧ k_ ≠ ab ∧ k_ ≠ aa) (.slice (some ad1358) l0.length c0) l0) := ⟨(by rw [hw]; exact vf ao.out)⟩; have cc : Aside0 (Kd.V (Kd.int .u32) 48 cl w.heap.size (fun k_ => (P0_ k_ ∨ w.heap.size ≤ k_) ∧ k_ ≠ ab ∧ k_ ≠ aa) (.slice aQ ((rd_T67 l0 aw).f1).length aR) ((rd_T67 l0 aw).f1)) := ⟨(by rw [hw]; exact vf ad.out)⟩; have cd : Aside0 (Kd.V (Kd.int .u32) 48 cl w.heap.size (fun k_ => (P0_ k_ ∨ w.heap.size ≤ k_) ∧ k_ ≠ ab ∧ k_ ≠ aa) (.slice aO ((rd_T67 l0 aw).f2).length aP) ((rd_T67 l0 aw).f2)) := ⟨(by rw [hw]; exact vf ae.out)⟩; have ce : Aside0 (cl.heap[ab]? = some (.cells #[.bool false, .slice none 0 0, .slice none 0 0] 67 (0, 0))) := ⟨(by rw [hw]; exact (kf bo.out ag.out))⟩; have cf : Aside0 (cl.heap[aa]? = some (.cells #[.bool ((rd_T67 l0 aw).f0), .slice aQ ((rd_T67 l0 aw).f1).length aR, .slice aO ((rd_T67 l0 aw).f2).length aP] 67 (0, 0))) := ⟨(by rw [hw]; exact (kp ac.out))⟩; have cg : Aside0 (Below w.heap.size w cl) := ⟨(by rw [hw]; exact (bu2 HB.out aj.out al.out))⟩; clear hw aC aB ao ad ae ag ac HB; have aC := b9; have aB := ca; have ao := cb; have ad := cc; have ae := cd; have ag := ce; have ac := cf; have HB := cg; clear b9 ca cb cc cd ce cf cg; obtain ⟨di, dj, dk, dl, dm, dn⟩ := bz ac) | ((with_reducible refine gate_callee (f := 87) rfl ?_); refine goesL_ (some 18) rfl rfl Try.func87 (by kernel_rfl) rfl #[.agg #[.bool ((rd_T67 l0 aw).f0), .slice aQ ((rd_T67 l0 aw).f1).length aR, .slice aO ((rd_T67 l0 aw).f2).length aP]] rfl lu ?_; (with_reducible refine (rational_Trim.calls k1 ((rd_T67 l0 aw).f0) (fun k_ => ((P0_ k_ ∨ w.heap.size ≤ k_) ∧ (k_ ≠ ab ∧ k_ ≠ aa))) _ _ ((rd_T67 l0 aw).f1) (fun k_ => ((P0_ k_ ∨ w.heap.size ≤ k_) ∧ (k_ ≠ ab ∧ k_ ≠ aa))) _ _ ((rd_T67 l0 aw).f2) aD aq ap _ ?side1 ?side2 d2.out).mono ?_); (case side1 => first | exact ad.out | exact vz ad.out); (case side2 => first | exact ae.out | exact vz ae.out); rintro e b5 ⟨dV, dW, rfl, bB, cm, hb⟩; refine ⟨_, rfl, ?_⟩; replace aC := kv aC hb; replace aB := kv aB hb; replace ao := kv ao hb; replace ad := kv ad hb; replace ae := kv ae hb; have ai := ar w.heap.size (ok' := fun k_ => (P0_ k_ ∨ w.heap.size ≤ k_) ∧ k_ ≠ ab ∧ k_ ≠ aa) bB (fa (fz2 HB aj al) (fa (fb ag) (fb ac))); have ah := ar w.heap.size (ok' := fun k_ => (P0_ k_ ∨ w.heap.size ≤ k_) ∧ k_ ≠ ab ∧ k_ ≠ aa) cm (fa (fz2 HB aj al) (fa (fb ag) (fb ac))); replace ag := kb ag hb; replace ac := kb ac hb; replace HB := be2 HB aj al hb; (try clear hb); (try clear bB); (try clear cm); obtain ⟨dp, dq, dr, dt, du, dv⟩ := bz ac; obtain ⟨aJ, aK, dH⟩ := Kd.V_slice ai.out; subst dH; obtain ⟨aH, aI, dI⟩ := Kd.V_slice ah.out; subst dI))
      have b9 : Aside0 (Kd.V (Kd.int .u32) 48 (((b5.setCell ⟨aa, 0, none⟩ (.bool aD)).setCell ⟨aa, 1, none⟩ (.slice aJ aq.length aK)).setCell ⟨aa, 2, none⟩ (.slice aH ap.length aI)) w.heap.size (fun k_ => (P0_ k_ ∨ w.heap.size ≤ k_) ∧ k_ ≠ ab ∧ k_ ≠ aa) u4 aU) := ⟨by exact vf aC.out⟩
      have ca : Aside0 (Kd.V (Kd.int .u32) 48 (((b5.setCell ⟨aa, 0, none⟩ (.bool aD)).setCell ⟨aa, 1, none⟩ (.slice aJ aq.length aK)).setCell ⟨aa, 2, none⟩ (.slice aH ap.length aI)) w.heap.size (fun k_ => (P0_ k_ ∨ w.heap.size ≤ k_) ∧ k_ ≠ ab ∧ k_ ≠ aa) u5 aN) := ⟨by exact vf aB.out⟩
      have cb : Aside0 (Kd.V k67 67 (((b5.setCell ⟨aa, 0, none⟩ (.bool aD)).setCell ⟨aa, 1, none⟩ (.slice aJ aq.length aK)).setCell ⟨aa, 2, none⟩ (.slice aH ap.length aI)) w.heap.size (fun k_ => (P0_ k_ ∨ w.heap.size ≤ k_) ∧ k_ ≠ ab ∧ k_ ≠ aa) (.slice (some ad1358) l0.length c0) l0) := ⟨by exact vf ao.out⟩
      have cc : Aside0 (Kd.V (Kd.int .u32) 48 (((b5.setCell ⟨aa, 0, none⟩ (.bool aD)).setCell ⟨aa, 1, none⟩ (.slice aJ aq.length aK)).setCell ⟨aa, 2, none⟩ (.slice aH ap.length aI)) w.heap.size (fun k_ => (P0_ k_ ∨ w.heap.size ≤ k_) ∧ k_ ≠ ab ∧ k_ ≠ aa) (.slice aQ ((rd_T67 l0 aw).f1).length aR) ((rd_T67 l0 aw).f1)) := ⟨by exact vf ad.out⟩
      have cd : Aside0 (Kd.V (Kd.int .u32) 48 (((b5.setCell ⟨aa, 0, none⟩ (.bool aD)).setCell ⟨aa, 1, none⟩ (.slice aJ aq.length aK)).setCell ⟨aa, 2, none⟩ (.slice aH ap.length aI)) w.heap.size (fun k_ => (P0_ k_ ∨ w.heap.size ≤ k_) ∧ k_ ≠ ab ∧ k_ ≠ aa) (.slice aO ((rd_T67 l0 aw).f2).length aP) ((rd_T67 l0 aw).f2)) := ⟨by exact vf ae.out⟩
      have ce : Aside0 (Kd.V (Kd.int .u32) 48 (((b5.setCell ⟨aa, 0, none⟩ (.bool aD)).setCell ⟨aa, 1, none⟩ (.slice aJ aq.length aK)).setCell ⟨aa, 2, none⟩ (.slice aH ap.length aI)) w.heap.size (fun k_ => (P0_ k_ ∨ w.heap.size ≤ k_) ∧ k_ ≠ ab ∧ k_ ≠ aa) (.slice aJ aq.length aK) aq) := ⟨by exact vf ai.out⟩
      have cf : Aside0 (Kd.V (Kd.int .u32) 48 (((b5.setCell ⟨aa, 0, none⟩ (.bool aD)).setCell ⟨aa, 1, none⟩ (.slice aJ aq.length aK)).setCell ⟨aa, 2, none⟩ (.slice aH ap.length aI)) w.heap.size (fun k_ => (P0_ k_ ∨ w.heap.size ≤ k_) ∧ k_ ≠ ab ∧ k_ ≠ aa) (.slice aH ap.length aI) ap) := ⟨by exact vf ah.out⟩
      have cg : Aside0 ((((b5.setCell ⟨aa, 0, none⟩ (.bool aD)).setCell ⟨aa, 1, none⟩ (.slice aJ aq.length aK)).setCell ⟨aa, 2, none⟩ (.slice aH ap.length aI)).heap[ab]? = some (.cells #[.bool false, .slice none 0 0, .slice none 0 0] 67 (0, 0))) := ⟨by (with_reducible repeat (first | refine blk_drewN ?_ _ | refine blk_drew ?_ | refine blk_alloc ?_ _)); refine blk_far ?_ bo.out _; (with_reducible repeat (first | refine blk_drewN ?_ _ | refine blk_drew ?_ | refine blk_alloc ?_ _)); refine blk_far ?_ bo.out _; (with_reducible repeat (first | refine blk_drewN ?_ _ | refine blk_drew ?_ | refine blk_alloc ?_ _)); refine blk_far ?_ bo.out _; (with_reducible repeat (first | refine blk_drewN ?_ _ | refine blk_drew ?_ | refine blk_alloc ?_ _)); exact ag.out⟩
      have cp : Aside0 ((((b5.setCell ⟨aa, 0, none⟩ (.bool aD)).setCell ⟨aa, 1, none⟩ (.slice aJ aq.length aK)).setCell ⟨aa, 2, none⟩ (.slice aH ap.length aI)).heap[aa]? = some (.cells #[.bool aD, .slice aJ aq.length aK, .slice aH ap.length aI] 67 (0, 0))) := ⟨by (with_reducible repeat (first | refine blk_drewN ?_ _ | refine blk_drew ?_ | refine blk_alloc ?_ _)); refine blk_put (cs := #[.bool aD, .slice aJ aq.length aK, .slice aO ((rd_T67 l0 aw).f2).length aP]) ?_ 2 _ rfl; (with_reducible repeat (first | refine blk_drewN ?_ _ | refine blk_drew ?_ | refine blk_alloc ?_ _)); refine blk_put (cs := #[.bool aD, .slice aQ ((rd_T67 l0 aw).f1).length aR, .slice aO ((rd_T67 l0 aw).f2).length aP]) ?_ 1 _ rfl; (with_reducible repeat (first | refine blk_drewN ?_ _ | refine blk_drew ?_ | refine blk_alloc ?_ _)); refine blk_put (cs := #[.bool ((rd_T67 l0 aw).f0), .slice aQ ((rd_T67 l0 aw).f1).length aR, .slice aO ((rd_T67 l0 aw).f2).length aP]) ?_ 0 _ rfl; (with_reducible repeat (first | refine blk_drewN ?_ _ | refine blk_drew ?_ | refine blk_alloc ?_ _)); exact ac.out⟩
      have cq : Aside0 (Below w.heap.size w (((b5.setCell ⟨aa, 0, none⟩ (.bool aD)).setCell ⟨aa, 1, none⟩ (.slice aJ aq.length aK)).setCell ⟨aa, 2, none⟩ (.slice aH ap.length aI))) := ⟨by repeat (first | (with_reducible first | exact HB.out | apply below_alloc | apply pw_below_drewN | apply below_drew1 | refine below_set ?_ aj.out | refine below_set ?_ al.out) | exact HB.out)⟩
      (try clear aC)
      (try clear aB)
      (try clear ao)
      (try clear ad)
      (try clear ae)
      (try clear ai)
      (try clear ah)
      (try clear ag)
      (try clear ac)
      (try clear HB)
      generalize (((b5.setCell ⟨aa, 0, none⟩ (.bool aD)).setCell ⟨aa, 1, none⟩ (.slice aJ aq.length aK)).setCell ⟨aa, 2, none⟩ (.slice aH ap.length aI)) = d4 at b9 ca cb cc cd ce cf cg cp cq ⊢
      have aC := b9
      have aB := ca
      have ao := cb
      have ad := cc
      have ae := cd
      have ai := ce
      have ah := cf
      have ag := cg
      have ac := cp
      have HB := cq
      clear b9 ca cb cc cd ce cf cg cp cq
      replace aC := am (Kd.V_drew aC.out)
      replace aB := am (Kd.V_drew aB.out)
      replace ao := am (Kd.V_drew ao.out)
      replace ad := am (Kd.V_drew ad.out)
      replace ae := am (Kd.V_drew ae.out)
      replace ai := am (Kd.V_drew ai.out)
      replace ah := am (Kd.V_drew ah.out)
      replace ag := am (blk_drew ag.out)
      replace ac := am (blk_drew ac.out)
      replace HB := am (below_drew1 HB.out)
      obtain ⟨bv, bw, cP⟩ := Kd.V_slice aC.out
      (first | subst cP | (injection cP with f1_ f2_ f3_; have f4_ := f1_.symm; have f5_ := f3_.symm; clear f1_ f2_ f3_; subst f4_; subst f5_))
      obtain ⟨AoX5, coX5, eoX5⟩ := Kd.V_slice aB.out
      (first | subst eoX5 | (injection eoX5 with f1_ f2_ f3_; have f4_ := f1_.symm; have f5_ := f3_.symm; clear f1_ f2_ f3_; subst f4_; subst f5_))
      refine start_ (n := 17) (S := fun w' => w'.cell? ⟨aa, 0, none⟩ = some (.bool aD) ∧ w'.cell? ⟨aa, 1, none⟩ = some (.slice aJ aq.length aK) ∧ w'.cell? ⟨aa, 2, none⟩ = some (.slice aH ap.length aI)) (ds := []) #[false, false, false, false, false, false, false, false, false, false, false, false, false, false, false, false, false] (by kernel_rfl) rfl rfl ⟨bc ac 0, bc ac 1, bc ac 2⟩ (fun hHeld => ?_); refine with_tabW rational_Mul.tab6 rational_Mul.bits6 (fun HT_ HW_ => ?_)
      generalize d4.drew = dX at aC aB ao ad ae ai ah ag ac HB hHeld ⊢
      refine pq 0 (some 19) #[true, false, false, false, false, false, false, false, false, false, false, false, false, false, false, false, false] HT_ ?_
      refine pq 1 (some 20) #[true, true, false, false, false, false, false, false, false, false, false, false, false, false, false, false, false] HT_ ?_
      refine pq 4 (some 23) #[true, true, false, false, true, false, false, false, false, false, false, false, false, false, false, false, false] HT_ ?_
      refine pq 5 (some 24) #[true, true, false, false, true, true, false, false, false, false, false, false, false, false, false, false, false] HT_ ?_
      refine pq 9 (some 28) #[true, true, false, false, true, true, false, false, false, true, false, false, false, false, false, false, false] HT_ ?_
      refine pq 10 (some 29) #[true, true, false, false, true, true, false, false, false, true, true, false, false, false, false, false, false] HT_ ?_
      refine tq 2 (some 21) #[true, true, true, false, true, true, false, false, false, true, true, false, false, false, false, false, false] HT_ HW_ hHeld ?_
      refine pq 3 (some 22) #[true, true, true, true, true, true, false, false, false, true, true, false, false, false, false, false, false] HT_ ?_
      refine tq 6 (some 25) #[true, true, true, true, true, true, true, false, false, true, true, false, false, false, false, false, false] HT_ HW_ hHeld ?_
      refine tq 11 (some 30) #[true, true, true, true, true, true, true, false, false, true, true, true, false, false, false, false, false] HT_ HW_ hHeld ?_
      refine join_ (σ := Value × Value × Value × Value × Value × Value × Nat) 1 #[true, true, true, true, true, true, true, true, true, true, true, true, true, true, true, true, false] (fun s_ => [(26, s_.1), (27, s_.2.1), (31, s_.2.2.1), (32, s_.2.2.2.1), (33, .agg #[.bool aX, s_.2.2.2.2.1, s_.2.2.2.2.2.1]), (8, .pointer (some ⟨s_.2.2.2.2.2.2, 0, none⟩))]) (fun s_ w' => (w'.cell? ⟨aa, 0, none⟩ = some (.bool aD) ∧ w'.cell? ⟨aa, 1, none⟩ = some (.slice aJ aq.length aK) ∧ w'.cell? ⟨aa, 2, none⟩ = some (.slice aH ap.length aI)) ∧ (Kd.V (Kd.int .u32) 48 w' w.heap.size (fun k_ => (P0_ k_ ∨ w.heap.size ≤ k_) ∧ some k_ ≠ (s_.1 : Value).ownBlock ∧ some k_ ≠ (s_.2.2.1 : Value).ownBlock ∧ k_ ≠ ab ∧ k_ ≠ aa ∧ k_ ≠ s_.2.2.2.2.2.2) (.slice aQ ((rd_T67 l0 aw).f1).length aR) ((rd_T67 l0 aw).f1)) ∧ (Kd.V (Kd.int .u32) 48 w' w.heap.size (fun k_ => (P0_ k_ ∨ w.heap.size ≤ k_) ∧ some k_ ≠ (s_.1 : Value).ownBlock ∧ some k_ ≠ (s_.2.2.1 : Value).ownBlock ∧ k_ ≠ ab ∧ k_ ≠ aa ∧ k_ ≠ s_.2.2.2.2.2.2) (.slice aO ((rd_T67 l0 aw).f2).length aP) ((rd_T67 l0 aw).f2)) ∧ (Kd.V (Kd.int .u32) 48 w' w.heap.size (fun k_ => (P0_ k_ ∨ w.heap.size ≤ k_) ∧ some k_ ≠ (s_.1 : Value).ownBlock ∧ some k_ ≠ (s_.2.2.1 : Value).ownBlock ∧ k_ ≠ ab ∧ k_ ≠ aa ∧ k_ ≠ s_.2.2.2.2.2.2) (.slice aJ aq.length aK) aq) ∧ (Kd.V (Kd.int .u32) 48 w' w.heap.size (fun k_ => (P0_ k_ ∨ w.heap.size ≤ k_) ∧ some k_ ≠ (s_.1 : Value).ownBlock ∧ some k_ ≠ (s_.2.2.1 : Value).ownBlock ∧ k_ ≠ ab ∧ k_ ≠ aa ∧ k_ ≠ s_.2.2.2.2.2.2) (.slice aH ap.length aI) ap) ∧ (Kd.N (Kd.slice 48 (Kd.int .u32)) 42 w' w.heap.size (fun k_ => (P0_ k_ ∨ w.heap.size ≤ k_) ∧ some k_ ≠ (s_.2.2.1 : Value).ownBlock ∧ k_ ≠ ab ∧ k_ ≠ aa ∧ k_ ≠ s_.2.2.2.2.2.2) s_.1 aL) ∧ (Kd.V (Kd.int .u32) 48 w' w.heap.size (fun k_ => (P0_ k_ ∨ w.heap.size ≤ k_) ∧ some k_ ≠ (s_.1 : Value).ownBlock ∧ some k_ ≠ (s_.2.2.1 : Value).ownBlock ∧ k_ ≠ ab ∧ k_ ≠ aa ∧ k_ ≠ s_.2.2.2.2.2.2) s_.2.1 a7) ∧ (Kd.N (Kd.slice 48 (Kd.int .u32)) 42 w' w.heap.size (fun k_ => (P0_ k_ ∨ w.heap.size ≤ k_) ∧ some k_ ≠ (s_.1 : Value).ownBlock ∧ k_ ≠ ab ∧ k_ ≠ aa ∧ k_ ≠ s_.2.2.2.2.2.2) s_.2.2.1 a8) ∧ (Kd.V (Kd.int .u32) 48 w' w.heap.size (fun k_ => (P0_ k_ ∨ w.heap.size ≤ k_) ∧ some k_ ≠ (s_.1 : Value).ownBlock ∧ some k_ ≠ (s_.2.2.1 : Value).ownBlock ∧ k_ ≠ ab ∧ k_ ≠ aa ∧ k_ ≠ s_.2.2.2.2.2.2) s_.2.2.2.1 bE) ∧ (Kd.V (Kd.int .u32) 48 w' w.heap.size (fun k_ => (P0_ k_ ∨ w.heap.size ≤ k_) ∧ some k_ ≠ (s_.1 : Value).ownBlock ∧ some k_ ≠ (s_.2.2.1 : Value).ownBlock ∧ k_ ≠ ab ∧ k_ ≠ aa ∧ k_ ≠ s_.2.2.2.2.2.2) s_.2.2.2.2.1 aW) ∧ (Kd.V (Kd.int .u32) 48 w' w.heap.size (fun k_ => (P0_ k_ ∨ w.heap.size ≤ k_) ∧ some k_ ≠ (s_.1 : Value).ownBlock ∧ some k_ ≠ (s_.2.2.1 : Value).ownBlock ∧ k_ ≠ ab ∧ k_ ≠ aa ∧ k_ ≠ s_.2.2.2.2.2.2) s_.2.2.2.2.2.1 aY) ∧ (Kd.V k67 67 w' w.heap.size (fun k_ => (P0_ k_ ∨ w.heap.size ≤ k_) ∧ some k_ ≠ (s_.1 : Value).ownBlock ∧ some k_ ≠ (s_.2.2.1 : Value).ownBlock ∧ k_ ≠ ab ∧ k_ ≠ aa ∧ k_ ≠ s_.2.2.2.2.2.2) (.slice (some ad1358) l0.length c0) l0) ∧ (Kd.V (Kd.int .u32) 48 w' w.heap.size (fun k_ => (P0_ k_ ∨ w.heap.size ≤ k_) ∧ some k_ ≠ (s_.1 : Value).ownBlock ∧ some k_ ≠ (s_.2.2.1 : Value).ownBlock ∧ k_ ≠ ab ∧ k_ ≠ aa ∧ k_ ≠ s_.2.2.2.2.2.2) (.slice bv aU.length bw) aU) ∧ (Kd.V (Kd.int .u32) 48 w' w.heap.size (fun k_ => (P0_ k_ ∨ w.heap.size ≤ k_) ∧ some k_ ≠ (s_.1 : Value).ownBlock ∧ some k_ ≠ (s_.2.2.1 : Value).ownBlock ∧ k_ ≠ ab ∧ k_ ≠ aa ∧ k_ ≠ s_.2.2.2.2.2.2) (.slice AoX5 aN.length coX5) aN) ∧ (w'.heap[ab]? = some (.cells #[.bool false, .slice none 0 0, .slice none 0 0] 67 (0, 0))) ∧ (w'.heap[aa]? = some (.cells #[.bool aD, .slice aJ aq.length aK, .slice aH ap.length aI] 67 (0, 0))) ∧ (w'.heap[s_.2.2.2.2.2.2]? = some (.cells #[.bool false, .slice none 0 0, .slice none 0 0] 67 (0, 0))) ∧ (w.heap.size ≤ s_.2.2.2.2.2.2) ∧ (w.heap.size ≤ s_.2.2.2.2.2.2) ∧ (ab ≠ s_.2.2.2.2.2.2) ∧ (s_.2.2.2.2.2.2 ≠ ab) ∧ (aa ≠ s_.2.2.2.2.2.2) ∧ (s_.2.2.2.2.2.2 ≠ aa) ∧ (Below w.heap.size w w')) ?_ ?_
      rotate_left
      ·
       intro hJ7_8_12_13_14_15
       refine join_ (σ := Value × Value × Value × Value × Value × Value) 2 #[true, true, true, true, true, true, true, true, true, true, true, true, true, true, true, false, false] (fun s_ => [(26, s_.1), (27, s_.2.1), (31, s_.2.2.1), (32, s_.2.2.2.1), (33, .agg #[.bool aX, s_.2.2.2.2.1, s_.2.2.2.2.2])]) (fun s_ w' => (w'.cell? ⟨aa, 0, none⟩ = some (.bool aD) ∧ w'.cell? ⟨aa, 1, none⟩ = some (.slice aJ aq.length aK) ∧ w'.cell? ⟨aa, 2, none⟩ = some (.slice aH ap.length aI)) ∧ (Kd.V (Kd.int .u32) 48 w' w.heap.size (fun k_ => (P0_ k_ ∨ w.heap.size ≤ k_) ∧ some k_ ≠ (s_.1 : Value).ownBlock ∧ some k_ ≠ (s_.2.2.1 : Value).ownBlock ∧ k_ ≠ ab ∧ k_ ≠ aa) (.slice aQ ((rd_T67 l0 aw).f1).length aR) ((rd_T67 l0 aw).f1)) ∧ (Kd.V (Kd.int .u32) 48 w' w.heap.size (fun k_ => (P0_ k_ ∨ w.heap.size ≤ k_) ∧ some k_ ≠ (s_.1 : Value).ownBlock ∧ some k_ ≠ (s_.2.2.1 : Value).ownBlock ∧ k_ ≠ ab ∧ k_ ≠ aa) (.slice aO ((rd_T67 l0 aw).f2).length aP) ((rd_T67 l0 aw).f2)) ∧ (Kd.V (Kd.int .u32) 48 w' w.heap.size (fun k_ => (P0_ k_ ∨ w.heap.size ≤ k_) ∧ some k_ ≠ (s_.1 : Value).ownBlock ∧ some k_ ≠ (s_.2.2.1 : Value).ownBlock ∧ k_ ≠ ab ∧ k_ ≠ aa) (.slice aJ aq.length aK) aq) ∧ (Kd.V (Kd.int .u32) 48 w' w.heap.size (fun k_ => (P0_ k_ ∨ w.heap.size ≤ k_) ∧ some k_ ≠ (s_.1 : Value).ownBlock ∧ some k_ ≠ (s_.2.2.1 : Value).ownBlock ∧ k_ ≠ ab ∧ k_ ≠ aa) (.slice aH ap.length aI) ap) ∧ (Kd.N (Kd.slice 48 (Kd.int .u32)) 42 w' w.heap.size (fun k_ => (P0_ k_ ∨ w.heap.size ≤ k_) ∧ some k_ ≠ (s_.2.2.1 : Value).ownBlock ∧ k_ ≠ ab ∧ k_ ≠ aa) s_.1 aL) ∧ (Kd.V (Kd.int .u32) 48 w' w.heap.size (fun k_ => (P0_ k_ ∨ w.heap.size ≤ k_) ∧ some k_ ≠ (s_.1 : Value).ownBlock ∧ some k_ ≠ (s_.2.2.1 : Value).ownBlock ∧ k_ ≠ ab ∧ k_ ≠ aa) s_.2.1 a7) ∧ (Kd.N (Kd.slice 48 (Kd.int .u32)) 42 w' w.heap.size (fun k_ => (P0_ k_ ∨ w.heap.size ≤ k_) ∧ some k_ ≠ (s_.1 : Value).ownBlock ∧ k_ ≠ ab ∧ k_ ≠ aa) s_.2.2.1 a8) ∧ (Kd.V (Kd.int .u32) 48 w' w.heap.size (fun k_ => (P0_ k_ ∨ w.heap.size ≤ k_) ∧ some k_ ≠ (s_.1 : Value).ownBlock ∧ some k_ ≠ (s_.2.2.1 : Value).ownBlock ∧ k_ ≠ ab ∧ k_ ≠ aa) s_.2.2.2.1 bE) ∧ (Kd.V (Kd.int .u32) 48 w' w.heap.size (fun k_ => (P0_ k_ ∨ w.heap.size ≤ k_) ∧ some k_ ≠ (s_.1 : Value).ownBlock ∧ some k_ ≠ (s_.2.2.1 : Value).ownBlock ∧ k_ ≠ ab ∧ k_ ≠ aa) s_.2.2.2.2.1 aW) ∧ (Kd.V (Kd.int .u32) 48 w' w.heap.size (fun k_ => (P0_ k_ ∨ w.heap.size ≤ k_) ∧ some k_ ≠ (s_.1 : Value).ownBlock ∧ some k_ ≠ (s_.2.2.1 : Value).ownBlock ∧ k_ ≠ ab ∧ k_ ≠ aa) s_.2.2.2.2.2 aY) ∧ (Kd.V k67 67 w' w.heap.size (fun k_ => (P0_ k_ ∨ w.heap.size ≤ k_) ∧ some k_ ≠ (s_.1 : Value).ownBlock ∧ some k_ ≠ (s_.2.2.1 : Value).ownBlock ∧ k_ ≠ ab ∧ k_ ≠ aa) (.slice (some ad1358) l0.length c0) l0) ∧ (Kd.V (Kd.int .u32) 48 w' w.heap.size (fun k_ => (P0_ k_ ∨ w.heap.size ≤ k_) ∧ some k_ ≠ (s_.1 : Value).ownBlock ∧ some k_ ≠ (s_.2.2.1 : Value).ownBlock ∧ k_ ≠ ab ∧ k_ ≠ aa) (.slice bv aU.length bw) aU) ∧ (Kd.V (Kd.int .u32) 48 w' w.heap.size (fun k_ => (P0_ k_ ∨ w.heap.size ≤ k_) ∧ some k_ ≠ (s_.1 : Value).ownBlock ∧ some k_ ≠ (s_.2.2.1 : Value).ownBlock ∧ k_ ≠ ab ∧ k_ ≠ aa) (.slice AoX5 aN.length coX5) aN) ∧ (w'.heap[ab]? = some (.cells #[.bool false, .slice none 0 0, .slice none 0 0] 67 (0, 0))) ∧ (w'.heap[aa]? = some (.cells #[.bool aD, .slice aJ aq.length aK, .slice aH ap.length aI] 67 (0, 0))) ∧ (Below w.heap.size w w')) ?_ ?_
       rotate_left
       ·
        intro hJ7_8_12_13_14
        refine join_ (σ := Value × Value × Value × Value × Nat) 2 #[true, true, true, true, true, true, true, true, true, true, true, true, true, true, false, true, false] (fun s_ => [(26, s_.1), (27, s_.2.1), (31, s_.2.2.1), (32, s_.2.2.2.1), (8, .pointer (some ⟨s_.2.2.2.2, 0, none⟩))]) (fun s_ w' => (w'.cell? ⟨aa, 0, none⟩ = some (.bool aD) ∧ w'.cell? ⟨aa, 1, none⟩ = some (.slice aJ aq.length aK) ∧ w'.cell? ⟨aa, 2, none⟩ = some (.slice aH ap.length aI)) ∧ (Kd.V (Kd.int .u32) 48 w' w.heap.size (fun k_ => (P0_ k_ ∨ w.heap.size ≤ k_) ∧ some k_ ≠ (s_.1 : Value).ownBlock ∧ some k_ ≠ (s_.2.2.1 : Value).ownBlock ∧ k_ ≠ ab ∧ k_ ≠ aa ∧ k_ ≠ s_.2.2.2.2) (.slice aQ ((rd_T67 l0 aw).f1).length aR) ((rd_T67 l0 aw).f1)) ∧ (Kd.V (Kd.int .u32) 48 w' w.heap.size (fun k_ => (P0_ k_ ∨ w.heap.size ≤ k_) ∧ some k_ ≠ (s_.1 : Value).ownBlock ∧ some k_ ≠ (s_.2.2.1 : Value).ownBlock ∧ k_ ≠ ab ∧ k_ ≠ aa ∧ k_ ≠ s_.2.2.2.2) (.slice aO ((rd_T67 l0 aw).f2).length aP) ((rd_T67 l0 aw).f2)) ∧ (Kd.V (Kd.int .u32) 48 w' w.heap.size (fun k_ => (P0_ k_ ∨ w.heap.size ≤ k_) ∧ some k_ ≠ (s_.1 : Value).ownBlock ∧ some k_ ≠ (s_.2.2.1 : Value).ownBlock ∧ k_ ≠ ab ∧ k_ ≠ aa ∧ k_ ≠ s_.2.2.2.2) (.slice aJ aq.length aK) aq) ∧ (Kd.V (Kd.int .u32) 48 w' w.heap.size (fun k_ => (P0_ k_ ∨ w.heap.size ≤ k_) ∧ some k_ ≠ (s_.1 : Value).ownBlock ∧ some k_ ≠ (s_.2.2.1 : Value).ownBlock ∧ k_ ≠ ab ∧ k_ ≠ aa ∧ k_ ≠ s_.2.2.2.2) (.slice aH ap.length aI) ap) ∧ (Kd.N (Kd.slice 48 (Kd.int .u32)) 42 w' w.heap.size (fun k_ => (P0_ k_ ∨ w.heap.size ≤ k_) ∧ some k_ ≠ (s_.2.2.1 : Value).ownBlock ∧ k_ ≠ ab ∧ k_ ≠ aa ∧ k_ ≠ s_.2.2.2.2) s_.1 aL) ∧ (Kd.V (Kd.int .u32) 48 w' w.heap.size (fun k_ => (P0_ k_ ∨ w.heap.size ≤ k_) ∧ some k_ ≠ (s_.1 : Value).ownBlock ∧ some k_ ≠ (s_.2.2.1 : Value).ownBlock ∧ k_ ≠ ab ∧ k_ ≠ aa ∧ k_ ≠ s_.2.2.2.2) s_.2.1 a7) ∧ (Kd.N (Kd.slice 48 (Kd.int .u32)) 42 w' w.heap.size (fun k_ => (P0_ k_ ∨ w.heap.size ≤ k_) ∧ some k_ ≠ (s_.1 : Value).ownBlock ∧ k_ ≠ ab ∧ k_ ≠ aa ∧ k_ ≠ s_.2.2.2.2) s_.2.2.1 a8) ∧ (Kd.V (Kd.int .u32) 48 w' w.heap.size (fun k_ => (P0_ k_ ∨ w.heap.size ≤ k_) ∧ some k_ ≠ (s_.1 : Value).ownBlock ∧ some k_ ≠ (s_.2.2.1 : Value).ownBlock ∧ k_ ≠ ab ∧ k_ ≠ aa ∧ k_ ≠ s_.2.2.2.2) s_.2.2.2.1 bE) ∧ (Kd.V k67 67 w' w.heap.size (fun k_ => (P0_ k_ ∨ w.heap.size ≤ k_) ∧ some k_ ≠ (s_.1 : Value).ownBlock ∧ some k_ ≠ (s_.2.2.1 : Value).ownBlock ∧ k_ ≠ ab ∧ k_ ≠ aa ∧ k_ ≠ s_.2.2.2.2) (.slice (some ad1358) l0.length c0) l0) ∧ (Kd.V (Kd.int .u32) 48 w' w.heap.size (fun k_ => (P0_ k_ ∨ w.heap.size ≤ k_) ∧ some k_ ≠ (s_.1 : Value).ownBlock ∧ some k_ ≠ (s_.2.2.1 : Value).ownBlock ∧ k_ ≠ ab ∧ k_ ≠ aa ∧ k_ ≠ s_.2.2.2.2) (.slice bv aU.length bw) aU) ∧ (Kd.V (Kd.int .u32) 48 w' w.heap.size (fun k_ => (P0_ k_ ∨ w.heap.size ≤ k_) ∧ some k_ ≠ (s_.1 : Value).ownBlock ∧ some k_ ≠ (s_.2.2.1 : Value).ownBlock ∧ k_ ≠ ab ∧ k_ ≠ aa ∧ k_ ≠ s_.2.2.2.2) (.slice AoX5 aN.length coX5) aN) ∧ (w'.heap[ab]? = some (.cells #[.bool false, .slice none 0 0, .slice none 0 0] 67 (0, 0))) ∧ (w'.heap[aa]? = some (.cells #[.bool aD, .slice aJ aq.length aK, .slice aH ap.length aI] 67 (0, 0))) ∧ (w'.heap[s_.2.2.2.2]? = some (.cells #[.bool false, .slice none 0 0, .slice none 0 0] 67 (0, 0))) ∧ (w.heap.size ≤ s_.2.2.2.2) ∧ (w.heap.size ≤ s_.2.2.2.2) ∧ (ab ≠ s_.2.2.2.2) ∧ (s_.2.2.2.2 ≠ ab) ∧ (aa ≠ s_.2.2.2.2) ∧ (s_.2.2.2.2 ≠ aa) ∧ (Below w.heap.size w w')) ?_ ?_
        rotate_left
        ·
         intro hJ7_8_12_13_15
         refine join_ (σ := Value × Value × Value × Value) 3 #[true, true, true, true, true, true, true, true, true, true, true, true, true, true, false, false, false] (fun s_ => [(26, s_.1), (27, s_.2.1), (31, s_.2.2.1), (32, s_.2.2.2)]) (fun s_ w' => (w'.cell? ⟨aa, 0, none⟩ = some (.bool aD) ∧ w'.cell? ⟨aa, 1, none⟩ = some (.slice aJ aq.length aK) ∧ w'.cell? ⟨aa, 2, none⟩ = some (.slice aH ap.length aI)) ∧ (Kd.V (Kd.int .u32) 48 w' w.heap.size (fun k_ => (P0_ k_ ∨ w.heap.size ≤ k_) ∧ some k_ ≠ (s_.1 : Value).ownBlock ∧ some k_ ≠ (s_.2.2.1 : Value).ownBlock ∧ k_ ≠ ab ∧ k_ ≠ aa) (.slice aQ ((rd_T67 l0 aw).f1).length aR) ((rd_T67 l0 aw).f1)) ∧ (Kd.V (Kd.int .u32) 48 w' w.heap.size (fun k_ => (P0_ k_ ∨ w.heap.size ≤ k_) ∧ some k_ ≠ (s_.1 : Value).ownBlock ∧ some k_ ≠ (s_.2.2.1 : Value).ownBlock ∧ k_ ≠ ab ∧ k_ ≠ aa) (.slice aO ((rd_T67 l0 aw).f2).length aP) ((rd_T67 l0 aw).f2)) ∧ (Kd.V (Kd.int .u32) 48 w' w.heap.size (fun k_ => (P0_ k_ ∨ w.heap.size ≤ k_) ∧ some k_ ≠ (s_.1 : Value).ownBlock ∧ some k_ ≠ (s_.2.2.1 : Value).ownBlock ∧ k_ ≠ ab ∧ k_ ≠ aa) (.slice aJ aq.length aK) aq) ∧ (Kd.V (Kd.int .u32) 48 w' w.heap.size (fun k_ => (P0_ k_ ∨ w.heap.size ≤ k_) ∧ some k_ ≠ (s_.1 : Value).ownBlock ∧ some k_ ≠ (s_.2.2.1 : Value).ownBlock ∧ k_ ≠ ab ∧ k_ ≠ aa) (.slice aH ap.length aI) ap) ∧ (Kd.N (Kd.slice 48 (Kd.int .u32)) 42 w' w.heap.size (fun k_ => (P0_ k_ ∨ w.heap.size ≤ k_) ∧ some k_ ≠ (s_.2.2.1 : Value).ownBlock ∧ k_ ≠ ab ∧ k_ ≠ aa) s_.1 aL) ∧ (Kd.V (Kd.int .u32) 48 w' w.heap.size (fun k_ => (P0_ k_ ∨ w.heap.size ≤ k_) ∧ some k_ ≠ (s_.1 : Value).ownBlock ∧ some k_ ≠ (s_.2.2.1 : Value).ownBlock ∧ k_ ≠ ab ∧ k_ ≠ aa) s_.2.1 a7) ∧ (Kd.N (Kd.slice 48 (Kd.int .u32)) 42 w' w.heap.size (fun k_ => (P0_ k_ ∨ w.heap.size ≤ k_) ∧ some k_ ≠ (s_.1 : Value).ownBlock ∧ k_ ≠ ab ∧ k_ ≠ aa) s_.2.2.1 a8) ∧ (Kd.V (Kd.int .u32) 48 w' w.heap.size (fun k_ => (P0_ k_ ∨ w.heap.size ≤ k_) ∧ some k_ ≠ (s_.1 : Value).ownBlock ∧ some k_ ≠ (s_.2.2.1 : Value).ownBlock ∧ k_ ≠ ab ∧ k_ ≠ aa) s_.2.2.2 bE) ∧ (Kd.V k67 67 w' w.heap.size (fun k_ => (P0_ k_ ∨ w.heap.size ≤ k_) ∧ some k_ ≠ (s_.1 : Value).ownBlock ∧ some k_ ≠ (s_.2.2.1 : Value).ownBlock ∧ k_ ≠ ab ∧ k_ ≠ aa) (.slice (some ad1358) l0.length c0) l0) ∧ (Kd.V (Kd.int .u32) 48 w' w.heap.size (fun k_ => (P0_ k_ ∨ w.heap.size ≤ k_) ∧ some k_ ≠ (s_.1 : Value).ownBlock ∧ some k_ ≠ (s_.2.2.1 : Value).ownBlock ∧ k_ ≠ ab ∧ k_ ≠ aa) (.slice bv aU.length bw) aU) ∧ (Kd.V (Kd.int .u32) 48 w' w.heap.size (fun k_ => (P0_ k_ ∨ w.heap.size ≤ k_) ∧ some k_ ≠ (s_.1 : Value).ownBlock ∧ some k_ ≠ (s_.2.2.1 : Value).ownBlock ∧ k_ ≠ ab ∧ k_ ≠ aa) (.slice AoX5 aN.length coX5) aN) ∧ (w'.heap[ab]? = some (.cells #[.bool false, .slice none 0 0, .slice none 0 0] 67 (0, 0))) ∧ (w'.heap[aa]? = some (.cells #[.bool aD, .slice aJ aq.length aK, .slice aH ap.length aI] 67 (0, 0))) ∧ (Below w.heap.size w w')) ?_ ?_
         rotate_left
         ·
          intro hJ7_8_12_13
          refine join_ (σ := Value × Value × Value × Nat) 3 #[true, true, true, true, true, true, true, true, true, true, true, true, true, false, false, true, false] (fun s_ => [(26, s_.1), (27, s_.2.1), (31, s_.2.2.1), (8, .pointer (some ⟨s_.2.2.2, 0, none⟩))]) (fun s_ w' => (w'.cell? ⟨aa, 0, none⟩ = some (.bool aD) ∧ w'.cell? ⟨aa, 1, none⟩ = some (.slice aJ aq.length aK) ∧ w'.cell? ⟨aa, 2, none⟩ = some (.slice aH ap.length aI)) ∧ (Kd.V (Kd.int .u32) 48 w' w.heap.size (fun k_ => (P0_ k_ ∨ w.heap.size ≤ k_) ∧ some k_ ≠ (s_.1 : Value).ownBlock ∧ some k_ ≠ (s_.2.2.1 : Value).ownBlock ∧ k_ ≠ ab ∧ k_ ≠ aa ∧ k_ ≠ s_.2.2.2) (.slice aQ ((rd_T67 l0 aw).f1).length aR) ((rd_T67 l0 aw).f1)) ∧ (Kd.V (Kd.int .u32) 48 w' w.heap.size (fun k_ => (P0_ k_ ∨ w.heap.size ≤ k_) ∧ some k_ ≠ (s_.1 : Value).ownBlock ∧ some k_ ≠ (s_.2.2.1 : Value).ownBlock ∧ k_ ≠ ab ∧ k_ ≠ aa ∧ k_ ≠ s_.2.2.2) (.slice aO ((rd_T67 l0 aw).f2).length aP) ((rd_T67 l0 aw).f2)) ∧ (Kd.V (Kd.int .u32) 48 w' w.heap.size (fun k_ => (P0_ k_ ∨ w.heap.size ≤ k_) ∧ some k_ ≠ (s_.1 : Value).ownBlock ∧ some k_ ≠ (s_.2.2.1 : Value).ownBlock ∧ k_ ≠ ab ∧ k_ ≠ aa ∧ k_ ≠ s_.2.2.2) (.slice aJ aq.length aK) aq) ∧ (Kd.V (Kd.int .u32) 48 w' w.heap.size (fun k_ => (P0_ k_ ∨ w.heap.size ≤ k_) ∧ some k_ ≠ (s_.1 : Value).ownBlock ∧ some k_ ≠ (s_.2.2.1 : Value).ownBlock ∧ k_ ≠ ab ∧ k_ ≠ aa ∧ k_ ≠ s_.2.2.2) (.slice aH ap.length aI) ap) ∧ (Kd.N (Kd.slice 48 (Kd.int .u32)) 42 w' w.heap.size (fun k_ => (P0_ k_ ∨ w.heap.size ≤ k_) ∧ some k_ ≠ (s_.2.2.1 : Value).ownBlock ∧ k_ ≠ ab ∧ k_ ≠ aa ∧ k_ ≠ s_.2.2.2) s_.1 aL) ∧ (Kd.V (Kd.int .u32) 48 w' w.heap.size (fun k_ => (P0_ k_ ∨ w.heap.size ≤ k_) ∧ some k_ ≠ (s_.1 : Value).ownBlock ∧ some k_ ≠ (s_.2.2.1 : Value).ownBlock ∧ k_ ≠ ab ∧ k_ ≠ aa ∧ k_ ≠ s_.2.2.2) s_.2.1 a7) ∧ (Kd.N (Kd.slice 48 (Kd.int .u32)) 42 w' w.heap.size (fun k_ => (P0_ k_ ∨ w.heap.size ≤ k_) ∧ some k_ ≠ (s_.1 : Value).ownBlock ∧ k_ ≠ ab ∧ k_ ≠ aa ∧ k_ ≠ s_.2.2.2) s_.2.2.1 a8) ∧ (Kd.V k67 67 w' w.heap.size (fun k_ => (P0_ k_ ∨ w.heap.size ≤ k_) ∧ some k_ ≠ (s_.1 : Value).ownBlock ∧ some k_ ≠ (s_.2.2.1 : Value).ownBlock ∧ k_ ≠ ab ∧ k_ ≠ aa ∧ k_ ≠ s_.2.2.2) (.slice (some ad1358) l0.length c0) l0) ∧ (Kd.V (Kd.int .u32) 48 w' w.heap.size (fun k_ => (P0_ k_ ∨ w.heap.size ≤ k_) ∧ some k_ ≠ (s_.1 : Value).ownBlock ∧ some k_ ≠ (s_.2.2.1 : Value).ownBlock ∧ k_ ≠ ab ∧ k_ ≠ aa ∧ k_ ≠ s_.2.2.2) (.slice bv aU.length bw) aU) ∧ (Kd.V (Kd.int .u32) 48 w' w.heap.size (fun k_ => (P0_ k_ ∨ w.heap.size ≤ k_) ∧ some k_ ≠ (s_.1 : Value).ownBlock ∧ some k_ ≠ (s_.2.2.1 : Value).ownBlock ∧ k_ ≠ ab ∧ k_ ≠ aa ∧ k_ ≠ s_.2.2.2) (.slice AoX5 aN.length coX5) aN) ∧ (w'.heap[ab]? = some (.cells #[.bool false, .slice none 0 0, .slice none 0 0] 67 (0, 0))) ∧ (w'.heap[aa]? = some (.cells #[.bool aD, .slice aJ aq.length aK, .slice aH ap.length aI] 67 (0, 0))) ∧ (w'.heap[s_.2.2.2]? = some (.cells #[.bool false, .slice none 0 0, .slice none 0 0] 67 (0, 0))) ∧ (w.heap.size ≤ s_.2.2.2) ∧ (w.heap.size ≤ s_.2.2.2) ∧ (ab ≠ s_.2.2.2) ∧ (s_.2.2.2 ≠ ab) ∧ (aa ≠ s_.2.2.2) ∧ (s_.2.2.2 ≠ aa) ∧ (Below w.heap.size w w')) ?_ ?_
          rotate_left
          ·
           intro hJ7_8_12_15
           refine join_ (σ := Value × Value × Value) 4 #[true, true, true, true, true, true, true, true, true, true, true, true, true, false, false, false, false] (fun s_ => [(26, s_.1), (27, s_.2.1), (31, s_.2.2)]) (fun s_ w' => (w'.cell? ⟨aa, 0, none⟩ = some (.bool aD) ∧ w'.cell? ⟨aa, 1, none⟩ = some (.slice aJ aq.length aK) ∧ w'.cell? ⟨aa, 2, none⟩ = some (.slice aH ap.length aI)) ∧ (Kd.V (Kd.int .u32) 48 w' w.heap.size (fun k_ => (P0_ k_ ∨ w.heap.size ≤ k_) ∧ some k_ ≠ (s_.1 : Value).ownBlock ∧ some k_ ≠ (s_.2.2 : Value).ownBlock ∧ k_ ≠ ab ∧ k_ ≠ aa) (.slice aQ ((rd_T67 l0 aw).f1).length aR) ((rd_T67 l0 aw).f1)) ∧ (Kd.V (Kd.int .u32) 48 w' w.heap.size (fun k_ => (P0_ k_ ∨ w.heap.size ≤ k_) ∧ some k_ ≠ (s_.1 : Value).ownBlock ∧ some k_ ≠ (s_.2.2 : Value).ownBlock ∧ k_ ≠ ab ∧ k_ ≠ aa) (.slice aO ((rd_T67 l0 aw).f2).length aP) ((rd_T67 l0 aw).f2)) ∧ (Kd.V (Kd.int .u32) 48 w' w.heap.size (fun k_ => (P0_ k_ ∨ w.heap.size ≤ k_) ∧ some k_ ≠ (s_.1 : Value).ownBlock ∧ some k_ ≠ (s_.2.2 : Value).ownBlock ∧ k_ ≠ ab ∧ k_ ≠ aa) (.slice aJ aq.length aK) aq) ∧ (Kd.V (Kd.int .u32) 48 w' w.heap.size (fun k_ => (P0_ k_ ∨ w.heap.size ≤ k_) ∧ some k_ ≠ (s_.1 : Value).ownBlock ∧ some k_ ≠ (s_.2.2 : Value).ownBlock ∧ k_ ≠ ab ∧ k_ ≠ aa) (.slice aH ap.length aI) ap) ∧ (Kd.N (Kd.slice 48 (Kd.int .u32)) 42 w' w.heap.size (fun k_ => (P0_ k_ ∨ w.heap.size ≤ k_) ∧ some k_ ≠ (s_.2.2 : Value).ownBlock ∧ k_ ≠ ab ∧ k_ ≠ aa) s_.1 aL) ∧ (Kd.V (Kd.int .u32) 48 w' w.heap.size (fun k_ => (P0_ k_ ∨ w.heap.size ≤ k_) ∧ some k_ ≠ (s_.1 : Value).ownBlock ∧ some k_ ≠ (s_.2.2 : Value).ownBlock ∧ k_ ≠ ab ∧ k_ ≠ aa) s_.2.1 a7) ∧ (Kd.N (Kd.slice 48 (Kd.int .u32)) 42 w' w.heap.size (fun k_ => (P0_ k_ ∨ w.heap.size ≤ k_) ∧ some k_ ≠ (s_.1 : Value).ownBlock ∧ k_ ≠ ab ∧ k_ ≠ aa) s_.2.2 a8) ∧ (Kd.V k67 67 w' w.heap.size (fun k_ => (P0_ k_ ∨ w.heap.size ≤ k_) ∧ some k_ ≠ (s_.1 : Value).ownBlock ∧ some k_ ≠ (s_.2.2 : Value).ownBlock ∧ k_ ≠ ab ∧ k_ ≠ aa) (.slice (some ad1358) l0.length c0) l0) ∧ (Kd.V (Kd.int .u32) 48 w' w.heap.size (fun k_ => (P0_ k_ ∨ w.heap.size ≤ k_) ∧ some k_ ≠ (s_.1 : Value).ownBlock ∧ some k_ ≠ (s_.2.2 : Value).ownBlock ∧ k_ ≠ ab ∧ k_ ≠ aa) (.slice bv aU.length bw) aU) ∧ (Kd.V (Kd.int .u32) 48 w' w.heap.size (fun k_ => (P0_ k_ ∨ w.heap.size ≤ k_) ∧ some k_ ≠ (s_.1 : Value).ownBlock ∧ some k_ ≠ (s_.2.2 : Value).ownBlock ∧ k_ ≠ ab ∧ k_ ≠ aa) (.slice AoX5 aN.length coX5) aN) ∧ (w'.heap[ab]? = some (.cells #[.bool false, .slice none 0 0, .slice none 0 0] 67 (0, 0))) ∧ (w'.heap[aa]? = some (.cells #[.bool aD, .slice aJ aq.length aK, .slice aH ap.length aI] 67 (0, 0))) ∧ (Below w.heap.size w w')) ?_ ?_
           rotate_left
           ·
            intro hJ7_8_12
            refine join_ (σ := Value × Value × Nat) 4 #[true, true, true, true, true, true, true, true, true, true, true, true, false, false, false, true, false] (fun s_ => [(26, s_.1), (27, s_.2.1), (8, .pointer (some ⟨s_.2.2, 0, none⟩))]) (fun s_ w' => (w'.cell? ⟨aa, 0, none⟩ = some (.bool aD) ∧ w'.cell? ⟨aa, 1, none⟩ = some (.slice aJ aq.length aK) ∧ w'.cell? ⟨aa, 2, none⟩ = some (.slice aH ap.length aI)) ∧ (Kd.V (Kd.int .u32) 48 w' w.heap.size (fun k_ => (P0_ k_ ∨ w.heap.size ≤ k_) ∧ some k_ ≠ (s_.1 : Value).ownBlock ∧ k_ ≠ ab ∧ k_ ≠ aa ∧ k_ ≠ s_.2.2) (.slice aQ ((rd_T67 l0 aw).f1).length aR) ((rd_T67 l0 aw).f1)) ∧ (Kd.V (Kd.int .u32) 48 w' w.heap.size (fun k_ => (P0_ k_ ∨ w.heap.size ≤ k_) ∧ some k_ ≠ (s_.1 : Value).ownBlock ∧ k_ ≠ ab ∧ k_ ≠ aa ∧ k_ ≠ s_.2.2) (.slice aO ((rd_T67 l0 aw).f2).length aP) ((rd_T67 l0 aw).f2)) ∧ (Kd.V (Kd.int .u32) 48 w' w.heap.size (fun k_ => (P0_ k_ ∨ w.heap.size ≤ k_) ∧ some k_ ≠ (s_.1 : Value).ownBlock ∧ k_ ≠ ab ∧ k_ ≠ aa ∧ k_ ≠ s_.2.2) (.slice aJ aq.length aK) aq) ∧ (Kd.V (Kd.int .u32) 48 w' w.heap.size (fun k_ => (P0_ k_ ∨ w.heap.size ≤ k_) ∧ some k_ ≠ (s_.1 : Value).ownBlock ∧ k_ ≠ ab ∧ k_ ≠ aa ∧ k_ ≠ s_.2.2) (.slice aH ap.length aI) ap) ∧ (Kd.N (Kd.slice 48 (Kd.int .u32)) 42 w' w.heap.size (fun k_ => (P0_ k_ ∨ w.heap.size ≤ k_) ∧ k_ ≠ ab ∧ k_ ≠ aa ∧ k_ ≠ s_.2.2) s_.1 aL) ∧ (Kd.V (Kd.int .u32) 48 w' w.heap.size (fun k_ => (P0_ k_ ∨ w.heap.size ≤ k_) ∧ some k_ ≠ (s_.1 : Value).ownBlock ∧ k_ ≠ ab ∧ k_ ≠ aa ∧ k_ ≠ s_.2.2) s_.2.1 a7) ∧ (Kd.V k67 67 w' w.heap.size (fun k_ => (P0_ k_ ∨ w.heap.size ≤ k_) ∧ some k_ ≠ (s_.1 : Value).ownBlock ∧ k_ ≠ ab ∧ k_ ≠ aa ∧ k_ ≠ s_.2.2) (.slice (some ad1358) l0.length c0) l0) ∧ (Kd.V (Kd.int .u32) 48 w' w.heap.size (fun k_ => (P0_ k_ ∨ w.heap.size ≤ k_) ∧ some k_ ≠ (s_.1 : Value).ownBlock ∧ k_ ≠ ab ∧ k_ ≠ aa ∧ k_ ≠ s_.2.2) (.slice bv aU.length bw) aU) ∧ (Kd.V (Kd.int .u32) 48 w' w.heap.size (fun k_ => (P0_ k_ ∨ w.heap.size ≤ k_) ∧ some k_ ≠ (s_.1 : Value).ownBlock ∧ k_ ≠ ab ∧ k_ ≠ aa ∧ k_ ≠ s_.2.2) (.slice AoX5 aN.length coX5) aN) ∧ (w'.heap[ab]? = some (.cells #[.bool false, .slice none 0 0, .slice none 0 0] 67 (0, 0))) ∧ (w'.heap[aa]? = some (.cells #[.bool aD, .slice aJ aq.length aK, .slice aH ap.length aI] 67 (0, 0))) ∧ (w'.heap[s_.2.2]? = some (.cells #[.bool false, .slice none 0 0, .slice none 0 0] 67 (0, 0))) ∧ (w.heap.size ≤ s_.2.2) ∧ (w.heap.size ≤ s_.2.2) ∧ (ab ≠ s_.2.2) ∧ (s_.2.2 ≠ ab) ∧ (aa ≠ s_.2.2) ∧ (s_.2.2 ≠ aa) ∧ (Below w.heap.size w w')) ?_ ?_
            rotate_left
            ·
             intro hJ7_8_15
             refine join_ (σ := Value × Value × Nat) 4 #[true, true, true, true, true, true, true, true, false, true, true, true, true, false, false, true, false] (fun s_ => [(26, s_.1), (31, s_.2.1), (8, .pointer (some ⟨s_.2.2, 0, none⟩))]) (fun s_ w' => (w'.cell? ⟨aa, 0, none⟩ = some (.bool aD) ∧ w'.cell? ⟨aa, 1, none⟩ = some (.slice aJ aq.length aK) ∧ w'.cell? ⟨aa, 2, none⟩ = some (.slice aH ap.length aI)) ∧ (Kd.V (Kd.int .u32) 48 w' w.heap.size (fun k_ => (P0_ k_ ∨ w.heap.size ≤ k_) ∧ some k_ ≠ (s_.1 : Value).ownBlock ∧ some k_ ≠ (s_.2.1 : Value).ownBlock ∧ k_ ≠ ab ∧ k_ ≠ aa ∧ k_ ≠ s_.2.2) (.slice aQ ((rd_T67 l0 aw).f1).length aR) ((rd_T67 l0 aw).f1)) ∧ (Kd.V (Kd.int .u32) 48 w' w.heap.size (fun k_ => (P0_ k_ ∨ w.heap.size ≤ k_) ∧ some k_ ≠ (s_.1 : Value).ownBlock ∧ some k_ ≠ (s_.2.1 : Value).ownBlock ∧ k_ ≠ ab ∧ k_ ≠ aa ∧ k_ ≠ s_.2.2) (.slice aO ((rd_T67 l0 aw).f2).length aP) ((rd_T67 l0 aw).f2)) ∧ (Kd.V (Kd.int .u32) 48 w' w.heap.size (fun k_ => (P0_ k_ ∨ w.heap.size ≤ k_) ∧ some k_ ≠ (s_.1 : Value).ownBlock ∧ some k_ ≠ (s_.2.1 : Value).ownBlock ∧ k_ ≠ ab ∧ k_ ≠ aa ∧ k_ ≠ s_.2.2) (.slice aJ aq.length aK) aq) ∧ (Kd.V (Kd.int .u32) 48 w' w.heap.size (fun k_ => (P0_ k_ ∨ w.heap.size ≤ k_) ∧ some k_ ≠ (s_.1 : Value).ownBlock ∧ some k_ ≠ (s_.2.1 : Value).ownBlock ∧ k_ ≠ ab ∧ k_ ≠ aa ∧ k_ ≠ s_.2.2) (.slice aH ap.length aI) ap) ∧ (Kd.N (Kd.slice 48 (Kd.int .u32)) 42 w' w.heap.size (fun k_ => (P0_ k_ ∨ w.heap.size ≤ k_) ∧ some k_ ≠ (s_.2.1 : Value).ownBlock ∧ k_ ≠ ab ∧ k_ ≠ aa ∧ k_ ≠ s_.2.2) s_.1 aL) ∧ (Kd.N (Kd.slice 48 (Kd.int .u32)) 42 w' w.heap.size (fun k_ => (P0_ k_ ∨ w.heap.size ≤ k_) ∧ some k_ ≠ (s_.1 : Value).ownBlock ∧ k_ ≠ ab ∧ k_ ≠ aa ∧ k_ ≠ s_.2.2) s_.2.1 a8) ∧ (Kd.V k67 67 w' w.heap.size (fun k_ => (P0_ k_ ∨ w.heap.size ≤ k_) ∧ some k_ ≠ (s_.1 : Value).ownBlock ∧ some k_ ≠ (s_.2.1 : Value).ownBlock ∧ k_ ≠ ab ∧ k_ ≠ aa ∧ k_ ≠ s_.2.2) (.slice (some ad1358) l0.length c0) l0) ∧ (Kd.V (Kd.int .u32) 48 w' w.heap.size (fun k_ => (P0_ k_ ∨ w.heap.size ≤ k_) ∧ some k_ ≠ (s_.1 : Value).ownBlock ∧ some k_ ≠ (s_.2.1 : Value).ownBlock ∧ k_ ≠ ab ∧ k_ ≠ aa ∧ k_ ≠ s_.2.2) (.slice bv aU.length bw) aU) ∧ (Kd.V (Kd.int .u32) 48 w' w.heap.size (fun k_ => (P0_ k_ ∨ w.heap.size ≤ k_) ∧ some k_ ≠ (s_.1 : Value).ownBlock ∧ some k_ ≠ (s_.2.1 : Value).ownBlock ∧ k_ ≠ ab ∧ k_ ≠ aa ∧ k_ ≠ s_.2.2) (.slice AoX5 aN.length coX5) aN) ∧ (w'.heap[ab]? = some (.cells #[.bool false, .slice none 0 0, .slice none 0 0] 67 (0, 0))) ∧ (w'.heap[aa]? = some (.cells #[.bool aD, .slice aJ aq.length aK, .slice aH ap.length aI] 67 (0, 0))) ∧ (w'.heap[s_.2.2]? = some (.cells #[.bool false, .slice none 0 0, .slice none 0 0] 67 (0, 0))) ∧ (w.heap.size ≤ s_.2.2) ∧ (w.heap.size ≤ s_.2.2) ∧ (ab ≠ s_.2.2) ∧ (s_.2.2 ≠ ab) ∧ (aa ≠ s_.2.2) ∧ (s_.2.2 ≠ aa) ∧ (Below w.heap.size w w')) ?_ ?_
             rotate_left
             ·
              intro hJ7_12_15
              refine join_ (σ := Value × Value) 5 #[true, true, true, true, true, true, true, true, true, true, true, true, false, false, false, false, false] (fun s_ => [(26, s_.1), (27, s_.2)]) (fun s_ w' => (w'.cell? ⟨aa, 0, none⟩ = some (.bool aD) ∧ w'.cell? ⟨aa, 1, none⟩ = some (.slice aJ aq.length aK) ∧ w'.cell? ⟨aa, 2, none⟩ = some (.slice aH ap.length aI)) ∧ (Kd.V (Kd.int .u32) 48 w' w.heap.size (fun k_ => (P0_ k_ ∨ w.heap.size ≤ k_) ∧ some k_ ≠ (s_.1 : Value).ownBlock ∧ k_ ≠ ab ∧ k_ ≠ aa) (.slice aQ ((rd_T67 l0 aw).f1).length aR) ((rd_T67 l0 aw).f1)) ∧ (Kd.V (Kd.int .u32) 48 w' w.heap.size (fun k_ => (P0_ k_ ∨ w.heap.size ≤ k_) ∧ some k_ ≠ (s_.1 : Value).ownBlock ∧ k_ ≠ ab ∧ k_ ≠ aa) (.slice aO ((rd_T67 l0 aw).f2).length aP) ((rd_T67 l0 aw).f2)) ∧ (Kd.V (Kd.int .u32) 48 w' w.heap.size (fun k_ => (P0_ k_ ∨ w.heap.size ≤ k_) ∧ some k_ ≠ (s_.1 : Value).ownBlock ∧ k_ ≠ ab ∧ k_ ≠ aa) (.slice aJ aq.length aK) aq) ∧ (Kd.V (Kd.int .u32) 48 w' w.heap.size (fun k_ => (P0_ k_ ∨ w.heap.size ≤ k_) ∧ some k_ ≠ (s_.1 : Value).ownBlock ∧ k_ ≠ ab ∧ k_ ≠ aa) (.slice aH ap.length aI) ap) ∧ (Kd.N (Kd.slice 48 (Kd.int .u32)) 42 w' w.heap.size (fun k_ => (P0_ k_ ∨ w.heap.size ≤ k_) ∧ k_ ≠ ab ∧ k_ ≠ aa) s_.1 aL) ∧ (Kd.V (Kd.int .u32) 48 w' w.heap.size (fun k_ => (P0_ k_ ∨ w.heap.size ≤ k_) ∧ some k_ ≠ (s_.1 : Value).ownBlock ∧ k_ ≠ ab ∧ k_ ≠ aa) s_.2 a7) ∧ (Kd.V k67 67 w' w.heap.size (fun k_ => (P0_ k_ ∨ w.heap.size ≤ k_) ∧ some k_ ≠ (s_.1 : Value).ownBlock ∧ k_ ≠ ab ∧ k_ ≠ aa) (.slice (some ad1358) l0.length c0) l0) ∧ (Kd.V (Kd.int .u32) 48 w' w.heap.size (fun k_ => (P0_ k_ ∨ w.heap.size ≤ k_) ∧ some k_ ≠ (s_.1 : Value).ownBlock ∧ k_ ≠ ab ∧ k_ ≠ aa) (.slice bv aU.length bw) aU) ∧ (Kd.V (Kd.int .u32) 48 w' w.heap.size (fun k_ => (P0_ k_ ∨ w.heap.size ≤ k_) ∧ some k_ ≠ (s_.1 : Value).ownBlock ∧ k_ ≠ ab ∧ k_ ≠ aa) (.slice AoX5 aN.length coX5) aN) ∧ (w'.heap[ab]? = some (.cells #[.bool false, .slice none 0 0, .slice none 0 0] 67 (0, 0))) ∧ (w'.heap[aa]? = some (.cells #[.bool aD, .slice aJ aq.length aK, .slice aH ap.length aI] 67 (0, 0))) ∧ (Below w.heap.size w w')) ?_ ?_
              rotate_left
              ·
               intro hJ7_8
               refine join_ (σ := Value × Value) 5 #[true, true, true, true, true, true, true, true, false, true, true, true, true, false, false, false, false] (fun s_ => [(26, s_.1), (31, s_.2)]) (fun s_ w' => (w'.cell? ⟨aa, 0, none⟩ = some (.bool aD) ∧ w'.cell? ⟨aa, 1, none⟩ = some (.slice aJ aq.length aK) ∧ w'.cell? ⟨aa, 2, none⟩ = some (.slice aH ap.length aI)) ∧ (Kd.V (Kd.int .u32) 48 w' w.heap.size (fun k_ => (P0_ k_ ∨ w.heap.size ≤ k_) ∧ some k_ ≠ (s_.1 : Value).ownBlock ∧ some k_ ≠ (s_.2 : Value).ownBlock ∧ k_ ≠ ab ∧ k_ ≠ aa) (.slice aQ ((rd_T67 l0 aw).f1).length aR) ((rd_T67 l0 aw).f1)) ∧ (Kd.V (Kd.int .u32) 48 w' w.heap.size (fun k_ => (P0_ k_ ∨ w.heap.size ≤ k_) ∧ some k_ ≠ (s_.1 : Value).ownBlock ∧ some k_ ≠ (s_.2 : Value).ownBlock ∧ k_ ≠ ab ∧ k_ ≠ aa) (.slice aO ((rd_T67 l0 aw).f2).length aP) ((rd_T67 l0 aw).f2)) ∧ (Kd.V (Kd.int .u32) 48 w' w.heap.size (fun k_ => (P0_ k_ ∨ w.heap.size ≤ k_) ∧ some k_ ≠ (s_.1 : Value).ownBlock ∧ some k_ ≠ (s_.2 : Value).ownBlock ∧ k_ ≠ ab ∧ k_ ≠ aa) (.slice aJ aq.length aK) aq) ∧ (Kd.V (Kd.int .u32) 48 w' w.heap.size (fun k_ => (P0_ k_ ∨ w.heap.size ≤ k_) ∧ some k_ ≠ (s_.1 : Value).ownBlock ∧ some k_ ≠ (s_.2 : Value).ownBlock ∧ k_ ≠ ab ∧ k_ ≠ aa) (.slice aH ap.length aI) ap) ∧ (Kd.N (Kd.slice 48 (Kd.int .u32)) 42 w' w.heap.size (fun k_ => (P0_ k_ ∨ w.heap.size ≤ k_) ∧ some k_ ≠ (s_.2 : Value).ownBlock ∧ k_ ≠ ab ∧ k_ ≠ aa) s_.1 aL) ∧ (Kd.N (Kd.slice 48 (Kd.int .u32)) 42 w' w.heap.size (fun k_ => (P0_ k_ ∨ w.heap.size ≤ k_) ∧ some k_ ≠ (s_.1 : Value).ownBlock ∧ k_ ≠ ab ∧ k_ ≠ aa) s_.2 a8) ∧ (Kd.V k67 67 w' w.heap.size (fun k_ => (P0_ k_ ∨ w.heap.size ≤ k_) ∧ some k_ ≠ (s_.1 : Value).ownBlock ∧ some k_ ≠ (s_.2 : Value).ownBlock ∧ k_ ≠ ab ∧ k_ ≠ aa) (.slice (some ad1358) l0.length c0) l0) ∧ (Kd.V (Kd.int .u32) 48 w' w.heap.size (fun k_ => (P0_ k_ ∨ w.heap.size ≤ k_) ∧ some k_ ≠ (s_.1 : Value).ownBlock ∧ some k_ ≠ (s_.2 : Value).ownBlock ∧ k_ ≠ ab ∧ k_ ≠ aa) (.slice bv aU.length bw) aU) ∧ (Kd.V (Kd.int .u32) 48 w' w.heap.size (fun k_ => (P0_ k_ ∨ w.heap.size ≤ k_) ∧ some k_ ≠ (s_.1 : Value).ownBlock ∧ some k_ ≠ (s_.2 : Value).ownBlock ∧ k_ ≠ ab ∧ k_ ≠ aa) (.slice AoX5 aN.length coX5) aN) ∧ (w'.heap[ab]? = some (.cells #[.bool false, .slice none 0 0, .slice none 0 0] 67 (0, 0))) ∧ (w'.heap[aa]? = some (.cells #[.bool aD, .slice aJ aq.length aK, .slice aH ap.length aI] 67 (0, 0))) ∧ (Below w.heap.size w w')) ?_ ?_
               rotate_left
               ·
                intro hJ7_12
                refine join_ (σ := Value × Nat) 5 #[true, true, true, true, true, true, true, true, false, true, true, true, false, false, false, true, false] (fun s_ => [(26, s_.1), (8, .pointer (some ⟨s_.2, 0, none⟩))]) (fun s_ w' => (w'.cell? ⟨aa, 0, none⟩ = some (.bool aD) ∧ w'.cell? ⟨aa, 1, none⟩ = some (.slice aJ aq.length aK) ∧ w'.cell? ⟨aa, 2, none⟩ = some (.slice aH ap.length aI)) ∧ (Kd.V (Kd.int .u32) 48 w' w.heap.size (fun k_ => (P0_ k_ ∨ w.heap.size ≤ k_) ∧ some k_ ≠ (s_.1 : Value).ownBlock ∧ k_ ≠ ab ∧ k_ ≠ aa ∧ k_ ≠ s_.2) (.slice aQ ((rd_T67 l0 aw).f1).length aR) ((rd_T67 l0 aw).f1)) ∧ (Kd.V (Kd.int .u32) 48 w' w.heap.size (fun k_ => (P0_ k_ ∨ w.heap.size ≤ k_) ∧ some k_ ≠ (s_.1 : Value).ownBlock ∧ k_ ≠ ab ∧ k_ ≠ aa ∧ k_ ≠ s_.2) (.slice aO ((rd_T67 l0 aw).f2).length aP) ((rd_T67 l0 aw).f2)) ∧ (Kd.V (Kd.int .u32) 48 w' w.heap.size (fun k_ => (P0_ k_ ∨ w.heap.size ≤ k_) ∧ some k_ ≠ (s_.1 : Value).ownBlock ∧ k_ ≠ ab ∧ k_ ≠ aa ∧ k_ ≠ s_.2) (.slice aJ aq.length aK) aq) ∧ (Kd.V (Kd.int .u32) 48 w' w.heap.size (fun k_ => (P0_ k_ ∨ w.heap.size ≤ k_) ∧ some k_ ≠ (s_.1 : Value).ownBlock ∧ k_ ≠ ab ∧ k_ ≠ aa ∧ k_ ≠ s_.2) (.slice aH ap.length aI) ap) ∧ (Kd.N (Kd.slice 48 (Kd.int .u32)) 42 w' w.heap.size (fun k_ => (P0_ k_ ∨ w.heap.size ≤ k_) ∧ k_ ≠ ab ∧ k_ ≠ aa ∧ k_ ≠ s_.2) s_.1 aL) ∧ (Kd.V k67 67 w' w.heap.size (fun k_ => (P0_ k_ ∨ w.heap.size ≤ k_) ∧ some k_ ≠ (s_.1 : Value).ownBlock ∧ k_ ≠ ab ∧ k_ ≠ aa ∧ k_ ≠ s_.2) (.slice (some ad1358) l0.length c0) l0) ∧ (Kd.V (Kd.int .u32) 48 w' w.heap.size (fun k_ => (P0_ k_ ∨ w.heap.size ≤ k_) ∧ some k_ ≠ (s_.1 : Value).ownBlock ∧ k_ ≠ ab ∧ k_ ≠ aa ∧ k_ ≠ s_.2) (.slice bv aU.length bw) aU) ∧ (Kd.V (Kd.int .u32) 48 w' w.heap.size (fun k_ => (P0_ k_ ∨ w.heap.size ≤ k_) ∧ some k_ ≠ (s_.1 : Value).ownBlock ∧ k_ ≠ ab ∧ k_ ≠ aa ∧ k_ ≠ s_.2) (.slice AoX5 aN.length coX5) aN) ∧ (w'.heap[ab]? = some (.cells #[.bool false, .slice none 0 0, .slice none 0 0] 67 (0, 0))) ∧ (w'.heap[aa]? = some (.cells #[.bool aD, .slice aJ aq.length aK, .slice aH ap.length aI] 67 (0, 0))) ∧ (w'.heap[s_.2]? = some (.cells #[.bool false, .slice none 0 0, .slice none 0 0] 67 (0, 0))) ∧ (w.heap.size ≤ s_.2) ∧ (w.heap.size ≤ s_.2) ∧ (ab ≠ s_.2) ∧ (s_.2 ≠ ab) ∧ (aa ≠ s_.2) ∧ (s_.2 ≠ aa) ∧ (Below w.heap.size w w')) ?_ ?_
                rotate_left
                ·
                 intro hJ7_15
                 refine join_ (σ := Value × Nat) 5 #[true, true, true, true, true, true, true, false, false, true, true, true, true, false, false, true, false] (fun s_ => [(31, s_.1), (8, .pointer (some ⟨s_.2, 0, none⟩))]) (fun s_ w' => (w'.cell? ⟨aa, 0, none⟩ = some (.bool aD) ∧ w'.cell? ⟨aa, 1, none⟩ = some (.slice aJ aq.length aK) ∧ w'.cell? ⟨aa, 2, none⟩ = some (.slice aH ap.length aI)) ∧ (Kd.V (Kd.int .u32) 48 w' w.heap.size (fun k_ => (P0_ k_ ∨ w.heap.size ≤ k_) ∧ some k_ ≠ (s_.1 : Value).ownBlock ∧ k_ ≠ ab ∧ k_ ≠ aa ∧ k_ ≠ s_.2) (.slice aQ ((rd_T67 l0 aw).f1).length aR) ((rd_T67 l0 aw).f1)) ∧ (Kd.V (Kd.int .u32) 48 w' w.heap.size (fun k_ => (P0_ k_ ∨ w.heap.size ≤ k_) ∧ some k_ ≠ (s_.1 : Value).ownBlock ∧ k_ ≠ ab ∧ k_ ≠ aa ∧ k_ ≠ s_.2) (.slice aO ((rd_T67 l0 aw).f2).length aP) ((rd_T67 l0 aw).f2)) ∧ (Kd.V (Kd.int .u32) 48 w' w.heap.size (fun k_ => (P0_ k_ ∨ w.heap.size ≤ k_) ∧ some k_ ≠ (s_.1 : Value).ownBlock ∧ k_ ≠ ab ∧ k_ ≠ aa ∧ k_ ≠ s_.2) (.slice aJ aq.length aK) aq) ∧ (Kd.V (Kd.int .u32) 48 w' w.heap.size (fun k_ => (P0_ k_ ∨ w.heap.size ≤ k_) ∧ some k_ ≠ (s_.1 : Value).ownBlock ∧ k_ ≠ ab ∧ k_ ≠ aa ∧ k_ ≠ s_.2) (.slice aH ap.length aI) ap) ∧ (Kd.N (Kd.slice 48 (Kd.int .u32)) 42 w' w.heap.size (fun k_ => (P0_ k_ ∨ w.heap.size ≤ k_) ∧ k_ ≠ ab ∧ k_ ≠ aa ∧ k_ ≠ s_.2) s_.1 a8) ∧ (Kd.V k67 67 w' w.heap.size (fun k_ => (P0_ k_ ∨ w.heap.size ≤ k_) ∧ some k_ ≠ (s_.1 : Value).ownBlock ∧ k_ ≠ ab ∧ k_ ≠ aa ∧ k_ ≠ s_.2) (.slice (some ad1358) l0.length c0) l0) ∧ (Kd.V (Kd.int .u32) 48 w' w.heap.size (fun k_ => (P0_ k_ ∨ w.heap.size ≤ k_) ∧ some k_ ≠ (s_.1 : Value).ownBlock ∧ k_ ≠ ab ∧ k_ ≠ aa ∧ k_ ≠ s_.2) (.slice bv aU.length bw) aU) ∧ (Kd.V (Kd.int .u32) 48 w' w.heap.size (fun k_ => (P0_ k_ ∨ w.heap.size ≤ k_) ∧ some k_ ≠ (s_.1 : Value).ownBlock ∧ k_ ≠ ab ∧ k_ ≠ aa ∧ k_ ≠ s_.2) (.slice AoX5 aN.length coX5) aN) ∧ (w'.heap[ab]? = some (.cells #[.bool false, .slice none 0 0, .slice none 0 0] 67 (0, 0))) ∧ (w'.heap[aa]? = some (.cells #[.bool aD, .slice aJ aq.length aK, .slice aH ap.length aI] 67 (0, 0))) ∧ (w'.heap[s_.2]? = some (.cells #[.bool false, .slice none 0 0, .slice none 0 0] 67 (0, 0))) ∧ (w.heap.size ≤ s_.2) ∧ (w.heap.size ≤ s_.2) ∧ (ab ≠ s_.2) ∧ (s_.2 ≠ ab) ∧ (aa ≠ s_.2) ∧ (s_.2 ≠ aa) ∧ (Below w.heap.size w w')) ?_ ?_
                 rotate_left
                 ·
                  intro hJ12_15
                  refine join_ (σ := Value) 6 #[true, true, true, true, true, true, true, true, false, true, true, true, false, false, false, false, false] (fun s_ => [(26, s_)]) (fun s_ w' => (w'.cell? ⟨aa, 0, none⟩ = some (.bool aD) ∧ w'.cell? ⟨aa, 1, none⟩ = some (.slice aJ aq.length aK) ∧ w'.cell? ⟨aa, 2, none⟩ = some (.slice aH ap.length aI)) ∧ (Kd.V (Kd.int .u32) 48 w' w.heap.size (fun k_ => (P0_ k_ ∨ w.heap.size ≤ k_) ∧ some k_ ≠ (s_ : Value).ownBlock ∧ k_ ≠ ab ∧ k_ ≠ aa) (.slice aQ ((rd_T67 l0 aw).f1).length aR) ((rd_T67 l0 aw).f1)) ∧ (Kd.V (Kd.int .u32) 48 w' w.heap.size (fun k_ => (P0_ k_ ∨ w.heap.size ≤ k_) ∧ some k_ ≠ (s_ : Value).ownBlock ∧ k_ ≠ ab ∧ k_ ≠ aa) (.slice aO ((rd_T67 l0 aw).f2).length aP) ((rd_T67 l0 aw).f2)) ∧ (Kd.V (Kd.int .u32) 48 w' w.heap.size (fun k_ => (P0_ k_ ∨ w.heap.size ≤ k_) ∧ some k_ ≠ (s_ : Value).ownBlock ∧ k_ ≠ ab ∧ k_ ≠ aa) (.slice aJ aq.length aK) aq) ∧ (Kd.V (Kd.int .u32) 48 w' w.heap.size (fun k_ => (P0_ k_ ∨ w.heap.size ≤ k_) ∧ some k_ ≠ (s_ : Value).ownBlock ∧ k_ ≠ ab ∧ k_ ≠ aa) (.slice aH ap.length aI) ap) ∧ (Kd.N (Kd.slice 48 (Kd.int .u32)) 42 w' w.heap.size (fun k_ => (P0_ k_ ∨ w.heap.size ≤ k_) ∧ k_ ≠ ab ∧ k_ ≠ aa) s_ aL) ∧ (Kd.V k67 67 w' w.heap.size (fun k_ => (P0_ k_ ∨ w.heap.size ≤ k_) ∧ some k_ ≠ (s_ : Value).ownBlock ∧ k_ ≠ ab ∧ k_ ≠ aa) (.slice (some ad1358) l0.length c0) l0) ∧ (Kd.V (Kd.int .u32) 48 w' w.heap.size (fun k_ => (P0_ k_ ∨ w.heap.size ≤ k_) ∧ some k_ ≠ (s_ : Value).ownBlock ∧ k_ ≠ ab ∧ k_ ≠ aa) (.slice bv aU.length bw) aU) ∧ (Kd.V (Kd.int .u32) 48 w' w.heap.size (fun k_ => (P0_ k_ ∨ w.heap.size ≤ k_) ∧ some k_ ≠ (s_ : Value).ownBlock ∧ k_ ≠ ab ∧ k_ ≠ aa) (.slice AoX5 aN.length coX5) aN) ∧ (w'.heap[ab]? = some (.cells #[.bool false, .slice none 0 0, .slice none 0 0] 67 (0, 0))) ∧ (w'.heap[aa]? = some (.cells #[.bool aD, .slice aJ aq.length aK, .slice aH ap.length aI] 67 (0, 0))) ∧ (Below w.heap.size w w')) ?_ ?_
                  rotate_left
                  ·
                   intro hJ7
                   refine join_ (σ := Value) 6 #[true, true, true, true, true, true, true, false, false, true, true, true, true, false, false, false, false] (fun s_ => [(31, s_)]) (fun s_ w' => (w'.cell? ⟨aa, 0, none⟩ = some (.bool aD) ∧ w'.cell? ⟨aa, 1, none⟩ = some (.slice aJ aq.length aK) ∧ w'.cell? ⟨aa, 2, none⟩ = some (.slice aH ap.length aI)) ∧ (Kd.V (Kd.int .u32) 48 w' w.heap.size (fun k_ => (P0_ k_ ∨ w.heap.size ≤ k_) ∧ some k_ ≠ (s_ : Value).ownBlock ∧ k_ ≠ ab ∧ k_ ≠ aa) (.slice aQ ((rd_T67 l0 aw).f1).length aR) ((rd_T67 l0 aw).f1)) ∧ (Kd.V (Kd.int .u32) 48 w' w.heap.size (fun k_ => (P0_ k_ ∨ w.heap.size ≤ k_) ∧ some k_ ≠ (s_ : Value).ownBlock ∧ k_ ≠ ab ∧ k_ ≠ aa) (.slice aO ((rd_T67 l0 aw).f2).length aP) ((rd_T67 l0 aw).f2)) ∧ (Kd.V (Kd.int .u32) 48 w' w.heap.size (fun k_ => (P0_ k_ ∨ w.heap.size ≤ k_) ∧ some k_ ≠ (s_ : Value).ownBlock ∧ k_ ≠ ab ∧ k_ ≠ aa) (.slice aJ aq.length aK) aq) ∧ (Kd.V (Kd.int .u32) 48 w' w.heap.size (fun k_ => (P0_ k_ ∨ w.heap.size ≤ k_) ∧ some k_ ≠ (s_ : Value).ownBlock ∧ k_ ≠ ab ∧ k_ ≠ aa) (.slice aH ap.length aI) ap) ∧ (Kd.N (Kd.slice 48 (Kd.int .u32)) 42 w' w.heap.size (fun k_ => (P0_ k_ ∨ w.heap.size ≤ k_) ∧ k_ ≠ ab ∧ k_ ≠ aa) s_ a8) ∧ (Kd.V k67 67 w' w.heap.size (fun k_ => (P0_ k_ ∨ w.heap.size ≤ k_) ∧ some k_ ≠ (s_ : Value).ownBlock ∧ k_ ≠ ab ∧ k_ ≠ aa) (.slice (some ad1358) l0.length c0) l0) ∧ (Kd.V (Kd.int .u32) 48 w' w.heap.size (fun k_ => (P0_ k_ ∨ w.heap.size ≤ k_) ∧ some k_ ≠ (s_ : Value).ownBlock ∧ k_ ≠ ab ∧ k_ ≠ aa) (.slice bv aU.length bw) aU) ∧ (Kd.V (Kd.int .u32) 48 w' w.heap.size (fun k_ => (P0_ k_ ∨ w.heap.size ≤ k_) ∧ some k_ ≠ (s_ : Value).ownBlock ∧ k_ ≠ ab ∧ k_ ≠ aa) (.slice AoX5 aN.length coX5) aN) ∧ (w'.heap[ab]? = some (.cells #[.bool false, .slice none 0 0, .slice none 0 0] 67 (0, 0))) ∧ (w'.heap[aa]? = some (.cells #[.bool aD, .slice aJ aq.length aK, .slice aH ap.length aI] 67 (0, 0))) ∧ (Below w.heap.size w w')) ?_ ?_
                   rotate_left
                   ·
                    intro hJ12
                    refine join_ (σ := Nat) 6 #[true, true, true, true, true, true, true, false, false, true, true, true, false, false, false, true, false] (fun s_ => [(8, .pointer (some ⟨s_, 0, none⟩))]) (fun s_ w' => (w'.cell? ⟨aa, 0, none⟩ = some (.bool aD) ∧ w'.cell? ⟨aa, 1, none⟩ = some (.slice aJ aq.length aK) ∧ w'.cell? ⟨aa, 2, none⟩ = some (.slice aH ap.length aI)) ∧ (Kd.V (Kd.int .u32) 48 w' w.heap.size (fun k_ => (P0_ k_ ∨ w.heap.size ≤ k_) ∧ k_ ≠ ab ∧ k_ ≠ aa ∧ k_ ≠ s_) (.slice aQ ((rd_T67 l0 aw).f1).length aR) ((rd_T67 l0 aw).f1)) ∧ (Kd.V (Kd.int .u32) 48 w' w.heap.size (fun k_ => (P0_ k_ ∨ w.heap.size ≤ k_) ∧ k_ ≠ ab ∧ k_ ≠ aa ∧ k_ ≠ s_) (.slice aO ((rd_T67 l0 aw).f2).length aP) ((rd_T67 l0 aw).f2)) ∧ (Kd.V (Kd.int .u32) 48 w' w.heap.size (fun k_ => (P0_ k_ ∨ w.heap.size ≤ k_) ∧ k_ ≠ ab ∧ k_ ≠ aa ∧ k_ ≠ s_) (.slice aJ aq.length aK) aq) ∧ (Kd.V (Kd.int .u32) 48 w' w.heap.size (fun k_ => (P0_ k_ ∨ w.heap.size ≤ k_) ∧ k_ ≠ ab ∧ k_ ≠ aa ∧ k_ ≠ s_) (.slice aH ap.length aI) ap) ∧ (Kd.V k67 67 w' w.heap.size (fun k_ => (P0_ k_ ∨ w.heap.size ≤ k_) ∧ k_ ≠ ab ∧ k_ ≠ aa ∧ k_ ≠ s_) (.slice (some ad1358) l0.length c0) l0) ∧ (Kd.V (Kd.int .u32) 48 w' w.heap.size (fun k_ => (P0_ k_ ∨ w.heap.size ≤ k_) ∧ k_ ≠ ab ∧ k_ ≠ aa ∧ k_ ≠ s_) (.slice bv aU.length bw) aU) ∧ (Kd.V (Kd.int .u32) 48 w' w.heap.size (fun k_ => (P0_ k_ ∨ w.heap.size ≤ k_) ∧ k_ ≠ ab ∧ k_ ≠ aa ∧ k_ ≠ s_) (.slice AoX5 aN.length coX5) aN) ∧ (w'.heap[ab]? = some (.cells #[.bool false, .slice none 0 0, .slice none 0 0] 67 (0, 0))) ∧ (w'.heap[aa]? = some (.cells #[.bool aD, .slice aJ aq.length aK, .slice aH ap.length aI] 67 (0, 0))) ∧ (w'.heap[s_]? = some (.cells #[.bool false, .slice none 0 0, .slice none 0 0] 67 (0, 0))) ∧ (w.heap.size ≤ s_) ∧ (w.heap.size ≤ s_) ∧ (ab ≠ s_) ∧ (s_ ≠ ab) ∧ (aa ≠ s_) ∧ (s_ ≠ aa) ∧ (Below w.heap.size w w')) ?_ ?_
                    rotate_left
                    ·
                     intro hJ15
                     refine three_ (i := 7) (j := 12) (k := 15) (Ni := some 26) (Nj := some 31) (Nk := some 8) #[true, true, true, true, true, true, true, true, false, true, true, true, false, false, false, false, false] #[true, true, true, true, true, true, true, false, false, true, true, true, true, false, false, false, false] #[true, true, true, true, true, true, true, false, false, true, true, true, false, false, false, true, false] rfl rfl rfl rfl rfl rfl (three_of HT_.out (by kernel_rfl)) (by decide) (by decide) (by decide) (fun K hK => ?_) (fun K hK => ?_) (fun K hK => ?_)
                     ·
                      skip
                      refine Kd.N_lit_step (Kd.slice 48 (Kd.int .u32)) _ 42 ?hg (N' := 26) ?hd (xs := ([aU, aq] : List (List Int))) (inner := [.slice bv aU.length bw, .slice aJ aq.length aK]) (ok := (fun k_ => (P0_ k_ ∨ w.heap.size ≤ k_) ∧ k_ ≠ ab ∧ k_ ≠ aa)) (okp := (fun k_ => (P0_ k_ ∨ w.heap.size ≤ k_) ∧ k_ ≠ ab ∧ k_ ≠ aa)) ?hr ?hp (fun _ hk => hk) ((show ∀ k_, dX.heap.size ≤ k_ → (fun k_ => (P0_ k_ ∨ w.heap.size ≤ k_) ∧ k_ ≠ ab ∧ k_ ≠ aa) k_ from fun k_ hk => ⟨(.inr (Nat.le_trans (below_size (bu2 HB.out aj.out al.out)) hk)), Kd.freshB (g := ab) (o := .cells #[.bool false, .slice none 0 0, .slice none 0 0] 67 (0, 0)) (ku ag.out) k_ hk, Kd.freshB (g := aa) (o := .cells #[.bool aD, .slice aJ aq.length aK, .slice aH ap.length aI] 67 (0, 0)) (ku ac.out) k_ hk⟩) _ (Nat.le_refl _)) (Below.refl _ _) (Nat.le_refl _) (by simp) ?_; (case hd => rfl); (case hg => rfl); (case hr => first | (go_simp; done) | (go_simp; rfl)); (case hp => exact (Reps.one (show Kd.FK (Kd.slice 48 (Kd.int .u32)) _ _ aU [.slice bv aU.length bw] from (Kd.FK_slice_mk (Kd.V_reads' (vy ((fun k_ => (P0_ k_ ∨ w.heap.size ≤ k_) ∧ k_ ≠ ab ∧ k_ ≠ aa)) aC.out)).2.1 (Kd.V_F (vy ((fun k_ => (P0_ k_ ∨ w.heap.size ≤ k_) ∧ k_ ≠ ab ∧ k_ ≠ aa)) aC.out)))) (Reps.one (show Kd.FK (Kd.slice 48 (Kd.int .u32)) _ _ aq [.slice aJ aq.length aK] from (Kd.FK_slice_mk (Kd.V_reads' (vy ((fun k_ => (P0_ k_ ∨ w.heap.size ≤ k_) ∧ k_ ≠ ab ∧ k_ ≠ aa)) ai.out)).2.1 (Kd.V_F (vy ((fun k_ => (P0_ k_ ∨ w.heap.size ≤ k_) ∧ k_ ≠ ab ∧ k_ ≠ aa)) ai.out)))) (Reps.none _ _))))
                      intro aG cr bq hb hg_ hnew_
                      clear hg_ hnew_
                      (first | rw [← bG.out] at bq | (simp only [Int.reduceToNat] at bq; rw [← bG.out] at bq))
                      replace aC := el aC bq hb
                      replace aB := el aB bq hb
                      replace ao := el ao bq hb
                      replace ad := el ad bq hb
                      replace ae := el ae bq hb
                      replace ai := el ai bq hb
                      replace ah := el ah bq hb
                      have an := am (Kd.N_lower bq (below_size (bu2 HB.out aj.out al.out)))
                      replace ag := kb ag hb
                      replace ac := kb ac hb
                      replace HB := be2 HB aj al hb
                      clear hb bq
                      refine hK.out _ _ ⟨bc ac 0, bc ac 1, bc ac 2⟩ (fun hHeld => ?_)
                      clear hK K
                      refine nq 26 ?_
                      exact norm_ (by first | (simp only [putAll, Act.put, List.setIfInBounds_toArray, List.set_cons_zero, List.set_cons_succ]; done) | (simp only [putAll, Act.put, List.setIfInBounds_toArray, List.set_cons_zero, List.set_cons_succ]; rfl)) (hJ7 (aG) _ ⟨hHeld, (vz ad.out), (vz ae.out), (vz ai.out), (vz ah.out), (nu an.out), (vz ao.out), (vz aC.out), (vz aB.out), (ku ag.out), (ku ac.out), (bu2 HB.out aj.out al.out)⟩)
                     ·
                      skip
                      refine Kd.N_lit_step (Kd.slice 48 (Kd.int .u32)) _ 42 ?hg (N' := 31) ?hd (xs := ([aN, ap] : List (List Int))) (inner := [.slice AoX5 aN.length coX5, .slice aH ap.length aI]) (ok := (fun k_ => (P0_ k_ ∨ w.heap.size ≤ k_) ∧ k_ ≠ ab ∧ k_ ≠ aa)) (okp := (fun k_ => (P0_ k_ ∨ w.heap.size ≤ k_) ∧ k_ ≠ ab ∧ k_ ≠ aa)) ?hr ?hp (fun _ hk => hk) ((show ∀ k_, dX.heap.size ≤ k_ → (fun k_ => (P0_ k_ ∨ w.heap.size ≤ k_) ∧ k_ ≠ ab ∧ k_ ≠ aa) k_ from fun k_ hk => ⟨(.inr (Nat.le_trans (below_size (bu2 HB.out aj.out al.out)) hk)), Kd.freshB (g := ab) (o := .cells #[.bool false, .slice none 0 0, .slice none 0 0] 67 (0, 0)) (ku ag.out) k_ hk, Kd.freshB (g := aa) (o := .cells #[.bool aD, .slice aJ aq.length aK, .slice aH ap.length aI] 67 (0, 0)) (ku ac.out) k_ hk⟩) _ (Nat.le_refl _)) (Below.refl _ _) (Nat.le_refl _) (by simp) ?_; (case hd => rfl); (case hg => rfl); (case hr => first | (go_simp; done) | (go_simp; rfl)); (case hp => exact (Reps.one (show Kd.FK (Kd.slice 48 (Kd.int .u32)) _ _ aN [.slice AoX5 aN.length coX5] from (Kd.FK_slice_mk (Kd.V_reads' (vy ((fun k_ => (P0_ k_ ∨ w.heap.size ≤ k_) ∧ k_ ≠ ab ∧ k_ ≠ aa)) aB.out)).2.1 (Kd.V_F (vy ((fun k_ => (P0_ k_ ∨ w.heap.size ≤ k_) ∧ k_ ≠ ab ∧ k_ ≠ aa)) aB.out)))) (Reps.one (show Kd.FK (Kd.slice 48 (Kd.int .u32)) _ _ ap [.slice aH ap.length aI] from (Kd.FK_slice_mk (Kd.V_reads' (vy ((fun k_ => (P0_ k_ ∨ w.heap.size ≤ k_) ∧ k_ ≠ ab ∧ k_ ≠ aa)) ah.out)).2.1 (Kd.V_F (vy ((fun k_ => (P0_ k_ ∨ w.heap.size ≤ k_) ∧ k_ ≠ ab ∧ k_ ≠ aa)) ah.out)))) (Reps.none _ _))))
                      intro aF cr bq hb hg_ hnew_
                      clear hg_ hnew_
                      (first | rw [← bp.out] at bq | (simp only [Int.reduceToNat] at bq; rw [← bp.out] at bq))
                      replace aC := el aC bq hb
                      replace aB := el aB bq hb
                      replace ao := el ao bq hb
                      replace ad := el ad bq hb
                      replace ae := el ae bq hb
                      replace ai := el ai bq hb
                      replace ah := el ah bq hb
                      have av := am (Kd.N_lower bq (below_size (bu2 HB.out aj.out al.out)))
                      replace ag := kb ag hb
                      replace ac := kb ac hb
                      replace HB := be2 HB aj al hb
                      clear hb bq
                      refine hK.out _ _ ⟨bc ac 0, bc ac 1, bc ac 2⟩ (fun hHeld => ?_)
                      clear hK K
                      refine nq 31 ?_
                      exact norm_ (by first | (simp only [putAll, Act.put, List.setIfInBounds_toArray, List.set_cons_zero, List.set_cons_succ]; done) | (simp only [putAll, Act.put, List.setIfInBounds_toArray, List.set_cons_zero, List.set_cons_succ]; rfl)) (hJ12 (aF) _ ⟨hHeld, (vz ad.out), (vz ae.out), (vz ai.out), (vz ah.out), (nu av.out), (vz ao.out), (vz aC.out), (vz aB.out), (ku ag.out), (ku ac.out), (bu2 HB.out aj.out al.out)⟩)
                     ·
                      skip
                      refine box_step ?hg (N := 8) ?hd (cs := #[.bool false, .slice none 0 0, .slice none 0 0]) (t := 67) ?hr ?_; (case hd => rfl); (case hg => rfl); (case hr => first | (go_simp; done) | (go_simp; rfl))
                      intro af hg d6 hbox hb
                      replace aC := ke aC hg hb
                      replace aB := ke aB hg hb
                      replace ao := ke ao hg hb
                      replace ad := ke ad hg hb
                      replace ae := ke ae hg hb
                      replace ai := ke ai hg hb
                      replace ah := ke ah hg hb
                      have az := am (hbox)
                      have aM := ng hg (bu2 HB.out aj.out al.out)
                      have aA := ng hg (bu2 HB.out aj.out al.out)
                      replace HB := be2 HB aj al hb
                      have au := nl hg ag
                      have ax := nr hg ag
                      replace ag := kb ag hb
                      have ak := nl hg ac
                      have ay := nr hg ac
                      replace ac := kb ac hb
                      clear hb hbox hg
                      refine hK.out _ _ ⟨bc ac 0, bc ac 1, bc ac 2⟩ (fun hHeld => ?_)
                      clear hK K
                      refine nq 8 ?_
                      exact norm_ (by first | (simp only [putAll, Act.put, List.setIfInBounds_toArray, List.set_cons_zero, List.set_cons_succ]; done) | (simp only [putAll, Act.put, List.setIfInBounds_toArray, List.set_cons_zero, List.set_cons_succ]; rfl)) (hJ15 (af) _ ⟨hHeld, (vz ad.out), (vz ae.out), (vz ai.out), (vz ah.out), (vz ao.out), (vz aC.out), (vz aB.out), (ku ag.out), (ku ac.out), (ku az.out), aM.out, aA.out, au.out, ax.out, ak.out, ay.out, (bu3 HB.out aj.out al.out aA.out)⟩)
                    ·
                     skip
                     rintro af cr ⟨hS_, a9, ba, bb, bd, bf, bg, bh, bi, bj, bk, aS, aV, aZ, a0, a1, a2, a6⟩
                     (try dsimp -simprocs only at a9 ba bb bd bf bg bh bi bj bk aS aV aZ a0 a1 a2 a6)
                     clear aC aB ao ad ae ai ah ag ac HB
                     have ad := Aside0.mk a9
                     have ae := Aside0.mk ba
                     have ai := Aside0.mk bb
                     have ah := Aside0.mk bd
                     have ao := Aside0.mk bf
                     have aC := Aside0.mk bg
                     have aB := Aside0.mk bh
                     have ag := Aside0.mk bi
                     have ac := Aside0.mk bj
                     have az := Aside0.mk bk
                     have aM := Aside0.mk aS
                     have aA := Aside0.mk aV
                     have au := Aside0.mk aZ
                     have ax := Aside0.mk a0
                     have ak := Aside0.mk a1
                     have ay := Aside0.mk a2
                     have HB := Aside0.mk a6
                     clear a9 ba bb bd bf bg bh bi bj bk aS aV aZ a0 a1 a2 a6
                     have hHeld : cr.cell? ⟨aa, 0, none⟩ = some (.bool aD) ∧ cr.cell? ⟨aa, 1, none⟩ = some (.slice aJ aq.length aK) ∧ cr.cell? ⟨aa, 2, none⟩ = some (.slice aH ap.length aI) := hS_
                     refine norm_ (a' := ?_) ?_ ?_
                     rotate_left
                     ·
                      simp only [putAll, Act.put, List.setIfInBounds_toArray, List.set_cons_zero, List.set_cons_succ]
                      rfl
                     refine two_ (i := 7) (j := 12) (Ni := some 26) (Nj := some 31) #[true, true, true, true, true, true, true, true, false, true, true, true, false, false, false, true, false] #[true, true, true, true, true, true, true, false, false, true, true, true, true, false, false, true, false] rfl rfl rfl rfl (two_of HT_.out (by kernel_rfl)) (by decide) (by decide) (fun K hK => ?_) (fun K hK => ?_)
                     ·
                      skip
                      refine Kd.N_lit_step (Kd.slice 48 (Kd.int .u32)) _ 42 ?hg (N' := 26) ?hd (xs := ([aU, aq] : List (List Int))) (inner := [.slice bv aU.length bw, .slice aJ aq.length aK]) (ok := (fun k_ => (P0_ k_ ∨ w.heap.size ≤ k_) ∧ k_ ≠ ab ∧ k_ ≠ aa ∧ k_ ≠ af)) (okp := (fun k_ => (P0_ k_ ∨ w.heap.size ≤ k_) ∧ k_ ≠ ab ∧ k_ ≠ aa ∧ k_ ≠ af)) ?hr ?hp (fun _ hk => hk) ((show ∀ k_, cr.heap.size ≤ k_ → (fun k_ => (P0_ k_ ∨ w.heap.size ≤ k_) ∧ k_ ≠ ab ∧ k_ ≠ aa ∧ k_ ≠ af) k_ from fun k_ hk => ⟨(.inr (Nat.le_trans (below_size (bu3 HB.out aj.out al.out aA.out)) hk)), Kd.freshB (g := ab) (o := .cells #[.bool false, .slice none 0 0, .slice none 0 0] 67 (0, 0)) (ku ag.out) k_ hk, Kd.freshB (g := aa) (o := .cells #[.bool aD, .slice aJ aq.length aK, .slice aH ap.length aI] 67 (0, 0)) (ku ac.out) k_ hk, Kd.freshB (g := af) (o := .cells #[.bool false, .slice none 0 0, .slice none 0 0] 67 (0, 0)) (ku az.out) k_ hk⟩) _ (Nat.le_refl _)) (Below.refl _ _) (Nat.le_refl _) (by simp) ?_; (case hd => rfl); (case hg => rfl); (case hr => first | (go_simp; done) | (go_simp; rfl)); (case hp => exact (Reps.one (show Kd.FK (Kd.slice 48 (Kd.int .u32)) _ _ aU [.slice bv aU.length bw] from (Kd.FK_slice_mk (Kd.V_reads' (vy ((fun k_ => (P0_ k_ ∨ w.heap.size ≤ k_) ∧ k_ ≠ ab ∧ k_ ≠ aa ∧ k_ ≠ af)) aC.out)).2.1 (Kd.V_F (vy ((fun k_ => (P0_ k_ ∨ w.heap.size ≤ k_) ∧ k_ ≠ ab ∧ k_ ≠ aa ∧ k_ ≠ af)) aC.out)))) (Reps.one (show Kd.FK (Kd.slice 48 (Kd.int .u32)) _ _ aq [.slice aJ aq.length aK] from (Kd.FK_slice_mk (Kd.V_reads' (vy ((fun k_ => (P0_ k_ ∨ w.heap.size ≤ k_) ∧ k_ ≠ ab ∧ k_ ≠ aa ∧ k_ ≠ af)) ai.out)).2.1 (Kd.V_F (vy ((fun k_ => (P0_ k_ ∨ w.heap.size ≤ k_) ∧ k_ ≠ ab ∧ k_ ≠ aa ∧ k_ ≠ af)) ai.out)))) (Reps.none _ _))))
                      intro aG b6 br hb hg_ hnew_
                      clear hg_ hnew_
                      (first | rw [← bG.out] at br | (simp only [Int.reduceToNat] at br; rw [← bG.out] at br))
                      replace aC := el aC br hb
                      replace aB := el aB br hb
                      replace ao := el ao br hb
                      replace ad := el ad br hb
                      replace ae := el ae br hb
                      replace ai := el ai br hb
                      replace ah := el ah br hb
                      have an := am (Kd.N_lower br (below_size (bu3 HB.out aj.out al.out aA.out)))
                      replace ag := kb ag hb
                      replace ac := kb ac hb
                      replace az := kb az hb
                      replace HB := be3 HB aj al aA hb
                      clear hb br
                      refine hK.out _ _ ⟨bc ac 0, bc ac 1, bc ac 2⟩ (fun hHeld => ?_)
                      clear hK K
                      refine nq 26 ?_
                      exact norm_ (by first | (simp only [putAll, Act.put, List.setIfInBounds_toArray, List.set_cons_zero, List.set_cons_succ]; done) | (simp only [putAll, Act.put, List.setIfInBounds_toArray, List.set_cons_zero, List.set_cons_succ]; rfl)) (hJ7_15 (aG, af) _ ⟨hHeld, (vz ad.out), (vz ae.out), (vz ai.out), (vz ah.out), (nu an.out), (vz ao.out), (vz aC.out), (vz aB.out), (ku ag.out), (ku ac.out), (ku az.out), aM.out, aA.out, au.out, ax.out, ak.out, ay.out, (bu3 HB.out aj.out al.out aA.out)⟩)
                     ·
                      skip
                      refine Kd.N_lit_step (Kd.slice 48 (Kd.int .u32)) _ 42 ?hg (N' := 31) ?hd (xs := ([aN, ap] : List (List Int))) (inner := [.slice AoX5 aN.length coX5, .slice aH ap.length aI]) (ok := (fun k_ => (P0_ k_ ∨ w.heap.size ≤ k_) ∧ k_ ≠ ab ∧ k_ ≠ aa ∧ k_ ≠ af)) (okp := (fun k_ => (P0_ k_ ∨ w.heap.size ≤ k_) ∧ k_ ≠ ab ∧ k_ ≠ aa ∧ k_ ≠ af)) ?hr ?hp (fun _ hk => hk) ((show ∀ k_, cr.heap.size ≤ k_ → (fun k_ => (P0_ k_ ∨ w.heap.size ≤ k_) ∧ k_ ≠ ab ∧ k_ ≠ aa ∧ k_ ≠ af) k_ from fun k_ hk => ⟨(.inr (Nat.le_trans (below_size (bu3 HB.out aj.out al.out aA.out)) hk)), Kd.freshB (g := ab) (o := .cells #[.bool false, .slice none 0 0, .slice none 0 0] 67 (0, 0)) (ku ag.out) k_ hk, Kd.freshB (g := aa) (o := .cells #[.bool aD, .slice aJ aq.length aK, .slice aH ap.length aI] 67 (0, 0)) (ku ac.out) k_ hk, Kd.freshB (g := af) (o := .cells #[.bool false, .slice none 0 0, .slice none 0 0] 67 (0, 0)) (ku az.out) k_ hk⟩) _ (Nat.le_refl _)) (Below.refl _ _) (Nat.le_refl _) (by simp) ?_; (case hd => rfl); (case hg => rfl); (case hr => first | (go_simp; done) | (go_simp; rfl)); (case hp => exact (Reps.one (show Kd.FK (Kd.slice 48 (Kd.int .u32)) _ _ aN [.slice AoX5 aN.length coX5] from (Kd.FK_slice_mk (Kd.V_reads' (vy ((fun k_ => (P0_ k_ ∨ w.heap.size ≤ k_) ∧ k_ ≠ ab ∧ k_ ≠ aa ∧ k_ ≠ af)) aB.out)).2.1 (Kd.V_F (vy ((fun k_ => (P0_ k_ ∨ w.heap.size ≤ k_) ∧ k_ ≠ ab ∧ k_ ≠ aa ∧ k_ ≠ af)) aB.out)))) (Reps.one (show Kd.FK (Kd.slice 48 (Kd.int .u32)) _ _ ap [.slice aH ap.length aI] from (Kd.FK_slice_mk (Kd.V_reads' (vy ((fun k_ => (P0_ k_ ∨ w.heap.size ≤ k_) ∧ k_ ≠ ab ∧ k_ ≠ aa ∧ k_ ≠ af)) ah.out)).2.1 (Kd.V_F (vy ((fun k_ => (P0_ k_ ∨ w.heap.size ≤ k_) ∧ k_ ≠ ab ∧ k_ ≠ aa ∧ k_ ≠ af)) ah.out)))) (Reps.none _ _))))
                      intro aF b6 br hb hg_ hnew_
                      clear hg_ hnew_
                      (first | rw [← bp.out] at br | (simp only [Int.reduceToNat] at br; rw [← bp.out] at br))
                      replace aC := el aC br hb
                      replace aB := el aB br hb
                      replace ao := el ao br hb
                      replace ad := el ad br hb
                      replace ae := el ae br hb
                      replace ai := el ai br hb
                      replace ah := el ah br hb
                      have av := am (Kd.N_lower br (below_size (bu3 HB.out aj.out al.out aA.out)))
                      replace ag := kb ag hb
                      replace ac := kb ac hb
                      replace az := kb az hb
                      replace HB := be3 HB aj al aA hb
                      clear hb br
                      refine hK.out _ _ ⟨bc ac 0, bc ac 1, bc ac 2⟩ (fun hHeld => ?_)
                      clear hK K
                      refine nq 31 ?_
                      exact norm_ (by first | (simp only [putAll, Act.put, List.setIfInBounds_toArray, List.set_cons_zero, List.set_cons_succ]; done) | (simp only [putAll, Act.put, List.setIfInBounds_toArray, List.set_cons_zero, List.set_cons_succ]; rfl)) (hJ12_15 (aF, af) _ ⟨hHeld, (vz ad.out), (vz ae.out), (vz ai.out), (vz ah.out), (nu av.out), (vz ao.out), (vz aC.out), (vz aB.out), (ku ag.out), (ku ac.out), (ku az.out), aM.out, aA.out, au.out, ax.out, ak.out, ay.out, (bu3 HB.out aj.out al.out aA.out)⟩)
                   ·
                    skip
                    rintro aF b6 ⟨hS_, a9, ba, bb, bd, bf, bg, bh, bi, bj, bk, aS⟩
                    (try dsimp -simprocs only at a9 ba bb bd bf bg bh bi bj bk aS)
                    clear aC aB ao ad ae ai ah ag ac HB
                    have ad := Aside0.mk a9
                    have ae := Aside0.mk ba
                    have ai := Aside0.mk bb
                    have ah := Aside0.mk bd
                    have av := Aside0.mk bf
                    have ao := Aside0.mk bg
                    have aC := Aside0.mk bh
                    have aB := Aside0.mk bi
                    have ag := Aside0.mk bj
                    have ac := Aside0.mk bk
                    have HB := Aside0.mk aS
                    clear a9 ba bb bd bf bg bh bi bj bk aS
                    have hHeld : b6.cell? ⟨aa, 0, none⟩ = some (.bool aD) ∧ b6.cell? ⟨aa, 1, none⟩ = some (.slice aJ aq.length aK) ∧ b6.cell? ⟨aa, 2, none⟩ = some (.slice aH ap.length aI) := hS_
                    refine norm_ (a' := ?_) ?_ ?_
                    rotate_left
                    ·
                     simp only [putAll, Act.put, List.setIfInBounds_toArray, List.set_cons_zero, List.set_cons_succ]
                     rfl
                    refine two_ (i := 7) (j := 15) (Ni := some 26) (Nj := some 8) #[true, true, true, true, true, true, true, true, false, true, true, true, true, false, false, false, false] #[true, true, true, true, true, true, true, false, false, true, true, true, true, false, false, true, false] rfl rfl rfl rfl (two_of HT_.out (by kernel_rfl)) (by decide) (by decide) (fun K hK => ?_) (fun K hK => ?_)
                    ·
                     skip
                     refine Kd.N_lit_step (Kd.slice 48 (Kd.int .u32)) _ 42 ?hg (N' := 26) ?hd (xs := ([aU, aq] : List (List Int))) (inner := [.slice bv aU.length bw, .slice aJ aq.length aK]) (ok := (fun k_ => (P0_ k_ ∨ w.heap.size ≤ k_) ∧ some k_ ≠ (aF : Value).ownBlock ∧ k_ ≠ ab ∧ k_ ≠ aa)) (okp := (fun k_ => (P0_ k_ ∨ w.heap.size ≤ k_) ∧ some k_ ≠ (aF : Value).ownBlock ∧ k_ ≠ ab ∧ k_ ≠ aa)) ?hr ?hp (fun _ hk => hk) ((show ∀ k_, b6.heap.size ≤ k_ → (fun k_ => (P0_ k_ ∨ w.heap.size ≤ k_) ∧ some k_ ≠ (aF : Value).ownBlock ∧ k_ ≠ ab ∧ k_ ≠ aa) k_ from fun k_ hk => ⟨(.inr (Nat.le_trans (below_size (bu2 HB.out aj.out al.out)) hk)), Kd.fresh' (Kd.N_lt (nu av.out)) k_ hk, Kd.freshB (g := ab) (o := .cells #[.bool false, .slice none 0 0, .slice none 0 0] 67 (0, 0)) (ku ag.out) k_ hk, Kd.freshB (g := aa) (o := .cells #[.bool aD, .slice aJ aq.length aK, .slice aH ap.length aI] 67 (0, 0)) (ku ac.out) k_ hk⟩) _ (Nat.le_refl _)) (Below.refl _ _) (Nat.le_refl _) (by simp) ?_; (case hd => rfl); (case hg => rfl); (case hr => first | (go_simp; done) | (go_simp; rfl)); (case hp => exact (Reps.one (show Kd.FK (Kd.slice 48 (Kd.int .u32)) _ _ aU [.slice bv aU.length bw] from (Kd.FK_slice_mk (Kd.V_reads' (vy ((fun k_ => (P0_ k_ ∨ w.heap.size ≤ k_) ∧ some k_ ≠ (aF : Value).ownBlock ∧ k_ ≠ ab ∧ k_ ≠ aa)) aC.out)).2.1 (Kd.V_F (vy ((fun k_ => (P0_ k_ ∨ w.heap.size ≤ k_) ∧ some k_ ≠ (aF : Value).ownBlock ∧ k_ ≠ ab ∧ k_ ≠ aa)) aC.out)))) (Reps.one (show Kd.FK (Kd.slice 48 (Kd.int .u32)) _ _ aq [.slice aJ aq.length aK] from (Kd.FK_slice_mk (Kd.V_reads' (vy ((fun k_ => (P0_ k_ ∨ w.heap.size ≤ k_) ∧ some k_ ≠ (aF : Value).ownBlock ∧ k_ ≠ ab ∧ k_ ≠ aa)) ai.out)).2.1 (Kd.V_F (vy ((fun k_ => (P0_ k_ ∨ w.heap.size ≤ k_) ∧ some k_ ≠ (aF : Value).ownBlock ∧ k_ ≠ ab ∧ k_ ≠ aa)) ai.out)))) (Reps.none _ _))))
                     intro aG ct bl hb hg_ hnew_
                     clear hg_ hnew_
                     (first | rw [← bG.out] at bl | (simp only [Int.reduceToNat] at bl; rw [← bG.out] at bl))
                     replace aC := el aC bl hb
                     replace aB := el aB bl hb
                     replace ao := el ao bl hb
                     replace ad := el ad bl hb
                     replace ae := el ae bl hb
                     replace ai := el ai bl hb
                     replace ah := el ah bl hb
                     replace av := en av bl hb
                     have an := am (Kd.N_lower bl (below_size (bu2 HB.out aj.out al.out)))
                     replace ag := kb ag hb
                     replace ac := kb ac hb
                     replace HB := be2 HB aj al hb
                     clear hb bl
                     refine hK.out _ _ ⟨bc ac 0, bc ac 1, bc ac 2⟩ (fun hHeld => ?_)
                     clear hK K
                     refine nq 26 ?_
                     exact norm_ (by first | (simp only [putAll, Act.put, List.setIfInBounds_toArray, List.set_cons_zero, List.set_cons_succ]; done) | (simp only [putAll, Act.put, List.setIfInBounds_toArray, List.set_cons_zero, List.set_cons_succ]; rfl)) (hJ7_12 (aG, aF) _ ⟨hHeld, (vz ad.out), (vz ae.out), (vz ai.out), (vz ah.out), (nu an.out), (by (with_reducible repeat (first | apply Kd.N_alloc | apply Kd.N_drewN | apply Kd.N_drew)); exact Kd.N_mono av.out (fun _ hk => ⟨hk.1.1, ⟨hk.2, ⟨hk.1.2.1, hk.1.2.2⟩⟩⟩)), (vz ao.out), (vz aC.out), (vz aB.out), (ku ag.out), (ku ac.out), (bu2 HB.out aj.out al.out)⟩)
                    ·
                     skip
                     refine box_step ?hg (N := 8) ?hd (cs := #[.bool false, .slice none 0 0, .slice none 0 0]) (t := 67) ?hr ?_; (case hd => rfl); (case hg => rfl); (case hr => first | (go_simp; done) | (go_simp; rfl))
                     intro af hg b7 hbox hb
                     replace aC := ke aC hg hb
                     replace aB := ke aB hg hb
                     replace ao := ke ao hg hb
                     replace ad := ke ad hg hb
                     replace ae := ke ae hg hb
                     replace ai := ke ai hg hb
                     replace ah := ke ah hg hb
                     replace av := am (Kd.N_below (Kd.N_elderB (nu av.out) af (Nat.le_of_eq hg.symm)) hb)
                     have az := am (hbox)
                     have aM := ng hg (bu2 HB.out aj.out al.out)
                     have aA := ng hg (bu2 HB.out aj.out al.out)
                     replace HB := be2 HB aj al hb
                     have au := nl hg ag
                     have ax := nr hg ag
                     replace ag := kb ag hb
                     have ak := nl hg ac
                     have ay := nr hg ac
                     replace ac := kb ac hb
                     clear hb hbox hg
                     refine hK.out _ _ ⟨bc ac 0, bc ac 1, bc ac 2⟩ (fun hHeld => ?_)
                     clear hK K
                     refine nq 8 ?_
                     exact norm_ (by first | (simp only [putAll, Act.put, List.setIfInBounds_toArray, List.set_cons_zero, List.set_cons_succ]; done) | (simp only [putAll, Act.put, List.setIfInBounds_toArray, List.set_cons_zero, List.set_cons_succ]; rfl)) (hJ12_15 (aF, af) _ ⟨hHeld, (vz ad.out), (vz ae.out), (vz ai.out), (vz ah.out), (by (with_reducible repeat (first | apply Kd.N_alloc | apply Kd.N_drewN | apply Kd.N_drew)); exact Kd.N_mono av.out (fun _ hk => ⟨hk.1.1, ⟨hk.1.2.1, ⟨hk.1.2.2, hk.2⟩⟩⟩)), (vz ao.out), (vz aC.out), (vz aB.out), (ku ag.out), (ku ac.out), (ku az.out), aM.out, aA.out, au.out, ax.out, ak.out, ay.out, (bu3 HB.out aj.out al.out aA.out)⟩)
                  ·
                   skip
                   rintro aG b6 ⟨hS_, a9, ba, bb, bd, bf, bg, bh, bi, bj, bk, aS⟩
                   (try dsimp -simprocs only at a9 ba bb bd bf bg bh bi bj bk aS)
                   clear aC aB ao ad ae ai ah ag ac HB
                   have ad := Aside0.mk a9
                   have ae := Aside0.mk ba
                   have ai := Aside0.mk bb
                   have ah := Aside0.mk bd
                   have an := Aside0.mk bf
                   have ao := Aside0.mk bg
                   have aC := Aside0.mk bh
                   have aB := Aside0.mk bi
                   have ag := Aside0.mk bj
                   have ac := Aside0.mk bk
                   have HB := Aside0.mk aS
                   clear a9 ba bb bd bf bg bh bi bj bk aS
                   have hHeld : b6.cell? ⟨aa, 0, none⟩ = some (.bool aD) ∧ b6.cell? ⟨aa, 1, none⟩ = some (.slice aJ aq.length aK) ∧ b6.cell? ⟨aa, 2, none⟩ = some (.slice aH ap.length aI) := hS_
                   obtain ⟨bL, bM, cQ⟩ := Kd.N_slice an.out
                   (first | subst cQ | (injection cQ with f1_ f2_ f3_; have f4_ := f1_.symm; have f5_ := f3_.symm; clear f1_ f2_ f3_; subst f4_; subst f5_))
                   refine norm_ (a' := ?_) ?_ ?_
                   rotate_left
                   ·
                    simp only [putAll, Act.put, List.setIfInBounds_toArray, List.set_cons_zero, List.set_cons_succ]
                    rfl
                   refine three_ (i := 8) (j := 12) (k := 15) (Ni := some 27) (Nj := some 31) (Nk := some 8) #[true, true, true, true, true, true, true, true, true, true, true, true, false, false, false, false, false] #[true, true, true, true, true, true, true, true, false, true, true, true, true, false, false, false, false] #[true, true, true, true, true, true, true, true, false, true, true, true, false, false, false, true, false] rfl rfl rfl rfl rfl rfl (three_of HT_.out (by kernel_rfl)) (by decide) (by decide) (by decide) (fun K hK => ?_) (fun K hK => ?_) (fun K hK => ?_)
                   ·
                    skip
                    refine goes_ Try.func145 (by kernel_rfl) rfl #[.slice bL aL.length bM] (by rfl) rfl rfl lu ?_
                    with_reducible refine (nat_Mul.calls k1 _ _ aL a7 _ ?side1 ?side2 db.out).mono ?_
                    (case side1 => exact cu (Kd.N_reads' an.out).2.2)
                    (case side2 => exact (Kd.N_reads' an.out).2.1)
                    rintro e ct ⟨a3, rfl, bB, hb⟩
                    refine ⟨_, rfl, ?_⟩
                    replace bB := R_V_base rfl bB
                    replace aC := kv aC hb
                    replace aB := kv aB hb
                    replace ao := kv ao hb
                    replace ad := kv ad hb
                    replace ae := kv ae hb
                    replace ai := kv ai hb
                    replace ah := kv ah hb
                    have aE := ar0 w.heap.size (ok' := fun k_ => (P0_ k_ ∨ w.heap.size ≤ k_) ∧ some k_ ≠ (.slice bL aL.length bM : Value).ownBlock ∧ k_ ≠ ab ∧ k_ ≠ aa) bB (fa (fz2 HB aj al) (fa (fo an) (fa (fb ag) (fb ac))))
                    replace an := kn an hb
                    replace ag := kb ag hb
                    replace ac := kb ac hb
                    replace HB := be2 HB aj al hb
                    (try clear hb)
                    (try clear hb2)
                    (try clear hk)
                    (try clear hi)
                    (try clear bB)
                    refine hK.out _ _ ⟨bc ac 0, bc ac 1, bc ac 2⟩ (fun hHeld => ?_)
                    clear hK K
                    refine nq 27 ?_
                    exact norm_ (by first | (simp only [putAll, Act.put, List.setIfInBounds_toArray, List.set_cons_zero, List.set_cons_succ]; done) | (simp only [putAll, Act.put, List.setIfInBounds_toArray, List.set_cons_zero, List.set_cons_succ]; rfl)) (hJ7_8 (.slice bL aL.length bM, a3) _ ⟨hHeld, (vu ad.out), (vu ae.out), (vu ai.out), (vu ah.out), (nu an.out), (vu aE.out), (vu ao.out), (vu aC.out), (vu aB.out), (ku ag.out), (ku ac.out), (bu2 HB.out aj.out al.out)⟩)
                   ·
                    skip
                    refine Kd.N_lit_step (Kd.slice 48 (Kd.int .u32)) _ 42 ?hg (N' := 31) ?hd (xs := ([aN, ap] : List (List Int))) (inner := [.slice AoX5 aN.length coX5, .slice aH ap.length aI]) (ok := (fun k_ => (P0_ k_ ∨ w.heap.size ≤ k_) ∧ some k_ ≠ (.slice bL aL.length bM : Value).ownBlock ∧ k_ ≠ ab ∧ k_ ≠ aa)) (okp := (fun k_ => (P0_ k_ ∨ w.heap.size ≤ k_) ∧ some k_ ≠ (.slice bL aL.length bM : Value).ownBlock ∧ k_ ≠ ab ∧ k_ ≠ aa)) ?hr ?hp (fun _ hk => hk) ((show ∀ k_, b6.heap.size ≤ k_ → (fun k_ => (P0_ k_ ∨ w.heap.size ≤ k_) ∧ some k_ ≠ (.slice bL aL.length bM : Value).ownBlock ∧ k_ ≠ ab ∧ k_ ≠ aa) k_ from fun k_ hk => ⟨(.inr (Nat.le_trans (below_size (bu2 HB.out aj.out al.out)) hk)), Kd.fresh' (Kd.N_lt (nu an.out)) k_ hk, Kd.freshB (g := ab) (o := .cells #[.bool false, .slice none 0 0, .slice none 0 0] 67 (0, 0)) (ku ag.out) k_ hk, Kd.freshB (g := aa) (o := .cells #[.bool aD, .slice aJ aq.length aK, .slice aH ap.length aI] 67 (0, 0)) (ku ac.out) k_ hk⟩) _ (Nat.le_refl _)) (Below.refl _ _) (Nat.le_refl _) (by simp) ?_; (case hd => rfl); (case hg => rfl); (case hr => first | (go_simp; done) | (go_simp; rfl)); (case hp => exact (Reps.one (show Kd.FK (Kd.slice 48 (Kd.int .u32)) _ _ aN [.slice AoX5 aN.length coX5] from (Kd.FK_slice_mk (Kd.V_reads' (vy ((fun k_ => (P0_ k_ ∨ w.heap.size ≤ k_) ∧ some k_ ≠ (.slice bL aL.length bM : Value).ownBlock ∧ k_ ≠ ab ∧ k_ ≠ aa)) aB.out)).2.1 (Kd.V_F (vy ((fun k_ => (P0_ k_ ∨ w.heap.size ≤ k_) ∧ some k_ ≠ (.slice bL aL.length bM : Value).ownBlock ∧ k_ ≠ ab ∧ k_ ≠ aa)) aB.out)))) (Reps.one (show Kd.FK (Kd.slice 48 (Kd.int .u32)) _ _ ap [.slice aH ap.length aI] from (Kd.FK_slice_mk (Kd.V_reads' (vy ((fun k_ => (P0_ k_ ∨ w.heap.size ≤ k_) ∧ some k_ ≠ (.slice bL aL.length bM : Value).ownBlock ∧ k_ ≠ ab ∧ k_ ≠ aa)) ah.out)).2.1 (Kd.V_F (vy ((fun k_ => (P0_ k_ ∨ w.heap.size ≤ k_) ∧ some k_ ≠ (.slice bL aL.length bM : Value).ownBlock ∧ k_ ≠ ab ∧ k_ ≠ aa)) ah.out)))) (Reps.none _ _))))
                    intro aF ct bl hb hg_ hnew_
                    clear hg_ hnew_
                    (first | rw [← bp.out] at bl | (simp only [Int.reduceToNat] at bl; rw [← bp.out] at bl))
                    replace aC := el aC bl hb
                    replace aB := el aB bl hb
                    replace ao := el ao bl hb
                    replace ad := el ad bl hb
                    replace ae := el ae bl hb
                    replace ai := el ai bl hb
                    replace ah := el ah bl hb
                    replace an := en an bl hb
                    have av := am (Kd.N_lower bl (below_size (bu2 HB.out aj.out al.out)))
                    replace ag := kb ag hb
                    replace ac := kb ac hb
                    replace HB := be2 HB aj al hb
                    clear hb bl
                    refine hK.out _ _ ⟨bc ac 0, bc ac 1, bc ac 2⟩ (fun hHeld => ?_)
                    clear hK K
                    refine nq 31 ?_
                    exact norm_ (by first | (simp only [putAll, Act.put, List.setIfInBounds_toArray, List.set_cons_zero, List.set_cons_succ]; done) | (simp only [putAll, Act.put, List.setIfInBounds_toArray, List.set_cons_zero, List.set_cons_succ]; rfl)) (hJ7_12 ((.slice bL aL.length bM), aF) _ ⟨hHeld, (vz ad.out), (vz ae.out), (vz ai.out), (vz ah.out), (by (with_reducible repeat (first | apply Kd.N_alloc | apply Kd.N_drewN | apply Kd.N_drew)); exact Kd.N_mono an.out (fun _ hk => ⟨hk.1.1, ⟨hk.2, ⟨hk.1.2.1, hk.1.2.2⟩⟩⟩)), (nu av.out), (vz ao.out), (vz aC.out), (vz aB.out), (ku ag.out), (ku ac.out), (bu2 HB.out aj.out al.out)⟩)
                   ·
                    skip
                    refine box_step ?hg (N := 8) ?hd (cs := #[.bool false, .slice none 0 0, .slice none 0 0]) (t := 67) ?hr ?_; (case hd => rfl); (case hg => rfl); (case hr => first | (go_simp; done) | (go_simp; rfl))
                    intro af hg b7 hbox hb
                    replace aC := ke aC hg hb
                    replace aB := ke aB hg hb
                    replace ao := ke ao hg hb
                    replace ad := ke ad hg hb
                    replace ae := ke ae hg hb
                    replace ai := ke ai hg hb
                    replace ah := ke ah hg hb
                    replace an := am (Kd.N_below (Kd.N_elderB (nu an.out) af (Nat.le_of_eq hg.symm)) hb)
                    have az := am (hbox)
                    have aM := ng hg (bu2 HB.out aj.out al.out)
                    have aA := ng hg (bu2 HB.out aj.out al.out)
                    replace HB := be2 HB aj al hb
                    have au := nl hg ag
                    have ax := nr hg ag
                    replace ag := kb ag hb
                    have ak := nl hg ac
                    have ay := nr hg ac
                    replace ac := kb ac hb
                    clear hb hbox hg
                    refine hK.out _ _ ⟨bc ac 0, bc ac 1, bc ac 2⟩ (fun hHeld => ?_)
                    clear hK K
                    refine nq 8 ?_
                    exact norm_ (by first | (simp only [putAll, Act.put, List.setIfInBounds_toArray, List.set_cons_zero, List.set_cons_succ]; done) | (simp only [putAll, Act.put, List.setIfInBounds_toArray, List.set_cons_zero, List.set_cons_succ]; rfl)) (hJ7_15 ((.slice bL aL.length bM), af) _ ⟨hHeld, (vz ad.out), (vz ae.out), (vz ai.out), (vz ah.out), (by (with_reducible repeat (first | apply Kd.N_alloc | apply Kd.N_drewN | apply Kd.N_drew)); exact Kd.N_mono an.out (fun _ hk => ⟨hk.1.1, ⟨hk.1.2.1, ⟨hk.1.2.2, hk.2⟩⟩⟩)), (vz ao.out), (vz aC.out), (vz aB.out), (ku ag.out), (ku ac.out), (ku az.out), aM.out, aA.out, au.out, ax.out, ak.out, ay.out, (bu3 HB.out aj.out al.out aA.out)⟩)
                 ·
                  skip
                  rintro ⟨aF, af⟩ b7 ⟨hS_, a9, ba, bb, bd, bf, bg, bh, bi, bj, bk, aS, aV, aZ, a0, a1, a2, a6, bm⟩
                  (try dsimp -simprocs only at a9 ba bb bd bf bg bh bi bj bk aS aV aZ a0 a1 a2 a6 bm)
                  clear aC aB ao ad ae ai ah ag ac HB
                  have ad := Aside0.mk a9
                  have ae := Aside0.mk ba
                  have ai := Aside0.mk bb
                  have ah := Aside0.mk bd
                  have av := Aside0.mk bf
                  have ao := Aside0.mk bg
                  have aC := Aside0.mk bh
                  have aB := Aside0.mk bi
                  have ag := Aside0.mk bj
                  have ac := Aside0.mk bk
                  have az := Aside0.mk aS
                  have aM := Aside0.mk aV
                  have aA := Aside0.mk aZ
                  have au := Aside0.mk a0
                  have ax := Aside0.mk a1
                  have ak := Aside0.mk a2
                  have ay := Aside0.mk a6
                  have HB := Aside0.mk bm
                  clear a9 ba bb bd bf bg bh bi bj bk aS aV aZ a0 a1 a2 a6 bm
                  have hHeld : b7.cell? ⟨aa, 0, none⟩ = some (.bool aD) ∧ b7.cell? ⟨aa, 1, none⟩ = some (.slice aJ aq.length aK) ∧ b7.cell? ⟨aa, 2, none⟩ = some (.slice aH ap.length aI) := hS_
                  refine norm_ (a' := ?_) ?_ ?_
                  rotate_left
                  ·
                   simp only [putAll, Act.put, List.setIfInBounds_toArray, List.set_cons_zero, List.set_cons_succ]
                   rfl
                  refine one_ (i := 7) (N := some 26) #[true, true, true, true, true, true, true, true, false, true, true, true, true, false, false, true, false] rfl rfl (one_of HT_.out (by kernel_rfl)) (by decide) (fun K hK => ?_)
                  refine Kd.N_lit_step (Kd.slice 48 (Kd.int .u32)) _ 42 ?hg (N' := 26) ?hd (xs := ([aU, aq] : List (List Int))) (inner := [.slice bv aU.length bw, .slice aJ aq.length aK]) (ok := (fun k_ => (P0_ k_ ∨ w.heap.size ≤ k_) ∧ some k_ ≠ (aF : Value).ownBlock ∧ k_ ≠ ab ∧ k_ ≠ aa ∧ k_ ≠ af)) (okp := (fun k_ => (P0_ k_ ∨ w.heap.size ≤ k_) ∧ some k_ ≠ (aF : Value).ownBlock ∧ k_ ≠ ab ∧ k_ ≠ aa ∧ k_ ≠ af)) ?hr ?hp (fun _ hk => hk) ((show ∀ k_, b7.heap.size ≤ k_ → (fun k_ => (P0_ k_ ∨ w.heap.size ≤ k_) ∧ some k_ ≠ (aF : Value).ownBlock ∧ k_ ≠ ab ∧ k_ ≠ aa ∧ k_ ≠ af) k_ from fun k_ hk => ⟨(.inr (Nat.le_trans (below_size (bu3 HB.out aj.out al.out aA.out)) hk)), Kd.fresh' (Kd.N_lt (nu av.out)) k_ hk, Kd.freshB (g := ab) (o := .cells #[.bool false, .slice none 0 0, .slice none 0 0] 67 (0, 0)) (ku ag.out) k_ hk, Kd.freshB (g := aa) (o := .cells #[.bool aD, .slice aJ aq.length aK, .slice aH ap.length aI] 67 (0, 0)) (ku ac.out) k_ hk, Kd.freshB (g := af) (o := .cells #[.bool false, .slice none 0 0, .slice none 0 0] 67 (0, 0)) (ku az.out) k_ hk⟩) _ (Nat.le_refl _)) (Below.refl _ _) (Nat.le_refl _) (by simp) ?_; (case hd => rfl); (case hg => rfl); (case hr => first | (go_simp; done) | (go_simp; rfl)); (case hp => exact (Reps.one (show Kd.FK (Kd.slice 48 (Kd.int .u32)) _ _ aU [.slice bv aU.length bw] from (Kd.FK_slice_mk (Kd.V_reads' (vy ((fun k_ => (P0_ k_ ∨ w.heap.size ≤ k_) ∧ some k_ ≠ (aF : Value).ownBlock ∧ k_ ≠ ab ∧ k_ ≠ aa ∧ k_ ≠ af)) aC.out)).2.1 (Kd.V_F (vy ((fun k_ => (P0_ k_ ∨ w.heap.size ≤ k_) ∧ some k_ ≠ (aF : Value).ownBlock ∧ k_ ≠ ab ∧ k_ ≠ aa ∧ k_ ≠ af)) aC.out)))) (Reps.one (show Kd.FK (Kd.slice 48 (Kd.int .u32)) _ _ aq [.slice aJ aq.length aK] from (Kd.FK_slice_mk (Kd.V_reads' (vy ((fun k_ => (P0_ k_ ∨ w.heap.size ≤ k_) ∧ some k_ ≠ (aF : Value).ownBlock ∧ k_ ≠ ab ∧ k_ ≠ aa ∧ k_ ≠ af)) ai.out)).2.1 (Kd.V_F (vy ((fun k_ => (P0_ k_ ∨ w.heap.size ≤ k_) ∧ some k_ ≠ (aF : Value).ownBlock ∧ k_ ≠ ab ∧ k_ ≠ aa ∧ k_ ≠ af)) ai.out)))) (Reps.none _ _))))
                  intro aG b2 bn hb hg_ hnew_
                  clear hg_ hnew_
                  (first | rw [← bG.out] at bn | (simp only [Int.reduceToNat] at bn; rw [← bG.out] at bn))
                  replace aC := el aC bn hb
                  replace aB := el aB bn hb
                  replace ao := el ao bn hb
                  replace ad := el ad bn hb
                  replace ae := el ae bn hb
                  replace ai := el ai bn hb
                  replace ah := el ah bn hb
                  replace av := en av bn hb
                  have an := am (Kd.N_lower bn (below_size (bu3 HB.out aj.out al.out aA.out)))
                  replace ag := kb ag hb
                  replace ac := kb ac hb
                  replace az := kb az hb
                  replace HB := be3 HB aj al aA hb
                  clear hb bn
                  refine hK.out _ _ ⟨bc ac 0, bc ac 1, bc ac 2⟩ (fun hHeld => ?_)
                  clear hK K
                  refine nq 26 ?_
                  exact norm_ (by first | (simp only [putAll, Act.put, List.setIfInBounds_toArray, List.set_cons_zero, List.set_cons_succ]; done) | (simp only [putAll, Act.put, List.setIfInBounds_toArray, List.set_cons_zero, List.set_cons_succ]; rfl)) (hJ7_12_15 (aG, aF, af) _ ⟨hHeld, (vz ad.out), (vz ae.out), (vz ai.out), (vz ah.out), (nu an.out), (by (with_reducible repeat (first | apply Kd.N_alloc | apply Kd.N_drewN | apply Kd.N_drew)); exact Kd.N_mono av.out (fun _ hk => ⟨hk.1.1, ⟨hk.2, ⟨hk.1.2.1, ⟨hk.1.2.2.1, hk.1.2.2.2⟩⟩⟩⟩)), (vz ao.out), (vz aC.out), (vz aB.out), (ku ag.out), (ku ac.out), (ku az.out), aM.out, aA.out, au.out, ax.out, ak.out, ay.out, (bu3 HB.out aj.out al.out aA.out)⟩)
                ·
                 skip
                 rintro ⟨aG, af⟩ b7 ⟨hS_, a9, ba, bb, bd, bf, bg, bh, bi, bj, bk, aS, aV, aZ, a0, a1, a2, a6, bm⟩
                 (try dsimp -simprocs only at a9 ba bb bd bf bg bh bi bj bk aS aV aZ a0 a1 a2 a6 bm)
                 clear aC aB ao ad ae ai ah ag ac HB
                 have ad := Aside0.mk a9
                 have ae := Aside0.mk ba
                 have ai := Aside0.mk bb
                 have ah := Aside0.mk bd
                 have an := Aside0.mk bf
                 have ao := Aside0.mk bg
                 have aC := Aside0.mk bh
                 have aB := Aside0.mk bi
                 have ag := Aside0.mk bj
                 have ac := Aside0.mk bk
                 have az := Aside0.mk aS
                 have aM := Aside0.mk aV
                 have aA := Aside0.mk aZ
                 have au := Aside0.mk a0
                 have ax := Aside0.mk a1
                 have ak := Aside0.mk a2
                 have ay := Aside0.mk a6
                 have HB := Aside0.mk bm
                 clear a9 ba bb bd bf bg bh bi bj bk aS aV aZ a0 a1 a2 a6 bm
                 have hHeld : b7.cell? ⟨aa, 0, none⟩ = some (.bool aD) ∧ b7.cell? ⟨aa, 1, none⟩ = some (.slice aJ aq.length aK) ∧ b7.cell? ⟨aa, 2, none⟩ = some (.slice aH ap.length aI) := hS_
                 obtain ⟨bN, bO, cR⟩ := Kd.N_slice an.out
                 (first | subst cR | (injection cR with f1_ f2_ f3_; have f4_ := f1_.symm; have f5_ := f3_.symm; clear f1_ f2_ f3_; subst f4_; subst f5_))
                 refine norm_ (a' := ?_) ?_ ?_
                 rotate_left
                 ·
                  simp only [putAll, Act.put, List.setIfInBounds_toArray, List.set_cons_zero, List.set_cons_succ]
                  rfl
                 refine two_ (i := 8) (j := 12) (Ni := some 27) (Nj := some 31) #[true, true, true, true, true, true, true, true, true, true, true, true, false, false, false, true, false] #[true, true, true, true, true, true, true, true, false, true, true, true, true, false, false, true, false] rfl rfl rfl rfl (two_of HT_.out (by kernel_rfl)) (by decide) (by decide) (fun K hK => ?_) (fun K hK => ?_)
                 ·
                  skip
                  refine goes_ Try.func145 (by kernel_rfl) rfl #[.slice bN aL.length bO] (by rfl) rfl rfl lu ?_
                  with_reducible refine (nat_Mul.calls k1 _ _ aL a7 _ ?side1 ?side2 db.out).mono ?_
                  (case side1 => exact cu (Kd.N_reads' an.out).2.2)
                  (case side2 => exact (Kd.N_reads' an.out).2.1)
                  rintro e b2 ⟨a3, rfl, bB, hb⟩
                  refine ⟨_, rfl, ?_⟩
                  replace bB := R_V_base rfl bB
                  replace aC := kv aC hb
                  replace aB := kv aB hb
                  replace ao := kv ao hb
                  replace ad := kv ad hb
                  replace ae := kv ae hb
                  replace ai := kv ai hb
                  replace ah := kv ah hb
                  have aE := ar0 w.heap.size (ok' := fun k_ => (P0_ k_ ∨ w.heap.size ≤ k_) ∧ some k_ ≠ (.slice bN aL.length bO : Value).ownBlock ∧ k_ ≠ ab ∧ k_ ≠ aa ∧ k_ ≠ af) bB (fa (fz3 HB aj al aA) (fa (fo an) (fa (fb ag) (fa (fb ac) (fb az)))))
                  replace an := kn an hb
                  replace ag := kb ag hb
                  replace ac := kb ac hb
                  replace az := kb az hb
                  replace HB := be3 HB aj al aA hb
                  (try clear hb)
                  (try clear hb2)
                  (try clear hk)
                  (try clear hi)
                  (try clear bB)
                  refine hK.out _ _ ⟨bc ac 0, bc ac 1, bc ac 2⟩ (fun hHeld => ?_)
                  clear hK K
                  refine nq 27 ?_
                  exact norm_ (by first | (simp only [putAll, Act.put, List.setIfInBounds_toArray, List.set_cons_zero, List.set_cons_succ]; done) | (simp only [putAll, Act.put, List.setIfInBounds_toArray, List.set_cons_zero, List.set_cons_succ]; rfl)) (hJ7_8_15 (.slice bN aL.length bO, a3, af) _ ⟨hHeld, (vu ad.out), (vu ae.out), (vu ai.out), (vu ah.out), (nu an.out), (vu aE.out), (vu ao.out), (vu aC.out), (vu aB.out), (ku ag.out), (ku ac.out), (ku az.out), aM.out, aA.out, au.out, ax.out, ak.out, ay.out, (bu3 HB.out aj.out al.out aA.out)⟩)
                 ·
                  skip
                  refine Kd.N_lit_step (Kd.slice 48 (Kd.int .u32)) _ 42 ?hg (N' := 31) ?hd (xs := ([aN, ap] : List (List Int))) (inner := [.slice AoX5 aN.length coX5, .slice aH ap.length aI]) (ok := (fun k_ => (P0_ k_ ∨ w.heap.size ≤ k_) ∧ some k_ ≠ (.slice bN aL.length bO : Value).ownBlock ∧ k_ ≠ ab ∧ k_ ≠ aa ∧ k_ ≠ af)) (okp := (fun k_ => (P0_ k_ ∨ w.heap.size ≤ k_) ∧ some k_ ≠ (.slice bN aL.length bO : Value).ownBlock ∧ k_ ≠ ab ∧ k_ ≠ aa ∧ k_ ≠ af)) ?hr ?hp (fun _ hk => hk) ((show ∀ k_, b7.heap.size ≤ k_ → (fun k_ => (P0_ k_ ∨ w.heap.size ≤ k_) ∧ some k_ ≠ (.slice bN aL.length bO : Value).ownBlock ∧ k_ ≠ ab ∧ k_ ≠ aa ∧ k_ ≠ af) k_ from fun k_ hk => ⟨(.inr (Nat.le_trans (below_size (bu3 HB.out aj.out al.out aA.out)) hk)), Kd.fresh' (Kd.N_lt (nu an.out)) k_ hk, Kd.freshB (g := ab) (o := .cells #[.bool false, .slice none 0 0, .slice none 0 0] 67 (0, 0)) (ku ag.out) k_ hk, Kd.freshB (g := aa) (o := .cells #[.bool aD, .slice aJ aq.length aK, .slice aH ap.length aI] 67 (0, 0)) (ku ac.out) k_ hk, Kd.freshB (g := af) (o := .cells #[.bool false, .slice none 0 0, .slice none 0 0] 67 (0, 0)) (ku az.out) k_ hk⟩) _ (Nat.le_refl _)) (Below.refl _ _) (Nat.le_refl _) (by simp) ?_; (case hd => rfl); (case hg => rfl); (case hr => first | (go_simp; done) | (go_simp; rfl)); (case hp => exact (Reps.one (show Kd.FK (Kd.slice 48 (Kd.int .u32)) _ _ aN [.slice AoX5 aN.length coX5] from (Kd.FK_slice_mk (Kd.V_reads' (vy ((fun k_ => (P0_ k_ ∨ w.heap.size ≤ k_) ∧ some k_ ≠ (.slice bN aL.length bO : Value).ownBlock ∧ k_ ≠ ab ∧ k_ ≠ aa ∧ k_ ≠ af)) aB.out)).2.1 (Kd.V_F (vy ((fun k_ => (P0_ k_ ∨ w.heap.size ≤ k_) ∧ some k_ ≠ (.slice bN aL.length bO : Value).ownBlock ∧ k_ ≠ ab ∧ k_ ≠ aa ∧ k_ ≠ af)) aB.out)))) (Reps.one (show Kd.FK (Kd.slice 48 (Kd.int .u32)) _ _ ap [.slice aH ap.length aI] from (Kd.FK_slice_mk (Kd.V_reads' (vy ((fun k_ => (P0_ k_ ∨ w.heap.size ≤ k_) ∧ some k_ ≠ (.slice bN aL.length bO : Value).ownBlock ∧ k_ ≠ ab ∧ k_ ≠ aa ∧ k_ ≠ af)) ah.out)).2.1 (Kd.V_F (vy ((fun k_ => (P0_ k_ ∨ w.heap.size ≤ k_) ∧ some k_ ≠ (.slice bN aL.length bO : Value).ownBlock ∧ k_ ≠ ab ∧ k_ ≠ aa ∧ k_ ≠ af)) ah.out)))) (Reps.none _ _))))
                  intro aF b2 bn hb hg_ hnew_
                  clear hg_ hnew_
                  (first | rw [← bp.out] at bn | (simp only [Int.reduceToNat] at bn; rw [← bp.out] at bn))
                  replace aC := el aC bn hb
                  replace aB := el aB bn hb
                  replace ao := el ao bn hb
                  replace ad := el ad bn hb
                  replace ae := el ae bn hb
                  replace ai := el ai bn hb
                  replace ah := el ah bn hb
                  replace an := en an bn hb
                  have av := am (Kd.N_lower bn (below_size (bu3 HB.out aj.out al.out aA.out)))
                  replace ag := kb ag hb
                  replace ac := kb ac hb
                  replace az := kb az hb
                  replace HB := be3 HB aj al aA hb
                  clear hb bn
                  refine hK.out _ _ ⟨bc ac 0, bc ac 1, bc ac 2⟩ (fun hHeld => ?_)
                  clear hK K
                  refine nq 31 ?_
                  exact norm_ (by first | (simp only [putAll, Act.put, List.setIfInBounds_toArray, List.set_cons_zero, List.set_cons_succ]; done) | (simp only [putAll, Act.put, List.setIfInBounds_toArray, List.set_cons_zero, List.set_cons_succ]; rfl)) (hJ7_12_15 ((.slice bN aL.length bO), aF, af) _ ⟨hHeld, (vz ad.out), (vz ae.out), (vz ai.out), (vz ah.out), (by (with_reducible repeat (first | apply Kd.N_alloc | apply Kd.N_drewN | apply Kd.N_drew)); exact Kd.N_mono an.out (fun _ hk => ⟨hk.1.1, ⟨hk.2, ⟨hk.1.2.1, ⟨hk.1.2.2.1, hk.1.2.2.2⟩⟩⟩⟩)), (nu av.out), (vz ao.out), (vz aC.out), (vz aB.out), (ku ag.out), (ku ac.out), (ku az.out), aM.out, aA.out, au.out, ax.out, ak.out, ay.out, (bu3 HB.out aj.out al.out aA.out)⟩)
               ·
                skip
                rintro ⟨aG, aF⟩ b2 ⟨hS_, a9, ba, bb, bd, bf, bg, bh, bi, bj, bk, aS, aV⟩
                (try dsimp -simprocs only at a9 ba bb bd bf bg bh bi bj bk aS aV)
                clear aC aB ao ad ae ai ah ag ac HB
                have ad := Aside0.mk a9
                have ae := Aside0.mk ba
                have ai := Aside0.mk bb
                have ah := Aside0.mk bd
                have an := Aside0.mk bf
                have av := Aside0.mk bg
                have ao := Aside0.mk bh
                have aC := Aside0.mk bi
                have aB := Aside0.mk bj
                have ag := Aside0.mk bk
                have ac := Aside0.mk aS
                have HB := Aside0.mk aV
                clear a9 ba bb bd bf bg bh bi bj bk aS aV
                have hHeld : b2.cell? ⟨aa, 0, none⟩ = some (.bool aD) ∧ b2.cell? ⟨aa, 1, none⟩ = some (.slice aJ aq.length aK) ∧ b2.cell? ⟨aa, 2, none⟩ = some (.slice aH ap.length aI) := hS_
                obtain ⟨ch, ci, cS⟩ := Kd.N_slice an.out
                (first | subst cS | (injection cS with f1_ f2_ f3_; have f4_ := f1_.symm; have f5_ := f3_.symm; clear f1_ f2_ f3_; subst f4_; subst f5_))
                refine norm_ (a' := ?_) ?_ ?_
                rotate_left
                ·
                 simp only [putAll, Act.put, List.setIfInBounds_toArray, List.set_cons_zero, List.set_cons_succ]
                 rfl
                refine two_ (i := 8) (j := 15) (Ni := some 27) (Nj := some 8) #[true, true, true, true, true, true, true, true, true, true, true, true, true, false, false, false, false] #[true, true, true, true, true, true, true, true, false, true, true, true, true, false, false, true, false] rfl rfl rfl rfl (two_of HT_.out (by kernel_rfl)) (by decide) (by decide) (fun K hK => ?_) (fun K hK => ?_)
                ·
                 skip
                 refine goes_ Try.func145 (by kernel_rfl) rfl #[.slice ch aL.length ci] (by rfl) rfl rfl lu ?_
                 with_reducible refine (nat_Mul.calls k1 _ _ aL a7 _ ?side1 ?side2 db.out).mono ?_
                 (case side1 => exact cu (Kd.N_reads' an.out).2.2)
                 (case side2 => exact (Kd.N_reads' an.out).2.1)
                 rintro e cT ⟨a3, rfl, bB, hb⟩
                 refine ⟨_, rfl, ?_⟩
                 replace bB := R_V_base rfl bB
                 replace aC := kv aC hb
                 replace aB := kv aB hb
                 replace ao := kv ao hb
                 replace ad := kv ad hb
                 replace ae := kv ae hb
                 replace ai := kv ai hb
                 replace ah := kv ah hb
                 have aE := ar0 w.heap.size (ok' := fun k_ => (P0_ k_ ∨ w.heap.size ≤ k_) ∧ some k_ ≠ (.slice ch aL.length ci : Value).ownBlock ∧ some k_ ≠ (aF : Value).ownBlock ∧ k_ ≠ ab ∧ k_ ≠ aa) bB (fa (fz2 HB aj al) (fa (fo an) (fa (fo av) (fa (fb ag) (fb ac)))))
                 replace an := kn an hb
                 replace av := kn av hb
                 replace ag := kb ag hb
                 replace ac := kb ac hb
                 replace HB := be2 HB aj al hb
                 (try clear hb)
                 (try clear hb2)
                 (try clear hk)
                 (try clear hi)
                 (try clear bB)
                 refine hK.out _ _ ⟨bc ac 0, bc ac 1, bc ac 2⟩ (fun hHeld => ?_)
                 clear hK K
                 refine nq 27 ?_
                 exact norm_ (by first | (simp only [putAll, Act.put, List.setIfInBounds_toArray, List.set_cons_zero, List.set_cons_succ]; done) | (simp only [putAll, Act.put, List.setIfInBounds_toArray, List.set_cons_zero, List.set_cons_succ]; rfl)) (hJ7_8_12 (.slice ch aL.length ci, a3, aF) _ ⟨hHeld, (vu ad.out), (vu ae.out), (vu ai.out), (vu ah.out), (nu an.out), (vu aE.out), (nu av.out), (vu ao.out), (vu aC.out), (vu aB.out), (ku ag.out), (ku ac.out), (bu2 HB.out aj.out al.out)⟩)
                ·
                 skip
                 refine box_step ?hg (N := 8) ?hd (cs := #[.bool false, .slice none 0 0, .slice none 0 0]) (t := 67) ?hr ?_; (case hd => rfl); (case hg => rfl); (case hr => first | (go_simp; done) | (go_simp; rfl))
                 intro af hg cU hbox hb
                 replace aC := ke aC hg hb
                 replace aB := ke aB hg hb
                 replace ao := ke ao hg hb
                 replace ad := ke ad hg hb
                 replace ae := ke ae hg hb
                 replace ai := ke ai hg hb
                 replace ah := ke ah hg hb
                 replace an := am (Kd.N_below (Kd.N_elderB (nu an.out) af (Nat.le_of_eq hg.symm)) hb)
                 replace av := am (Kd.N_below (Kd.N_elderB (nu av.out) af (Nat.le_of_eq hg.symm)) hb)
                 have az := am (hbox)
                 have aM := ng hg (bu2 HB.out aj.out al.out)
                 have aA := ng hg (bu2 HB.out aj.out al.out)
                 replace HB := be2 HB aj al hb
                 have au := nl hg ag
                 have ax := nr hg ag
                 replace ag := kb ag hb
                 have ak := nl hg ac
                 have ay := nr hg ac
                 replace ac := kb ac hb
                 clear hb hbox hg
                 refine hK.out _ _ ⟨bc ac 0, bc ac 1, bc ac 2⟩ (fun hHeld => ?_)
                 clear hK K
                 refine nq 8 ?_
                 exact norm_ (by first | (simp only [putAll, Act.put, List.setIfInBounds_toArray, List.set_cons_zero, List.set_cons_succ]; done) | (simp only [putAll, Act.put, List.setIfInBounds_toArray, List.set_cons_zero, List.set_cons_succ]; rfl)) (hJ7_12_15 ((.slice ch aL.length ci), aF, af) _ ⟨hHeld, (vz ad.out), (vz ae.out), (vz ai.out), (vz ah.out), (by (with_reducible repeat (first | apply Kd.N_alloc | apply Kd.N_drewN | apply Kd.N_drew)); exact Kd.N_mono an.out (fun _ hk => ⟨hk.1.1, ⟨hk.1.2.1, ⟨hk.1.2.2.1, ⟨hk.1.2.2.2, hk.2⟩⟩⟩⟩)), (by (with_reducible repeat (first | apply Kd.N_alloc | apply Kd.N_drewN | apply Kd.N_drew)); exact Kd.N_mono av.out (fun _ hk => ⟨hk.1.1, ⟨hk.1.2.1, ⟨hk.1.2.2.1, ⟨hk.1.2.2.2, hk.2⟩⟩⟩⟩)), (vz ao.out), (vz aC.out), (vz aB.out), (ku ag.out), (ku ac.out), (ku az.out), aM.out, aA.out, au.out, ax.out, ak.out, ay.out, (bu3 HB.out aj.out al.out aA.out)⟩)
              ·
               skip
               rintro ⟨aG, a3⟩ ct ⟨hS_, a9, ba, bb, bd, bf, bg, bh, bi, bj, bk, aS, aV⟩
               (try dsimp -simprocs only at a9 ba bb bd bf bg bh bi bj bk aS aV)
               clear aC aB ao ad ae ai ah ag ac HB
               have ad := Aside0.mk a9
               have ae := Aside0.mk ba
               have ai := Aside0.mk bb
               have ah := Aside0.mk bd
               have an := Aside0.mk bf
               have aE := Aside0.mk bg
               have ao := Aside0.mk bh
               have aC := Aside0.mk bi
               have aB := Aside0.mk bj
               have ag := Aside0.mk bk
               have ac := Aside0.mk aS
               have HB := Aside0.mk aV
               clear a9 ba bb bd bf bg bh bi bj bk aS aV
               have hHeld : ct.cell? ⟨aa, 0, none⟩ = some (.bool aD) ∧ ct.cell? ⟨aa, 1, none⟩ = some (.slice aJ aq.length aK) ∧ ct.cell? ⟨aa, 2, none⟩ = some (.slice aH ap.length aI) := hS_
               refine norm_ (a' := ?_) ?_ ?_
               rotate_left
               ·
                simp only [putAll, Act.put, List.setIfInBounds_toArray, List.set_cons_zero, List.set_cons_succ]
                rfl
               refine two_ (i := 12) (j := 15) (Ni := some 31) (Nj := some 8) #[true, true, true, true, true, true, true, true, true, true, true, true, true, false, false, false, false] #[true, true, true, true, true, true, true, true, true, true, true, true, false, false, false, true, false] rfl rfl rfl rfl (two_of HT_.out (by kernel_rfl)) (by decide) (by decide) (fun K hK => ?_) (fun K hK => ?_)
               ·
                skip
                refine Kd.N_lit_step (Kd.slice 48 (Kd.int .u32)) _ 42 ?hg (N' := 31) ?hd (xs := ([aN, ap] : List (List Int))) (inner := [.slice AoX5 aN.length coX5, .slice aH ap.length aI]) (ok := (fun k_ => (P0_ k_ ∨ w.heap.size ≤ k_) ∧ some k_ ≠ (aG : Value).ownBlock ∧ k_ ≠ ab ∧ k_ ≠ aa)) (okp := (fun k_ => (P0_ k_ ∨ w.heap.size ≤ k_) ∧ some k_ ≠ (aG : Value).ownBlock ∧ k_ ≠ ab ∧ k_ ≠ aa)) ?hr ?hp (fun _ hk => hk) ((show ∀ k_, ct.heap.size ≤ k_ → (fun k_ => (P0_ k_ ∨ w.heap.size ≤ k_) ∧ some k_ ≠ (aG : Value).ownBlock ∧ k_ ≠ ab ∧ k_ ≠ aa) k_ from fun k_ hk => ⟨(.inr (Nat.le_trans (below_size (bu2 HB.out aj.out al.out)) hk)), Kd.fresh' (Kd.N_lt (nu an.out)) k_ hk, Kd.freshB (g := ab) (o := .cells #[.bool false, .slice none 0 0, .slice none 0 0] 67 (0, 0)) (ku ag.out) k_ hk, Kd.freshB (g := aa) (o := .cells #[.bool aD, .slice aJ aq.length aK, .slice aH ap.length aI] 67 (0, 0)) (ku ac.out) k_ hk⟩) _ (Nat.le_refl _)) (Below.refl _ _) (Nat.le_refl _) (by simp) ?_; (case hd => rfl); (case hg => rfl); (case hr => first | (go_simp; done) | (go_simp; rfl)); (case hp => exact (Reps.one (show Kd.FK (Kd.slice 48 (Kd.int .u32)) _ _ aN [.slice AoX5 aN.length coX5] from (Kd.FK_slice_mk (Kd.V_reads' (vy ((fun k_ => (P0_ k_ ∨ w.heap.size ≤ k_) ∧ some k_ ≠ (aG : Value).ownBlock ∧ k_ ≠ ab ∧ k_ ≠ aa)) aB.out)).2.1 (Kd.V_F (vy ((fun k_ => (P0_ k_ ∨ w.heap.size ≤ k_) ∧ some k_ ≠ (aG : Value).ownBlock ∧ k_ ≠ ab ∧ k_ ≠ aa)) aB.out)))) (Reps.one (show Kd.FK (Kd.slice 48 (Kd.int .u32)) _ _ ap [.slice aH ap.length aI] from (Kd.FK_slice_mk (Kd.V_reads' (vy ((fun k_ => (P0_ k_ ∨ w.heap.size ≤ k_) ∧ some k_ ≠ (aG : Value).ownBlock ∧ k_ ≠ ab ∧ k_ ≠ aa)) ah.out)).2.1 (Kd.V_F (vy ((fun k_ => (P0_ k_ ∨ w.heap.size ≤ k_) ∧ some k_ ≠ (aG : Value).ownBlock ∧ k_ ≠ ab ∧ k_ ≠ aa)) ah.out)))) (Reps.none _ _))))
                intro aF cU bH hb hg_ hnew_
                clear hg_ hnew_
                (first | rw [← bp.out] at bH | (simp only [Int.reduceToNat] at bH; rw [← bp.out] at bH))
                replace aC := el aC bH hb
                replace aB := el aB bH hb
                replace ao := el ao bH hb
                replace ad := el ad bH hb
                replace ae := el ae bH hb
                replace ai := el ai bH hb
                replace ah := el ah bH hb
                replace an := en an bH hb
                replace aE := el aE bH hb
                have av := am (Kd.N_lower bH (below_size (bu2 HB.out aj.out al.out)))
                replace ag := kb ag hb
                replace ac := kb ac hb
                replace HB := be2 HB aj al hb
                clear hb bH
                refine hK.out _ _ ⟨bc ac 0, bc ac 1, bc ac 2⟩ (fun hHeld => ?_)
                clear hK K
                refine nq 31 ?_
                exact norm_ (by first | (simp only [putAll, Act.put, List.setIfInBounds_toArray, List.set_cons_zero, List.set_cons_succ]; done) | (simp only [putAll, Act.put, List.setIfInBounds_toArray, List.set_cons_zero, List.set_cons_succ]; rfl)) (hJ7_8_12 (aG, a3, aF) _ ⟨hHeld, (vz ad.out), (vz ae.out), (vz ai.out), (vz ah.out), (by (with_reducible repeat (first | apply Kd.N_alloc | apply Kd.N_drewN | apply Kd.N_drew)); exact Kd.N_mono an.out (fun _ hk => ⟨hk.1.1, ⟨hk.2, ⟨hk.1.2.1, hk.1.2.2⟩⟩⟩)), (vz aE.out), (nu av.out), (vz ao.out), (vz aC.out), (vz aB.out), (ku ag.out), (ku ac.out), (bu2 HB.out aj.out al.out)⟩)
               ·
                skip
                refine box_step ?hg (N := 8) ?hd (cs := #[.bool false, .slice none 0 0, .slice none 0 0]) (t := 67) ?hr ?_; (case hd => rfl); (case hg => rfl); (case hr => first | (go_simp; done) | (go_simp; rfl))
                intro af hg b2 hbox hb
                replace aC := ke aC hg hb
                replace aB := ke aB hg hb
                replace ao := ke ao hg hb
                replace ad := ke ad hg hb
                replace ae := ke ae hg hb
                replace ai := ke ai hg hb
                replace ah := ke ah hg hb
                replace an := am (Kd.N_below (Kd.N_elderB (nu an.out) af (Nat.le_of_eq hg.symm)) hb)
                replace aE := ke aE hg hb
                have az := am (hbox)
                have aM := ng hg (bu2 HB.out aj.out al.out)
                have aA := ng hg (bu2 HB.out aj.out al.out)
                replace HB := be2 HB aj al hb
                have au := nl hg ag
                have ax := nr hg ag
                replace ag := kb ag hb
                have ak := nl hg ac
                have ay := nr hg ac
                replace ac := kb ac hb
                clear hb hbox hg
                refine hK.out _ _ ⟨bc ac 0, bc ac 1, bc ac 2⟩ (fun hHeld => ?_)
                clear hK K
                refine nq 8 ?_
                exact norm_ (by first | (simp only [putAll, Act.put, List.setIfInBounds_toArray, List.set_cons_zero, List.set_cons_succ]; done) | (simp only [putAll, Act.put, List.setIfInBounds_toArray, List.set_cons_zero, List.set_cons_succ]; rfl)) (hJ7_8_15 (aG, a3, af) _ ⟨hHeld, (vz ad.out), (vz ae.out), (vz ai.out), (vz ah.out), (by (with_reducible repeat (first | apply Kd.N_alloc | apply Kd.N_drewN | apply Kd.N_drew)); exact Kd.N_mono an.out (fun _ hk => ⟨hk.1.1, ⟨hk.1.2.1, ⟨hk.1.2.2, hk.2⟩⟩⟩)), (vz aE.out), (vz ao.out), (vz aC.out), (vz aB.out), (ku ag.out), (ku ac.out), (ku az.out), aM.out, aA.out, au.out, ax.out, ak.out, ay.out, (bu3 HB.out aj.out al.out aA.out)⟩)
             ·
              skip
              rintro ⟨aG, aF, af⟩ cU ⟨hS_, a9, ba, bb, bd, bf, bg, bh, bi, bj, bk, aS, aV, aZ, a0, a1, a2, a6, bm, bF⟩
              (try dsimp -simprocs only at a9 ba bb bd bf bg bh bi bj bk aS aV aZ a0 a1 a2 a6 bm bF)
              clear aC aB ao ad ae ai ah ag ac HB
              have ad := Aside0.mk a9
              have ae := Aside0.mk ba
              have ai := Aside0.mk bb
              have ah := Aside0.mk bd
              have an := Aside0.mk bf
              have av := Aside0.mk bg
              have ao := Aside0.mk bh
              have aC := Aside0.mk bi
              have aB := Aside0.mk bj
              have ag := Aside0.mk bk
              have ac := Aside0.mk aS
              have az := Aside0.mk aV
              have aM := Aside0.mk aZ
              have aA := Aside0.mk a0
              have au := Aside0.mk a1
              have ax := Aside0.mk a2
              have ak := Aside0.mk a6
              have ay := Aside0.mk bm
              have HB := Aside0.mk bF
              clear a9 ba bb bd bf bg bh bi bj bk aS aV aZ a0 a1 a2 a6 bm bF
              have hHeld : cU.cell? ⟨aa, 0, none⟩ = some (.bool aD) ∧ cU.cell? ⟨aa, 1, none⟩ = some (.slice aJ aq.length aK) ∧ cU.cell? ⟨aa, 2, none⟩ = some (.slice aH ap.length aI) := hS_
              obtain ⟨cv, cw, cV⟩ := Kd.N_slice an.out
              (first | subst cV | (injection cV with f1_ f2_ f3_; have f4_ := f1_.symm; have f5_ := f3_.symm; clear f1_ f2_ f3_; subst f4_; subst f5_))
              refine norm_ (a' := ?_) ?_ ?_
              rotate_left
              ·
               simp only [putAll, Act.put, List.setIfInBounds_toArray, List.set_cons_zero, List.set_cons_succ]
               rfl
              refine one_ (i := 8) (N := some 27) #[true, true, true, true, true, true, true, true, true, true, true, true, true, false, false, true, false] rfl rfl (one_of HT_.out (by kernel_rfl)) (by decide) (fun K hK => ?_)
              refine goes_ Try.func145 (by kernel_rfl) rfl #[.slice cv aL.length cw] (by rfl) rfl rfl lu ?_
              with_reducible refine (nat_Mul.calls k1 _ _ aL a7 _ ?side1 ?side2 db.out).mono ?_
              (case side1 => exact cu (Kd.N_reads' an.out).2.2)
              (case side2 => exact (Kd.N_reads' an.out).2.1)
              rintro e cW ⟨a3, rfl, bB, hb⟩
              refine ⟨_, rfl, ?_⟩
              replace bB := R_V_base rfl bB
              replace aC := kv aC hb
              replace aB := kv aB hb
              replace ao := kv ao hb
              replace ad := kv ad hb
              replace ae := kv ae hb
              replace ai := kv ai hb
              replace ah := kv ah hb
              have aE := ar0 w.heap.size (ok' := fun k_ => (P0_ k_ ∨ w.heap.size ≤ k_) ∧ some k_ ≠ (.slice cv aL.length cw : Value).ownBlock ∧ some k_ ≠ (aF : Value).ownBlock ∧ k_ ≠ ab ∧ k_ ≠ aa ∧ k_ ≠ af) bB (fa (fz3 HB aj al aA) (fa (fo an) (fa (fo av) (fa (fb ag) (fa (fb ac) (fb az))))))
              replace an := kn an hb
              replace av := kn av hb
              replace ag := kb ag hb
              replace ac := kb ac hb
              replace az := kb az hb
              replace HB := be3 HB aj al aA hb
              (try clear hb)
              (try clear hb2)
              (try clear hk)
              (try clear hi)
              (try clear bB)
              refine hK.out _ _ ⟨bc ac 0, bc ac 1, bc ac 2⟩ (fun hHeld => ?_)
              clear hK K
              refine nq 27 ?_
              exact norm_ (by first | (simp only [putAll, Act.put, List.setIfInBounds_toArray, List.set_cons_zero, List.set_cons_succ]; done) | (simp only [putAll, Act.put, List.setIfInBounds_toArray, List.set_cons_zero, List.set_cons_succ]; rfl)) (hJ7_8_12_15 (.slice cv aL.length cw, a3, aF, af) _ ⟨hHeld, (vu ad.out), (vu ae.out), (vu ai.out), (vu ah.out), (nu an.out), (vu aE.out), (nu av.out), (vu ao.out), (vu aC.out), (vu aB.out), (ku ag.out), (ku ac.out), (ku az.out), aM.out, aA.out, au.out, ax.out, ak.out, ay.out, (bu3 HB.out aj.out al.out aA.out)⟩)
            ·
             skip
             rintro ⟨aG, a3, af⟩ b2 ⟨hS_, a9, ba, bb, bd, bf, bg, bh, bi, bj, bk, aS, aV, aZ, a0, a1, a2, a6, bm, bF⟩
             (try dsimp -simprocs only at a9 ba bb bd bf bg bh bi bj bk aS aV aZ a0 a1 a2 a6 bm bF)
             clear aC aB ao ad ae ai ah ag ac HB
             have ad := Aside0.mk a9
             have ae := Aside0.mk ba
             have ai := Aside0.mk bb
             have ah := Aside0.mk bd
             have an := Aside0.mk bf
             have aE := Aside0.mk bg
             have ao := Aside0.mk bh
             have aC := Aside0.mk bi
             have aB := Aside0.mk bj
             have ag := Aside0.mk bk
             have ac := Aside0.mk aS
             have az := Aside0.mk aV
             have aM := Aside0.mk aZ
             have aA := Aside0.mk a0
             have au := Aside0.mk a1
             have ax := Aside0.mk a2
             have ak := Aside0.mk a6
             have ay := Aside0.mk bm
             have HB := Aside0.mk bF
             clear a9 ba bb bd bf bg bh bi bj bk aS aV aZ a0 a1 a2 a6 bm bF
             have hHeld : b2.cell? ⟨aa, 0, none⟩ = some (.bool aD) ∧ b2.cell? ⟨aa, 1, none⟩ = some (.slice aJ aq.length aK) ∧ b2.cell? ⟨aa, 2, none⟩ = some (.slice aH ap.length aI) := hS_
             refine norm_ (a' := ?_) ?_ ?_
             rotate_left
             ·
              simp only [putAll, Act.put, List.setIfInBounds_toArray, List.set_cons_zero, List.set_cons_succ]
              rfl
             refine one_ (i := 12) (N := some 31) #[true, true, true, true, true, true, true, true, true, true, true, true, true, false, false, true, false] rfl rfl (one_of HT_.out (by kernel_rfl)) (by decide) (fun K hK => ?_)
             refine Kd.N_lit_step (Kd.slice 48 (Kd.int .u32)) _ 42 ?hg (N' := 31) ?hd (xs := ([aN, ap] : List (List Int))) (inner := [.slice AoX5 aN.length coX5, .slice aH ap.length aI]) (ok := (fun k_ => (P0_ k_ ∨ w.heap.size ≤ k_) ∧ some k_ ≠ (aG : Value).ownBlock ∧ k_ ≠ ab ∧ k_ ≠ aa ∧ k_ ≠ af)) (okp := (fun k_ => (P0_ k_ ∨ w.heap.size ≤ k_) ∧ some k_ ≠ (aG : Value).ownBlock ∧ k_ ≠ ab ∧ k_ ≠ aa ∧ k_ ≠ af)) ?hr ?hp (fun _ hk => hk) ((show ∀ k_, b2.heap.size ≤ k_ → (fun k_ => (P0_ k_ ∨ w.heap.size ≤ k_) ∧ some k_ ≠ (aG : Value).ownBlock ∧ k_ ≠ ab ∧ k_ ≠ aa ∧ k_ ≠ af) k_ from fun k_ hk => ⟨(.inr (Nat.le_trans (below_size (bu3 HB.out aj.out al.out aA.out)) hk)), Kd.fresh' (Kd.N_lt (nu an.out)) k_ hk, Kd.freshB (g := ab) (o := .cells #[.bool false, .slice none 0 0, .slice none 0 0] 67 (0, 0)) (ku ag.out) k_ hk, Kd.freshB (g := aa) (o := .cells #[.bool aD, .slice aJ aq.length aK, .slice aH ap.length aI] 67 (0, 0)) (ku ac.out) k_ hk, Kd.freshB (g := af) (o := .cells #[.bool false, .slice none 0 0, .slice none 0 0] 67 (0, 0)) (ku az.out) k_ hk⟩) _ (Nat.le_refl _)) (Below.refl _ _) (Nat.le_refl _) (by simp) ?_; (case hd => rfl); (case hg => rfl); (case hr => first | (go_simp; done) | (go_simp; rfl)); (case hp => exact (Reps.one (show Kd.FK (Kd.slice 48 (Kd.int .u32)) _ _ aN [.slice AoX5 aN.length coX5] from (Kd.FK_slice_mk (Kd.V_reads' (vy ((fun k_ => (P0_ k_ ∨ w.heap.size ≤ k_) ∧ some k_ ≠ (aG : Value).ownBlock ∧ k_ ≠ ab ∧ k_ ≠ aa ∧ k_ ≠ af)) aB.out)).2.1 (Kd.V_F (vy ((fun k_ => (P0_ k_ ∨ w.heap.size ≤ k_) ∧ some k_ ≠ (aG : Value).ownBlock ∧ k_ ≠ ab ∧ k_ ≠ aa ∧ k_ ≠ af)) aB.out)))) (Reps.one (show Kd.FK (Kd.slice 48 (Kd.int .u32)) _ _ ap [.slice aH ap.length aI] from (Kd.FK_slice_mk (Kd.V_reads' (vy ((fun k_ => (P0_ k_ ∨ w.heap.size ≤ k_) ∧ some k_ ≠ (aG : Value).ownBlock ∧ k_ ≠ ab ∧ k_ ≠ aa ∧ k_ ≠ af)) ah.out)).2.1 (Kd.V_F (vy ((fun k_ => (P0_ k_ ∨ w.heap.size ≤ k_) ∧ some k_ ≠ (aG : Value).ownBlock ∧ k_ ≠ ab ∧ k_ ≠ aa ∧ k_ ≠ af)) ah.out)))) (Reps.none _ _))))
             intro aF cT bI hb hg_ hnew_
             clear hg_ hnew_
             (first | rw [← bp.out] at bI | (simp only [Int.reduceToNat] at bI; rw [← bp.out] at bI))
             replace aC := el aC bI hb
             replace aB := el aB bI hb
             replace ao := el ao bI hb
             replace ad := el ad bI hb
             replace ae := el ae bI hb
             replace ai := el ai bI hb
             replace ah := el ah bI hb
             replace an := en an bI hb
             replace aE := el aE bI hb
             have av := am (Kd.N_lower bI (below_size (bu3 HB.out aj.out al.out aA.out)))
             replace ag := kb ag hb
             replace ac := kb ac hb
             replace az := kb az hb
             replace HB := be3 HB aj al aA hb
             clear hb bI
             refine hK.out _ _ ⟨bc ac 0, bc ac 1, bc ac 2⟩ (fun hHeld => ?_)
             clear hK K
             refine nq 31 ?_
             exact norm_ (by first | (simp only [putAll, Act.put, List.setIfInBounds_toArray, List.set_cons_zero, List.set_cons_succ]; done) | (simp only [putAll, Act.put, List.setIfInBounds_toArray, List.set_cons_zero, List.set_cons_succ]; rfl)) (hJ7_8_12_15 (aG, a3, aF, af) _ ⟨hHeld, (vz ad.out), (vz ae.out), (vz ai.out), (vz ah.out), (by (with_reducible repeat (first | apply Kd.N_alloc | apply Kd.N_drewN | apply Kd.N_drew)); exact Kd.N_mono an.out (fun _ hk => ⟨hk.1.1, ⟨hk.2, ⟨hk.1.2.1, ⟨hk.1.2.2.1, hk.1.2.2.2⟩⟩⟩⟩)), (vz aE.out), (nu av.out), (vz ao.out), (vz aC.out), (vz aB.out), (ku ag.out), (ku ac.out), (ku az.out), aM.out, aA.out, au.out, ax.out, ak.out, ay.out, (bu3 HB.out aj.out al.out aA.out)⟩)
           ·
            skip
            rintro ⟨aG, a3, aF⟩ cT ⟨hS_, a9, ba, bb, bd, bf, bg, bh, bi, bj, bk, aS, aV, aZ⟩
            (try dsimp -simprocs only at a9 ba bb bd bf bg bh bi bj bk aS aV aZ)
            clear aC aB ao ad ae ai ah ag ac HB
            have ad := Aside0.mk a9
            have ae := Aside0.mk ba
            have ai := Aside0.mk bb
            have ah := Aside0.mk bd
            have an := Aside0.mk bf
            have aE := Aside0.mk bg
            have av := Aside0.mk bh
            have ao := Aside0.mk bi
            have aC := Aside0.mk bj
            have aB := Aside0.mk bk
            have ag := Aside0.mk aS
            have ac := Aside0.mk aV
            have HB := Aside0.mk aZ
            clear a9 ba bb bd bf bg bh bi bj bk aS aV aZ
            have hHeld : cT.cell? ⟨aa, 0, none⟩ = some (.bool aD) ∧ cT.cell? ⟨aa, 1, none⟩ = some (.slice aJ aq.length aK) ∧ cT.cell? ⟨aa, 2, none⟩ = some (.slice aH ap.length aI) := hS_
            obtain ⟨cj, ck, cX⟩ := Kd.N_slice av.out
            (first | subst cX | (injection cX with f1_ f2_ f3_; have f4_ := f1_.symm; have f5_ := f3_.symm; clear f1_ f2_ f3_; subst f4_; subst f5_))
            refine norm_ (a' := ?_) ?_ ?_
            rotate_left
            ·
             simp only [putAll, Act.put, List.setIfInBounds_toArray, List.set_cons_zero, List.set_cons_succ]
             rfl
            refine two_ (i := 13) (j := 15) (Ni := some 32) (Nj := some 8) #[true, true, true, true, true, true, true, true, true, true, true, true, true, true, false, false, false] #[true, true, true, true, true, true, true, true, true, true, true, true, true, false, false, true, false] rfl rfl rfl rfl (two_of HT_.out (by kernel_rfl)) (by decide) (by decide) (fun K hK => ?_) (fun K hK => ?_)
            ·
             skip
             refine goes_ Try.func145 (by kernel_rfl) rfl #[.slice cj a8.length ck] (by rfl) rfl rfl lu ?_
             with_reducible refine (nat_Mul.calls k1 _ _ a8 bE _ ?side1 ?side2 dR.out).mono ?_
             (case side1 => exact cu (Kd.N_reads' av.out).2.2)
             (case side2 => exact (Kd.N_reads' av.out).2.1)
             rintro e dw ⟨bJ, rfl, bB, hb⟩
             refine ⟨_, rfl, ?_⟩
             replace bB := R_V_base rfl bB
             replace aC := kv aC hb
             replace aB := kv aB hb
             replace ao := kv ao hb
             replace ad := kv ad hb
             replace ae := kv ae hb
             replace ai := kv ai hb
             replace ah := kv ah hb
             replace aE := kv aE hb
             have aT := ar0 w.heap.size (ok' := fun k_ => (P0_ k_ ∨ w.heap.size ≤ k_) ∧ some k_ ≠ (aG : Value).ownBlock ∧ some k_ ≠ (.slice cj a8.length ck : Value).ownBlock ∧ k_ ≠ ab ∧ k_ ≠ aa) bB (fa (fz2 HB aj al) (fa (fo an) (fa (fo av) (fa (fb ag) (fb ac)))))
             replace an := kn an hb
             replace av := kn av hb
             replace ag := kb ag hb
             replace ac := kb ac hb
             replace HB := be2 HB aj al hb
             (try clear hb)
             (try clear hb2)
             (try clear hk)
             (try clear hi)
             (try clear bB)
             refine hK.out _ _ ⟨bc ac 0, bc ac 1, bc ac 2⟩ (fun hHeld => ?_)
             clear hK K
             refine nq 32 ?_
             exact norm_ (by first | (simp only [putAll, Act.put, List.setIfInBounds_toArray, List.set_cons_zero, List.set_cons_succ]; done) | (simp only [putAll, Act.put, List.setIfInBounds_toArray, List.set_cons_zero, List.set_cons_succ]; rfl)) (hJ7_8_12_13 (aG, a3, .slice cj a8.length ck, bJ) _ ⟨hHeld, (vu ad.out), (vu ae.out), (vu ai.out), (vu ah.out), (nu an.out), (vu aE.out), (nu av.out), (vu aT.out), (vu ao.out), (vu aC.out), (vu aB.out), (ku ag.out), (ku ac.out), (bu2 HB.out aj.out al.out)⟩)
            ·
             skip
             refine box_step ?hg (N := 8) ?hd (cs := #[.bool false, .slice none 0 0, .slice none 0 0]) (t := 67) ?hr ?_; (case hd => rfl); (case hg => rfl); (case hr => first | (go_simp; done) | (go_simp; rfl))
             intro af hg cW hbox hb
             replace aC := ke aC hg hb
             replace aB := ke aB hg hb
             replace ao := ke ao hg hb
             replace ad := ke ad hg hb
             replace ae := ke ae hg hb
             replace ai := ke ai hg hb
             replace ah := ke ah hg hb
             replace an := am (Kd.N_below (Kd.N_elderB (nu an.out) af (Nat.le_of_eq hg.symm)) hb)
             replace aE := ke aE hg hb
             replace av := am (Kd.N_below (Kd.N_elderB (nu av.out) af (Nat.le_of_eq hg.symm)) hb)
             have az := am (hbox)
             have aM := ng hg (bu2 HB.out aj.out al.out)
             have aA := ng hg (bu2 HB.out aj.out al.out)
             replace HB := be2 HB aj al hb
             have au := nl hg ag
             have ax := nr hg ag
             replace ag := kb ag hb
             have ak := nl hg ac
             have ay := nr hg ac
             replace ac := kb ac hb
             clear hb hbox hg
             refine hK.out _ _ ⟨bc ac 0, bc ac 1, bc ac 2⟩ (fun hHeld => ?_)
             clear hK K
             refine nq 8 ?_
             exact norm_ (by first | (simp only [putAll, Act.put, List.setIfInBounds_toArray, List.set_cons_zero, List.set_cons_succ]; done) | (simp only [putAll, Act.put, List.setIfInBounds_toArray, List.set_cons_zero, List.set_cons_succ]; rfl)) (hJ7_8_12_15 (aG, a3, (.slice cj a8.length ck), af) _ ⟨hHeld, (vz ad.out), (vz ae.out), (vz ai.out), (vz ah.out), (by (with_reducible repeat (first | apply Kd.N_alloc | apply Kd.N_drewN | apply Kd.N_drew)); exact Kd.N_mono an.out (fun _ hk => ⟨hk.1.1, ⟨hk.1.2.1, ⟨hk.1.2.2.1, ⟨hk.1.2.2.2, hk.2⟩⟩⟩⟩)), (vz aE.out), (by (with_reducible repeat (first | apply Kd.N_alloc | apply Kd.N_drewN | apply Kd.N_drew)); exact Kd.N_mono av.out (fun _ hk => ⟨hk.1.1, ⟨hk.1.2.1, ⟨hk.1.2.2.1, ⟨hk.1.2.2.2, hk.2⟩⟩⟩⟩)), (vz ao.out), (vz aC.out), (vz aB.out), (ku ag.out), (ku ac.out), (ku az.out), aM.out, aA.out, au.out, ax.out, ak.out, ay.out, (bu3 HB.out aj.out al.out aA.out)⟩)
          ·
           skip
           rintro ⟨aG, a3, aF, af⟩ cW ⟨hS_, a9, ba, bb, bd, bf, bg, bh, bi, bj, bk, aS, aV, aZ, a0, a1, a2, a6, bm, bF, bP⟩
           (try dsimp -simprocs only at a9 ba bb bd bf bg bh bi bj bk aS aV aZ a0 a1 a2 a6 bm bF bP)
           clear aC aB ao ad ae ai ah ag ac HB
           have ad := Aside0.mk a9
           have ae := Aside0.mk ba
           have ai := Aside0.mk bb
           have ah := Aside0.mk bd
           have an := Aside0.mk bf
           have aE := Aside0.mk bg
           have av := Aside0.mk bh
           have ao := Aside0.mk bi
           have aC := Aside0.mk bj
           have aB := Aside0.mk bk
           have ag := Aside0.mk aS
           have ac := Aside0.mk aV
           have az := Aside0.mk aZ
           have aM := Aside0.mk a0
           have aA := Aside0.mk a1
           have au := Aside0.mk a2
           have ax := Aside0.mk a6
           have ak := Aside0.mk bm
           have ay := Aside0.mk bF
           have HB := Aside0.mk bP
           clear a9 ba bb bd bf bg bh bi bj bk aS aV aZ a0 a1 a2 a6 bm bF bP
           have hHeld : cW.cell? ⟨aa, 0, none⟩ = some (.bool aD) ∧ cW.cell? ⟨aa, 1, none⟩ = some (.slice aJ aq.length aK) ∧ cW.cell? ⟨aa, 2, none⟩ = some (.slice aH ap.length aI) := hS_
           obtain ⟨cx, cy, cY⟩ := Kd.N_slice av.out
           (first | subst cY | (injection cY with f1_ f2_ f3_; have f4_ := f1_.symm; have f5_ := f3_.symm; clear f1_ f2_ f3_; subst f4_; subst f5_))
           refine norm_ (a' := ?_) ?_ ?_
           rotate_left
           ·
            simp only [putAll, Act.put, List.setIfInBounds_toArray, List.set_cons_zero, List.set_cons_succ]
            rfl
           refine one_ (i := 13) (N := some 32) #[true, true, true, true, true, true, true, true, true, true, true, true, true, true, false, true, false] rfl rfl (one_of HT_.out (by kernel_rfl)) (by decide) (fun K hK => ?_)
           refine goes_ Try.func145 (by kernel_rfl) rfl #[.slice cx a8.length cy] (by rfl) rfl rfl lu ?_
           with_reducible refine (nat_Mul.calls k1 _ _ a8 bE _ ?side1 ?side2 dR.out).mono ?_
           (case side1 => exact cu (Kd.N_reads' av.out).2.2)
           (case side2 => exact (Kd.N_reads' av.out).2.1)
           rintro e cZ ⟨bJ, rfl, bB, hb⟩
           refine ⟨_, rfl, ?_⟩
           replace bB := R_V_base rfl bB
           replace aC := kv aC hb
           replace aB := kv aB hb
           replace ao := kv ao hb
           replace ad := kv ad hb
           replace ae := kv ae hb
           replace ai := kv ai hb
           replace ah := kv ah hb
           replace aE := kv aE hb
           have aT := ar0 w.heap.size (ok' := fun k_ => (P0_ k_ ∨ w.heap.size ≤ k_) ∧ some k_ ≠ (aG : Value).ownBlock ∧ some k_ ≠ (.slice cx a8.length cy : Value).ownBlock ∧ k_ ≠ ab ∧ k_ ≠ aa ∧ k_ ≠ af) bB (fa (fz3 HB aj al aA) (fa (fo an) (fa (fo av) (fa (fb ag) (fa (fb ac) (fb az))))))
           replace an := kn an hb
           replace av := kn av hb
           replace ag := kb ag hb
           replace ac := kb ac hb
           replace az := kb az hb
           replace HB := be3 HB aj al aA hb
           (try clear hb)
           (try clear hb2)
           (try clear hk)
           (try clear hi)
           (try clear bB)
           refine hK.out _ _ ⟨bc ac 0, bc ac 1, bc ac 2⟩ (fun hHeld => ?_)
           clear hK K
           refine nq 32 ?_
           exact norm_ (by first | (simp only [putAll, Act.put, List.setIfInBounds_toArray, List.set_cons_zero, List.set_cons_succ]; done) | (simp only [putAll, Act.put, List.setIfInBounds_toArray, List.set_cons_zero, List.set_cons_succ]; rfl)) (hJ7_8_12_13_15 (aG, a3, .slice cx a8.length cy, bJ, af) _ ⟨hHeld, (vu ad.out), (vu ae.out), (vu ai.out), (vu ah.out), (nu an.out), (vu aE.out), (nu av.out), (vu aT.out), (vu ao.out), (vu aC.out), (vu aB.out), (ku ag.out), (ku ac.out), (ku az.out), aM.out, aA.out, au.out, ax.out, ak.out, ay.out, (bu3 HB.out aj.out al.out aA.out)⟩)
         ·
          skip
          rintro ⟨aG, a3, aF, bJ⟩ dw ⟨hS_, a9, ba, bb, bd, bf, bg, bh, bi, bj, bk, aS, aV, aZ, a0⟩
          (try dsimp -simprocs only at a9 ba bb bd bf bg bh bi bj bk aS aV aZ a0)
          clear aC aB ao ad ae ai ah ag ac HB
          have ad := Aside0.mk a9
          have ae := Aside0.mk ba
          have ai := Aside0.mk bb
          have ah := Aside0.mk bd
          have an := Aside0.mk bf
          have aE := Aside0.mk bg
          have av := Aside0.mk bh
          have aT := Aside0.mk bi
          have ao := Aside0.mk bj
          have aC := Aside0.mk bk
          have aB := Aside0.mk aS
          have ag := Aside0.mk aV
          have ac := Aside0.mk aZ
          have HB := Aside0.mk a0
          clear a9 ba bb bd bf bg bh bi bj bk aS aV aZ a0
          have hHeld : dw.cell? ⟨aa, 0, none⟩ = some (.bool aD) ∧ dw.cell? ⟨aa, 1, none⟩ = some (.slice aJ aq.length aK) ∧ dw.cell? ⟨aa, 2, none⟩ = some (.slice aH ap.length aI) := hS_
          obtain ⟨cz, cA, c2⟩ := Kd.V_slice aE.out
          (first | subst c2 | (injection c2 with f1_ f2_ f3_; have f4_ := f1_.symm; have f5_ := f3_.symm; clear f1_ f2_ f3_; subst f4_; subst f5_))
          obtain ⟨b0, b1, b8⟩ := Kd.V_slice aT.out
          (first | subst b8 | (injection b8 with f1_ f2_ f3_; have f4_ := f1_.symm; have f5_ := f3_.symm; clear f1_ f2_ f3_; subst f4_; subst f5_))
          refine norm_ (a' := ?_) ?_ ?_
          rotate_left
          ·
           simp only [putAll, Act.put, List.setIfInBounds_toArray, List.set_cons_zero, List.set_cons_succ]
           rfl
          refine two_ (i := 14) (j := 15) (Ni := some 33) (Nj := some 8) #[true, true, true, true, true, true, true, true, true, true, true, true, true, true, true, false, false] #[true, true, true, true, true, true, true, true, true, true, true, true, true, true, false, true, false] rfl rfl rfl rfl (two_of HT_.out (by kernel_rfl)) (by decide) (by decide) (fun K hK => ?_) (fun K hK => ?_)
          ·
           skip
           refine goes_ Try.func155 (by kernel_rfl) rfl #[.bool (bS != aD), .slice cz a7.length cA, .slice b0 bE.length b1] (by rfl) rfl rfl lu ?_
           with_reducible refine (rational_canonical.calls k1 (bS != aD) (fun k_ => ((P0_ k_ ∨ w.heap.size ≤ k_) ∧ (some k_ ≠ (aG : Value).ownBlock ∧ (some k_ ≠ (aF : Value).ownBlock ∧ (k_ ≠ ab ∧ k_ ≠ aa))))) _ _ a7 (fun k_ => ((P0_ k_ ∨ w.heap.size ≤ k_) ∧ (some k_ ≠ (aG : Value).ownBlock ∧ (some k_ ≠ (aF : Value).ownBlock ∧ (k_ ≠ ab ∧ k_ ≠ aa))))) _ _ bE aX aW aY _ ?side1 ?side2 dS.out).mono ?_
           (case side1 => exact vz aE.out)
           (case side2 => exact vz aT.out)
           rintro e dx ⟨bQ, bR, rfl, bB, cm, hb⟩
           refine ⟨_, rfl, ?_⟩
           replace aC := kv aC hb
           replace aB := kv aB hb
           replace ao := kv ao hb
           replace ad := kv ad hb
           replace ae := kv ae hb
           replace ai := kv ai hb
           replace ah := kv ah hb
           replace aE := kv aE hb
           replace aT := kv aT hb
           have a4 := ar w.heap.size (ok' := fun k_ => (P0_ k_ ∨ w.heap.size ≤ k_) ∧ some k_ ≠ (aG : Value).ownBlock ∧ some k_ ≠ (aF : Value).ownBlock ∧ k_ ≠ ab ∧ k_ ≠ aa) bB (fa (fz2 HB aj al) (fa (fo an) (fa (fo av) (fa (fb ag) (fb ac)))))
           have a5 := ar w.heap.size (ok' := fun k_ => (P0_ k_ ∨ w.heap.size ≤ k_) ∧ some k_ ≠ (aG : Value).ownBlock ∧ some k_ ≠ (aF : Value).ownBlock ∧ k_ ≠ ab ∧ k_ ≠ aa) cm (fa (fz2 HB aj al) (fa (fo an) (fa (fo av) (fa (fb ag) (fb ac)))))
           replace an := kn an hb
           replace av := kn av hb
           replace ag := kb ag hb
           replace ac := kb ac hb
           replace HB := be2 HB aj al hb
           (try clear hb)
           (try clear hb2)
           (try clear hk)
           (try clear hi)
           (try clear bB)
           (try clear cm)
           refine hK.out _ _ ⟨bc ac 0, bc ac 1, bc ac 2⟩ (fun hHeld => ?_)
           clear hK K
           refine nq 33 ?_
           exact norm_ (by first | (simp only [putAll, Act.put, List.setIfInBounds_toArray, List.set_cons_zero, List.set_cons_succ]; done) | (simp only [putAll, Act.put, List.setIfInBounds_toArray, List.set_cons_zero, List.set_cons_succ]; rfl)) (hJ7_8_12_13_14 (aG, .slice cz a7.length cA, aF, .slice b0 bE.length b1, bQ, bR) _ ⟨hHeld, (vu ad.out), (vu ae.out), (vu ai.out), (vu ah.out), (nu an.out), (vu aE.out), (nu av.out), (vu aT.out), (vu a4.out), (vu a5.out), (vu ao.out), (vu aC.out), (vu aB.out), (ku ag.out), (ku ac.out), (bu2 HB.out aj.out al.out)⟩)
          ·
           skip
           refine box_step ?hg (N := 8) ?hd (cs := #[.bool false, .slice none 0 0, .slice none 0 0]) (t := 67) ?hr ?_; (case hd => rfl); (case hg => rfl); (case hr => first | (go_simp; done) | (go_simp; rfl))
           intro af hg cZ hbox hb
           replace aC := ke aC hg hb
           replace aB := ke aB hg hb
           replace ao := ke ao hg hb
           replace ad := ke ad hg hb
           replace ae := ke ae hg hb
           replace ai := ke ai hg hb
           replace ah := ke ah hg hb
           replace an := am (Kd.N_below (Kd.N_elderB (nu an.out) af (Nat.le_of_eq hg.symm)) hb)
           replace aE := ke aE hg hb
           replace av := am (Kd.N_below (Kd.N_elderB (nu av.out) af (Nat.le_of_eq hg.symm)) hb)
           replace aT := ke aT hg hb
           have az := am (hbox)
           have aM := ng hg (bu2 HB.out aj.out al.out)
           have aA := ng hg (bu2 HB.out aj.out al.out)
           replace HB := be2 HB aj al hb
           have au := nl hg ag
           have ax := nr hg ag
           replace ag := kb ag hb
           have ak := nl hg ac
           have ay := nr hg ac
           replace ac := kb ac hb
           clear hb hbox hg
           refine hK.out _ _ ⟨bc ac 0, bc ac 1, bc ac 2⟩ (fun hHeld => ?_)
           clear hK K
           refine nq 8 ?_
           exact norm_ (by first | (simp only [putAll, Act.put, List.setIfInBounds_toArray, List.set_cons_zero, List.set_cons_succ]; done) | (simp only [putAll, Act.put, List.setIfInBounds_toArray, List.set_cons_zero, List.set_cons_succ]; rfl)) (hJ7_8_12_13_15 (aG, (.slice cz a7.length cA), aF, (.slice b0 bE.length b1), af) _ ⟨hHeld, (vz ad.out), (vz ae.out), (vz ai.out), (vz ah.out), (by (with_reducible repeat (first | apply Kd.N_alloc | apply Kd.N_drewN | apply Kd.N_drew)); exact Kd.N_mono an.out (fun _ hk => ⟨hk.1.1, ⟨hk.1.2.1, ⟨hk.1.2.2.1, ⟨hk.1.2.2.2, hk.2⟩⟩⟩⟩)), (vz aE.out), (by (with_reducible repeat (first | apply Kd.N_alloc | apply Kd.N_drewN | apply Kd.N_drew)); exact Kd.N_mono av.out (fun _ hk => ⟨hk.1.1, ⟨hk.1.2.1, ⟨hk.1.2.2.1, ⟨hk.1.2.2.2, hk.2⟩⟩⟩⟩)), (vz aT.out), (vz ao.out), (vz aC.out), (vz aB.out), (ku ag.out), (ku ac.out), (ku az.out), aM.out, aA.out, au.out, ax.out, ak.out, ay.out, (bu3 HB.out aj.out al.out aA.out)⟩)
        ·
         skip
         rintro ⟨aG, a3, aF, bJ, af⟩ cZ ⟨hS_, a9, ba, bb, bd, bf, bg, bh, bi, bj, bk, aS, aV, aZ, a0, a1, a2, a6, bm, bF, bP, bX⟩
         (try dsimp -simprocs only at a9 ba bb bd bf bg bh bi bj bk aS aV aZ a0 a1 a2 a6 bm bF bP bX)
         clear aC aB ao ad ae ai ah ag ac HB
         have ad := Aside0.mk a9
         have ae := Aside0.mk ba
         have ai := Aside0.mk bb
         have ah := Aside0.mk bd
         have an := Aside0.mk bf
         have aE := Aside0.mk bg
         have av := Aside0.mk bh
         have aT := Aside0.mk bi
         have ao := Aside0.mk bj
         have aC := Aside0.mk bk
         have aB := Aside0.mk aS
         have ag := Aside0.mk aV
         have ac := Aside0.mk aZ
         have az := Aside0.mk a0
         have aM := Aside0.mk a1
         have aA := Aside0.mk a2
         have au := Aside0.mk a6
         have ax := Aside0.mk bm
         have ak := Aside0.mk bF
         have ay := Aside0.mk bP
         have HB := Aside0.mk bX
         clear a9 ba bb bd bf bg bh bi bj bk aS aV aZ a0 a1 a2 a6 bm bF bP bX
         have hHeld : cZ.cell? ⟨aa, 0, none⟩ = some (.bool aD) ∧ cZ.cell? ⟨aa, 1, none⟩ = some (.slice aJ aq.length aK) ∧ cZ.cell? ⟨aa, 2, none⟩ = some (.slice aH ap.length aI) := hS_
         obtain ⟨b0, b1, b8⟩ := Kd.V_slice aE.out
         (first | subst b8 | (injection b8 with f1_ f2_ f3_; have f4_ := f1_.symm; have f5_ := f3_.symm; clear f1_ f2_ f3_; subst f4_; subst f5_))
         obtain ⟨c3, c4, c5⟩ := Kd.V_slice aT.out
         (first | subst c5 | (injection c5 with f1_ f2_ f3_; have f4_ := f1_.symm; have f5_ := f3_.symm; clear f1_ f2_ f3_; subst f4_; subst f5_))
         refine norm_ (a' := ?_) ?_ ?_
         rotate_left
         ·
          simp only [putAll, Act.put, List.setIfInBounds_toArray, List.set_cons_zero, List.set_cons_succ]
          rfl
         refine one_ (i := 14) (N := some 33) #[true, true, true, true, true, true, true, true, true, true, true, true, true, true, true, true, false] rfl rfl (one_of HT_.out (by kernel_rfl)) (by decide) (fun K hK => ?_)
         refine goes_ Try.func155 (by kernel_rfl) rfl #[.bool (bS != aD), .slice b0 a7.length b1, .slice c3 bE.length c4] (by rfl) rfl rfl lu ?_
         with_reducible refine (rational_canonical.calls k1 (bS != aD) (fun k_ => ((P0_ k_ ∨ w.heap.size ≤ k_) ∧ (some k_ ≠ (aG : Value).ownBlock ∧ (some k_ ≠ (aF : Value).ownBlock ∧ (k_ ≠ ab ∧ (k_ ≠ aa ∧ k_ ≠ af)))))) _ _ a7 (fun k_ => ((P0_ k_ ∨ w.heap.size ≤ k_) ∧ (some k_ ≠ (aG : Value).ownBlock ∧ (some k_ ≠ (aF : Value).ownBlock ∧ (k_ ≠ ab ∧ (k_ ≠ aa ∧ k_ ≠ af)))))) _ _ bE aX aW aY _ ?side1 ?side2 dS.out).mono ?_
         (case side1 => exact vz aE.out)
         (case side2 => exact vz aT.out)
         rintro e bK ⟨bQ, bR, rfl, bB, cm, hb⟩
         refine ⟨_, rfl, ?_⟩
         replace aC := kv aC hb
         replace aB := kv aB hb
         replace ao := kv ao hb
         replace ad := kv ad hb
         replace ae := kv ae hb
         replace ai := kv ai hb
         replace ah := kv ah hb
         replace aE := kv aE hb
         replace aT := kv aT hb
         have a4 := ar w.heap.size (ok' := fun k_ => (P0_ k_ ∨ w.heap.size ≤ k_) ∧ some k_ ≠ (aG : Value).ownBlock ∧ some k_ ≠ (aF : Value).ownBlock ∧ k_ ≠ ab ∧ k_ ≠ aa ∧ k_ ≠ af) bB (fa (fz3 HB aj al aA) (fa (fo an) (fa (fo av) (fa (fb ag) (fa (fb ac) (fb az))))))
         have a5 := ar w.heap.size (ok' := fun k_ => (P0_ k_ ∨ w.heap.size ≤ k_) ∧ some k_ ≠ (aG : Value).ownBlock ∧ some k_ ≠ (aF : Value).ownBlock ∧ k_ ≠ ab ∧ k_ ≠ aa ∧ k_ ≠ af) cm (fa (fz3 HB aj al aA) (fa (fo an) (fa (fo av) (fa (fb ag) (fa (fb ac) (fb az))))))
         replace an := kn an hb
         replace av := kn av hb
         replace ag := kb ag hb
         replace ac := kb ac hb
         replace az := kb az hb
         replace HB := be3 HB aj al aA hb
         (try clear hb)
         (try clear hb2)
         (try clear hk)
         (try clear hi)
         (try clear bB)
         (try clear cm)
         refine hK.out _ _ ⟨bc ac 0, bc ac 1, bc ac 2⟩ (fun hHeld => ?_)
         clear hK K
         refine nq 33 ?_
         exact norm_ (by first | (simp only [putAll, Act.put, List.setIfInBounds_toArray, List.set_cons_zero, List.set_cons_succ]; done) | (simp only [putAll, Act.put, List.setIfInBounds_toArray, List.set_cons_zero, List.set_cons_succ]; rfl)) (hJ7_8_12_13_14_15 (aG, .slice b0 a7.length b1, aF, .slice c3 bE.length c4, bQ, bR, af) _ ⟨hHeld, (vu ad.out), (vu ae.out), (vu ai.out), (vu ah.out), (nu an.out), (vu aE.out), (nu av.out), (vu aT.out), (vu a4.out), (vu a5.out), (vu ao.out), (vu aC.out), (vu aB.out), (ku ag.out), (ku ac.out), (ku az.out), aM.out, aA.out, au.out, ax.out, ak.out, ay.out, (bu3 HB.out aj.out al.out aA.out)⟩)
       ·
        skip
        rintro ⟨aG, a3, aF, bJ, bQ, bR⟩ dx ⟨hS_, a9, ba, bb, bd, bf, bg, bh, bi, bj, bk, aS, aV, aZ, a0, a1, a2⟩
        (try dsimp -simprocs only at a9 ba bb bd bf bg bh bi bj bk aS aV aZ a0 a1 a2)
        clear aC aB ao ad ae ai ah ag ac HB
        have ad := Aside0.mk a9
        have ae := Aside0.mk ba
        have ai := Aside0.mk bb
        have ah := Aside0.mk bd
        have an := Aside0.mk bf
        have aE := Aside0.mk bg
        have av := Aside0.mk bh
        have aT := Aside0.mk bi
        have a4 := Aside0.mk bj
        have a5 := Aside0.mk bk
        have ao := Aside0.mk aS
        have aC := Aside0.mk aV
        have aB := Aside0.mk aZ
        have ag := Aside0.mk a0
        have ac := Aside0.mk a1
        have HB := Aside0.mk a2
        clear a9 ba bb bd bf bg bh bi bj bk aS aV aZ a0 a1 a2
        have hHeld : dx.cell? ⟨aa, 0, none⟩ = some (.bool aD) ∧ dx.cell? ⟨aa, 1, none⟩ = some (.slice aJ aq.length aK) ∧ dx.cell? ⟨aa, 2, none⟩ = some (.slice aH ap.length aI) := hS_
        refine norm_ (a' := ?_) ?_ ?_
        rotate_left
        ·
         simp only [putAll, Act.put, List.setIfInBounds_toArray, List.set_cons_zero, List.set_cons_succ]
         rfl
        refine one_ (i := 15) (N := some 8) #[true, true, true, true, true, true, true, true, true, true, true, true, true, true, true, true, false] rfl rfl (one_of HT_.out (by kernel_rfl)) (by decide) (fun K hK => ?_)
        refine box_step ?hg (N := 8) ?hd (cs := #[.bool false, .slice none 0 0, .slice none 0 0]) (t := 67) ?hr ?_; (case hd => rfl); (case hg => rfl); (case hr => first | (go_simp; done) | (go_simp; rfl))
        intro af hg bK hbox hb
        replace aC := ke aC hg hb
        replace aB := ke aB hg hb
        replace ao := ke ao hg hb
        replace ad := ke ad hg hb
        replace ae := ke ae hg hb
        replace ai := ke ai hg hb
        replace ah := ke ah hg hb
        replace an := am (Kd.N_below (Kd.N_elderB (nu an.out) af (Nat.le_of_eq hg.symm)) hb)
        replace aE := ke aE hg hb
        replace av := am (Kd.N_below (Kd.N_elderB (nu av.out) af (Nat.le_of_eq hg.symm)) hb)
        replace aT := ke aT hg hb
        replace a4 := ke a4 hg hb
        replace a5 := ke a5 hg hb
        have az := am (hbox)
        have aM := ng hg (bu2 HB.out aj.out al.out)
        have aA := ng hg (bu2 HB.out aj.out al.out)
        replace HB := be2 HB aj al hb
        have au := nl hg ag
        have ax := nr hg ag
        replace ag := kb ag hb
        have ak := nl hg ac
        have ay := nr hg ac
        replace ac := kb ac hb
        clear hb hbox hg
        refine hK.out _ _ ⟨bc ac 0, bc ac 1, bc ac 2⟩ (fun hHeld => ?_)
        clear hK K
        refine nq 8 ?_
        exact norm_ (by first | (simp only [putAll, Act.put, List.setIfInBounds_toArray, List.set_cons_zero, List.set_cons_succ]; done) | (simp only [putAll, Act.put, List.setIfInBounds_toArray, List.set_cons_zero, List.set_cons_succ]; rfl)) (hJ7_8_12_13_14_15 (aG, a3, aF, bJ, bQ, bR, af) _ ⟨hHeld, (vz ad.out), (vz ae.out), (vz ai.out), (vz ah.out), (by (with_reducible repeat (first | apply Kd.N_alloc | apply Kd.N_drewN | apply Kd.N_drew)); exact Kd.N_mono an.out (fun _ hk => ⟨hk.1.1, ⟨hk.1.2.1, ⟨hk.1.2.2.1, ⟨hk.1.2.2.2, hk.2⟩⟩⟩⟩)), (vz aE.out), (by (with_reducible repeat (first | apply Kd.N_alloc | apply Kd.N_drewN | apply Kd.N_drew)); exact Kd.N_mono av.out (fun _ hk => ⟨hk.1.1, ⟨hk.1.2.1, ⟨hk.1.2.2.1, ⟨hk.1.2.2.2, hk.2⟩⟩⟩⟩)), (vz aT.out), (vz a4.out), (vz a5.out), (vz ao.out), (vz aC.out), (vz aB.out), (ku ag.out), (ku ac.out), (ku az.out), aM.out, aA.out, au.out, ax.out, ak.out, ay.out, (bu3 HB.out aj.out al.out aA.out)⟩)
      rintro ⟨aG, a3, aF, bJ, bQ, bR, af⟩ bK ⟨hS_, a9, ba, bb, bd, bf, bg, bh, bi, bj, bk, aS, aV, aZ, a0, a1, a2, a6, bm, bF, bP, bX, cB, cC⟩
      (try dsimp -simprocs only at a9 ba bb bd bf bg bh bi bj bk aS aV aZ a0 a1 a2 a6 bm bF bP bX cB cC)
      clear aC aB ao ad ae ai ah ag ac HB
      have ad := Aside0.mk a9
      have ae := Aside0.mk ba
      have ai := Aside0.mk bb
      have ah := Aside0.mk bd
      have an := Aside0.mk bf
      have aE := Aside0.mk bg
      have av := Aside0.mk bh
      have aT := Aside0.mk bi
      have a4 := Aside0.mk bj
      have a5 := Aside0.mk bk
      have ao := Aside0.mk aS
      have aC := Aside0.mk aV
      have aB := Aside0.mk aZ
      have ag := Aside0.mk a0
      have ac := Aside0.mk a1
      have az := Aside0.mk a2
      have aM := Aside0.mk a6
      have aA := Aside0.mk bm
      have au := Aside0.mk bF
      have ax := Aside0.mk bP
      have ak := Aside0.mk bX
      have ay := Aside0.mk cB
      have HB := Aside0.mk cC
      clear a9 ba bb bd bf bg bh bi bj bk aS aV aZ a0 a1 a2 a6 bm bF bP bX cB cC
      have hHeld : bK.cell? ⟨aa, 0, none⟩ = some (.bool aD) ∧ bK.cell? ⟨aa, 1, none⟩ = some (.slice aJ aq.length aK) ∧ bK.cell? ⟨aa, 2, none⟩ = some (.slice aH ap.length aI) := hS_
      obtain ⟨bx, bA, c6⟩ := Kd.V_slice a4.out
      (first | subst c6 | (injection c6 with f1_ f2_ f3_; have f4_ := f1_.symm; have f5_ := f3_.symm; clear f1_ f2_ f3_; subst f4_; subst f5_))
      obtain ⟨bC, bD, da⟩ := Kd.V_slice a5.out
      (first | subst da | (injection da with f1_ f2_ f3_; have f4_ := f1_.symm; have f5_ := f3_.symm; clear f1_ f2_ f3_; subst f4_; subst f5_))
      refine norm_ (a' := ?_) ?_ ?_
      rotate_left
      ·
       simp only [putAll, Act.put, List.setIfInBounds_toArray, List.set_cons_zero, List.set_cons_succ]
       rfl
      refine one_ (i := 16) (N := none) #[true, true, true, true, true, true, true, true, true, true, true, true, true, true, true, true, true] rfl rfl (one_of HT_.out (by kernel_rfl)) (by decide) (fun K hK => ?_)
      have hs40 : bK.cell? ⟨af, 0, none⟩ = some (.bool false) := bc az 0
      have hfs40 := blk_frozen az.out 0
      have hns40_0 := au.out
      have hns40_1 := ak.out
      have hms40_0 := ax.out
      have hms40_1 := ay.out
      have hs42 : bK.cell? ⟨af, 1, none⟩ = some (.slice none 0 0) := bc az 1
      have hfs42 := blk_frozen az.out 1
      have hns42_0 := au.out
      have hns42_1 := ak.out
      have hms42_0 := ax.out
      have hms42_1 := ay.out
      have hs44 : bK.cell? ⟨af, 2, none⟩ = some (.slice none 0 0) := bc az 2
      have hfs44 := blk_frozen az.out 2
      have hns44_0 := au.out
      have hns44_1 := ak.out
      have hms44_0 := ax.out
      have hms44_1 := ay.out
      refine skip_ (w1 := ?_) (by rfl) rfl ?_ ?_
      rotate_left
      ·
       go_simp
       rfl
      refine hK.out _ _ ⟨((cell_far (p := ⟨af, _, none⟩) ak.out _).trans (((cell_far (p := ⟨af, _, none⟩) ak.out _).trans (((cell_far (p := ⟨af, _, none⟩) ak.out _).trans (hHeld.1)))))), ((cell_far (p := ⟨af, _, none⟩) ak.out _).trans (((cell_far (p := ⟨af, _, none⟩) ak.out _).trans (((cell_far (p := ⟨af, _, none⟩) ak.out _).trans (hHeld.2.1)))))), ((cell_far (p := ⟨af, _, none⟩) ak.out _).trans (((cell_far (p := ⟨af, _, none⟩) ak.out _).trans (((cell_far (p := ⟨af, _, none⟩) ak.out _).trans (hHeld.2.2))))))⟩ (fun hHeld => ?_)
      clear hK K
      refine done_ (done_of HT_.out (by kernel_rfl)) ?_
      try go_wp2
      have b9 : Aside0 (Kd.V (Kd.int .u32) 48 (((bK.setCell ⟨af, 0, none⟩ (.bool aX)).setCell ⟨af, 1, none⟩ (.slice bx aW.length bA)).setCell ⟨af, 2, none⟩ (.slice bC aY.length bD)) w.heap.size (fun k_ => (P0_ k_ ∨ w.heap.size ≤ k_) ∧ some k_ ≠ (aG : Value).ownBlock ∧ some k_ ≠ (aF : Value).ownBlock ∧ k_ ≠ ab ∧ k_ ≠ aa ∧ k_ ≠ af) (.slice bv aU.length bw) aU) := ⟨by exact vf aC.out⟩
      have ca : Aside0 (Kd.V (Kd.int .u32) 48 (((bK.setCell ⟨af, 0, none⟩ (.bool aX)).setCell ⟨af, 1, none⟩ (.slice bx aW.length bA)).setCell ⟨af, 2, none⟩ (.slice bC aY.length bD)) w.heap.size (fun k_ => (P0_ k_ ∨ w.heap.size ≤ k_) ∧ some k_ ≠ (aG : Value).ownBlock ∧ some k_ ≠ (aF : Value).ownBlock ∧ k_ ≠ ab ∧ k_ ≠ aa ∧ k_ ≠ af) (.slice AoX5 aN.length coX5) aN) := ⟨by exact vf aB.out⟩
      have cb : Aside0 (Kd.V k67 67 (((bK.setCell ⟨af, 0, none⟩ (.bool aX)).setCell ⟨af, 1, none⟩ (.slice bx aW.length bA)).setCell ⟨af, 2, none⟩ (.slice bC aY.length bD)) w.heap.size (fun k_ => (P0_ k_ ∨ w.heap.size ≤ k_) ∧ some k_ ≠ (aG : Value).ownBlock ∧ some k_ ≠ (aF : Value).ownBlock ∧ k_ ≠ ab ∧ k_ ≠ aa ∧ k_ ≠ af) (.slice (some ad1358) l0.length c0) l0) := ⟨by exact vf ao.out⟩
      have cc : Aside0 (Kd.V (Kd.int .u32) 48 (((bK.setCell ⟨af, 0, none⟩ (.bool aX)).setCell ⟨af, 1, none⟩ (.slice bx aW.length bA)).setCell ⟨af, 2, none⟩ (.slice bC aY.length bD)) w.heap.size (fun k_ => (P0_ k_ ∨ w.heap.size ≤ k_) ∧ some k_ ≠ (aG : Value).ownBlock ∧ some k_ ≠ (aF : Value).ownBlock ∧ k_ ≠ ab ∧ k_ ≠ aa ∧ k_ ≠ af) (.slice aQ ((rd_T67 l0 aw).f1).length aR) ((rd_T67 l0 aw).f1)) := ⟨by exact vf ad.out⟩
      have cd : Aside0 (Kd.V (Kd.int .u32) 48 (((bK.setCell ⟨af, 0, none⟩ (.bool aX)).setCell ⟨af, 1, none⟩ (.slice bx aW.length bA)).setCell ⟨af, 2, none⟩ (.slice bC aY.length bD)) w.heap.size (fun k_ => (P0_ k_ ∨ w.heap.size ≤ k_) ∧ some k_ ≠ (aG : Value).ownBlock ∧ some k_ ≠ (aF : Value).ownBlock ∧ k_ ≠ ab ∧ k_ ≠ aa ∧ k_ ≠ af) (.slice aO ((rd_T67 l0 aw).f2).length aP) ((rd_T67 l0 aw).f2)) := ⟨by exact vf ae.out⟩
      have ce : Aside0 (Kd.V (Kd.int .u32) 48 (((bK.setCell ⟨af, 0, none⟩ (.bool aX)).setCell ⟨af, 1, none⟩ (.slice bx aW.length bA)).setCell ⟨af, 2, none⟩ (.slice bC aY.length bD)) w.heap.size (fun k_ => (P0_ k_ ∨ w.heap.size ≤ k_) ∧ some k_ ≠ (aG : Value).ownBlock ∧ some k_ ≠ (aF : Value).ownBlock ∧ k_ ≠ ab ∧ k_ ≠ aa ∧ k_ ≠ af) (.slice aJ aq.length aK) aq) := ⟨by exact vf ai.out⟩
      have cf : Aside0 (Kd.V (Kd.int .u32) 48 (((bK.setCell ⟨af, 0, none⟩ (.bool aX)).setCell ⟨af, 1, none⟩ (.slice bx aW.length bA)).setCell ⟨af, 2, none⟩ (.slice bC aY.length bD)) w.heap.size (fun k_ => (P0_ k_ ∨ w.heap.size ≤ k_) ∧ some k_ ≠ (aG : Value).ownBlock ∧ some k_ ≠ (aF : Value).ownBlock ∧ k_ ≠ ab ∧ k_ ≠ aa ∧ k_ ≠ af) (.slice aH ap.length aI) ap) := ⟨by exact vf ah.out⟩
      have cg : Aside0 (Kd.N (Kd.slice 48 (Kd.int .u32)) 42 (((bK.setCell ⟨af, 0, none⟩ (.bool aX)).setCell ⟨af, 1, none⟩ (.slice bx aW.length bA)).setCell ⟨af, 2, none⟩ (.slice bC aY.length bD)) w.heap.size (fun k_ => (P0_ k_ ∨ w.heap.size ≤ k_) ∧ some k_ ≠ (aF : Value).ownBlock ∧ k_ ≠ ab ∧ k_ ≠ aa ∧ k_ ≠ af) aG aL) := ⟨by (with_reducible repeat (first | apply Kd.N_alloc | apply Kd.N_drewN | apply Kd.N_drew)); exact Kd.N_mono (Kd.N_far (p := ⟨af, 2, none⟩) (Kd.N_far (p := ⟨af, 1, none⟩) (Kd.N_far (p := ⟨af, 0, none⟩) (Kd.N_mono an.out (fun k_ hk => (⟨hk, hk.2.2.2.2⟩ : _ ∧ k_ ≠ af))) (fun _ hk => hk.2) (.bool aX)) (fun _ hk => hk.2) (.slice bx aW.length bA)) (fun _ hk => hk.2) (.slice bC aY.length bD)) (fun _ hk => ⟨hk.1.1, ⟨hk.1.2.1, ⟨hk.1.2.2.1, ⟨hk.1.2.2.2.1, hk.1.2.2.2.2⟩⟩⟩⟩)⟩
      have cp : Aside0 (Kd.V (Kd.int .u32) 48 (((bK.setCell ⟨af, 0, none⟩ (.bool aX)).setCell ⟨af, 1, none⟩ (.slice bx aW.length bA)).setCell ⟨af, 2, none⟩ (.slice bC aY.length bD)) w.heap.size (fun k_ => (P0_ k_ ∨ w.heap.size ≤ k_) ∧ some k_ ≠ (aG : Value).ownBlock ∧ some k_ ≠ (aF : Value).ownBlock ∧ k_ ≠ ab ∧ k_ ≠ aa ∧ k_ ≠ af) a3 a7) := ⟨by exact vf aE.out⟩
      have cq : Aside0 (Kd.N (Kd.slice 48 (Kd.int .u32)) 42 (((bK.setCell ⟨af, 0, none⟩ (.bool aX)).setCell ⟨af, 1, none⟩ (.slice bx aW.length bA)).setCell ⟨af, 2, none⟩ (.slice bC aY.length bD)) w.heap.size (fun k_ => (P0_ k_ ∨ w.heap.size ≤ k_) ∧ some k_ ≠ (aG : Value).ownBlock ∧ k_ ≠ ab ∧ k_ ≠ aa ∧ k_ ≠ af) aF a8) := ⟨by (with_reducible repeat (first | apply Kd.N_alloc | apply Kd.N_drewN | apply Kd.N_drew)); exact Kd.N_mono (Kd.N_far (p := ⟨af, 2, none⟩) (Kd.N_far (p := ⟨af, 1, none⟩) (Kd.N_far (p := ⟨af, 0, none⟩) (Kd.N_mono av.out (fun k_ hk => (⟨hk, hk.2.2.2.2⟩ : _ ∧ k_ ≠ af))) (fun _ hk => hk.2) (.bool aX)) (fun _ hk => hk.2) (.slice bx aW.length bA)) (fun _ hk => hk.2) (.slice bC aY.length bD)) (fun _ hk => ⟨hk.1.1, ⟨hk.1.2.1, ⟨hk.1.2.2.1, ⟨hk.1.2.2.2.1, hk.1.2.2.2.2⟩⟩⟩⟩)⟩
      have cD : Aside0 (Kd.V (Kd.int .u32) 48 (((bK.setCell ⟨af, 0, none⟩ (.bool aX)).setCell ⟨af, 1, none⟩ (.slice bx aW.length bA)).setCell ⟨af, 2, none⟩ (.slice bC aY.length bD)) w.heap.size (fun k_ => (P0_ k_ ∨ w.heap.size ≤ k_) ∧ some k_ ≠ (aG : Value).ownBlock ∧ some k_ ≠ (aF : Value).ownBlock ∧ k_ ≠ ab ∧ k_ ≠ aa ∧ k_ ≠ af) bJ bE) := ⟨by exact vf aT.out⟩
      have cE : Aside0 (Kd.V (Kd.int .u32) 48 (((bK.setCell ⟨af, 0, none⟩ (.bool aX)).setCell ⟨af, 1, none⟩ (.slice bx aW.length bA)).setCell ⟨af, 2, none⟩ (.slice bC aY.length bD)) w.heap.size (fun k_ => (P0_ k_ ∨ w.heap.size ≤ k_) ∧ some k_ ≠ (aG : Value).ownBlock ∧ some k_ ≠ (aF : Value).ownBlock ∧ k_ ≠ ab ∧ k_ ≠ aa ∧ k_ ≠ af) (.slice bx aW.length bA) aW) := ⟨by exact vf a4.out⟩
      have cF : Aside0 (Kd.V (Kd.int .u32) 48 (((bK.setCell ⟨af, 0, none⟩ (.bool aX)).setCell ⟨af, 1, none⟩ (.slice bx aW.length bA)).setCell ⟨af, 2, none⟩ (.slice bC aY.length bD)) w.heap.size (fun k_ => (P0_ k_ ∨ w.heap.size ≤ k_) ∧ some k_ ≠ (aG : Value).ownBlock ∧ some k_ ≠ (aF : Value).ownBlock ∧ k_ ≠ ab ∧ k_ ≠ aa ∧ k_ ≠ af) (.slice bC aY.length bD) aY) := ⟨by exact vf a5.out⟩
      have cG : Aside0 ((((bK.setCell ⟨af, 0, none⟩ (.bool aX)).setCell ⟨af, 1, none⟩ (.slice bx aW.length bA)).setCell ⟨af, 2, none⟩ (.slice bC aY.length bD)).heap[ab]? = some (.cells #[.bool false, .slice none 0 0, .slice none 0 0] 67 (0, 0))) := ⟨by (with_reducible repeat (first | refine blk_drewN ?_ _ | refine blk_drew ?_ | refine blk_alloc ?_ _)); refine blk_far ?_ au.out _; (with_reducible repeat (first | refine blk_drewN ?_ _ | refine blk_drew ?_ | refine blk_alloc ?_ _)); refine blk_far ?_ au.out _; (with_reducible repeat (first | refine blk_drewN ?_ _ | refine blk_drew ?_ | refine blk_alloc ?_ _)); refine blk_far ?_ au.out _; (with_reducible repeat (first | refine blk_drewN ?_ _ | refine blk_drew ?_ | refine blk_alloc ?_ _)); exact ag.out⟩
      have cH : Aside0 ((((bK.setCell ⟨af, 0, none⟩ (.bool aX)).setCell ⟨af, 1, none⟩ (.slice bx aW.length bA)).setCell ⟨af, 2, none⟩ (.slice bC aY.length bD)).heap[aa]? = some (.cells #[.bool aD, .slice aJ aq.length aK, .slice aH ap.length aI] 67 (0, 0))) := ⟨by (with_reducible repeat (first | refine blk_drewN ?_ _ | refine blk_drew ?_ | refine blk_alloc ?_ _)); refine blk_far ?_ ak.out _; (with_reducible repeat (first | refine blk_drewN ?_ _ | refine blk_drew ?_ | refine blk_alloc ?_ _)); refine blk_far ?_ ak.out _; (with_reducible repeat (first | refine blk_drewN ?_ _ | refine blk_drew ?_ | refine blk_alloc ?_ _)); refine blk_far ?_ ak.out _; (with_reducible repeat (first | refine blk_drewN ?_ _ | refine blk_drew ?_ | refine blk_alloc ?_ _)); exact ac.out⟩
      have cI : Aside0 ((((bK.setCell ⟨af, 0, none⟩ (.bool aX)).setCell ⟨af, 1, none⟩ (.slice bx aW.length bA)).setCell ⟨af, 2, none⟩ (.slice bC aY.length bD)).heap[af]? = some (.cells #[.bool aX, .slice bx aW.length bA, .slice bC aY.length bD] 67 (0, 0))) := ⟨by (with_reducible repeat (first | refine blk_drewN ?_ _ | refine blk_drew ?_ | refine blk_alloc ?_ _)); refine blk_put (cs := #[.bool aX, .slice bx aW.length bA, .slice none 0 0]) ?_ 2 _ rfl; (with_reducible repeat (first | refine blk_drewN ?_ _ | refine blk_drew ?_ | refine blk_alloc ?_ _)); refine blk_put (cs := #[.bool aX, .slice none 0 0, .slice none 0 0]) ?_ 1 _ rfl; (with_reducible repeat (first | refine blk_drewN ?_ _ | refine blk_drew ?_ | refine blk_alloc ?_ _)); refine blk_put (cs := #[.bool false, .slice none 0 0, .slice none 0 0]) ?_ 0 _ rfl; (with_reducible repeat (first | refine blk_drewN ?_ _ | refine blk_drew ?_ | refine blk_alloc ?_ _)); exact az.out⟩
      have cJ : Aside0 (Below w.heap.size w (((bK.setCell ⟨af, 0, none⟩ (.bool aX)).setCell ⟨af, 1, none⟩ (.slice bx aW.length bA)).setCell ⟨af, 2, none⟩ (.slice bC aY.length bD))) := ⟨by repeat (first | (with_reducible first | exact HB.out | apply below_alloc | apply pw_below_drewN | apply below_drew1 | refine below_set ?_ aj.out | refine below_set ?_ al.out | refine below_set ?_ aA.out) | exact HB.out)⟩
      (try clear aC)
      (try clear aB)
      (try clear ao)
      (try clear ad)
      (try clear ae)
      (try clear ai)
      (try clear ah)
      (try clear an)
      (try clear aE)
      (try clear av)
      (try clear aT)
      (try clear a4)
      (try clear a5)
      (try clear ag)
      (try clear ac)
      (try clear az)
      (try clear HB)
      generalize (((bK.setCell ⟨af, 0, none⟩ (.bool aX)).setCell ⟨af, 1, none⟩ (.slice bx aW.length bA)).setCell ⟨af, 2, none⟩ (.slice bC aY.length bD)) = d5 at b9 ca cb cc cd ce cf cg cp cq cD cE cF cG cH cI cJ ⊢
      have aC := b9
      have aB := ca
      have ao := cb
      have ad := cc
      have ae := cd
      have ai := ce
      have ah := cf
      have an := cg
      have aE := cp
      have av := cq
      have aT := cD
      have a4 := cE
      have a5 := cF
      have ag := cG
      have ac := cH
      have az := cI
      have HB := cJ
      clear b9 ca cb cc cd ce cf cg cp cq cD cE cF cG cH cI cJ
      replace aC := am (Kd.V_drew aC.out)
      replace aB := am (Kd.V_drew aB.out)
      replace ao := am (Kd.V_drew ao.out)
      replace ad := am (Kd.V_drew ad.out)
      replace ae := am (Kd.V_drew ae.out)
      replace ai := am (Kd.V_drew ai.out)
      replace ah := am (Kd.V_drew ah.out)
      replace an := am (Kd.N_drew an.out)
      replace aE := am (Kd.V_drew aE.out)
      replace av := am (Kd.N_drew av.out)
      replace aT := am (Kd.V_drew aT.out)
      replace a4 := am (Kd.V_drew a4.out)
      replace a5 := am (Kd.V_drew a5.out)
      replace ag := am (blk_drew ag.out)
      replace ac := am (blk_drew ac.out)
      replace az := am (blk_drew az.out)
      replace HB := am (below_drew1 HB.out)
      refine start_ (n := 9) (S := fun w' => w'.cell? ⟨af, 0, none⟩ = some (.bool aX) ∧ w'.cell? ⟨af, 1, none⟩ = some (.slice bx aW.length bA) ∧ w'.cell? ⟨af, 2, none⟩ = some (.slice bC aY.length bD)) (ds := []) #[false, false, false, false, false, false, false, false, false] (by kernel_rfl) rfl rfl ⟨bc az 0, bc az 1, bc az 2⟩ (fun hHeld => ?_); refine with_tabW rational_Mul.tab7 rational_Mul.bits7 (fun HT_ HW_ => ?_)
      generalize d5.drew = d7 at aC aB ao ad ae ai ah an aE av aT a4 a5 ag ac az HB hHeld ⊢
      refine pq 0 (some 34) #[true, false, false, false, false, false, false, false, false] HT_ ?_
      refine pq 2 (some 36) #[true, false, true, false, false, false, false, false, false] HT_ ?_
      refine pq 4 (some 38) #[true, false, true, false, true, false, false, false, false] HT_ ?_
      refine tq 1 (some 35) #[true, true, true, false, true, false, false, false, false] HT_ HW_ hHeld ?_
      refine pq 6 (some 3) #[true, true, true, false, true, false, true, false, false] HT_ ?_
      refine tq 3 (some 37) #[true, true, true, true, true, false, true, false, false] HT_ HW_ hHeld ?_
      refine pq 7 (some 4) #[true, true, true, true, true, false, true, true, false] HT_ ?_
      refine tq 5 (some 39) #[true, true, true, true, true, true, true, true, false] HT_ HW_ hHeld ?_
      refine pq 8 (some 5) #[true, true, true, true, true, true, true, true, true] HT_ ?_
      refine done_ (done_of HT_.out (by kernel_rfl)) ?_
      try go_wp2
      go_roundg k1
      case measure => have := HK1.out; omega
      case rel => exact ⟨(aX), (aW), (aY), (wrap64 (aw + 1)), (by first | rfl | (simp; done) | (simp [*]; done)), (by first | rfl | (simp; done) | (simp [*]; done)), H', ⟨by have := HK1.out; omega⟩, ⟨by exact vz a4.out⟩, ⟨by exact vz a5.out⟩, ⟨by exact vz ao.out⟩, ⟨by (with_reducible repeat (first | refine blk_drewN ?_ _ | refine blk_drew ?_ | refine blk_alloc ?_ _)); exact ag.out⟩, ⟨by repeat (first | (with_reducible first | exact HB.out | apply below_alloc | apply pw_below_drewN | apply below_drew1 | refine below_set ?_ aj.out | refine below_set ?_ al.out | refine below_set ?_ aA.out) | exact HB.out)⟩⟩
     ·
      rw [if_neg c9] at H
      exact absurd H (by simp)
    ·
     rw [if_neg c8] at H
     exact absurd H (by simp)
   ·
    rw [if_neg c7] at H
    have dF : decide (aw < (l0.length : Int)) = false := decide_eq_false c7
    clear c7
    simp only [Option.some.injEq, Prod.mk.injEq] at H
    obtain ⟨rfl, rfl, rfl⟩ := H
    obtain ⟨dJ, dK, dL⟩ := Kd.V_slice aB.out
    subst dL
    obtain ⟨dM, dN, dO⟩ := Kd.V_slice aC.out
    subst dO
    obtain ⟨dy, dz, dA, dB, dC, dD⟩ := bz ag
    go_wp2
    refine bodyPost_ret (results_cell_row rfl _ _ ab 67 #[.bool bS, .slice dM aU.length dN, .slice dJ aN.length dK] (0, 0) _ rfl (kp ag.out) Try.underlying67 rfl (by kernel_rfl)) rfl ?_
    exact ⟨_, _, by first | rfl | (simp [errW_none, errW_some] <;> rfl) | (simp [*, errW_none, errW_some] <;> rfl), by exact vf aC.out, by exact vf aB.out, by repeat (first | (with_reducible first | exact HB.out | apply below_alloc | apply pw_below_drewN | apply below_drew1 | refine below_set ?_ aj.out) | exact HB.out)⟩
def nat_Sub.l0 : Nat → List Int → List Int → Int → Int → Int → Option (List Int × Int)
 | 0, _, _, _, _, _ => none
 | k + 1, x1, x6, x7, x17, x18 => if x18 < x17 then (if 0 ≤ x18 then (if x18 < (x6.length : Int) then (if x18 < (x1.length : Int) then (nat_Sub.l0 k x1 (x6.set (x18 : Int).toNat ((IntKind.u64.wrap ((IntKind.u64.wrap ((IntKind.u64.wrap (rd x6 x18)) - x7)) - (IntKind.u64.wrap (rd x1 x18)))) % 4294967296)) ((IntKind.u64.wrap ((IntKind.u64.wrap ((IntKind.u64.wrap (rd x6 x18)) - x7)) - (IntKind.u64.wrap (rd x1 x18)))) / 9223372036854775808) x17 (wrap64 (x18 + 1))) else (nat_Sub.l0 k x1 (x6.set (x18 : Int).toNat ((IntKind.u64.wrap ((IntKind.u64.wrap (rd x6 x18)) - x7)) % 4294967296)) ((IntKind.u64.wrap ((IntKind.u64.wrap (rd x6 x18)) - x7)) / 9223372036854775808) x17 (wrap64 (x18 + 1)))) else (none)) else (none)) else ((nat_short.f k x6).bind fun t1624 => (some (t1624, 0)))
def nat_Sub.f (k : Nat) (l0 : List Int) (l1 : List Int) : Option (List Int × Int) := (nat_Cmp.f k l0 l1).bind fun t1616 => (if t1616 < 0 then (some (([] : List Int), 6)) else ((nat_Trim.f k l0).bind fun t1617 => (nat_Sub.l0 k l1 t1617 0 (t1617.length : Int) 0)))
theorem nat_Sub.calls (k : Nat) (A0 : Option Addr) (c0 : Nat) (l0 : List Int) (A1 : Option Addr) (c1 : Nat) (l1 : List Int) (r1 : List Int) (r2 : Int) (w : World) (hr0 : Kd.C (Kd.int .u32) w A0 l0.length l0) (hc0 : l0.length ≤ c0) (hr1 : Kd.C (Kd.int .u32) w A1 l1.length l1) (hc1 : l1.length ≤ c1) (h : nat_Sub.f k l0 l1 = some (r1, r2)) :
 Calls Try.prog 185 #[.slice A0 l0.length c0, .slice A1 l1.length c1] w fun e w' => ∃ v0_ : Value, e = .returned (.tuple #[v0_, .int .i64 r2]) ∧ Kd.V (Kd.int .u32) 48 w' w.heap.size (fun k_ => (w.heap.size ≤ k_)) v0_ r1 ∧ Below w.heap.size w w' := by
 have aQ := am hr0
 have aC := am hc0
 clear hr0 hc0
 have aR := am hr1
 have aN := am hc1
 clear hr1 hc1
 have HB := am (Below.refl w.heap.size w)
 have H : ((nat_Cmp.f k l0 l1).bind fun af => (if af < 0 then (some (([] : List Int), 6)) else ((nat_Trim.f k l0).bind fun ac => (nat_Sub.l0 k l1 ac 0 (ac.length : Int) 0)))) = some (r1, r2) := h
 clear h
 obtain ⟨af, A3, H⟩ := bs H
 (try dsimp -simprocs only at H)
 by_cases c4 : af < 0
 ·
  rw [if_pos c4] at H
  have aF : decide (af < 0) = true := decide_eq_true c4
  clear c4
  simp only [Option.some.injEq, Prod.mk.injEq] at H
  obtain ⟨rfl, rfl⟩ := H
  go_enter Try.func185, Try.ntmps185
  go_wp2_with (first | ((with_reducible refine gate_callee (f := 146) rfl ?_); refine goesL_ (some 12) rfl rfl Try.func146 (by kernel_rfl) rfl #[.slice A0 l0.length c0, .slice A1 l1.length c1] rfl lu ?_; (with_reducible refine (nat_Cmp.calls k _ _ l0 _ _ l1 af _ ?side1 ?side2 ?side3 ?side4 A3.out).mono ?_); (case side1 => repeat (first | exact aQ.out | (with_reducible refine Kd.C_alloc ?_ _) | (with_reducible refine Kd.C_drewN ?_ _) | (with_reducible refine Kd.C_drew ?_))); (case side2 => first | exact aC.out | exact vz aC.out); (case side3 => repeat (first | exact aR.out | (with_reducible refine Kd.C_alloc ?_ _) | (with_reducible refine Kd.C_drewN ?_ _) | (with_reducible refine Kd.C_drew ?_))); (case side4 => first | exact aN.out | exact vz aN.out); rintro e w5 ⟨rfl, hb⟩; refine ⟨_, rfl, ?_⟩; replace HB := be HB hb; (try clear hb)))
  go_ret2
  exact ⟨_, by first | rfl | (simp [errW_none, errW_some] <;> rfl) | (simp [*, errW_none, errW_some] <;> rfl), Kd.V_nil _ _ _ _ _, by repeat (first | (with_reducible first | exact HB.out | apply below_alloc | apply pw_below_drewN | apply below_drew1) | exact HB.out)⟩
 ·
  rw [if_neg c4] at H
  have aF : decide (af < 0) = false := decide_eq_false c4
  clear c4
  obtain ⟨ac, A6, H⟩ := bs H
  (try dsimp -simprocs only at H)
  have H' := am H
  clear H
  go_enter Try.func185, Try.ntmps185
  go_wp2_with (first | ((with_reducible refine gate_callee (f := 146) rfl ?_); refine goesL_ (some 12) rfl rfl Try.func146 (by kernel_rfl) rfl #[.slice A0 l0.length c0, .slice A1 l1.length c1] rfl lu ?_; (with_reducible refine (nat_Cmp.calls k _ _ l0 _ _ l1 af _ ?side1 ?side2 ?side3 ?side4 A3.out).mono ?_); (case side1 => repeat (first | exact aQ.out | (with_reducible refine Kd.C_alloc ?_ _) | (with_reducible refine Kd.C_drewN ?_ _) | (with_reducible refine Kd.C_drew ?_))); (case side2 => first | exact aC.out | exact vz aC.out); (case side3 => repeat (first | exact aR.out | (with_reducible refine Kd.C_alloc ?_ _) | (with_reducible refine Kd.C_drewN ?_ _) | (with_reducible refine Kd.C_drew ?_))); (case side4 => first | exact aN.out | exact vz aN.out); rintro e w7 ⟨rfl, hb⟩; refine ⟨_, rfl, ?_⟩; replace HB := be HB hb; (try clear hb)) | ((with_reducible refine gate_callee (f := 177) rfl ?_); refine goesL_ (some 15) rfl rfl Try.func177 (by kernel_rfl) rfl #[.slice A0 l0.length c0] rfl lu ?_; (with_reducible refine (nat_Trim.calls k _ _ l0 ac _ ?side1 ?side2 A6.out).mono ?_); (case side1 => repeat (first | exact (Kd.C_below aQ.out HB.out) | (with_reducible refine Kd.C_alloc ?_ _) | (with_reducible refine Kd.C_drewN ?_ _) | (with_reducible refine Kd.C_drew ?_))); (case side2 => first | exact aC.out | exact vz aC.out); rintro e w8 ⟨aZ, rfl, aG, hb⟩; refine ⟨_, rfl, ?_⟩; have an := am (Kd.R_lower (Kd.R_newM (M := fun k_ => (w.heap.size ≤ k_)) aG (below_size (bu HB.out)) (fun k_ h_ => h_)) (below_size (bu HB.out))); replace HB := be HB hb; (try clear hb); (try clear aG); obtain ⟨aS, aH, a2⟩ := Kd.R_slice an.out; subst a2))
  go_loopg [7, 18] k (fun kq v7 a3 w' => ∃ (ab : List Int) (ae : Int) (aa : Int), v7 = .int .u64 ae ∧ a3 = .int .i64 aa ∧ Aside0 (nat_Sub.l0 kq l1 ab ae (ac.length : Int) aa = some (r1, r2)) ∧ Aside0 (kq ≤ k) ∧ Aside0 (Kd.R (Kd.int .u32) 48 w' w.heap.size (fun k_ => (w.heap.size ≤ k_)) (.slice aS ac.length aH) ab) ∧ Aside0 (Below w.heap.size w w'))
  case atStart => exact ⟨(ac), (0), (0), (by first | rfl | (simp; done) | (simp [*]; done)), (by first | rfl | (simp; done) | (simp [*]; done)), H', ⟨Nat.le_refl _⟩, ⟨by (with_reducible repeat (first | apply Kd.R_alloc | apply Kd.R_drewN | apply Kd.R_drew)); exact Kd.R_mono an.out (fun _ hk => hk.1)⟩, ⟨by repeat (first | (with_reducible first | exact HB.out | apply below_alloc | apply pw_below_drewN | apply below_drew1) | exact HB.out)⟩⟩
  case round =>
   clear H'
   try clear c1
   try clear p2
   try clear c4
   try clear aF
   obtain ⟨ab, ae, aa, rfl, rfl, HA, HK1, ad, HB⟩ := hrel
   have hl6_1 := (Kd.R_reads' ad.out).1
   rw [hl6_1] at ad
   (try simp only [hl6_1])
   cases gk with
   | zero => exact absurd HA.out (by simp [nat_Sub.l0])
   | succ k1 =>
    have H := HA.out
    clear HA
    simp only [nat_Sub.l0] at H
    by_cases aD : aa < (ac.length : Int)
    ·
     rw [if_pos aD] at H
     have ao : decide (aa < (ac.length : Int)) = true := decide_eq_true aD
     clear aD
     (try (have ak := ao; simp only [hl6_1] at ak))
     by_cases aO : 0 ≤ aa
     ·
      rw [if_pos aO] at H
      have a0 : decide (0 ≤ aa) = true := decide_eq_true aO
      clear aO
      by_cases aP : aa < (ab.length : Int)
      ·
       rw [if_pos aP] at H
       have aI : decide (aa < (ab.length : Int)) = true := decide_eq_true aP
       clear aP
       (try (have aw := aI; simp only [hl6_1] at aw))
       by_cases aE : aa < (l1.length : Int)
       ·
        rw [if_pos aE] at H
        have ap : decide (aa < (l1.length : Int)) = true := decide_eq_true aE
        clear aE
        (try (have al := ap; simp only [hl6_1] at al))
        obtain ⟨aq, ag⟩ : ∃ y_ : List Int, y_ = (ab.set (aa : Int).toNat ((IntKind.u64.wrap ((IntKind.u64.wrap ((IntKind.u64.wrap (rd ab aa)) - ae)) - (IntKind.u64.wrap (rd l1 aa)))) % 4294967296)) := ⟨_, rfl⟩
        replace H : (nat_Sub.l0 k1 l1 aq ((IntKind.u64.wrap ((IntKind.u64.wrap ((IntKind.u64.wrap (rd ab aa)) - ae)) - (IntKind.u64.wrap (rd l1 aa)))) / 9223372036854775808) (ac.length : Int) (wrap64 (aa + 1))) = some (r1, r2) := by first | (rw [ag]; with_reducible exact H) | (have H2_ := (Option.bind_some _ _).symm.trans H; rw [ag]; with_reducible exact H2_) | (have H2_ := (Option.bind_some _ _).symm.trans H; with_reducible exact H2_) | with_reducible exact H | (rw [ag]; exact H) | exact H
        have ax := am ag
        clear ag
        have H' := am H
        clear H
        have p1620 : 0 ≤ (aa : Int) := of_decide_eq_true (by first | (with_reducible assumption) | assumption)
        have q1620 : aa < (ab.length : Int) := of_decide_eq_true (by first | (with_reducible assumption) | assumption)
        obtain ⟨ad1620, e1620, ah⟩ := Kd.at_int (Kd.R_reads' ad.out).2.2 aa p1620 q1620
        cases e1620
        replace p1620 := eq_true p1620
        replace q1620 := eq_true q1620
        have p1621 : 0 ≤ (aa : Int) := of_decide_eq_true (by first | (with_reducible assumption) | assumption)
        have q1621 : aa < (l1.length : Int) := of_decide_eq_true (by first | (with_reducible assumption) | assumption)
        obtain ⟨ad1621, e1621, ai⟩ := Kd.at_int aR.out aa p1621 q1621
        cases e1621
        replace ai := (HB.out.cell (World.block_lt_of_cell? w _ ai)).trans ai
        replace p1621 := eq_true p1621
        replace q1621 := eq_true q1621
        have p14 : 0 ≤ (aa : Int) := of_decide_eq_true (by first | (with_reducible assumption) | assumption)
        have q14 : (aa : Int) < ((ab.length : Int) : Int) := of_decide_eq_true (by first | (with_reducible assumption) | assumption)
        obtain ⟨go14, a4, aJ, aK, gl14, cl14, HG14⟩ := Kd.R_form ad.out (by omega)
        (first | cases aJ | (injection aJ with ea_ en_ ec_; (first | subst ea_ | (injection ea_ with ea_; subst ea_)); subst ec_; clear en_))
        have GB14 := am aK
        have GG14 := am HG14
        clear aK gl14 HG14
        (first | simp only [add_plain] at ah | skip)
        obtain ⟨aT, aU⟩ := Kd.R_celln 0 ad.out (aa : Int) p14 q14
        replace p14 := eq_true p14
        replace q14 := eq_true q14
        have ay := Kd.R_putg ad.out (aa : Int) ((IntKind.u64.wrap ((IntKind.u64.wrap ((IntKind.u64.wrap (rd ab aa)) - ae)) - (IntKind.u64.wrap (rd l1 aa)))) % 4294967296)
        go_wp2_with (first | ((with_reducible refine gate_store (t := 48) (p := 43) rfl ?_); refine store_event (t := 48) (p := 43) (v := ?vo_w16) (w1 := (wr.setCell ⟨go14, (aa : Int).toNat, none⟩ (.int .u32 ((IntKind.u64.wrap ((IntKind.u64.wrap ((IntKind.u64.wrap (rd ab aa)) - ae)) - (IntKind.u64.wrap (rd l1 aa)))) % 4294967296)))) ?hg ?ho ?hn ?hr ?_; (case ho => rfl); (case hg => rfl); (case hn => rfl); (case hr => first | (go_simp; done) | (go_simp; rfl)); intro aV hw; have hg : wr.grownBy aV (some go14) := (by rw [hw]; exact ay.2); have hp_ : Kd.R (Kd.int .u32) 48 aV w.heap.size (fun k_ => (w.heap.size ≤ k_)) (.slice (some ⟨go14, 0, none⟩) ab.length aH) aq := (by rw [hw, ax.out]; exact ay.1); clear ay; replace ad := am (hp_); replace HB := am ((by rw [hw]; exact below_set (HB.out) GB14.out : Below w.heap.size w aV)); clear hg hw hp_))
        (try simp only [← hl6_1])
        go_roundg k1
        case measure => have := HK1.out; omega
        case rel => exact ⟨(aq), ((IntKind.u64.wrap ((IntKind.u64.wrap ((IntKind.u64.wrap (rd ab aa)) - ae)) - (IntKind.u64.wrap (rd l1 aa)))) / 9223372036854775808), (wrap64 (aa + 1)), (by first | rfl | (simp; done) | (simp [*]; done)), (by first | rfl | (simp; done) | (simp [*]; done)), H', ⟨by have := HK1.out; omega⟩, ⟨by (try simp only [hl6_1]); (with_reducible repeat (first | apply Kd.R_alloc | apply Kd.R_drewN | apply Kd.R_drew)); exact ad.out⟩, ⟨by repeat (first | (with_reducible first | exact HB.out | apply below_alloc | apply pw_below_drewN | apply below_drew1) | exact HB.out)⟩⟩
       ·
        rw [if_neg aE] at H
        have ap : decide (aa < (l1.length : Int)) = false := decide_eq_false aE
        clear aE
        (try (have al := ap; simp only [hl6_1] at al))
        obtain ⟨au, aj⟩ : ∃ y_ : List Int, y_ = (ab.set (aa : Int).toNat ((IntKind.u64.wrap ((IntKind.u64.wrap (rd ab aa)) - ae)) % 4294967296)) := ⟨_, rfl⟩
        replace H : (nat_Sub.l0 k1 l1 au ((IntKind.u64.wrap ((IntKind.u64.wrap (rd ab aa)) - ae)) / 9223372036854775808) (ac.length : Int) (wrap64 (aa + 1))) = some (r1, r2) := by first | (rw [aj]; with_reducible exact H) | (have H2_ := (Option.bind_some _ _).symm.trans H; rw [aj]; with_reducible exact H2_) | (have H2_ := (Option.bind_some _ _).symm.trans H; with_reducible exact H2_) | with_reducible exact H | (rw [aj]; exact H) | exact H
        have az := am aj
        clear aj
        have H' := am H
        clear H
        have p1620 : 0 ≤ (aa : Int) := of_decide_eq_true (by first | (with_reducible assumption) | assumption)
        have q1620 : aa < (ab.length : Int) := of_decide_eq_true (by first | (with_reducible assumption) | assumption)
        obtain ⟨ad1620, e1620, ah⟩ := Kd.at_int (Kd.R_reads' ad.out).2.2 aa p1620 q1620
        cases e1620
        replace p1620 := eq_true p1620
        replace q1620 := eq_true q1620
        have p17 : 0 ≤ (aa : Int) := of_decide_eq_true (by first | (with_reducible assumption) | assumption)
        have q17 : (aa : Int) < ((ab.length : Int) : Int) := of_decide_eq_true (by first | (with_reducible assumption) | assumption)
        obtain ⟨go17, a5, aL, aM, gl17, cl17, HG17⟩ := Kd.R_form ad.out (by omega)
        (first | cases aL | (injection aL with ea_ en_ ec_; (first | subst ea_ | (injection ea_ with ea_; subst ea_)); subst ec_; clear en_))
        have GB17 := am aM
        have GG17 := am HG17
        clear aM gl17 HG17
        (first | simp only [add_plain] at ah | skip)
        obtain ⟨aW, aX⟩ := Kd.R_celln 0 ad.out (aa : Int) p17 q17
        replace p17 := eq_true p17
        replace q17 := eq_true q17
        have aA := Kd.R_putg ad.out (aa : Int) ((IntKind.u64.wrap ((IntKind.u64.wrap (rd ab aa)) - ae)) % 4294967296)
        go_wp2_with (first | ((with_reducible refine gate_store (t := 48) (p := 43) rfl ?_); refine store_event (t := 48) (p := 43) (v := ?vo_w19) (w1 := (wr.setCell ⟨go17, (aa : Int).toNat, none⟩ (.int .u32 ((IntKind.u64.wrap ((IntKind.u64.wrap (rd ab aa)) - ae)) % 4294967296)))) ?hg ?ho ?hn ?hr ?_; (case ho => rfl); (case hg => rfl); (case hn => rfl); (case hr => first | (go_simp; done) | (go_simp; rfl)); intro aY hw; have hg : wr.grownBy aY (some go17) := (by rw [hw]; exact aA.2); have hp_ : Kd.R (Kd.int .u32) 48 aY w.heap.size (fun k_ => (w.heap.size ≤ k_)) (.slice (some ⟨go17, 0, none⟩) ab.length aH) au := (by rw [hw, az.out]; exact aA.1); clear aA; replace ad := am (hp_); replace HB := am ((by rw [hw]; exact below_set (HB.out) GB17.out : Below w.heap.size w aY)); clear hg hw hp_))
        (try simp only [← hl6_1])
        go_roundg k1
        case measure => have := HK1.out; omega
        case rel => exact ⟨(au), ((IntKind.u64.wrap ((IntKind.u64.wrap (rd ab aa)) - ae)) / 9223372036854775808), (wrap64 (aa + 1)), (by first | rfl | (simp; done) | (simp [*]; done)), (by first | rfl | (simp; done) | (simp [*]; done)), H', ⟨by have := HK1.out; omega⟩, ⟨by (try simp only [hl6_1]); (with_reducible repeat (first | apply Kd.R_alloc | apply Kd.R_drewN | apply Kd.R_drew)); exact ad.out⟩, ⟨by repeat (first | (with_reducible first | exact HB.out | apply below_alloc | apply pw_below_drewN | apply below_drew1) | exact HB.out)⟩⟩
      ·
       rw [if_neg aP] at H
       exact absurd H (by simp)
     ·
      rw [if_neg aO] at H
      exact absurd H (by simp)
    ·
     rw [if_neg aD] at H
     have ao : decide (aa < (ac.length : Int)) = false := decide_eq_false aD
     clear aD
     (try (have ak := ao; simp only [hl6_1] at ak))
     obtain ⟨av, a6, H⟩ := bs H
     replace H : (some (av, 0)) = some (r1, r2) := H
     simp only [Option.some.injEq, Prod.mk.injEq] at H
     obtain ⟨rfl, rfl⟩ := H
     go_wp2_with (first | ((with_reducible refine gate_callee (f := 179) rfl ?_); refine goesL_ (some 48) rfl rfl Try.func179 (by kernel_rfl) rfl #[.slice aS ab.length aH] rfl lu ?_; (with_reducible refine (nat_short.calls k1 (fun k_ => some k_ = (.slice aS ab.length aH : Value).ownBlock) _ _ ab av _ ?side1 a6.out).mono ?_); (case side1 => exact Kd.R_V (Kd.R_tight rfl (ad.out))); rintro e a7 ⟨a1, rfl, aG, hb⟩; refine ⟨_, rfl, ?_⟩; have aB := am (Kd.V_lower (Kd.V_mono (ok' := fun k_ => (w.heap.size ≤ k_)) aG (fun k_ hk_ => Or.elim hk_ (fun hs_ => ((ad.out).1 k_ hs_.symm)) (fun hn_ => (Nat.le_trans (below_size (bu HB.out)) hn_)))) (below_size (bu HB.out))); replace ad := am (Kd.R_below (by (with_reducible repeat (first | apply Kd.R_alloc | apply Kd.R_drewN | apply Kd.R_drew)); exact ad.out) hb); replace HB := be HB hb; (try clear hb); (try clear aG)))
     go_ret2
     exact ⟨_, by first | rfl | (simp [errW_none, errW_some] <;> rfl) | (simp [*, errW_none, errW_some] <;> rfl), by (with_reducible repeat (first | apply Kd.V_alloc | apply Kd.V_drewN | apply Kd.V_drew)); exact aB.out, by repeat (first | (with_reducible first | exact HB.out | apply below_alloc | apply pw_below_drewN | apply below_drew1) | exact HB.out)⟩
end Go.Proofs.Ytecfdemglbfnoaa.PT
end
