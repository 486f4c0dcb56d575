/- Walks and plain facts for the law RationalForms, several texts in one: each theorem says what it shows; no condition beyond those that it names. -/
import Derived.Test.YtecfdemglbfnoaaProg
import Derived.Test.YtecfdemglbfnoaaMRationalFormsF
section
namespace Go.Proofs.Ytecfdemglbfnoaa.PT
open Go.RowKit Go.Proofs.YtecfdemglbfnoaaW.PrintWords Go.Proofs.YtecfdemglbfnoaaW.PrintLast Go.Proofs.YtecfdemglbfnoaaW.PrintMore
attribute [local go_sem] max2_int min2_int max_two min_two max_three min_three max_four min_four   -- for this text's walks alone
set_option linter.unusedVariables false
set_option linter.unusedSimpArgs false
/-- The window of n limbs of u at j goes through a step; the row behind it. -/
def stepat (k : Nat) (u : List Int) (j : Int) (v : List Int) (n : Int) : Option (Int × List Int) :=
  if 0 ≤ j ∧ n = v.length ∧ j.toNat + v.length + 1 ≤ u.length ∧ u.length ≤ 70368744177664 then (nat_step.f k ((u.drop j.toNat).take (v.length + 1)) v).bind fun r => some (r.1, sp u j.toNat r.2) else none
theorem stepat_parts {k : Nat} {u v u2 : List Int} {j n q : Int} (h : stepat k u j v n = some (q, u2)) :
    0 ≤ j ∧ n = v.length ∧ j.toNat + v.length + 1 ≤ u.length ∧ u.length ≤ 70368744177664 ∧ ∃ xs, nat_step.f k ((u.drop j.toNat).take (v.length + 1)) v = some (q, xs) ∧ u2 = sp u j.toNat xs := by
  unfold stepat at h
  split at h
  case isTrue c =>
    obtain ⟨r, hr, e⟩ := Option.bind_eq_some_iff.mp h
    obtain ⟨a, b⟩ := r
    injection e with e; injection e with e1 e2
    subst e1
    exact ⟨c.1, c.2.1, c.2.2.1, c.2.2.2, b, hr, e2.symm⟩
  case isFalse => exact absurd h (by simp)
theorem sp_self (u : List Int) (j n : Nat) (h : j + n ≤ u.length) : sp u j ((u.drop j).take n) = u := by
  have hl : ((u.drop j).take n).length = n := by rw [List.length_take, List.length_drop]; omega
  rw [sp, hl, ← List.drop_drop, List.append_assoc, List.take_append_drop, List.take_append_drop]
theorem win_len (u : List Int) (j n : Nat) (h : j + n ≤ u.length) : ((u.drop j).take n).length = n := by rw [List.length_take, List.length_drop]; omega
theorem Wn_of {w : World} {base g cap j n : Nat} {ok : Nat → Prop} {u : List Int} (h : Kd.R (Kd.int .u32) 48 w base ok (.slice (some ⟨g, 0, none⟩) u.length cap) u) (hl : j + n ≤ u.length) :
    Wn g j u.length cap ((u.drop j).take n).length u w base ok ((u.drop j).take n) :=
  ⟨rfl, by rw [win_len u j n hl]; exact hl, by rw [sp_self u j n hl]; exact h⟩
/-- The window's slice, as the machine makes it. -/
theorem cut_win {u v : List Int} {j js jt : Int} {g c : Nat} (h0 : 0 ≤ j) (hle : j.toNat + v.length + 1 ≤ u.length) (hb : u.length ≤ 70368744177664) (hc : u.length ≤ c) (e1 : wrap64 (j + (v.length : Int)) = js) (e2 : wrap64 (js + 1) = jt) :
    ∀ W : World, (Instr.slice 42 (.slice (some ⟨g, 0, none⟩) u.length c) (some (.int .i64 j)) (some (.int .i64 jt)) none).run Try.prog W = .ok (.slice (some ⟨g, j.toNat, none⟩) ((u.drop j.toNat).take (v.length + 1)).length (c - j.toNat)) W := by
  obtain ⟨J, rfl⟩ := Int.eq_ofNat_of_zero_le h0
  rw [Int.toNat_natCast] at hle ⊢
  have a1 : js = ((J + v.length : Nat) : Int) := by rw [← e1]; unfold wrap64; omega
  have a2 : jt = ((J + v.length + 1 : Nat) : Int) := by rw [← e2, a1]; unfold wrap64; omega
  subst a2
  obtain ⟨i0, hi0, _, hsz, _⟩ := info_parts info48
  have := cut_mid (P := Try.prog) 42 48 .i64 .i64 Try.underlying42 hi0 1 hsz (some ⟨g, 0, none⟩) u.length c (J : Int) ((J + v.length + 1 : Nat) : Int) (by omega) (by omega) (by omega) hc
  intro W
  have e := this W
  rw [Int.toNat_natCast, Int.toNat_natCast, if_neg (by omega)] at e
  rw [e, win_len u J (v.length + 1) (by omega)]
  have hA : (some (⟨g, 0, none⟩ : Addr)).map (·.add (J * 1)) = some ⟨g, J, none⟩ := by rw [Option.map_some, add_off, Nat.zero_add, Nat.mul_one]
  rw [hA, show J + v.length + 1 - J = v.length + 1 from by omega]
mutual
def nat_longw.l0 : Nat → List Int → Int → List Int → List Int → Int → Int → Option (List Int × List Int)
  | 0, _, _, _, _, _, _ => none
  | k + 1, x4, x6, x7, x8, x9, x10 => if x10 ≥ 0 then ((stepat k x8 x10 x7 x9).bind fun bt151 => (if 0 ≤ x10 then (if x10 < (x4.length : Int) then (nat_longw.l0 k (x4.set (x10 : Int).toNat bt151.1) x6 x7 bt151.2 x9 (wrap64 (x10 - 1))) else (none)) else (none))) else (if 0 ≤ x9 then (if (x9 : Int).toNat ≤ 70368744177664 then ((some (List.replicate (x9 : Int).toNat 0 : List Int)).bind fun y154 => (nat_longw.l1 k x4 y154 x6 x8 (y154.length : Int) 0)) else (none)) else (none))
def nat_longw.l1 : Nat → List Int → List Int → Int → List Int → Int → Int → Option (List Int × List Int)
  | 0, _, _, _, _, _, _ => none
  | k + 1, x4, x5, x6, x8, x57, x58 => if x58 < x57 then (if 0 ≤ x58 then (if x58 < (x8.length : Int) then (if 0 ≤ (wrap64 (x58 + 1)) then (if (wrap64 (x58 + 1)) < (x8.length : Int) then (if 0 ≤ x6 then (if x58 < (x5.length : Int) then (nat_longw.l1 k x4 (x5.set (x58 : Int).toNat ((shr .u64 (Go.bits .or .u64 (IntKind.u64.wrap (rd x8 x58)) (IntKind.u64.wrap ((IntKind.u64.wrap (rd x8 (wrap64 (x58 + 1)))) * 4294967296))) x6) % 4294967296)) x6 x8 x57 (wrap64 (x58 + 1))) else (none)) else (none)) else (none)) else (none)) else (none)) else (none)) else (some (x4, x5))
end
def nat_longw.f (k : Nat) (l0 : List Int) (l1 : List Int) : Option (List Int × List Int) := if 0 ≤ (wrap64 ((l1.length : Int) - 1)) then (if (wrap64 ((l1.length : Int) - 1)) < (l1.length : Int) then ((bits_LeadingZeros32.f (rd l1 (wrap64 ((l1.length : Int) - 1)))).bind fun t138 => ((nat_shift.f k l1 t138).bind fun t139 => ((nat_short.f k t139).bind fun t142 => ((nat_shift.f k l0 t138).bind fun t145 => (if 0 ≤ (wrap64 ((t145.length : Int) - (t142.length : Int))) then (if (wrap64 ((t145.length : Int) - (t142.length : Int)) : Int).toNat ≤ 70368744177664 then (nat_longw.l0 k (List.replicate (wrap64 ((t145.length : Int) - (t142.length : Int)) : Int).toNat 0) t138 t142 t145 (t142.length : Int) (wrap64 ((wrap64 ((t145.length : Int) - (t142.length : Int))) - 1))) else (none)) else (none)))))) else (none)) else (none)
def nat_longw.T14 : Bool × List (List Nat × List Nat) := (true, [([], []), ([], []), ([], []), ([], []), ([2, 3], [2, 3]), ([4], [4]), ([5], [5]), ([], []), ([], []), ([8], [8]), ([7, 9], [7, 9]), ([10], [10]), ([11], [11]), ([12], [12]), ([6, 13], [6, 13]), ([], []), ([14, 15], [14, 15]), ([16], [16]), ([0, 1, 0, 1, 2, 3, 4, 5, 6, 7, 8, 9, 10, 11, 12, 13, 14, 15, 16, 17], [0, 1]), ([18, 17, 0, 1, 2, 3, 4, 5, 6, 7, 8, 9, 10, 11, 12, 13, 14, 15, 16, 17], [17, 18])])
def nat_longw.B14 : List Nat := [0, 0, 0, 0, 12, 28, 60, 0, 0, 256, 896, 1920, 3968, 8064, 16380, 0, 65532, 131068, 262143, 524287]
theorem nat_longw.tab14 : rtab .any (opsOf Try.f187 14) = nat_longw.T14 := by kernel_rfl
theorem nat_longw.bits14 : waitsOk nat_longw.T14.2 nat_longw.B14 = true := by kernel_rfl
set_option maxHeartbeats 8000000 in
set_option maxRecDepth 100000 in
theorem nat_longw.calls (k : Nat) (A0 : Option Addr) (c0 : Nat) (l0 : List Int) (A1 : Option Addr) (c1 : Nat) (l1 : List Int) (r1 : List Int) (r2 : List Int) (w : World) (hr0 : Kd.C (Kd.int .u32) w A0 l0.length l0) (hc0 : l0.length ≤ c0) (hr1 : Kd.C (Kd.int .u32) w A1 l1.length l1) (hc1 : l1.length ≤ c1) (h : nat_longw.f k l0 l1 = some (r1, r2)) :
    Calls Try.prog 187 #[.slice A0 l0.length c0, .slice A1 l1.length c1] w fun e w' => ∃ v0_ v1_ : Value, e = .returned (.tuple #[v0_, v1_]) ∧ Kd.R (Kd.int .u32) 48 w' w.heap.size (fun k_ => some k_ ≠ (v1_ : Value).ownBlock) v0_ r1 ∧ Kd.R (Kd.int .u32) 48 w' w.heap.size (fun k_ => some k_ ≠ (v0_ : Value).ownBlock) v1_ r2 ∧ Below w.heap.size w w' := by
  have HR0 := Aside0.mk hr0
  have HC0 := Aside0.mk hc0
  clear hr0 hc0
  have HR1 := Aside0.mk hr1
  have HC1 := Aside0.mk hc1
  clear hr1 hc1
  have HB := Aside0.mk (Below.refl w.heap.size w)
  have H : (if 0 ≤ (wrap64 ((l1.length : Int) - 1)) then (if (wrap64 ((l1.length : Int) - 1)) < (l1.length : Int) then ((bits_LeadingZeros32.f (rd l1 (wrap64 ((l1.length : Int) - 1)))).bind fun t138 => ((nat_shift.f k l1 t138).bind fun t139 => ((nat_short.f k t139).bind fun t142 => ((nat_shift.f k l0 t138).bind fun t145 => (if 0 ≤ (wrap64 ((t145.length : Int) - (t142.length : Int))) then (if (wrap64 ((t145.length : Int) - (t142.length : Int)) : Int).toNat ≤ 70368744177664 then (nat_longw.l0 k (List.replicate (wrap64 ((t145.length : Int) - (t142.length : Int)) : Int).toNat 0) t138 t142 t145 (t142.length : Int) (wrap64 ((wrap64 ((t145.length : Int) - (t142.length : Int))) - 1))) else (none)) else (none)))))) else (none)) else (none)) = some (r1, r2) := h
  clear h
  obtain ⟨ji3, hji3⟩ : ∃ j_ : Int, (wrap64 ((l1.length : Int) - 1)) = j_ := ⟨_, rfl⟩
  replace H : (if 0 ≤ (ji3) then (if (ji3) < (l1.length : Int) then ((bits_LeadingZeros32.f (rd l1 (ji3))).bind fun t138 => ((nat_shift.f k l1 t138).bind fun t139 => ((nat_short.f k t139).bind fun t142 => ((nat_shift.f k l0 t138).bind fun t145 => (if 0 ≤ (wrap64 ((t145.length : Int) - (t142.length : Int))) then (if (wrap64 ((t145.length : Int) - (t142.length : Int)) : Int).toNat ≤ 70368744177664 then (nat_longw.l0 k (List.replicate (wrap64 ((t145.length : Int) - (t142.length : Int)) : Int).toNat 0) t138 t142 t145 (t142.length : Int) (wrap64 ((wrap64 ((t145.length : Int) - (t142.length : Int))) - 1))) else (none)) else (none)))))) else (none)) else (none)) = some (r1, r2) := by first | (rw [hji3] at H; exact H) | (simp only [hji3] at H ⊢; exact H)
  have hji3w : (IntKind.i64.wrap ((l1.length : Int) - 1)) = ji3 := (i64_w _).trans hji3
  by_cases c4 : 0 ≤ (ji3)
  · rw [if_pos c4] at H
    have c4b0 : decide (0 ≤ (ji3)) = true := decide_eq_true c4
    clear c4
    by_cases c5 : (ji3) < (l1.length : Int)
    · rw [if_pos c5] at H
      have c5b0 : decide ((ji3) < (l1.length : Int)) = true := decide_eq_true c5
      clear c5
      replace H := Option.bind_eq_some_iff.mp H
      obtain ⟨t138, A60, H⟩ := H
      replace H : ((nat_shift.f k l1 t138).bind fun t139 => ((nat_short.f k t139).bind fun t142 => ((nat_shift.f k l0 t138).bind fun t145 => (if 0 ≤ (wrap64 ((t145.length : Int) - (t142.length : Int))) then (if (wrap64 ((t145.length : Int) - (t142.length : Int)) : Int).toNat ≤ 70368744177664 then (nat_longw.l0 k (List.replicate (wrap64 ((t145.length : Int) - (t142.length : Int)) : Int).toNat 0) t138 t142 t145 (t142.length : Int) (wrap64 ((wrap64 ((t145.length : Int) - (t142.length : Int))) - 1))) else (none)) else (none))))) = some (r1, r2) := H
      have A6 := Aside0.mk A60
      clear A60
      replace H := Option.bind_eq_some_iff.mp H
      obtain ⟨t139, A70, H⟩ := H
      replace H : ((nat_short.f k t139).bind fun t142 => ((nat_shift.f k l0 t138).bind fun t145 => (if 0 ≤ (wrap64 ((t145.length : Int) - (t142.length : Int))) then (if (wrap64 ((t145.length : Int) - (t142.length : Int)) : Int).toNat ≤ 70368744177664 then (nat_longw.l0 k (List.replicate (wrap64 ((t145.length : Int) - (t142.length : Int)) : Int).toNat 0) t138 t142 t145 (t142.length : Int) (wrap64 ((wrap64 ((t145.length : Int) - (t142.length : Int))) - 1))) else (none)) else (none)))) = some (r1, r2) := H
      have A7 := Aside0.mk A70
      clear A70
      replace H := Option.bind_eq_some_iff.mp H
      obtain ⟨t142, A80, H⟩ := H
      replace H : ((nat_shift.f k l0 t138).bind fun t145 => (if 0 ≤ (wrap64 ((t145.length : Int) - (t142.length : Int))) then (if (wrap64 ((t145.length : Int) - (t142.length : Int)) : Int).toNat ≤ 70368744177664 then (nat_longw.l0 k (List.replicate (wrap64 ((t145.length : Int) - (t142.length : Int)) : Int).toNat 0) t138 t142 t145 (t142.length : Int) (wrap64 ((wrap64 ((t145.length : Int) - (t142.length : Int))) - 1))) else (none)) else (none))) = some (r1, r2) := H
      have A8 := Aside0.mk A80
      clear A80
      replace H := Option.bind_eq_some_iff.mp H
      obtain ⟨t145, A90, H⟩ := H
      replace H : (if 0 ≤ (wrap64 ((t145.length : Int) - (t142.length : Int))) then (if (wrap64 ((t145.length : Int) - (t142.length : Int)) : Int).toNat ≤ 70368744177664 then (nat_longw.l0 k (List.replicate (wrap64 ((t145.length : Int) - (t142.length : Int)) : Int).toNat 0) t138 t142 t145 (t142.length : Int) (wrap64 ((wrap64 ((t145.length : Int) - (t142.length : Int))) - 1))) else (none)) else (none)) = some (r1, r2) := H
      have A9 := Aside0.mk A90
      clear A90
      obtain ⟨ji10, hji10⟩ : ∃ j_ : Int, (wrap64 ((t145.length : Int) - (t142.length : Int))) = j_ := ⟨_, rfl⟩
      replace H : (if 0 ≤ (ji10) then (if (ji10 : Int).toNat ≤ 70368744177664 then (nat_longw.l0 k (List.replicate (ji10 : Int).toNat 0) t138 t142 t145 (t142.length : Int) (wrap64 ((ji10) - 1))) else (none)) else (none)) = some (r1, r2) := by first | (rw [hji10] at H; exact H) | (simp only [hji10] at H ⊢; exact H)
      (try rw [hji10] at A6)
      (try rw [hji10] at A7)
      (try rw [hji10] at A8)
      (try rw [hji10] at A9)
      have hji10w : (IntKind.i64.wrap ((t145.length : Int) - (t142.length : Int))) = ji10 := (i64_w _).trans hji10
      by_cases c11 : 0 ≤ (ji10)
      · rw [if_pos c11] at H
        have c11b0 := eq_true c11
        have c11b1 : decide (0 ≤ (ji10)) = true := decide_eq_true c11
        clear c11
        by_cases c12 : (ji10 : Int).toNat ≤ 70368744177664
        · rw [if_pos c12] at H
          have c12b0 := eq_true c12
          have c12b1 : decide ((ji10 : Int).toNat ≤ 70368744177664) = true := decide_eq_true c12
          clear c12
          obtain ⟨y148, hy148⟩ : ∃ y_ : List Int, y_ = (List.replicate (ji10 : Int).toNat 0) := ⟨_, rfl⟩
          replace H : (nat_longw.l0 k y148 t138 t142 t145 (t142.length : Int) (wrap64 ((ji10) - 1))) = some (r1, r2) := by first | (rw [hy148]; with_reducible exact H) | (have H2_ := (Option.bind_some _ _).symm.trans H; rw [hy148]; with_reducible exact H2_) | (have H2_ := (Option.bind_some _ _).symm.trans H; with_reducible exact H2_) | with_reducible exact H | (rw [hy148]; exact H) | exact H
          have Ny148 := Aside0.mk hy148
          clear hy148
          have H' := Aside0.mk H
          clear H
          have p137 : 0 ≤ ((ji3) : Int) := of_decide_eq_true (by first | (with_reducible assumption) | assumption)
          have q137 : (ji3) < (l1.length : Int) := of_decide_eq_true (by first | (with_reducible assumption) | assumption)
          obtain ⟨ad137, e137, hx137_0⟩ := Kd.at_int HR1.out (ji3) p137 q137
          cases e137
          replace p137 := eq_true p137
          replace q137 := eq_true q137
          go_enter Try.func187, Try.ntmps187
          go_wp2_with (first | ((with_reducible refine gate_callee (f := 188) rfl ?_); refine goesL_ (some 18) rfl rfl Try.func188 (by kernel_rfl) rfl #[.int .u32 (rd l1 (ji3))] rfl (by (try simp only [List.map_toArray, List.map_cons, List.map_nil]); first | done | (simp only [hji3]; rfl) | rfl | (simp only [List.length_drop, List.length_take]; rfl)) ?_; (with_reducible refine (bits_LeadingZeros32.calls (rd l1 (ji3)) t138 _ A6.out).mono ?_); rintro e w' ⟨rfl, ⟨nd, rfl⟩⟩; refine ⟨_, rfl, ?_⟩) | ((with_reducible refine gate_callee (f := 189) rfl ?_); refine goesL_ (some 21) rfl rfl Try.func189 (by kernel_rfl) rfl #[.slice (some ad137) l1.length c1, .int .i64 t138] rfl (by (try simp only [List.map_toArray, List.map_cons, List.map_nil]); first | done | rfl | (simp only [List.length_drop, List.length_take]; rfl)) ?_; (with_reducible refine (nat_shift.calls k _ _ l1 t138 t139 _ ?side1 ?side2 A7.out).mono ?_); (case side1 => repeat (first | exact HR1.out | (with_reducible refine Kd.C_alloc ?_ _) | (with_reducible refine Kd.C_drewN ?_ _) | (with_reducible refine Kd.C_drew ?_))); (case side2 => exact HC1.out); rintro e w13 ⟨v140, rfl, ho0, hb⟩; refine ⟨_, rfl, ?_⟩; have n0_ := Aside0.mk (Kd.R_lower ho0 (below_size (by repeat (first | (with_reducible first | exact HB.out | apply below_alloc | apply pw_below_drewN | apply below_drew1) | exact HB.out)))); have n1_ := Aside0.mk (below_step (by repeat (first | (with_reducible first | exact HB.out | apply below_alloc | apply pw_below_drewN | apply below_drew1) | exact HB.out)) hb); clear HB; have HO141 := n0_; have HB := n1_; clear n0_ n1_; (try clear hb); (try clear hb2); (try clear hk); (try clear hi); (try clear ho0); obtain ⟨Ao14, co14, eo14⟩ := Kd.R_slice HO141.out; subst eo14) | ((with_reducible refine gate_callee (f := 179) rfl ?_); refine goesL_ (some 22) rfl rfl Try.func179 (by kernel_rfl) rfl #[.slice Ao14 t139.length co14] rfl (by (try simp only [List.map_toArray, List.map_cons, List.map_nil]); first | done | rfl | (simp only [List.length_drop, List.length_take]; rfl)) ?_; (with_reducible refine (nat_short.calls k (fun k_ => some k_ = (.slice Ao14 t139.length co14 : Value).ownBlock) _ _ t139 t142 _ ?side1 A8.out).mono ?_); (case side1 => exact Kd.R_V (Kd.R_tight rfl (HO141.out))); rintro e w15 ⟨v143, rfl, ho0, hb⟩; refine ⟨_, rfl, ?_⟩; have n0_ := Aside0.mk (Kd.R_below (by (with_reducible repeat (first | apply Kd.R_alloc | apply Kd.R_drewN | apply Kd.R_drew)); exact HO141.out) hb); have n1_ := Aside0.mk (Kd.V_lower (Kd.V_mono (ok' := fun k_ => True) ho0 (fun k_ hk_ => trivial)) (below_size (by repeat (first | (with_reducible first | exact HB.out | apply below_alloc | apply pw_below_drewN | apply below_drew1) | exact HB.out)))); have n2_ := Aside0.mk (below_step (by repeat (first | (with_reducible first | exact HB.out | apply below_alloc | apply pw_below_drewN | apply below_drew1) | exact HB.out)) hb); clear HO141; clear HB; have HO141 := n0_; have HO144 := n1_; have HB := n2_; clear n0_ n1_ n2_; (try clear hb); (try clear hb2); (try clear hk); (try clear hi); (try clear ho0)) | ((with_reducible refine gate_callee (f := 189) rfl ?_); refine goesL_ (some 25) rfl rfl Try.func189 (by kernel_rfl) rfl #[.slice A0 l0.length c0, .int .i64 t138] rfl (by (try simp only [List.map_toArray, List.map_cons, List.map_nil]); first | done | rfl | (simp only [List.length_drop, List.length_take]; rfl)) ?_; (with_reducible refine (nat_shift.calls k _ _ l0 t138 t145 _ ?side1 ?side2 A9.out).mono ?_); (case side1 => repeat (first | exact (Kd.C_below HR0.out HB.out) | (with_reducible refine Kd.C_alloc ?_ _) | (with_reducible refine Kd.C_drewN ?_ _) | (with_reducible refine Kd.C_drew ?_))); (case side2 => exact HC0.out); rintro e w16 ⟨v146, rfl, ho0, hb⟩; refine ⟨_, rfl, ?_⟩; have n0_ := Aside0.mk (Kd.R_elder' (by (with_reducible repeat (first | apply Kd.R_alloc | apply Kd.R_drewN | apply Kd.R_drew)); exact HO141.out) (Kd.R_base ho0) hb); have n1_ := Aside0.mk (Kd.V_elder' (by (with_reducible repeat (first | apply Kd.V_alloc | apply Kd.V_drewN | apply Kd.V_drew)); exact HO144.out) (Kd.R_base ho0) hb); have n2_ := Aside0.mk (Kd.R_lower (Kd.R_new' ho0 (Kd.R_lt (by (with_reducible repeat (first | apply Kd.R_alloc | apply Kd.R_drewN | apply Kd.R_drew)); exact HO141.out))) (below_size (by repeat (first | (with_reducible first | exact HB.out | apply below_alloc | apply pw_below_drewN | apply below_drew1) | exact HB.out)))); have n3_ := Aside0.mk (below_step (by repeat (first | (with_reducible first | exact HB.out | apply below_alloc | apply pw_below_drewN | apply below_drew1) | exact HB.out)) hb); clear HO141; clear HO144; clear HB; have HO141 := n0_; have HO144 := n1_; have HO147 := n2_; have HB := n3_; clear n0_ n1_ n2_ n3_; (try clear hb); (try clear hb2); (try clear hk); (try clear hi); (try clear ho0); obtain ⟨Ao17, co17, eo17⟩ := Kd.V_slice HO144.out; subst eo17; obtain ⟨Ao18, co18, eo18⟩ := Kd.R_slice HO147.out; subst eo18) | ((with_reducible refine gate_dst (N := 32) rfl ?_); refine Kd.R_make (Kd.int .u32) _ 48 rfl (N := 32) rfl 42 _ _ rfl ji10 rfl rfl Try.underlying42 (.int .u32 0) 4 info48 rfl (by decide) (by omega) 0 (ok := fun _ => True) (okp := fun _ => True) rfl (fun _ hk => hk) trivial (of_decide_eq_true (by first | (with_reducible assumption) | assumption)) (Nat.le_trans (Nat.mul_le_mul_right _ (of_decide_eq_true (by first | (with_reducible assumption) | assumption) : ji10.toNat ≤ 70368744177664)) (by omega)) (Below.refl _ _) (Nat.le_refl _) ?_; intro v149 w19 ho20 hb hg_ hnew_; clear hg_ hnew_; (first | rw [← Ny148.out] at ho20 | (simp only [Int.reduceToNat] at ho20; rw [← Ny148.out] at ho20)); have n0_ := Aside0.mk (Kd.R_elder' (by (with_reducible repeat (first | apply Kd.R_alloc | apply Kd.R_drewN | apply Kd.R_drew)); exact HO141.out) (Kd.R_base ho20) hb); have n1_ := Aside0.mk (Kd.V_elder' (by (with_reducible repeat (first | apply Kd.V_alloc | apply Kd.V_drewN | apply Kd.V_drew)); exact HO144.out) (Kd.R_base ho20) hb); have n2_ := Aside0.mk (Kd.R_elder' (by (with_reducible repeat (first | apply Kd.R_alloc | apply Kd.R_drewN | apply Kd.R_drew)); exact HO147.out) (Kd.R_base ho20) hb); have n3_ := Aside0.mk (Kd.R_lower (Kd.R_new' (Kd.R_new' ho20 (Kd.R_lt (by (with_reducible repeat (first | apply Kd.R_alloc | apply Kd.R_drewN | apply Kd.R_drew)); exact HO141.out))) (Kd.R_lt (by (with_reducible repeat (first | apply Kd.R_alloc | apply Kd.R_drewN | apply Kd.R_drew)); exact HO147.out))) (below_size (by repeat (first | (with_reducible first | exact HB.out | apply below_alloc | apply pw_below_drewN | apply below_drew1) | exact HB.out)))); have n4_ := Aside0.mk (below_step (by repeat (first | (with_reducible first | exact HB.out | apply below_alloc | apply pw_below_drewN | apply below_drew1) | exact HB.out)) hb); clear HO141; clear HO144; clear HO147; clear HB; have HO141 := n0_; have HO144 := n1_; have HO147 := n2_; have HO150 := n3_; have HB := n4_; clear n0_ n1_ n2_ n3_ n4_; clear hb ho20))
          go_loopg [10] k (fun kq v10 w' => ∃ (x4_1 : List Int) (x7_1 : List Int) (x8_1 : List Int) (x10_1 : Int), v10 = .int .i64 x10_1 ∧ Aside0 (nat_longw.l0 kq x4_1 t138 x7_1 x8_1 (t142.length : Int) x10_1 = some (r1, r2)) ∧ Aside0 (kq ≤ k) ∧ Aside0 (Kd.R (Kd.int .u32) 48 w' w.heap.size (fun k_ => some k_ ≠ ((.slice Ao18 t145.length co18) : Value).ownBlock) v149 x4_1) ∧ Aside0 (Kd.V (Kd.int .u32) 48 w' w.heap.size (fun k_ => some k_ ≠ (v149 : Value).ownBlock ∧ some k_ ≠ ((.slice Ao18 t145.length co18) : Value).ownBlock) (.slice Ao17 t142.length co17) x7_1) ∧ Aside0 (Kd.R (Kd.int .u32) 48 w' w.heap.size (fun k_ => some k_ ≠ (v149 : Value).ownBlock) (.slice Ao18 t145.length co18) x8_1) ∧ Aside0 (Below w.heap.size w w'))
          case atStart => exact ⟨(y148), (t142), (t145), (wrap64 ((ji10) - 1)), (by first | rfl | (simp; done) | (simp only [← hji10] <;> (first | rfl | simp)) | (simp [*]; done)), H', ⟨Nat.le_refl _⟩, ⟨by (with_reducible repeat (first | apply Kd.R_alloc | apply Kd.R_drewN | apply Kd.R_drew)); exact Kd.R_mono HO150.out (fun _ hk => hk.2)⟩, ⟨by (with_reducible repeat (first | apply Kd.V_alloc | apply Kd.V_drewN | apply Kd.V_drew)); exact Kd.V_mono HO144.out (fun _ hk => ⟨hk.2, hk.1.2⟩)⟩, ⟨by (with_reducible repeat (first | apply Kd.R_alloc | apply Kd.R_drewN | apply Kd.R_drew)); exact Kd.R_mono HO147.out (fun _ hk => hk.2)⟩, ⟨by repeat (first | (with_reducible first | exact HB.out | apply below_alloc | apply pw_below_drewN | apply below_drew1) | exact HB.out)⟩⟩
          case round =>
            clear H'
            try clear c1
            try clear p1
            try clear q1
            try clear hx1
            try clear p2
            try clear c4
            try clear c4b0
            try clear c5
            try clear c5b0
            try clear p6
            try clear c11
            try clear c11b0
            try clear c11b1
            try clear c12
            try clear c12b0
            try clear c12b1
            try clear p13
            try clear q13
            try clear hx13
            try clear c17
            try clear c18
            try clear hx137_0
            try clear p137
            try clear q137
            obtain ⟨x4_1, x7_1, x8_1, x10_1, rfl, HA, HK1, HO_4, HO_7, HO_8, HB⟩ := hrel
            have hl7_1 := (Kd.V_reads' HO_7.out).1
            rw [hl7_1] at HO_7
            (try simp only [hl7_1])
            (try simp only [hl7_1] at HO_4)
            (try simp only [hl7_1] at HO_8)
            have hl8_1 := (Kd.R_reads' HO_8.out).1
            rw [hl8_1] at HO_8
            (try simp only [hl8_1])
            (try simp only [hl8_1] at HO_4)
            (try simp only [hl8_1] at HO_7)
            cases gk with
            | zero => exact absurd HA.out (by simp [nat_longw.l0])
            | succ k1 =>
              have H := HA.out
              clear HA
              simp only [nat_longw.l0] at H
              by_cases c21 : x10_1 ≥ 0
              · rw [if_pos c21] at H
                have c21b0 : decide (0 ≤ x10_1) = true := decide_eq_true c21
                clear c21
                replace H := Option.bind_eq_some_iff.mp H
                obtain ⟨⟨t151, t152⟩, A220, H⟩ := H
                replace H : (if 0 ≤ x10_1 then (if x10_1 < (x4_1.length : Int) then (nat_longw.l0 k1 (x4_1.set (x10_1 : Int).toNat t151) t138 x7_1 t152 (t142.length : Int) (wrap64 (x10_1 - 1))) else (none)) else (none)) = some (r1, r2) := H
                have A22 := Aside0.mk A220
                clear A220
                by_cases c23 : 0 ≤ x10_1
                · rw [if_pos c23] at H
                  have c23b0 : decide (0 ≤ x10_1) = true := decide_eq_true c23
                  clear c23
                  by_cases c24 : x10_1 < (x4_1.length : Int)
                  · rw [if_pos c24] at H
                    have c24b0 : decide (x10_1 < (x4_1.length : Int)) = true := decide_eq_true c24
                    clear c24
                    (try (have c24b0h := c24b0; simp only [hl7_1, hl8_1] at c24b0h))
                    obtain ⟨y153, hy153⟩ : ∃ y_ : List Int, y_ = (x4_1.set (x10_1 : Int).toNat t151) := ⟨_, rfl⟩
                    replace H : (nat_longw.l0 k1 y153 t138 x7_1 t152 (t142.length : Int) (wrap64 (x10_1 - 1))) = some (r1, r2) := by first | (rw [hy153]; with_reducible exact H) | (have H2_ := (Option.bind_some _ _).symm.trans H; rw [hy153]; with_reducible exact H2_) | (have H2_ := (Option.bind_some _ _).symm.trans H; with_reducible exact H2_) | with_reducible exact H | (rw [hy153]; exact H) | exact H
                    have Ny153 := Aside0.mk hy153
                    clear hy153
                    have H' := Aside0.mk H
                    clear H
                    obtain ⟨hj18, hn18, hle18_, hbig18, xs18, hst18_, hsp18_⟩ := stepat_parts A22.out
                    obtain ⟨xw18, hxw18_⟩ : ∃ l_ : List Int, l_ = (x8_1.drop (x10_1 : Int).toNat).take (x7_1.length + 1) := ⟨_, rfl⟩
                    rw [← hxw18_] at hst18_
                    have hst18 := Aside0.mk hst18_
                    have hsp18 := Aside0.mk hsp18_
                    have hroom18 : x8_1.length ≤ co18 := (Kd.R_reads' HO_8.out).2.1
                    obtain ⟨gz18, cz18, ez18, gb18, gl18, cl18, HG18⟩ := Kd.R_form HO_8.out (by omega)
                    (first | cases ez18 | (injection ez18 with ea_ en_ ec_; (first | subst ea_ | (injection ea_ with ea_; subst ea_)); subst ec_; clear en_))
                    clear gb18 gl18 cl18 HG18 hst18_ hsp18_
                    have hle18 := Aside0.mk (show (x10_1 : Int).toNat + (x7_1.length + 1) ≤ x8_1.length from by omega)
                    have hlc18 := Aside0.mk (show xw18.length ≤ co18 - (x10_1 : Int).toNat from by rw [hxw18_, win_len _ _ _ hle18.out]; omega)
                    obtain ⟨js18, hjs18⟩ : ∃ j_ : Int, wrap64 (x10_1 + (x7_1.length : Int)) = j_ := ⟨_, rfl⟩
                    have hjs18w : (IntKind.i64.wrap (x10_1 + (x7_1.length : Int))) = js18 := (i64_w _).trans hjs18
                    obtain ⟨jt18, hjt18⟩ : ∃ j_ : Int, wrap64 (js18 + 1) = j_ := ⟨_, rfl⟩
                    have hjt18w : (IntKind.i64.wrap (js18 + 1)) = jt18 := (i64_w _).trans hjt18
                    have hcut18 := cut_win (g := gz18) (c := co18) hj18 hle18_ hbig18 hroom18 hjs18 hjt18
                    rw [← hxw18_] at hcut18
                    have hxw18 := Aside0.mk hxw18_
                    clear hxw18_ hle18_ hbig18 hroom18
                    go_wp2_with (first | ((with_reducible refine gate_callee (f := 190) rfl ?_); refine goesL_ (some 52) rfl rfl Try.func190 (by kernel_rfl) rfl #[.slice (some ⟨gz18, (x10_1 : Int).toNat, none⟩) xw18.length (co18 - (x10_1 : Int).toNat), .slice Ao17 x7_1.length co17] rfl (by (try simp only [List.map_toArray, List.map_cons, List.map_nil]); first | done | rfl | (simp only [List.length_drop, List.length_take]; rfl)) ?_; (with_reducible refine (nat_step.calls k1 (fun k_ => some k_ = (.slice (some ⟨gz18, 0, none⟩) x8_1.length co18 : Value).ownBlock) gz18 (x10_1 : Int).toNat x8_1.length co18 (co18 - (x10_1 : Int).toNat) x8_1 xw18 _ _ x7_1 t151 xs18 w _ ?side1 ?side2 ?sideC ?side3 ?side4 hst18.out).mono ?_); (case side1 => repeat (first | (with_reducible first | exact HB.out | apply below_alloc | apply pw_below_drewN | apply below_drew1) | exact HB.out)); (case side2 => rw [hxw18.out]; exact Wn_of (Kd.R_tight rfl HO_8.out) hle18.out); (case sideC => exact hlc18.out); (case side3 => exact Kd.C_kept_ownV (HO_7.out) (fun k_ hk_ hs_ => (hk_.2) hs_)); (case side4 => exact (Kd.V_reads' HO_7.out).2.1); rintro e w26 ⟨rfl, hy0, hb, hkp⟩; refine ⟨_, rfl, ?_⟩; replace hy0 := hy0.2.2; rw [← hsp18.out] at hy0; have n0_ := Aside0.mk (Kd.R_mono (ok' := fun k_ => some k_ ≠ (.slice (some ⟨gz18, 0, none⟩) x8_1.length co18 : Value).ownBlock) (Kd.R_keptB (HO_4.out) hkp (fun k_ hk_ hs_ => (hk_) hs_)) (fun k_ hk_ => hk_.1)); have n1_ := Aside0.mk (Kd.V_mono (ok' := fun k_ => some k_ ≠ (v149 : Value).ownBlock ∧ some k_ ≠ (.slice (some ⟨gz18, 0, none⟩) x8_1.length co18 : Value).ownBlock) (Kd.V_keptB (HO_7.out) hkp (fun k_ hk_ hs_ => (hk_.2) hs_)) (fun k_ hk_ => ⟨hk_.1.1, hk_.1.2⟩)); have n2_ := Aside0.mk (Kd.R_reok rfl hy0 (fun k_ e_ => HO_8.out.1 k_ e_)); have n3_ := Aside0.mk (hb); clear HO_4; clear HO_7; clear HO_8; clear HB; have HO_4 := n0_; have HO_7 := n1_; have HO_8 := n2_; have HB := n3_; clear n0_ n1_ n2_ n3_; (try clear hb); (try clear hkp); (try clear hy0); have p25 : 0 ≤ (x10_1 : Int) := of_decide_eq_true (by first | (with_reducible assumption) | assumption); have q25 : (x10_1 : Int) < ((x4_1.length : Int) : Int) := of_decide_eq_true (by first | (with_reducible assumption) | assumption); obtain ⟨go25, co25, eo25, gb25, gl25, cl25, HG25⟩ := Kd.R_form HO_4.out (by omega); (first | cases eo25 | (injection eo25 with ea_ en_ ec_; (first | subst ea_ | (injection ea_ with ea_; subst ea_)); subst ec_; clear en_)); have GB25 := Aside0.mk gb25; have GG25 := Aside0.mk HG25; clear gb25 gl25 HG25; obtain ⟨hx25_0, hf25_0⟩ := Kd.R_celln 0 HO_4.out (x10_1 : Int) p25 q25; replace p25 := eq_true p25; replace q25 := eq_true q25; obtain ⟨hy27_, hz27_⟩ := Kd.R_celln 0 HO_4.out (x10_1 : Int) (of_decide_eq_true (by first | (with_reducible assumption) | assumption)) (of_decide_eq_true (by first | (with_reducible assumption) | assumption)); have HP27 := Kd.R_putg HO_4.out (x10_1 : Int) t151) | ((with_reducible refine gate_store (t := 48) (p := 53) rfl ?_); refine store_event (t := 48) (p := 53) (v := ?vo_w28) (w1 := (w26.setCell ⟨go25, (x10_1 : Int).toNat, none⟩ (.int .u32 t151))) ?hg ?ho ?hn ?hr ?_; (case ho => rfl); (case hg => rfl); (case hn => rfl); (case hr => first | (go_simp; done) | (go_simp; rfl)); intro w28 hw; have hg : w26.grownBy w28 (some go25) := (by rw [hw]; exact HP27.2); have hp_ : Kd.R (Kd.int .u32) 48 w28 w.heap.size (fun k_ => some k_ ≠ (.slice (some ⟨gz18, 0, none⟩) x8_1.length co18 : Value).ownBlock) (.slice (some ⟨go25, 0, none⟩) x4_1.length co25) y153 := (by rw [hw, Ny153.out]; exact HP27.1); clear HP27; have n0_ := Aside0.mk (hp_); have n1_ := Aside0.mk (Kd.V_afterv (v := (.slice (some ⟨go25, 0, none⟩) x4_1.length co25)) (v1 := (.slice (some ⟨go25, 0, none⟩) x4_1.length co25)) (ok := (fun k_ => some k_ ≠ (.slice (some ⟨gz18, 0, none⟩) x8_1.length co18 : Value).ownBlock)) (by (with_reducible repeat (first | apply Kd.V_alloc | apply Kd.V_drewN | apply Kd.V_drew)); exact Kd.V_mono HO_7.out (fun _ hk => ⟨hk.2, hk.1⟩)) hg (.inl rfl)); have n2_ := Aside0.mk (Kd.R_after (v := (.slice (some ⟨go25, 0, none⟩) x4_1.length co25)) (v1 := (.slice (some ⟨go25, 0, none⟩) x4_1.length co25)) (ok := (fun _ => True)) (by (with_reducible repeat (first | apply Kd.R_alloc | apply Kd.R_drewN | apply Kd.R_drew)); exact Kd.R_mono HO_8.out (fun _ hk => ⟨trivial, hk⟩)) hg (.inl rfl)); have n3_ := Aside0.mk ((by rw [hw]; exact below_set (HB.out) GB25.out : Below w.heap.size w w28)); clear HO_4; clear HO_7; clear HO_8; clear HB; have HO_4 := n0_; have HO_7 := n1_; have HO_8 := n2_; have HB := n3_; clear n0_ n1_ n2_ n3_; clear hg hw hp_))
                    (try simp only [← hl7_1, ← hl8_1])
                    go_roundg k1
                    case measure => have := HK1.out; omega
                    case rel => exact ⟨(y153), (x7_1), (t152), (wrap64 (x10_1 - 1)), (by first | rfl | (simp; done) | (simp [*]; done)), H', ⟨by have := HK1.out; omega⟩, ⟨by (try simp only [hl7_1]); (try simp only [hl8_1]); (with_reducible repeat (first | apply Kd.R_alloc | apply Kd.R_drewN | apply Kd.R_drew)); exact HO_4.out⟩, ⟨by (try simp only [hl7_1]); (try simp only [hl8_1]); (with_reducible repeat (first | apply Kd.V_alloc | apply Kd.V_drewN | apply Kd.V_drew)); exact Kd.V_mono HO_7.out (fun _ hk => ⟨hk.2, hk.1⟩)⟩, ⟨by (try simp only [hl7_1]); (try simp only [hl8_1]); (with_reducible repeat (first | apply Kd.R_alloc | apply Kd.R_drewN | apply Kd.R_drew)); exact Kd.R_mono HO_8.out (fun _ hk => hk.2)⟩, ⟨by repeat (first | (with_reducible first | exact HB.out | apply below_alloc | apply pw_below_drewN | apply below_drew1) | exact HB.out)⟩⟩
                  · rw [if_neg c24] at H
                    exact absurd H (by simp)
                · rw [if_neg c23] at H
                  exact absurd H (by simp)
              · rw [if_neg c21] at H
                have c21b0 : decide (0 ≤ x10_1) = false := decide_eq_false c21
                clear c21
                by_cases c29 : 0 ≤ (t142.length : Int)
                · rw [if_pos c29] at H
                  have c29b0 := eq_true c29
                  have c29b1 : decide (0 ≤ (t142.length : Int)) = true := decide_eq_true c29
                  clear c29
                  (try (have c29b0h := c29b0; simp only [hl7_1, hl8_1] at c29b0h))
                  (try (have c29b1h := c29b1; simp only [hl7_1, hl8_1] at c29b1h))
                  by_cases c30 : ((t142.length : Int) : Int).toNat ≤ 70368744177664
                  · rw [if_pos c30] at H
                    have c30b0 := eq_true c30
                    have c30b1 : decide (((t142.length : Int) : Int).toNat ≤ 70368744177664) = true := decide_eq_true c30
                    clear c30
                    (try (have c30b0h := c30b0; simp only [hl7_1, hl8_1] at c30b0h))
                    (try (have c30b1h := c30b1; simp only [hl7_1, hl8_1] at c30b1h))
                    obtain ⟨y154, hy154⟩ : ∃ y_ : List Int, y_ = (List.replicate ((t142.length : Int) : Int).toNat 0) := ⟨_, rfl⟩
                    replace H : (nat_longw.l1 k1 x4_1 y154 t138 x8_1 (y154.length : Int) 0) = some (r1, r2) := by first | (rw [hy154]; with_reducible exact H) | (have H2_ := (Option.bind_some _ _).symm.trans H; rw [hy154]; with_reducible exact H2_) | (have H2_ := (Option.bind_some _ _).symm.trans H; with_reducible exact H2_) | with_reducible exact H | (rw [hy154]; exact H) | exact H
                    have Ny154 := Aside0.mk hy154
                    clear hy154
                    have H' := Aside0.mk H
                    clear H
                    go_wp2_with (first | ((with_reducible refine gate_dst (N := 55) rfl ?_); refine Kd.R_make (Kd.int .u32) _ 48 rfl (N := 55) rfl 42 _ _ rfl (x7_1.length : Int) rfl rfl Try.underlying42 (.int .u32 0) 4 info48 rfl (by decide) (by omega) 0 (ok := fun _ => True) (okp := fun _ => True) rfl (fun _ hk => hk) trivial (of_decide_eq_true (by first | (with_reducible assumption) | assumption)) (Nat.le_trans (Nat.mul_le_mul_right _ (of_decide_eq_true (by first | (with_reducible assumption) | assumption) : (x7_1.length : Int).toNat ≤ 70368744177664)) (by omega)) (Below.refl _ _) (Nat.le_refl _) ?_; intro v155 w31 ho32 hb hg_ hnew_; clear hg_ hnew_; rw [← hl7_1] at ho32; (first | rw [← Ny154.out] at ho32 | (simp only [Int.reduceToNat] at ho32; rw [← Ny154.out] at ho32)); have n0_ := Aside0.mk (Kd.R_elder' (by (with_reducible repeat (first | apply Kd.R_alloc | apply Kd.R_drewN | apply Kd.R_drew)); exact HO_4.out) (Kd.R_base ho32) hb); have n1_ := Aside0.mk (Kd.V_elder' (by (with_reducible repeat (first | apply Kd.V_alloc | apply Kd.V_drewN | apply Kd.V_drew)); exact HO_7.out) (Kd.R_base ho32) hb); have n2_ := Aside0.mk (Kd.R_elder' (by (with_reducible repeat (first | apply Kd.R_alloc | apply Kd.R_drewN | apply Kd.R_drew)); exact HO_8.out) (Kd.R_base ho32) hb); have n3_ := Aside0.mk (Kd.R_lower (Kd.R_new' (Kd.R_new' ho32 (Kd.R_lt (by (with_reducible repeat (first | apply Kd.R_alloc | apply Kd.R_drewN | apply Kd.R_drew)); exact HO_4.out))) (Kd.R_lt (by (with_reducible repeat (first | apply Kd.R_alloc | apply Kd.R_drewN | apply Kd.R_drew)); exact HO_8.out))) (below_size (by repeat (first | (with_reducible first | exact HB.out | apply below_alloc | apply pw_below_drewN | apply below_drew1) | exact HB.out)))); have n4_ := Aside0.mk (below_step (by repeat (first | (with_reducible first | exact HB.out | apply below_alloc | apply pw_below_drewN | apply below_drew1) | exact HB.out)) hb); clear HO_4; clear HO_7; clear HO_8; clear HB; have HO_4 := n0_; have HO_7 := n1_; have HO_8 := n2_; have HO156 := n3_; have HB := n4_; clear n0_ n1_ n2_ n3_ n4_; clear hb ho32; obtain ⟨Ao33, co33, eo33⟩ := Kd.R_slice HO156.out; subst eo33))
                    go_loopg [58] k1 (fun kq v58 w' => ∃ (x5_2 : List Int) (x58_2 : Int), v58 = .int .i64 x58_2 ∧ Aside0 (nat_longw.l1 kq x4_1 x5_2 t138 x8_1 (y154.length : Int) x58_2 = some (r1, r2)) ∧ Aside0 (kq ≤ k1) ∧ Aside0 (Kd.R (Kd.int .u32) 48 w' w.heap.size (fun k_ => some k_ ≠ ((.slice Ao33 y154.length co33) : Value).ownBlock ∧ some k_ ≠ ((.slice Ao18 x8_1.length co18) : Value).ownBlock) v149 x4_1) ∧ Aside0 (Kd.R (Kd.int .u32) 48 w' w.heap.size (fun k_ => some k_ ≠ (v149 : Value).ownBlock ∧ some k_ ≠ ((.slice Ao18 x8_1.length co18) : Value).ownBlock) (.slice Ao33 y154.length co33) x5_2) ∧ Aside0 (Kd.R (Kd.int .u32) 48 w' w.heap.size (fun k_ => some k_ ≠ (v149 : Value).ownBlock ∧ some k_ ≠ ((.slice Ao33 y154.length co33) : Value).ownBlock) (.slice Ao18 x8_1.length co18) x8_1) ∧ Aside0 (Below w.heap.size w w'))
                    case atStart => exact ⟨(y154), (0), (by first | rfl | (simp; done) | (simp [*]; done)), H', ⟨Nat.le_refl _⟩, ⟨by (try simp only [hl7_1]); (try simp only [hl8_1]); (with_reducible repeat (first | apply Kd.R_alloc | apply Kd.R_drewN | apply Kd.R_drew)); exact Kd.R_mono HO_4.out (fun _ hk => ⟨hk.2, hk.1⟩)⟩, ⟨by (try simp only [hl7_1]); (try simp only [hl8_1]); (with_reducible repeat (first | apply Kd.R_alloc | apply Kd.R_drewN | apply Kd.R_drew)); exact Kd.R_mono HO156.out (fun _ hk => ⟨hk.1.2, hk.2⟩)⟩, ⟨by (try simp only [hl7_1]); (try simp only [hl8_1]); (with_reducible repeat (first | apply Kd.R_alloc | apply Kd.R_drewN | apply Kd.R_drew)); exact HO_8.out⟩, ⟨by repeat (first | (with_reducible first | exact HB.out | apply below_alloc | apply pw_below_drewN | apply below_drew1) | exact HB.out)⟩⟩
                    case round =>
                      clear H'
                      try clear c1
                      try clear p1
                      try clear q1
                      try clear hx1
                      try clear c2
                      try clear p2
                      try clear q2
                      try clear hx2
                      try clear hf2
                      try clear c3
                      try clear c4
                      try clear c4b0
                      try clear c5
                      try clear c5b0
                      try clear p6
                      try clear c11
                      try clear c11b0
                      try clear c11b1
                      try clear c12
                      try clear c12b0
                      try clear c12b1
                      try clear p13
                      try clear q13
                      try clear hx13
                      try clear c17
                      try clear c18
                      try clear c19
                      try clear c21
                      try clear c21b0
                      try clear c23
                      try clear c23b0
                      try clear c24
                      try clear c24b0
                      try clear p25
                      try clear q25
                      try clear hx25
                      try clear hf25
                      try clear c29
                      try clear c29b0
                      try clear c29b1
                      try clear c30
                      try clear c30b0
                      try clear c30b1
                      try clear hx137_0
                      try clear hx25_0
                      try clear p1
                      try clear p13
                      try clear p137
                      try clear p2
                      try clear p25
                      try clear p6
                      try clear q1
                      try clear q13
                      try clear q137
                      try clear q25
                      obtain ⟨x5_2, x58_2, rfl, HA, HK2, HO_4, HO_5, HO_8, HB⟩ := hrel
                      have hl5_2 := (Kd.R_reads' HO_5.out).1
                      rw [hl5_2] at HO_5
                      (try simp only [hl5_2])
                      (try simp only [hl5_2] at HO_4)
                      (try simp only [hl5_2] at HO_8)
                      cases gk with
                      | zero => exact absurd HA.out (by simp [nat_longw.l1])
                      | succ k2 =>
                        have H := HA.out
                        clear HA
                        simp only [nat_longw.l1] at H
                        by_cases c34 : x58_2 < (y154.length : Int)
                        · rw [if_pos c34] at H
                          have c34b0 : decide (x58_2 < (y154.length : Int)) = true := decide_eq_true c34
                          clear c34
                          (try (have c34b0h := c34b0; simp only [hl7_1, hl8_1, hl5_2] at c34b0h))
                          by_cases c35 : 0 ≤ x58_2
                          · rw [if_pos c35] at H
                            have c35b0 : decide (0 ≤ x58_2) = true := decide_eq_true c35
                            clear c35
                            by_cases c36 : x58_2 < (x8_1.length : Int)
                            · rw [if_pos c36] at H
                              have c36b0 : decide (x58_2 < (x8_1.length : Int)) = true := decide_eq_true c36
                              clear c36
                              (try (have c36b0h := c36b0; simp only [hl7_1, hl8_1, hl5_2] at c36b0h))
                              obtain ⟨ji37, hji37⟩ : ∃ j_ : Int, (wrap64 (x58_2 + 1)) = j_ := ⟨_, rfl⟩
                              replace H : (if 0 ≤ (ji37) then (if (ji37) < (x8_1.length : Int) then (if 0 ≤ t138 then (if x58_2 < (x5_2.length : Int) then (nat_longw.l1 k2 x4_1 (x5_2.set (x58_2 : Int).toNat ((shr .u64 (Go.bits .or .u64 (IntKind.u64.wrap (rd x8_1 x58_2)) (IntKind.u64.wrap ((IntKind.u64.wrap (rd x8_1 (ji37))) * 4294967296))) t138) % 4294967296)) t138 x8_1 (y154.length : Int) ji37) else (none)) else (none)) else (none)) else (none)) = some (r1, r2) := by first | (rw [hji37] at H; exact H) | (simp only [hji37] at H ⊢; exact H)
                              have hji37w : (IntKind.i64.wrap (x58_2 + 1)) = ji37 := (i64_w _).trans hji37
                              by_cases c38 : 0 ≤ (ji37)
                              · rw [if_pos c38] at H
                                have c38b0 : decide (0 ≤ (ji37)) = true := decide_eq_true c38
                                clear c38
                                by_cases c39 : (ji37) < (x8_1.length : Int)
                                · rw [if_pos c39] at H
                                  have c39b0 : decide ((ji37) < (x8_1.length : Int)) = true := decide_eq_true c39
                                  clear c39
                                  (try (have c39b0h := c39b0; simp only [hl7_1, hl8_1, hl5_2] at c39b0h))
                                  by_cases c40 : 0 ≤ t138
                                  · rw [if_pos c40] at H
                                    have c40b0 := eq_true c40
                                    have c40b1 : decide (0 ≤ t138) = true := decide_eq_true c40
                                    clear c40
                                    obtain ⟨ji41, hji41⟩ : ∃ j_ : Int, (shr .u64 (Go.bits .or .u64 (IntKind.u64.wrap (rd x8_1 x58_2)) (IntKind.u64.wrap ((IntKind.u64.wrap (rd x8_1 (ji37))) * 4294967296))) t138) = j_ := ⟨_, rfl⟩
                                    replace H : (if x58_2 < (x5_2.length : Int) then (nat_longw.l1 k2 x4_1 (x5_2.set (x58_2 : Int).toNat ((ji41) % 4294967296)) t138 x8_1 (y154.length : Int) ji37) else (none)) = some (r1, r2) := by first | (rw [hji41] at H; exact H) | (simp only [hji41] at H ⊢; exact H)
                                    have hji41_ : ((Go.bits .or .u64 (IntKind.u64.wrap (rd x8_1 x58_2)) (IntKind.u64.wrap ((IntKind.u64.wrap (rd x8_1 (ji37))) * 4294967296))) / 2 ^ min t138.toNat 64) = ji41 := hji41
                                    have hji41z : t138 ≤ 64 → ((Go.bits .or .u64 (IntKind.u64.wrap (rd x8_1 x58_2)) (IntKind.u64.wrap ((IntKind.u64.wrap (rd x8_1 (ji37))) * 4294967296))) / 2 ^ t138.toNat) = ji41 := shr_small hji41
                                    by_cases c42 : x58_2 < (x5_2.length : Int)
                                    · rw [if_pos c42] at H
                                      have c42b0 : decide (x58_2 < (x5_2.length : Int)) = true := decide_eq_true c42
                                      clear c42
                                      (try (have c42b0h := c42b0; simp only [hl7_1, hl8_1, hl5_2] at c42b0h))
                                      obtain ⟨y159, hy159⟩ : ∃ y_ : List Int, y_ = (x5_2.set (x58_2 : Int).toNat ((ji41) % 4294967296)) := ⟨_, rfl⟩
                                      replace H : (nat_longw.l1 k2 x4_1 y159 t138 x8_1 (y154.length : Int) ji37) = some (r1, r2) := by first | (rw [hy159]; with_reducible exact H) | (have H2_ := (Option.bind_some _ _).symm.trans H; rw [hy159]; with_reducible exact H2_) | (have H2_ := (Option.bind_some _ _).symm.trans H; with_reducible exact H2_) | with_reducible exact H | (rw [hy159]; exact H) | exact H
                                      have Ny159 := Aside0.mk hy159
                                      clear hy159
                                      have H' := Aside0.mk H
                                      clear H
                                      try go_wp2
                                      have n0_ := Aside0.mk (Kd.R_drew HO_4.out)
                                      have n1_ := Aside0.mk (Kd.R_drew HO_5.out)
                                      have n2_ := Aside0.mk (Kd.R_drew HO_8.out)
                                      have n3_ := Aside0.mk (below_drew1 HB.out)
                                      clear HO_4
                                      clear HO_5
                                      clear HO_8
                                      clear HB
                                      have HO_4 := n0_
                                      have HO_5 := n1_
                                      have HO_8 := n2_
                                      have HB := n3_
                                      clear n0_ n1_ n2_ n3_
                                      have p157 : 0 ≤ (x58_2 : Int) := of_decide_eq_true (by first | (with_reducible assumption) | assumption)
                                      have q157 : x58_2 < (x8_1.length : Int) := of_decide_eq_true (by first | (with_reducible assumption) | assumption)
                                      obtain ⟨ad157, e157, hx157_0⟩ := Kd.at_int (Kd.R_reads' HO_8.out).2.2 x58_2 p157 q157
                                      cases e157
                                      replace p157 := eq_true p157
                                      replace q157 := eq_true q157
                                      have p158 : 0 ≤ ((ji37) : Int) := of_decide_eq_true (by first | (with_reducible assumption) | assumption)
                                      have q158 : (ji37) < (x8_1.length : Int) := of_decide_eq_true (by first | (with_reducible assumption) | assumption)
                                      obtain ⟨ad158, e158, hx158_0⟩ := Kd.at_int (Kd.R_reads' HO_8.out).2.2 (ji37) p158 q158
                                      obtain rfl : ad157 = ad158 := (by injection e158)
                                      replace p158 := eq_true p158
                                      replace q158 := eq_true q158
                                      have p43 : 0 ≤ (x58_2 : Int) := of_decide_eq_true (by first | (with_reducible assumption) | assumption)
                                      have q43 : (x58_2 : Int) < ((x5_2.length : Int) : Int) := of_decide_eq_true (by first | (with_reducible assumption) | assumption)
                                      obtain ⟨go43, co43, eo43, gb43, gl43, cl43, HG43⟩ := Kd.R_form HO_5.out (by omega)
                                      (first | cases eo43 | (injection eo43 with ea_ en_ ec_; (first | subst ea_ | (injection ea_ with ea_; subst ea_)); subst ec_; clear en_))
                                      have GB43 := Aside0.mk gb43
                                      have GG43 := Aside0.mk HG43
                                      clear gb43 gl43 HG43
                                      obtain ⟨hx43_0, hf43_0⟩ := Kd.R_celln 0 HO_5.out (x58_2 : Int) p43 q43
                                      replace p43 := eq_true p43
                                      replace q43 := eq_true q43
                                      have HP45 := Kd.R_putn HO_5.out (x58_2 : Int) ((ji41) % 4294967296)
                                      rw [← Ny159.out] at HP45
                                      have HQ45 := Aside0.mk HP45
                                      clear HP45
                                      refine start_ (n := 20) (S := fun w' => w'.cell? (ad157.add (x58_2).toNat) = some (.int .u32 (rd x8_1 x58_2)) ∧ w'.cell? (ad157.add ((ji37)).toNat) = some (.int .u32 (rd x8_1 (ji37)))) (ds := [19]) #[false, false, false, false, false, false, false, false, false, false, false, false, false, false, false, false, false, false, false, false] (by kernel_rfl) rfl rfl ⟨hx157_0, hx158_0⟩ (fun hHeld => ?_); refine with_tabW nat_longw.tab14 nat_longw.bits14 (fun HT_ HW_ => ?_)
                                      generalize wr.drew = w44 at HO_4 HO_5 HO_8 HB GG43 HQ45 hf43_0 hx157_0 hx158_0 hx43_0 hHeld ⊢
                                      refine pure_ (i := 0) (N := some 61) (v := ?_) (a' := ?_) #[true, false, false, false, false, false, false, false, false, false, false, false, false, false, false, false, false, false, false, false] rfl rfl (any_of HT_.out (by kernel_rfl)) (fun _ _ _ h => h) (Or.inl ⟨by rfl, ?_⟩) ?_ ?_
                                      rotate_left
                                      · intro w'
                                        go_simp
                                        with_reducible rfl
                                      rotate_left
                                      · simp only [Act.put, List.setIfInBounds_toArray, List.set_cons_zero, List.set_cons_succ, i64_w, i32_w]
                                        rfl
                                      refine pure_ (i := 1) (N := some 62) (v := ?_) (a' := ?_) #[true, true, false, false, false, false, false, false, false, false, false, false, false, false, false, false, false, false, false, false] rfl rfl (any_of HT_.out (by kernel_rfl)) (fun _ _ _ h => h) (Or.inl ⟨by rfl, ?_⟩) ?_ ?_
                                      rotate_left
                                      · intro w'
                                        go_simp
                                        with_reducible rfl
                                      rotate_left
                                      · simp only [Act.put, List.setIfInBounds_toArray, List.set_cons_zero, List.set_cons_succ, i64_w, i32_w]
                                        rfl
                                      refine pure_ (i := 2) (N := some 63) (v := ?_) (a' := ?_) #[true, true, true, false, false, false, false, false, false, false, false, false, false, false, false, false, false, false, false, false] rfl rfl (any_of HT_.out (by kernel_rfl)) (fun _ _ _ h => h) (Or.inl ⟨by rfl, ?_⟩) ?_ ?_
                                      rotate_left
                                      · intro w'
                                        go_simp
                                        with_reducible rfl
                                      rotate_left
                                      · simp only [Act.put, List.setIfInBounds_toArray, List.set_cons_zero, List.set_cons_succ, i64_w, i32_w]
                                        rfl
                                      refine pure_ (i := 3) (N := some 64) (v := ?_) (a' := ?_) #[true, true, true, true, false, false, false, false, false, false, false, false, false, false, false, false, false, false, false, false] rfl rfl (any_of HT_.out (by kernel_rfl)) (fun _ _ _ h => h) (Or.inl ⟨by rfl, ?_⟩) ?_ ?_
                                      rotate_left
                                      · intro w'
                                        go_simp
                                        with_reducible rfl
                                      rotate_left
                                      · simp only [Act.put, List.setIfInBounds_toArray, List.set_cons_zero, List.set_cons_succ, i64_w, i32_w]
                                        rfl
                                      refine pure_ (i := 4) (N := some 65) (v := ?_) (a' := ?_) #[true, true, true, true, true, false, false, false, false, false, false, false, false, false, false, false, false, false, false, false] rfl rfl (any_of HT_.out (by kernel_rfl)) (fun _ _ _ h => h) (Or.inl ⟨by rfl, ?_⟩) ?_ ?_
                                      rotate_left
                                      · intro w'
                                        go_simp
                                        with_reducible rfl
                                      rotate_left
                                      · simp only [Act.put, List.setIfInBounds_toArray, List.set_cons_zero, List.set_cons_succ, i64_w, i32_w]
                                        rfl
                                      refine pure_ (i := 7) (N := some 68) (v := ?_) (a' := ?_) #[true, true, true, true, true, false, false, true, false, false, false, false, false, false, false, false, false, false, false, false] rfl rfl (any_of HT_.out (by kernel_rfl)) (fun _ _ _ h => h) (Or.inl ⟨by rfl, ?_⟩) ?_ ?_
                                      rotate_left
                                      · intro w'
                                        go_simp
                                        with_reducible rfl
                                      rotate_left
                                      · simp only [Act.put, List.setIfInBounds_toArray, List.set_cons_zero, List.set_cons_succ, i64_w, i32_w]
                                        rfl
                                      refine pure_ (i := 8) (N := some 69) (v := ?_) (a' := ?_) #[true, true, true, true, true, false, false, true, true, false, false, false, false, false, false, false, false, false, false, false] rfl rfl (any_of HT_.out (by kernel_rfl)) (fun _ _ _ h => h) (Or.inl ⟨by rfl, ?_⟩) ?_ ?_
                                      rotate_left
                                      · intro w'
                                        go_simp
                                        with_reducible rfl
                                      rotate_left
                                      · simp only [Act.put, List.setIfInBounds_toArray, List.set_cons_zero, List.set_cons_succ, i64_w, i32_w]
                                        rfl
                                      refine pure_ (i := 9) (N := some 70) (v := ?_) (a' := ?_) #[true, true, true, true, true, false, false, true, true, true, false, false, false, false, false, false, false, false, false, false] rfl rfl (any_of HT_.out (by kernel_rfl)) (fun _ _ _ h => h) (Or.inl ⟨by rfl, ?_⟩) ?_ ?_
                                      rotate_left
                                      · intro w'
                                        go_simp
                                        with_reducible rfl
                                      rotate_left
                                      · simp only [Act.put, List.setIfInBounds_toArray, List.set_cons_zero, List.set_cons_succ, i64_w, i32_w]
                                        rfl
                                      refine pure_ (i := 10) (N := some 71) (v := ?_) (a' := ?_) #[true, true, true, true, true, false, false, true, true, true, true, false, false, false, false, false, false, false, false, false] rfl rfl (any_of HT_.out (by kernel_rfl)) (fun _ _ _ h => h) (Or.inl ⟨by rfl, ?_⟩) ?_ ?_
                                      rotate_left
                                      · intro w'
                                        go_simp
                                        with_reducible rfl
                                      rotate_left
                                      · simp only [Act.put, List.setIfInBounds_toArray, List.set_cons_zero, List.set_cons_succ, i64_w, i32_w]
                                        rfl
                                      refine pure_ (i := 15) (N := some 76) (v := ?_) (a' := ?_) #[true, true, true, true, true, false, false, true, true, true, true, false, false, false, false, true, false, false, false, false] rfl rfl (any_of HT_.out (by kernel_rfl)) (fun _ _ _ h => h) (Or.inl ⟨by rfl, ?_⟩) ?_ ?_
                                      rotate_left
                                      · intro w'
                                        go_simp
                                        with_reducible rfl
                                      rotate_left
                                      · simp only [Act.put, List.setIfInBounds_toArray, List.set_cons_zero, List.set_cons_succ, i64_w, i32_w]
                                        rfl
                                      refine take_ (i := 5) (N := some 66) (v := ?_) (a' := ?_) #[true, true, true, true, true, true, false, true, true, true, true, false, false, false, false, true, false, false, false, false] rfl rfl (take_ofW HT_.out HW_.out (by kernel_rfl)) (fun _ _ _ h => h) (Or.inl ⟨by rfl, ?_⟩) hHeld ?_ ?_
                                      rotate_left
                                      · rintro w' ⟨s0, s1⟩
                                        go_simp
                                        with_reducible rfl
                                      rotate_left
                                      · simp only [Act.put, List.setIfInBounds_toArray, List.set_cons_zero, List.set_cons_succ, i64_w, i32_w]
                                        rfl
                                      refine pure_ (i := 6) (N := some 67) (v := ?_) (a' := ?_) #[true, true, true, true, true, true, true, true, true, true, true, false, false, false, false, true, false, false, false, false] rfl rfl (any_of HT_.out (by kernel_rfl)) (fun _ _ _ h => h) (Or.inl ⟨by rfl, ?_⟩) ?_ ?_
                                      rotate_left
                                      · intro w'
                                        go_simp
                                        with_reducible rfl
                                      rotate_left
                                      · simp only [Act.put, List.setIfInBounds_toArray, List.set_cons_zero, List.set_cons_succ, i64_w, i32_w]
                                        rfl
                                      refine take_ (i := 11) (N := some 72) (v := ?_) (a' := ?_) #[true, true, true, true, true, true, true, true, true, true, true, true, false, false, false, true, false, false, false, false] rfl rfl (take_ofW HT_.out HW_.out (by kernel_rfl)) (fun _ _ _ h => h) (Or.inl ⟨by rfl, ?_⟩) hHeld ?_ ?_
                                      rotate_left
                                      · rintro w' ⟨s0, s1⟩
                                        go_simp
                                        with_reducible rfl
                                      rotate_left
                                      · simp only [Act.put, List.setIfInBounds_toArray, List.set_cons_zero, List.set_cons_succ, i64_w, i32_w]
                                        rfl
                                      refine pure_ (i := 12) (N := some 73) (v := ?_) (a' := ?_) #[true, true, true, true, true, true, true, true, true, true, true, true, true, false, false, true, false, false, false, false] rfl rfl (any_of HT_.out (by kernel_rfl)) (fun _ _ _ h => h) (Or.inl ⟨by rfl, ?_⟩) ?_ ?_
                                      rotate_left
                                      · intro w'
                                        go_simp
                                        with_reducible rfl
                                      rotate_left
                                      · simp only [Act.put, List.setIfInBounds_toArray, List.set_cons_zero, List.set_cons_succ, i64_w, i32_w]
                                        rfl
                                      refine pure_ (i := 13) (N := some 74) (v := ?_) (a' := ?_) #[true, true, true, true, true, true, true, true, true, true, true, true, true, true, false, true, false, false, false, false] rfl rfl (any_of HT_.out (by kernel_rfl)) (fun _ _ _ h => h) (Or.inl ⟨by rfl, ?_⟩) ?_ ?_
                                      rotate_left
                                      · intro w'
                                        go_simp
                                        with_reducible rfl
                                      rotate_left
                                      · simp only [Act.put, List.setIfInBounds_toArray, List.set_cons_zero, List.set_cons_succ, i64_w, i32_w]
                                        rfl
                                      refine pure_ (i := 14) (N := some 75) (v := ?_) (a' := ?_) #[true, true, true, true, true, true, true, true, true, true, true, true, true, true, true, true, false, false, false, false] rfl rfl (any_of HT_.out (by kernel_rfl)) (fun _ _ _ h => h) (Or.inl ⟨by rfl, ?_⟩) ?_ ?_
                                      rotate_left
                                      · intro w'
                                        go_simp
                                        with_reducible rfl
                                      rotate_left
                                      · simp only [Act.put, List.setIfInBounds_toArray, List.set_cons_zero, List.set_cons_succ, i64_w, i32_w]
                                        rfl
                                      refine pure_ (i := 16) (N := some 77) (v := ?_) (a' := ?_) #[true, true, true, true, true, true, true, true, true, true, true, true, true, true, true, true, true, false, false, false] rfl rfl (any_of HT_.out (by kernel_rfl)) (fun _ _ _ h => h) (Or.inl ⟨by rfl, ?_⟩) ?_ ?_
                                      rotate_left
                                      · intro w'
                                        go_simp
                                        with_reducible rfl
                                      rotate_left
                                      · simp only [Act.put, List.setIfInBounds_toArray, List.set_cons_zero, List.set_cons_succ, i64_w, i32_w]
                                        rfl
                                      refine pure_ (i := 17) (N := some 78) (v := ?_) (a' := ?_) #[true, true, true, true, true, true, true, true, true, true, true, true, true, true, true, true, true, true, false, false] rfl rfl (any_of HT_.out (by kernel_rfl)) (fun _ _ _ h => h) (Or.inl ⟨by rfl, ?_⟩) ?_ ?_
                                      rotate_left
                                      · intro w'
                                        go_simp
                                        with_reducible rfl
                                      rotate_left
                                      · simp only [Act.put, List.setIfInBounds_toArray, List.set_cons_zero, List.set_cons_succ, i64_w, i32_w]
                                        rfl
                                      refine pure_ (i := 18) (N := some 79) (v := ?_) (a' := ?_) #[true, true, true, true, true, true, true, true, true, true, true, true, true, true, true, true, true, true, true, false] rfl rfl (any_of HT_.out (by kernel_rfl)) (fun _ _ _ h => h) (Or.inl ⟨by rfl, ?_⟩) ?_ ?_
                                      rotate_left
                                      · intro w'
                                        go_simp
                                        with_reducible rfl
                                      rotate_left
                                      · simp only [Act.put, List.setIfInBounds_toArray, List.set_cons_zero, List.set_cons_succ, i64_w, i32_w]
                                        rfl
                                      refine last_ (i := 19) (N := none) #[true, true, true, true, true, true, true, true, true, true, true, true, true, true, true, true, true, true, true, true] rfl rfl (one_of HT_.out (by kernel_rfl)) (by decide) (fun K hK => ?_)
                                      refine skip_ (w1 := ?_) (by rfl) rfl ?_ ?_
                                      rotate_left
                                      · go_simp
                                        rfl
                                      refine hK.out _ _ ?_
                                      clear hK K
                                      refine done_ (done_of HT_.out (by kernel_rfl)) ?_
                                      try go_wp2
                                      (try simp only [← hl5_2])
                                      go_roundg k2
                                      case measure => have := HK1.out; have := HK2.out; omega
                                      case rel => exact ⟨(y159), (ji37), (by first | rfl | (simp; done) | (simp only [← hji37] <;> (first | rfl | simp)) | (simp [*]; done)), H', ⟨by have := HK1.out; have := HK2.out; omega⟩, ⟨by (try simp only [hl7_1]); (try simp only [hl8_1]); (try simp only [hl5_2]); (with_reducible repeat (first | apply Kd.R_alloc | apply Kd.R_drewN | apply Kd.R_drew)); exact Kd.R_mono (Kd.R_far (p := ⟨go43, (x58_2 : Int).toNat, none⟩) (Kd.R_mono HO_4.out (fun k_ hk => (⟨hk, fun e_ => hk.1 (by rw [e_]; rfl)⟩ : _ ∧ k_ ≠ go43))) (fun _ hk => hk.2) (.int .u32 ((ji41) % 4294967296))) (fun _ hk => ⟨hk.1.1, hk.1.2⟩)⟩, ⟨by (try simp only [hl7_1]); (try simp only [hl8_1]); (try simp only [hl5_2]); (with_reducible repeat (first | apply Kd.R_alloc | apply Kd.R_drewN | apply Kd.R_drew)); exact HQ45.out⟩, ⟨by (try simp only [hl7_1]); (try simp only [hl8_1]); (try simp only [hl5_2]); (with_reducible repeat (first | apply Kd.R_alloc | apply Kd.R_drewN | apply Kd.R_drew)); exact Kd.R_mono (Kd.R_far (p := ⟨go43, (x58_2 : Int).toNat, none⟩) (Kd.R_mono HO_8.out (fun k_ hk => (⟨hk, fun e_ => hk.2 (by rw [e_]; rfl)⟩ : _ ∧ k_ ≠ go43))) (fun _ hk => hk.2) (.int .u32 ((ji41) % 4294967296))) (fun _ hk => ⟨hk.1.1, hk.1.2⟩)⟩, ⟨by repeat (first | (with_reducible first | exact HB.out | apply below_alloc | apply pw_below_drewN | apply below_drew1 | refine below_set ?_ GB43.out) | exact HB.out)⟩⟩
                                    · rw [if_neg c42] at H
                                      exact absurd H (by simp)
                                  · rw [if_neg c40] at H
                                    exact absurd H (by simp)
                                · rw [if_neg c39] at H
                                  exact absurd H (by simp)
                              · rw [if_neg c38] at H
                                exact absurd H (by simp)
                            · rw [if_neg c36] at H
                              exact absurd H (by simp)
                          · rw [if_neg c35] at H
                            exact absurd H (by simp)
                        · rw [if_neg c34] at H
                          have c34b0 : decide (x58_2 < (y154.length : Int)) = false := decide_eq_false c34
                          clear c34
                          (try (have c34b0h := c34b0; simp only [hl7_1, hl8_1, hl5_2] at c34b0h))
                          simp only [Option.some.injEq, Prod.mk.injEq] at H
                          obtain ⟨rfl, rfl⟩ := H
                          go_wp2
                          go_ret2
                          exact ⟨_, _, by first | rfl | (simp [errW_none, errW_some] <;> rfl) | (simp only [← hji3, ← hji10]; first | rfl | (simp [errW_none, errW_some] <;> rfl)) | (simp [*, errW_none, errW_some] <;> rfl), by (with_reducible repeat (first | apply Kd.R_alloc | apply Kd.R_drewN | apply Kd.R_drew)); exact Kd.R_mono HO_4.out (fun _ hk => hk.1), by (with_reducible repeat (first | apply Kd.R_alloc | apply Kd.R_drewN | apply Kd.R_drew)); exact Kd.R_mono HO_5.out (fun _ hk => hk.1), by repeat (first | (with_reducible first | exact HB.out | apply below_alloc | apply pw_below_drewN | apply below_drew1) | exact HB.out)⟩
                  · rw [if_neg c30] at H
                    exact absurd H (by simp)
                · rw [if_neg c29] at H
                  exact absurd H (by simp)
        · rw [if_neg c12] at H
          exact absurd H (by simp)
      · rw [if_neg c11] at H
        exact absurd H (by simp)
    · rw [if_neg c5] at H
      exact absurd H (by simp)
  · rw [if_neg c4] at H
    exact absurd H (by simp)
end Go.Proofs.Ytecfdemglbfnoaa.PT
end
section
namespace Go.Proofs.Ytecfdemglbfnoaa.Num
open Go.RowKit Go.Proofs.Ytecfdemglbfnoaa.PT Go.Proofs.YtecfdemglbfnoaaW.PrintWords Go.Proofs.YtecfdemglbfnoaaW.PrintLast Go.Proofs.YtecfdemglbfnoaaW.PrintMore
theorem mul_step {V V' Z0 p P q d bj zij c tm c' S : Nat} (h : V + p * c = Z0 + P * d * S) (hs : V' + p * zij = V + p * tm) (e : d * bj + zij + c = tm + 4294967296 * c') (hp : p = P * q) :
    V' + p * 4294967296 * c' = Z0 + P * d * (S + q * bj) := by
  have h1 : p * (d * bj + zij + c) = p * (tm + 4294967296 * c') := by rw [e]
  simp only [Nat.mul_add] at h1 ⊢
  have h2 : P * d * (q * bj) = p * (d * bj) := by rw [hp]; ac_rfl
  have h3 : p * 4294967296 * c' = p * (4294967296 * c') := by rw [Nat.mul_assoc]
  omega
/-- The value of one step's sum. -/
def tv (d bj zij c : Nat) : Nat := d * bj + zij + c
theorem tv_lt {d bj zij c : Nat} (hd : d < 4294967296) (hb : bj < 4294967296) (hz : zij < 4294967296) (hc : c < 4294967296) : tv d bj zij c < 18446744073709551616 := by
  have := Nat.mul_le_mul (Nat.le_sub_one_of_lt hd) (Nat.le_sub_one_of_lt hb)
  unfold tv; omega
theorem inner {α : Type} {b : List Int} (hb : U b) (L i d : Nat) (hd : d < 4294967296) (hL : i + b.length < L) (F : Nat → List Int → Nat → Nat → Option α) (R : α) (v0 : Nat)
    (hstep : ∀ k z c j, j < b.length → z.length = L → U z → c < 4294967296 →
      F (k + 1) z c j = F k (z.set (i + j) ((tv d (rd b (j : Int)).toNat (rd z ((i + j : Nat) : Int)).toNat c % 4294967296 : Nat) : Int)) (tv d (rd b (j : Int)).toNat (rd z ((i + j : Nat) : Int)).toNat c / 4294967296) (j + 1))
    (hend : ∀ z c, z.length = L → U z → c < 4294967296 → valn z + pw (i + b.length) * c = v0 + pw i * d * valn b → valn (z.drop (i + b.length)) = 0 → Ev (fun k => F k z c b.length) R) (n : Nat) :
    ∀ (j : Nat) (z : List Int) (c : Nat), j + n = b.length → z.length = L → U z → c < 4294967296 → valn z + pw (i + j) * c = v0 + pw i * d * valn (b.take j) → valn (z.drop (i + b.length)) = 0 → Ev (fun k => F k z c j) R := by
  induction n with
  | zero =>
    intro j z c hj hz uz hc hv h0
    obtain rfl : j = b.length := by omega
    rw [List.take_of_length_le (Nat.le_refl _)] at hv
    exact hend z c hz uz hc hv h0
  | succ n ih =>
    intro j z c hj hz uz hc hv h0
    have b1 := U_rd hb (j : Int)
    have b2 := U_rd uz ((i + j : Nat) : Int)
    have ht := tv_lt (d := d) (bj := (rd b (j : Int)).toNat) (zij := (rd z ((i + j : Nat) : Int)).toNat) (c := c) hd (by omega) (by omega) hc
    refine Ev.step (fun k => hstep k z c j (by omega) hz uz hc) (ih (j + 1) _ _ (by omega) (by rw [List.length_set]; exact hz) (U_set uz (by omega) _) (by omega) ?_ ?_)
    · rw [valn_take_succ, ← Nat.add_assoc, pw_succ]
      have hs := valn_set z (i + j) ((tv d (rd b (j : Int)).toNat (rd z ((i + j : Nat) : Int)).toNat c % 4294967296 : Nat) : Int) (by omega)
      rw [Int.toNat_natCast] at hs
      exact mul_step hv hs (by have e : d * (rd b (j : Int)).toNat + (rd z ((i + j : Nat) : Int)).toNat + c = tv d (rd b (j : Int)).toNat (rd z ((i + j : Nat) : Int)).toNat c := rfl
                               rw [e]; omega) (pw_add i j)
    · rw [List.drop_set_of_lt (by omega)]; exact h0
end Go.Proofs.Ytecfdemglbfnoaa.Num
end
section
namespace Go.Proofs.Ytecfdemglbfnoaa.Num
open Go.RowKit Go.Proofs.Ytecfdemglbfnoaa.PT Go.Proofs.YtecfdemglbfnoaaW.PrintWords Go.Proofs.YtecfdemglbfnoaaW.PrintLast Go.Proofs.YtecfdemglbfnoaaW.PrintMore
theorem limb_f {l : List Int} (h : U l) (i : Nat) : codewrightref01_limb.f l (i : Int) = some (rd l (i : Int)) := by
  unfold codewrightref01_limb.f
  by_cases hi : i < l.length
  · have := U_rd h (i : Int)
    rw [if_pos (by omega), if_pos (by omega), u64 (by omega) (by omega)]
  · rw [if_neg (by omega), rd_ge l i (by omega)]
theorem tmod_nat (s : Nat) : Int.tmod (s : Int) 4294967296 = ((s % 4294967296 : Nat) : Int) := rfl
theorem tdiv_nat (s : Nat) : Int.tdiv (s : Int) 4294967296 = ((s / 4294967296 : Nat) : Int) := rfl
theorem radd_l0 {a b : List Int} (ha : U a) (hb : U b) (hsa : a.length < 30000000000000) (hsb : b.length < 30000000000000) (n : Nat) : ∀ (i : Nat) (z : List Int) (c : Nat), i + n = a.length + b.length + 1 → z.length = i → U z → c ≤ 1 → (max a.length b.length < i → c = 0) → i ≤ max a.length b.length + 1 →
    valn z + pw i * c = valn (a.take i) + valn (b.take i) →
    Ev (fun k => codewrightref01_Add.l0 k a b z (c : Int) (i : Int)) (lb (valn a + valn b)) := by
  induction n with
  | zero =>
    intro i z c hi hz uz hc hc0 hm hv
    have ec : c = 0 := by
      by_cases h : max a.length b.length < i
      · exact hc0 h
      · omega
    subst ec
    rw [Nat.mul_zero, Nat.add_zero, List.take_of_length_le (by omega), List.take_of_length_le (by omega)] at hv
    have h := rTrim_f uz (by omega)
    rw [hv] at h
    refine Ev.step (f := fun k => codewrightref01_Add.j1 k a b z (0 : Nat) (i : Int) false) (fun k => ?_) ?_
    · simp only [codewrightref01_Add.l0]
      rw [if_neg (by omega), if_neg (by omega)]; rfl
    · refine Ev.step (f := fun k => (codewrightref01_Trim.f k z).bind some) (fun k => ?_) (Ev.bind h (Ev.now _))
      simp only [codewrightref01_Add.j1]
      rw [if_neg (by simp)]
  | succ n ih =>
    intro i z c hi hz uz hc hc0 hm hv
    by_cases more : i < a.length ∨ i < b.length ∨ 0 < c
    · have h0 := U_rd ha (i : Int)
      have h1 := U_rd hb (i : Int)
      obtain ⟨s, hs1⟩ : ∃ s : Nat, rd a (i : Int) + rd b (i : Int) + (c : Int) = (s : Int) := ⟨(rd a (i : Int) + rd b (i : Int) + (c : Int)).toNat, by omega⟩
      have him : i ≤ max a.length b.length := by
        rcases more with h | h | h
        · omega
        · omega
        · by_cases h' : max a.length b.length < i
          · have := hc0 h'; omega
          · omega
      have step := ih (i + 1) (z ++ [((s % 4294967296 : Nat) : Int)]) (s / 4294967296) (by omega) (by simp [hz]) (U_append uz (U_cons (by omega) U_nil)) (by omega) (by
        intro hlt
        have e : i = max a.length b.length := by omega
        have r1 := rd_ge a i (by omega)
        have r2 := rd_ge b i (by omega)
        omega) (by omega) (by
        rw [valn_append, hz, valn_cons, valn_nil, valn_take_succ a, valn_take_succ b, pw_succ, Int.toNat_natCast, Nat.mul_zero, Nat.add_zero]
        exact step_val hv (by omega))
      refine Ev.step (f := fun k => codewrightref01_Add.j1 k a b z (c : Int) (i : Int) true) (fun k => ?_) (Ev.step (fun k => ?_) step)
      · simp only [codewrightref01_Add.l0]
        by_cases p1 : i < a.length
        · rw [if_pos (by omega)]
        · rw [if_neg (by omega)]
          by_cases p2 : i < b.length
          · rw [if_pos (by omega)]
          · rw [if_neg (by omega), decide_eq_true (by omega : (c : Int) > 0)]
      · simp only [codewrightref01_Add.j1]
        rw [if_pos trivial, limb_f ha, limb_f hb, Option.bind_some, Option.bind_some, if_pos (by omega), u64 (x := rd a (i : Int) + rd b (i : Int)) (by omega) (by omega), u64 (x := rd a (i : Int) + rd b (i : Int) + (c : Int)) (by omega) (by omega), hs1, tmod_nat, tdiv_nat, u64 (x := ((s / 4294967296 : Nat) : Int)) (by omega) (by omega), up i (by omega)]
        have em : (((s % 4294967296 : Nat) : Int)) % 4294967296 = ((s % 4294967296 : Nat) : Int) := by omega
        rw [em]
    · have ec : c = 0 := by omega
      subst ec
      rw [Nat.mul_zero, Nat.add_zero, List.take_of_length_le (by omega), List.take_of_length_le (by omega)] at hv
      have h := rTrim_f uz (by omega)
      rw [hv] at h
      refine Ev.step (f := fun k => codewrightref01_Add.j1 k a b z (0 : Nat) (i : Int) false) (fun k => ?_) ?_
      · simp only [codewrightref01_Add.l0]
        rw [if_neg (by omega), if_neg (by omega)]; rfl
      · refine Ev.step (f := fun k => (codewrightref01_Trim.f k z).bind some) (fun k => ?_) (Ev.bind h (Ev.now _))
        simp only [codewrightref01_Add.j1]
        rw [if_neg (by simp)]
theorem rAdd_f {a b : List Int} (ha : U a) (hb : U b) (hsa : a.length < 30000000000000) (hsb : b.length < 30000000000000) : Ev (fun k => codewrightref01_Add.f k a b) (lb (valn a + valn b)) := by
  have h := radd_l0 ha hb (by omega) (by omega) (a.length + b.length + 1) 0 [] 0 (by omega) rfl U_nil (by omega) (by omega) (by omega) (by simp [valn_nil])
  exact h
def cmpn (m n : Nat) : Int := if m < n then -1 else if n < m then 1 else 0
theorem cmpn_self (m : Nat) : cmpn m m = 0 := by simp [cmpn]
theorem cmpn_zero {m n : Nat} : cmpn m n = 0 ↔ m = n := by unfold cmpn; omega
theorem valn_split (l : List Int) (n : Nat) : valn l = valn (l.take n) + pw n * valn (l.drop n) := by
  by_cases h : n ≤ l.length
  · exact valn_take_drop l n h
  · rw [List.take_of_length_le (by omega), List.drop_eq_nil_of_le (by omega), valn_nil]; simp
theorem take_lt {l : List Int} (h : U l) (n : Nat) : valn (l.take n) < pw n :=
  Nat.lt_of_lt_of_le (valn_lt (U_take h n)) (pw_mono (by rw [List.length_take]; omega))
theorem top_lt {a b : List Int} (ha : U a) (n : Nat) (hd : valn (a.drop (n + 1)) = valn (b.drop (n + 1))) (h : (rd a (n : Int)).toNat < (rd b (n : Int)).toNat) : valn a < valn b := by
  have h1 := take_lt ha n
  have h2 := valn_split a n
  have h3 := valn_split b n
  have h4 := valn_drop_rd a n
  have h5 := valn_drop_rd b n
  have h6 : pw n * (valn (a.drop n) + 1) ≤ pw n * valn (b.drop n) := Nat.mul_le_mul_left _ (by omega)
  rw [Nat.mul_add] at h6
  omega
theorem Cmp_l0 {a b : List Int} (ha : U a) (hb : U b) (he : a.length = b.length) (hs : a.length < 9223372036854775807) : ∀ n : Nat, n ≤ a.length → valn (a.drop n) = valn (b.drop n) →
    Ev (fun k => nat_Cmp.l0 k a b ((n : Int) - 1)) (cmpn (valn a) (valn b)) := by
  intro n
  induction n with
  | zero =>
    intro hn hd
    simp only [List.drop_zero] at hd
    rw [hd, cmpn_self]
    refine Ev.step (f := fun _ => some 0) (fun k => ?_) (Ev.now _)
    simp only [nat_Cmp.l0]
    rw [if_neg (by omega)]
  | succ n ih =>
    intro hn hd
    have e1 : ((n + 1 : Nat) : Int) - 1 = (n : Int) := by omega
    have a1 := U_rd ha (n : Int)
    have b1 := U_rd hb (n : Int)
    rw [e1]
    by_cases h1 : rd a (n : Int) < rd b (n : Int)
    · have := top_lt ha n hd (by omega)
      have ec : cmpn (valn a) (valn b) = -1 := by unfold cmpn; rw [if_pos this]
      rw [ec]
      refine Ev.step (f := fun _ => some (-1)) (fun k => ?_) (Ev.now _)
      simp only [nat_Cmp.l0]
      rw [if_pos (by omega), if_pos (by omega), if_pos (by omega), if_pos (by omega), if_pos h1]
    · by_cases h2 : rd b (n : Int) < rd a (n : Int)
      · have := top_lt hb n hd.symm (by omega)
        have ec : cmpn (valn a) (valn b) = 1 := by unfold cmpn; rw [if_neg (by omega), if_pos this]
        rw [ec]
        refine Ev.step (f := fun _ => some 1) (fun k => ?_) (Ev.now _)
        simp only [nat_Cmp.l0]
        rw [if_pos (by omega), if_pos (by omega), if_pos (by omega), if_pos (by omega), if_neg h1, if_pos (by omega)]
      · refine Ev.step (f := fun k => nat_Cmp.l0 k a b ((n : Int) - 1)) (fun k => ?_) (ih (by omega) (by have := valn_drop_rd a n; have := valn_drop_rd b n; omega))
        simp only [nat_Cmp.l0]
        rw [if_pos (by omega), if_pos (by omega), if_pos (by omega), if_pos (by omega), if_neg h1, if_neg (by omega), w64 (by omega) (by omega)]
theorem Cmp_f {a b : List Int} (ha : U a) (hb : U b) (hsa : a.length < 9223372036854775807) (hsb : b.length < 9223372036854775807) : Ev (fun k => nat_Cmp.f k a b) (cmpn (valn a) (valn b)) := by
  unfold nat_Cmp.f
  refine Ev.bind (short_f ha (by omega)) (Ev.bind (short_f hb (by omega)) ?_)
  have la := lb_len ha
  have lbb := lb_len hb
  by_cases h : (lb (valn a)).length = (lb (valn b)).length
  · have go := Cmp_l0 (U_lb (valn a)) (U_lb (valn b)) h (by omega) (lb (valn a)).length (Nat.le_refl _) (by rw [List.drop_eq_nil_of_le (Nat.le_refl _), List.drop_eq_nil_of_le (by omega)])
    rw [valn_lb, valn_lb] at go
    refine Ev.congr (fun k => ?_) go
    rw [if_pos (by omega), w64 (by omega) (by omega)]
  · by_cases h2 : (lb (valn a)).length < (lb (valn b)).length
    · have ec : cmpn (valn a) (valn b) = -1 := by unfold cmpn; rw [if_pos (len_lt_of_lt h2)]
      rw [ec]
      refine Ev.congr (f := fun _ => some (-1)) (fun k => ?_) (Ev.now _)
      rw [if_neg (by omega), if_pos (by omega)]
    · have := len_lt_of_lt (m := valn b) (n := valn a) (by omega)
      have ec : cmpn (valn a) (valn b) = 1 := by unfold cmpn; rw [if_neg (by omega), if_pos this]
      rw [ec]
      refine Ev.congr (f := fun _ => some 1) (fun k => ?_) (Ev.now _)
      rw [if_neg (by omega), if_neg (by omega)]
theorem rCmp_l0 {a b : List Int} (ha : U a) (hb : U b) : ∀ n : Nat, n < 9223372036854775807 → valn (a.drop n) = valn (b.drop n) →
    Ev (fun k => codewrightref01_Cmp.l0 k a b ((n : Int) - 1)) (cmpn (valn a) (valn b)) := by
  intro n
  induction n with
  | zero =>
    intro hn hd
    simp only [List.drop_zero] at hd
    rw [hd, cmpn_self]
    refine Ev.step (f := fun _ => some 0) (fun k => ?_) (Ev.now _)
    simp only [codewrightref01_Cmp.l0]
    rw [if_neg (by omega)]
  | succ n ih =>
    intro hn hd
    have e1 : ((n + 1 : Nat) : Int) - 1 = (n : Int) := by omega
    have a1 := U_rd ha (n : Int)
    have b1 := U_rd hb (n : Int)
    rw [e1]
    by_cases h1 : rd a (n : Int) < rd b (n : Int)
    · have := top_lt ha n hd (by omega)
      have ec : cmpn (valn a) (valn b) = -1 := by unfold cmpn; rw [if_pos this]
      rw [ec]
      refine Ev.step (f := fun _ => some (-1)) (fun k => ?_) (Ev.now _)
      simp only [codewrightref01_Cmp.l0, limb_f ha, limb_f hb, Option.bind_some]
      rw [if_pos (by omega), if_pos h1]
    · by_cases h2 : rd b (n : Int) < rd a (n : Int)
      · have := top_lt hb n hd.symm (by omega)
        have ec : cmpn (valn a) (valn b) = 1 := by unfold cmpn; rw [if_neg (by omega), if_pos this]
        rw [ec]
        refine Ev.step (f := fun _ => some 1) (fun k => ?_) (Ev.now _)
        simp only [codewrightref01_Cmp.l0, limb_f ha, limb_f hb, Option.bind_some]
        rw [if_pos (by omega), if_neg h1, if_pos (by omega)]
      · refine Ev.step (f := fun k => codewrightref01_Cmp.l0 k a b ((n : Int) - 1)) (fun k => ?_) (ih (by omega) (by have := valn_drop_rd a n; have := valn_drop_rd b n; omega))
        simp only [codewrightref01_Cmp.l0, limb_f ha, limb_f hb, Option.bind_some]
        rw [if_pos (by omega), if_neg h1, if_neg (by omega), w64 (by omega) (by omega)]
theorem rCmp_f {a b : List Int} (ha : U a) (hb : U b) (hsa : a.length < 9223372036854775807) (hsb : b.length < 9223372036854775807) : Ev (fun k => codewrightref01_Cmp.f k a b) (cmpn (valn a) (valn b)) := by
  have go := rCmp_l0 ha hb (max a.length b.length) (by omega) (by rw [List.drop_eq_nil_of_le (by omega), List.drop_eq_nil_of_le (by omega)])
  refine Ev.congr (fun k => ?_) go
  unfold codewrightref01_Cmp.f mx
  have e : (if (a.length : Int) < (b.length : Int) then (b.length : Int) else (a.length : Int)) = ((max a.length b.length : Nat) : Int) := by omega
  rw [w64 (by omega) (by omega)]
  congr 1; omega
theorem Same_l0 {a b : List Int} (he : a.length = b.length) (hs : a.length < 9223372036854775807) (n : Nat) : ∀ i : Nat, i + n = a.length → a.take i = b.take i →
    Ev (fun k => codewrightref01_Same.l0 k a b (i : Int)) (decide (a = b)) := by
  induction n with
  | zero =>
    intro i hi ht
    rw [List.take_of_length_le (by omega), List.take_of_length_le (by omega)] at ht
    rw [decide_eq_true ht]
    refine Ev.step (f := fun _ => some true) (fun k => ?_) (Ev.now _)
    simp only [codewrightref01_Same.l0]
    rw [if_neg (by omega)]
  | succ n ih =>
    intro i hi ht
    by_cases e : rd a (i : Int) = rd b (i : Int)
    · refine Ev.step (fun k => ?_) (ih (i + 1) (by omega) (by rw [take_rd a i (by omega), take_rd b i (by omega), ht, e]))
      simp only [codewrightref01_Same.l0]
      rw [if_pos (by omega), if_pos (by omega), if_pos (by omega), if_pos e, up i (by omega)]
    · have hne : a ≠ b := by rintro rfl; exact e rfl
      rw [decide_eq_false hne]
      refine Ev.step (f := fun _ => some false) (fun k => ?_) (Ev.now _)
      simp only [codewrightref01_Same.l0]
      rw [if_pos (by omega), if_pos (by omega), if_pos (by omega), if_neg e]
theorem Same_f {a b : List Int} (hs : a.length < 9223372036854775807) : Ev (fun k => codewrightref01_Same.f k a b) (decide (a = b)) := by
  unfold codewrightref01_Same.f
  by_cases h : a.length = b.length
  · exact Ev.congr (fun k => if_pos (by omega)) (Same_l0 h hs a.length 0 (by omega) rfl)
  · have hne : a ≠ b := by rintro rfl; exact h rfl
    rw [decide_eq_false hne]
    exact Ev.congr (f := fun _ => some false) (fun k => if_neg (by omega)) (Ev.now _)
end Go.Proofs.Ytecfdemglbfnoaa.Num
end
section
namespace Go.Proofs.Ytecfdemglbfnoaa.PT
open Go.RowKit Go.Proofs.YtecfdemglbfnoaaW.PrintWords Go.Proofs.YtecfdemglbfnoaaW.PrintLast Go.Proofs.YtecfdemglbfnoaaW.PrintMore
attribute [local go_sem] max2_int min2_int max_two min_two max_three min_three max_four min_four   -- for this text's walks alone
set_option linter.unusedVariables false
set_option linter.unusedSimpArgs false
def semiring_cost.f (a0 : Int) : Option (Int) := some (mn (mx a0 0) 4611686018427387904)
end Go.Proofs.Ytecfdemglbfnoaa.PT
end
section
namespace Go.Proofs.Ytecfdemglbfnoaa.PT
open Go.RowKit Go.Proofs.YtecfdemglbfnoaaW.PrintWords Go.Proofs.YtecfdemglbfnoaaW.PrintLast Go.Proofs.YtecfdemglbfnoaaW.PrintMore
attribute [local go_sem] max2_int min2_int max_two min_two max_three min_three max_four min_four   -- for this text's walks alone
set_option linter.unusedVariables false
set_option linter.unusedSimpArgs false
end Go.Proofs.Ytecfdemglbfnoaa.PT
end
section
namespace Go.Proofs.Ytecfdemglbfnoaa.PT
open Go.RowKit Go.Proofs.YtecfdemglbfnoaaW.PrintWords Go.Proofs.YtecfdemglbfnoaaW.PrintLast Go.Proofs.YtecfdemglbfnoaaW.PrintMore
attribute [local go_sem] max2_int min2_int max_two min_two max_three min_three max_four min_four   -- for this text's walks alone
set_option linter.unusedVariables false
set_option linter.unusedSimpArgs false
end Go.Proofs.Ytecfdemglbfnoaa.PT
end
section
namespace Go.Proofs.Ytecfdemglbfnoaa.PT
open Go.RowKit Go.Proofs.YtecfdemglbfnoaaW.PrintWords Go.Proofs.YtecfdemglbfnoaaW.PrintLast Go.Proofs.YtecfdemglbfnoaaW.PrintMore
attribute [local go_sem] max2_int min2_int max_two min_two max_three min_three max_four min_four   -- for this text's walks alone
set_option linter.unusedVariables false
set_option linter.unusedSimpArgs false
end Go.Proofs.Ytecfdemglbfnoaa.PT
end
section
namespace Go.Proofs.Ytecfdemglbfnoaa.PT
open Go.RowKit Go.Proofs.YtecfdemglbfnoaaW.PrintWords Go.Proofs.YtecfdemglbfnoaaW.PrintLast Go.Proofs.YtecfdemglbfnoaaW.PrintMore
attribute [local go_sem] max2_int min2_int max_two min_two max_three min_three max_four min_four   -- for this text's walks alone
set_option linter.unusedVariables false
set_option linter.unusedSimpArgs false
end Go.Proofs.Ytecfdemglbfnoaa.PT
end
section
namespace Go.Proofs.Ytecfdemglbfnoaa.PT
open Go.RowKit Go.Proofs.YtecfdemglbfnoaaW.PrintWords Go.Proofs.YtecfdemglbfnoaaW.PrintLast Go.Proofs.YtecfdemglbfnoaaW.PrintMore
attribute [local go_sem] max2_int min2_int max_two min_two max_three min_three max_four min_four   -- for this text's walks alone
set_option linter.unusedVariables false
set_option linter.unusedSimpArgs false
end Go.Proofs.Ytecfdemglbfnoaa.PT
end
section
namespace Go.Proofs.Ytecfdemglbfnoaa.PT
open Go.RowKit Go.Proofs.YtecfdemglbfnoaaW.PrintWords Go.Proofs.YtecfdemglbfnoaaW.PrintLast Go.Proofs.YtecfdemglbfnoaaW.PrintMore
attribute [local go_sem] max2_int min2_int max_two min_two max_three min_three max_four min_four   -- for this text's walks alone
set_option linter.unusedVariables false
set_option linter.unusedSimpArgs false
def semiring_MinPlus_Same.f  (a1 : Int) (a2 : Int) : Option (Bool) := (semiring_cost.f a1).bind fun t139 => ((semiring_cost.f a2).bind fun t140 => (some (t139 == t140)))
end Go.Proofs.Ytecfdemglbfnoaa.PT
end
section
namespace Go.Proofs.Ytecfdemglbfnoaa.PT
open Go.RowKit Go.Proofs.YtecfdemglbfnoaaW.PrintWords Go.Proofs.YtecfdemglbfnoaaW.PrintLast Go.Proofs.YtecfdemglbfnoaaW.PrintMore
attribute [local go_sem] max2_int min2_int max_two min_two max_three min_three max_four min_four   -- for this text's walks alone
set_option linter.unusedVariables false
set_option linter.unusedSimpArgs false
end Go.Proofs.Ytecfdemglbfnoaa.PT
end
section
namespace Go.Proofs.Ytecfdemglbfnoaa.PT
open Go.RowKit Go.Proofs.YtecfdemglbfnoaaW.PrintWords Go.Proofs.YtecfdemglbfnoaaW.PrintLast Go.Proofs.YtecfdemglbfnoaaW.PrintMore
attribute [local go_sem] max2_int min2_int max_two min_two max_three min_three max_four min_four   -- for this text's walks alone
set_option linter.unusedVariables false
set_option linter.unusedSimpArgs false
end Go.Proofs.Ytecfdemglbfnoaa.PT
end
section
namespace Go.Proofs.Ytecfdemglbfnoaa.PT
open Go.RowKit Go.Proofs.YtecfdemglbfnoaaW.PrintWords Go.Proofs.YtecfdemglbfnoaaW.PrintLast Go.Proofs.YtecfdemglbfnoaaW.PrintMore
attribute [local go_sem] max2_int min2_int max_two min_two max_three min_three max_four min_four   -- for this text's walks alone
set_option linter.unusedVariables false
set_option linter.unusedSimpArgs false
end Go.Proofs.Ytecfdemglbfnoaa.PT
end
section
namespace Go.Proofs.Ytecfdemglbfnoaa.PT
open Go.RowKit Go.Proofs.YtecfdemglbfnoaaW.PrintWords Go.Proofs.YtecfdemglbfnoaaW.PrintLast Go.Proofs.YtecfdemglbfnoaaW.PrintMore
attribute [local go_sem] max2_int min2_int max_two min_two max_three min_three max_four min_four   -- for this text's walks alone
set_option linter.unusedVariables false
set_option linter.unusedSimpArgs false
end Go.Proofs.Ytecfdemglbfnoaa.PT
end
section
namespace Go.Proofs.Ytecfdemglbfnoaa.PT
open Go.RowKit Go.Proofs.YtecfdemglbfnoaaW.PrintWords Go.Proofs.YtecfdemglbfnoaaW.PrintLast Go.Proofs.YtecfdemglbfnoaaW.PrintMore
attribute [local go_sem] max2_int min2_int max_two min_two max_three min_three max_four min_four   -- for this text's walks alone
set_option linter.unusedVariables false
set_option linter.unusedSimpArgs false
end Go.Proofs.Ytecfdemglbfnoaa.PT
end
section
namespace Go.Proofs.Ytecfdemglbfnoaa.PT
open Go.RowKit Go.Proofs.YtecfdemglbfnoaaW.PrintWords Go.Proofs.YtecfdemglbfnoaaW.PrintLast Go.Proofs.YtecfdemglbfnoaaW.PrintMore
attribute [local go_sem] max2_int min2_int max_two min_two max_three min_three max_four min_four   -- for this text's walks alone
set_option linter.unusedVariables false
set_option linter.unusedSimpArgs false
end Go.Proofs.Ytecfdemglbfnoaa.PT
end
section
namespace Go.Proofs.Ytecfdemglbfnoaa.Pure
open Go.RowKit Go.Proofs.Ytecfdemglbfnoaa.PT Go.Proofs.YtecfdemglbfnoaaW.PrintWords Go.Proofs.YtecfdemglbfnoaaW.PrintLast Go.Proofs.YtecfdemglbfnoaaW.PrintMore
def cst (a : Int) : Int := if a < 0 then 0 else if 4611686018427387904 < a then 4611686018427387904 else a
theorem cost_f (a : Int) : semiring_cost.f a = some (cst a) := by
  unfold semiring_cost.f mn mx cst; congr 1; omega
theorem Same_f (a b : Int) : semiring_MinPlus_Same.f a b = some (cst a == cst b) := by
  simp [semiring_MinPlus_Same.f, cost_f]
end Go.Proofs.Ytecfdemglbfnoaa.Pure
end
section
namespace Go.Proofs.Ytecfdemglbfnoaa.PT
open Go.RowKit Go.Proofs.YtecfdemglbfnoaaW.PrintWords Go.Proofs.YtecfdemglbfnoaaW.PrintLast Go.Proofs.YtecfdemglbfnoaaW.PrintMore
attribute [local go_sem] max2_int min2_int max_two min_two max_three min_three max_four min_four   -- for this text's walks alone
set_option linter.unusedVariables false
set_option linter.unusedSimpArgs false
end Go.Proofs.Ytecfdemglbfnoaa.PT
end
section
namespace Go.Proofs.Ytecfdemglbfnoaa.PT
open Go.RowKit Go.Proofs.YtecfdemglbfnoaaW.PrintWords Go.Proofs.YtecfdemglbfnoaaW.PrintLast Go.Proofs.YtecfdemglbfnoaaW.PrintMore
attribute [local go_sem] max2_int min2_int max_two min_two max_three min_three max_four min_four   -- for this text's walks alone
set_option linter.unusedVariables false
set_option linter.unusedSimpArgs false
end Go.Proofs.Ytecfdemglbfnoaa.PT
end
section
namespace Go.Proofs.Ytecfdemglbfnoaa.PT
open Go.RowKit Go.Proofs.YtecfdemglbfnoaaW.PrintWords Go.Proofs.YtecfdemglbfnoaaW.PrintLast Go.Proofs.YtecfdemglbfnoaaW.PrintMore
attribute [local go_sem] max2_int min2_int max_two min_two max_three min_three max_four min_four   -- for this text's walks alone
set_option linter.unusedVariables false
set_option linter.unusedSimpArgs false
end Go.Proofs.Ytecfdemglbfnoaa.PT
end
section
namespace Go.Proofs.Ytecfdemglbfnoaa.PT
open Go.RowKit Go.Proofs.YtecfdemglbfnoaaW.PrintWords Go.Proofs.YtecfdemglbfnoaaW.PrintLast Go.Proofs.YtecfdemglbfnoaaW.PrintMore
attribute [local go_sem] max2_int min2_int max_two min_two max_three min_three max_four min_four   -- for this text's walks alone
set_option linter.unusedVariables false
set_option linter.unusedSimpArgs false
end Go.Proofs.Ytecfdemglbfnoaa.PT
end
section
namespace Go.Proofs.Ytecfdemglbfnoaa.PT
open Go.RowKit Go.Proofs.YtecfdemglbfnoaaW.PrintWords Go.Proofs.YtecfdemglbfnoaaW.PrintLast Go.Proofs.YtecfdemglbfnoaaW.PrintMore
attribute [local go_sem] max2_int min2_int max_two min_two max_three min_three max_four min_four   -- for this text's walks alone
set_option linter.unusedVariables false
set_option linter.unusedSimpArgs false
end Go.Proofs.Ytecfdemglbfnoaa.PT
end
section
namespace Go.Proofs.Ytecfdemglbfnoaa.PT
open Go.RowKit Go.Proofs.YtecfdemglbfnoaaW.PrintWords Go.Proofs.YtecfdemglbfnoaaW.PrintLast Go.Proofs.YtecfdemglbfnoaaW.PrintMore
attribute [local go_sem] max2_int min2_int max_two min_two max_three min_three max_four min_four   -- for this text's walks alone
set_option linter.unusedVariables false
set_option linter.unusedSimpArgs false
end Go.Proofs.Ytecfdemglbfnoaa.PT
end
section
namespace Go.Proofs.Ytecfdemglbfnoaa.PT
open Go.RowKit Go.Proofs.YtecfdemglbfnoaaW.PrintWords Go.Proofs.YtecfdemglbfnoaaW.PrintLast Go.Proofs.YtecfdemglbfnoaaW.PrintMore
attribute [local go_sem] max2_int min2_int max_two min_two max_three min_three max_four min_four   -- for this text's walks alone
set_option linter.unusedVariables false
set_option linter.unusedSimpArgs false
end Go.Proofs.Ytecfdemglbfnoaa.PT
end
section
namespace Go.Proofs.Ytecfdemglbfnoaa.Num
open Go.RowKit Go.Proofs.Ytecfdemglbfnoaa.PT Go.Proofs.YtecfdemglbfnoaaW.PrintWords Go.Proofs.YtecfdemglbfnoaaW.PrintLast Go.Proofs.YtecfdemglbfnoaaW.PrintMore
theorem Ev_succ {α : Type} {g : Nat → Option α} {r : α} (h : Ev (fun k => g (k + 1)) r) : Ev g r := Ev.step (fun _ => rfl) h
end Go.Proofs.Ytecfdemglbfnoaa.Num
end
section
namespace Go.Proofs.Ytecfdemglbfnoaa.Num
open Go.RowKit Go.Proofs.Ytecfdemglbfnoaa.PT Go.Proofs.YtecfdemglbfnoaaW.PrintWords Go.Proofs.YtecfdemglbfnoaaW.PrintLast Go.Proofs.YtecfdemglbfnoaaW.PrintMore
theorem bits_or_comm (x y : Int) : Go.bits .or .u64 x y = Go.bits .or .u64 y x := by
  unfold Go.bits
  simp [BitVec.or_comm]
theorem padn_of_mod {z : List Int} (uz : U z) {K m : Nat} (hz : z.length = K) (h : valn z = m % pw K) : z = padn K m := by
  have h1 := padn_valn uz
  rw [hz, h] at h1
  rw [← h1]
  have e := Nat.mod_add_div m (pw K)
  conv => rhs; rw [← e]
  rw [padn_mod]
theorem stepat_f {u v : List Int} (uu : U u) (uv : U v) (h2 : 2 ≤ v.length) (hn : 2147483648 ≤ rd v ((v.length - 1 : Nat) : Int)) (hL : u.length ≤ 1000002) (j : Nat) (hj : j + v.length + 1 ≤ u.length) (hlt : valn (u.drop (j + 1)) < valn v) :
    Ev (fun k => stepat k u (j : Int) v (v.length : Int)) (((valn (u.drop j) / valn v : Nat) : Int), sp u j (padn (v.length + 1) (valn (u.drop j) % valn v))) := by
  obtain ⟨h3, h4⟩ := win_val uu uv j hj hlt
  have h5 := step_f (u := (u.drop j).take (v.length + 1)) (v := v) (U_take (U_drop uu j) _) uv (win_len u j (v.length + 1) (by omega)) h2 (by omega) hn (by rw [h3]; exact h4)
  rw [h3] at h5
  refine Ev.congr (f := fun k => (nat_step.f k ((u.drop j).take (v.length + 1)) v).bind fun r => some (r.1, sp u j r.2)) (fun k => ?_) (Ev.bind h5 (Ev.now _))
  unfold stepat
  rw [if_pos ⟨by omega, rfl, by rw [Int.toNat_natCast]; omega, by omega⟩, Int.toNat_natCast]
theorem long_l1 {u q : List Int} (uu : U u) (n K : Nat) (hn : n ≤ 31) (hk : K + 1 ≤ u.length) (hu : u.length ≤ 1000002) (d : Nat) : ∀ (i : Nat) (z : List Int), i + d = K → z.length = K → U z → valn (z.take i) = (valn u / 2 ^ n) % pw i →
    Ev (fun k => nat_longw.l1 k q z (n : Int) u (K : Int) (i : Int)) (q, padn K (valn u / 2 ^ n)) := by
  induction d with
  | zero =>
    intro i z hi hz uz hv
    obtain rfl : i = K := by omega
    rw [List.take_of_length_le (by omega)] at hv
    rw [← padn_of_mod uz hz hv]
    refine Ev.step (f := fun _ => some (q, z)) (fun k => ?_) (Ev.now _)
    simp only [nat_longw.l1]
    rw [if_neg (by omega)]
  | succ d ih =>
    intro i z hi hz uz hv
    obtain ⟨x, ex, hx⟩ := rd_nat uu (i : Int)
    obtain ⟨y, ey, hy⟩ := rd_nat uu ((i + 1 : Nat) : Int)
    have hl := limb_shr uu n hn i
    rw [ex, ey, Int.toNat_natCast, Int.toNat_natCast] at hl
    have et : shr .u64 (Go.bits .or .u64 (IntKind.u64.wrap (rd u (i : Int))) (IntKind.u64.wrap (IntKind.u64.wrap (rd u ((i + 1 : Nat) : Int)) * 4294967296))) (n : Int) % 4294967296 = (((valn u / 2 ^ n / pw i % 4294967296 : Nat)) : Int) := by
      have e : (y : Int) * 4294967296 = ((y * 4294967296 : Nat) : Int) := by simp
      rw [ex, ey, u64 (x := (x : Int)) (by omega) (by omega), u64 (x := (y : Int)) (by omega) (by omega), e, u64 (x := ((y * 4294967296 : Nat) : Int)) (by omega) (by omega), bits_or_comm, or64 32 _ _ (by simp) (by omega) (by omega) (by omega)]
      unfold shr
      have hm : min ((n : Int)).toNat IntKind.u64.bits = n := by
        rw [Int.toNat_natCast]; exact Nat.min_eq_left (by show n ≤ 64; omega)
      rw [hm, hl, Nat.add_comm (y * 4294967296), Nat.mul_comm y, Int.natCast_emod, Int.natCast_ediv, Int.natCast_pow]; rfl
    have hb : valn u / 2 ^ n / pw i % 4294967296 < 4294967296 := Nat.mod_lt _ (by decide)
    generalize hd : valn u / 2 ^ n / pw i % 4294967296 = D at et hb
    have step := ih (i + 1) (z.set i (D : Int)) (by omega) (by rw [List.length_set]; exact hz) (U_set uz (by omega) _) (by
      rw [valn_set_take z i _ (by omega), Int.toNat_natCast, hv, mod_pw_succ, hd])
    refine Ev.step (fun k => ?_) step
    simp only [nat_longw.l1]
    rw [up i (by omega), if_pos (by omega), if_pos (by omega), if_pos (by omega), if_pos (by omega), if_pos (by omega), if_pos (by omega), if_pos (by omega), et, Int.toNat_natCast]
theorem long_l0 {v : List Int} (uv : U v) (h2 : 2 ≤ v.length) (hn : 2147483648 ≤ rd v ((v.length - 1 : Nat) : Int)) (n : Nat) (hn31 : n ≤ 31) (S L : Nat) (hL : v.length + 1 ≤ L) (hL' : L ≤ 1000002) : ∀ (j : Nat) (q u : List Int), u.length = L → U u → q.length = L - v.length → U q → j ≤ L - v.length →
    valn (u.drop j) < valn v → valn (u.take j) + pw j * valn (u.drop j) + valn v * pw j * valn (q.drop j) = S →
    Ev (fun k => nat_longw.l0 k q (n : Int) v u (v.length : Int) ((j : Int) - 1)) (padn (L - v.length) (S / valn v), padn v.length (S % valn v / 2 ^ n)) := by
  intro j
  induction j with
  | zero =>
    intro q u hu uu hq uq _ hlt hS
    rw [List.take_zero, List.drop_zero, List.drop_zero, pw_zero, valn_nil, Nat.mul_one, Nat.one_mul, Nat.zero_add] at hS
    rw [List.drop_zero] at hlt
    have hv0 : 0 < valn v := by omega
    have h3 := quo_of (u := S) (v := valn v) (q := valn q) (by rw [← hS, Nat.mul_comm]; omega) (by rw [← hS, Nat.mul_comm]; omega)
    have h4 : S % valn v = valn u := by rw [h3.2, ← hS, Nat.mul_comm (valn v)]; omega
    have hqp : padn (L - v.length) (S / valn v) = q := by rw [h3.1, ← hq]; exact padn_valn uq
    rw [hqp, h4]
    have h5 := long_l1 (q := q) uu n v.length hn31 (by omega) (by omega) v.length 0 (List.replicate v.length 0) (by omega) (by simp) (U_replicate _) (by rw [List.take_zero, valn_nil, pw_zero, Nat.mod_one])
    refine Ev.step (fun k => ?_) h5
    simp only [nat_longw.l0]
    rw [if_neg (by omega), if_pos (by omega), Int.toNat_natCast, if_pos (by omega), Option.bind_some, List.length_replicate]; rfl
  | succ j ih =>
    intro q u hu uu hq uq hj hlt hS
    have hj1 : j + v.length + 1 ≤ u.length := by omega
    obtain ⟨h3, h4⟩ := win_val uu uv j hj1 hlt
    obtain ⟨a1, a2, a3, a4⟩ := win_after uu uv j hj1 hlt
    have hst := stepat_f uu uv h2 hn (by omega) j hj1 hlt
    have hv0 : 0 < valn v := by omega
    have hqb : valn (u.drop j) / valn v < 4294967296 := (Nat.div_lt_iff_lt_mul hv0).mpr h4
    have e0 : valn u = valn (u.take j) + pw j * valn (u.drop j) := valn_splitD u j
    have e1 : valn u = valn (u.take (j + 1)) + pw (j + 1) * valn (u.drop (j + 1)) := valn_splitD u (j + 1)
    rw [← e1, e0, pw_succ] at hS
    have hinv := long_inv hS
    have uq' : U (q.set j ((valn (u.drop j) / valn v : Nat) : Int)) := U_set uq ⟨Int.natCast_nonneg _, by omega⟩ _
    have hqd : valn ((q.set j ((valn (u.drop j) / valn v : Nat) : Int)).drop j) = valn (u.drop j) / valn v + 4294967296 * valn (q.drop (j + 1)) := by
      rw [valn_drop_rd, rd_set_eq _ _ _ (by omega), Int.toNat_natCast, List.drop_set_of_lt (by omega)]
    have htk : (sp u j (padn (v.length + 1) (valn (u.drop j) % valn v))).take j = u.take j := sp_take _ _ _ (by rw [padn_len]; omega)
    have step := ih (q.set j ((valn (u.drop j) / valn v : Nat) : Int)) (sp u j (padn (v.length + 1) (valn (u.drop j) % valn v))) (by rw [a4]; exact hu) a3 (by rw [List.length_set]; exact hq) uq' (by omega) (by rw [a1]; exact Nat.mod_lt _ hv0) (by
      rw [htk, a1, hqd]; exact hinv)
    refine Ev_succ ?_
    have ej : ((j + 1 : Nat) : Int) - 1 = (j : Int) := by omega
    simp only [nat_longw.l0, ej]
    refine Ev.congr (fun k => ?_) (Ev.bind (f := fun k r => nat_longw.l0 k (q.set j r.1) (n : Int) v r.2 (v.length : Int) ((j : Int) - 1)) hst step)
    rw [if_pos (by omega)]
    congr 1
    funext r
    rw [if_pos (by omega), if_pos (by omega), w64 (by omega) (by omega), Int.toNat_natCast]
theorem lz_top {n : Nat} (h0 : n ≠ 0) (h : n < 4294967296) : (n + 1) * 2 ^ (32 - sz n) ≤ 4294967296 := by
  have hb : sz n ≤ 32 := sz_le (b := 32) h
  have h3 := (sz_spec h0).2
  have e2 : (4294967296 : Nat) = 2 ^ sz n * 2 ^ (32 - sz n) := by rw [← Nat.pow_add, show sz n + (32 - sz n) = 32 from by omega]
  conv => rhs; rw [e2]
  exact Nat.mul_le_mul_right _ h3
theorem top_val {b : List Int} {M t : Nat} (hM : b.length = M + 1) (et : rd b (M : Int) = (t : Int)) : valn b = valn (b.take M) + pw M * t := by
  have a1 := valn_splitD b M
  have a2 := valn_drop_rd b M
  have z0 : b.drop (M + 1) = [] := List.drop_eq_nil_of_le (by omega)
  rw [z0, valn_nil, et, Int.toNat_natCast, Nat.mul_zero, Nat.add_zero] at a2
  rw [a1, a2]
theorem norm_up {x p t c B : Nat} (h1 : x < p) (h : (t + 1) * c ≤ B) (hc : 0 < c) : (x + p * t) * c < p * B := by
  have h2 : (x + p * t + 1) * c ≤ p * (t + 1) * c := Nat.mul_le_mul_right _ (by rw [Nat.mul_add, Nat.mul_one]; omega)
  have h3 : p * (t + 1) * c ≤ p * B := by rw [Nat.mul_assoc]; exact Nat.mul_le_mul_left _ h
  rw [Nat.add_mul _ 1, Nat.one_mul] at h2
  exact Nat.lt_of_lt_of_le (Nat.lt_add_of_pos_right hc) (Nat.le_trans h2 h3)
theorem norm_low {x p t c H : Nat} (h : H ≤ t * c) : p * H ≤ (x + p * t) * c := by
  rw [Nat.add_mul, Nat.mul_assoc]
  exact Nat.le_trans (Nat.mul_le_mul_left _ h) (Nat.le_add_left _ _)
theorem lb_len_eq {V M : Nat} (h1 : V < pw (M + 1)) (h2 : pw M ≤ V) : (lb V).length = M + 1 := by
  have h3 := lb_len_le h1
  have h4 := lt_pow_len V
  by_cases c : (lb V).length = M + 1
  · exact c
  · exact absurd (Nat.lt_of_lt_of_le h4 (Nat.le_trans (pw_mono (show (lb V).length ≤ M from by omega)) h2)) (Nat.lt_irrefl _)
theorem lb_top {V M H : Nat} (h2 : pw M * H ≤ V) (hl : (lb V).length = M + 1) : (H : Int) ≤ rd (lb V) (M : Int) := by
  obtain ⟨x, ex, hx⟩ := rd_nat (U_lb V) (M : Int)
  have a1 := top_val hl ex
  rw [valn_lb] at a1
  have a3 := take_lt' (U_lb V) M
  rw [ex]
  by_cases c : H ≤ x
  · omega
  · exfalso
    have h3 : pw M * (x + 1) ≤ pw M * H := Nat.mul_le_mul_left _ (by omega)
    rw [Nat.mul_add, Nat.mul_one] at h3
    generalize pw M * x = y at *
    generalize pw M * H = z at *
    omega
/-- The divisor, shifted so that its last limb is at least half the base. -/
theorem norm_div {b : List Int} (ub : U b) {M t : Nat} (hM : b.length = M + 1) (et : rd b (M : Int) = (t : Int)) (ht : t < 4294967296) (ht0 : t ≠ 0) :
    valn b * 2 ^ (32 - sz t) < pw (M + 1) ∧ (lb (valn b * 2 ^ (32 - sz t))).length = M + 1 ∧ 2147483648 ≤ rd (lb (valn b * 2 ^ (32 - sz t))) (M : Int) := by
  obtain ⟨z1, _, _⟩ := lz_shift ht0 ht
  have z4 := lz_top ht0 ht
  have tb := take_lt' ub M
  have sb := top_val hM et
  have v1 : valn b * 2 ^ (32 - sz t) < pw (M + 1) := by rw [sb, pw_succ]; exact norm_up tb z4 (Nat.two_pow_pos _)
  have v2 : pw M * 2147483648 ≤ valn b * 2 ^ (32 - sz t) := by rw [sb]; exact norm_low z1
  have v3 : pw M ≤ valn b * 2 ^ (32 - sz t) := Nat.le_trans (Nat.le_mul_of_pos_right _ (by decide)) v2
  have vl := lb_len_eq v1 v3
  exact ⟨v1, vl, lb_top v2 vl⟩
theorem den_low {b : List Int} {M t : Nat} (hM : b.length = M + 1) (et : rd b (M : Int) = (t : Int)) (ht0 : t ≠ 0) : pw M ≤ valn b := by
  rw [top_val hM et]
  exact Nat.le_trans (Nat.le_mul_of_pos_right _ (Nat.pos_of_ne_zero ht0)) (Nat.le_add_left _ _)
theorem num_high {a : List Int} (ua : U a) {B M J c : Nat} (hJ : a.length = M + J) (hB : pw M ≤ B) (hc : 0 < c) : valn a * c < B * c * pw J := by
  have va := valn_lt ua
  rw [hJ, pw_add] at va
  have h1 : valn a < B * pw J := Nat.lt_of_lt_of_le va (Nat.mul_le_mul_right _ hB)
  have h2 := Nat.mul_lt_mul_of_pos_right h1 hc
  rwa [Nat.mul_assoc, Nat.mul_comm (pw J), ← Nat.mul_assoc] at h2
theorem drop_lt {u : List Int} {J V : Nat} (h : valn u < V * pw J) : valn (u.drop J) < V := by
  have h1 := valn_splitD u J
  by_cases c : valn (u.drop J) < V
  · exact c
  · exfalso
    have h2 : V * pw J ≤ valn (u.drop J) * pw J := Nat.mul_le_mul_right _ (by omega)
    rw [Nat.mul_comm (valn _)] at h2
    generalize V * pw J = x at *
    generalize pw J * valn (u.drop J) = y at *
    omega
theorem longw_f {a b : List Int} (ua : U a) (ub : U b) (h2 : 2 ≤ b.length) (hba : b.length ≤ a.length) (htop : rd b ((b.length - 1 : Nat) : Int) ≠ 0) (ha : a.length ≤ 1000000) :
    Ev (fun k => nat_longw.f k a b) (padn (a.length + 1 - b.length) (valn a / valn b), padn b.length (valn a % valn b)) := by
  obtain ⟨M, hM⟩ : ∃ M, b.length = M + 1 := ⟨b.length - 1, by omega⟩
  rw [hM, Nat.add_sub_cancel] at htop
  obtain ⟨t, et, ht⟩ := rd_nat ub (M : Int)
  have ht0 : t ≠ 0 := by intro h; apply htop; rw [et, h]; rfl
  have z3 := (lz_shift ht0 ht).2.2
  obtain ⟨v1, vl, vt⟩ := norm_div ub hM et ht ht0
  have hb0 := den_low hM et ht0
  obtain ⟨J, hJ⟩ : ∃ J, a.length = M + J := ⟨a.length - M, by omega⟩
  have hlz := LeadingZeros32_f t ht
  obtain ⟨n, hn⟩ : ∃ n, 32 - sz t = n := ⟨_, rfl⟩
  rw [hn] at z3 v1 vl vt hlz
  have hc := Nat.two_pow_pos n
  have hcB : 2 ^ n < 4294967296 := Nat.lt_of_le_of_lt (Nat.pow_le_pow_right (by decide) z3) (by decide : 2 ^ 31 < 4294967296)
  have s2 := num_high ua hJ hb0 hc
  have s1 : valn a * 2 ^ n < pw (a.length + 1) := by rw [pw_succ]; exact Nat.mul_lt_mul'' (valn_lt ua) hcB
  have e1 : valn a * 2 ^ n / (valn b * 2 ^ n) = valn a / valn b := Nat.mul_div_mul_right _ _ hc
  have e2 : valn a * 2 ^ n % (valn b * 2 ^ n) / 2 ^ n = valn a % valn b := by rw [Nat.mul_mod_mul_right]; exact Nat.mul_div_cancel _ hc
  have hsh1 := shift_f ub n z3 (by omega)
  have hsh2 := shift_f ua n z3 (by omega)
  obtain ⟨V, hV⟩ : ∃ V, valn b * 2 ^ n = V := ⟨_, rfl⟩
  obtain ⟨S, hS⟩ : ∃ S, valn a * 2 ^ n = S := ⟨_, rfl⟩
  rw [hV] at v1 vl vt s2 e1 e2 hsh1
  rw [hS] at s1 s2 e1 e2 hsh2
  have hso := short_f (l := padn (b.length + 1) V) (U_padn _ _) (by rw [padn_len]; omega)
  rw [valn_padn_lt (Nat.lt_of_lt_of_le v1 (pw_mono (by omega)))] at hso
  have u0 : valn ((padn (a.length + 1) S).drop J) < V := drop_lt (by rw [valn_padn_lt s1]; exact s2)
  have main := long_l0 (v := lb V) (U_lb V) (by rw [vl, ← hM]; exact h2) (by rw [vl, Nat.add_sub_cancel]; exact vt) n z3 S (a.length + 1) (by omega) (by omega) J (List.replicate J 0) (padn (a.length + 1) S) (padn_len _ _) (U_padn _ _) (by rw [List.length_replicate]; omega) (U_replicate _) (by omega) (by rw [valn_lb]; exact u0) (by
    rw [show (List.replicate J (0 : Int)).drop J = [] from List.drop_eq_nil_of_le (by rw [List.length_replicate]; exact Nat.le_refl _), valn_nil, Nat.mul_zero, Nat.add_zero, ← valn_splitD, valn_padn_lt s1])
  rw [valn_lb, e1, e2, vl] at main
  rw [hM] at hsh1 hso ⊢
  have eJ : ((a.length + 1 : Nat) : Int) - ((M + 1 : Nat) : Int) = (J : Int) := by omega
  have c1 : (0 : Int) ≤ (M : Int) ∧ (M : Int) < ((M + 1 : Nat) : Int) ∧ (0 : Int) ≤ (J : Int) ∧ J ≤ 70368744177664 ∧ M < 9223372036854775807 := by omega
  have ws : wrap64 (((M + 1 : Nat) : Int) - 1) = (M : Int) ∧ wrap64 (J : Int) = (J : Int) ∧ wrap64 ((J : Int) - 1) = (J : Int) - 1 := ⟨dn M c1.2.2.2.2, w64 (by omega) (by omega), w64 (by omega) (by omega)⟩
  refine Ev.congr (f := fun k => (nat_shift.f k b (n : Int)).bind fun t139 => (nat_short.f k t139).bind fun t142 => (nat_shift.f k a (n : Int)).bind fun t145 =>
    (if 0 ≤ (wrap64 ((t145.length : Int) - (t142.length : Int))) then (if (wrap64 ((t145.length : Int) - (t142.length : Int)) : Int).toNat ≤ 70368744177664 then (nat_longw.l0 k (List.replicate (wrap64 ((t145.length : Int) - (t142.length : Int)) : Int).toNat 0) (n : Int) t142 t145 (t142.length : Int) (wrap64 ((wrap64 ((t145.length : Int) - (t142.length : Int))) - 1))) else (none)) else (none)))
    (fun k => ?_) (Ev.bind hsh1 (Ev.bind hso (Ev.bind hsh2 (Ev.congr (fun k => ?_) main))))
  · unfold nat_longw.f
    rw [hM, ws.1, if_pos c1.1, if_pos c1.2.1, et, hlz, Option.bind_some]
  · rw [padn_len, vl, eJ, ws.2.1, ws.2.2, if_pos c1.2.2.1, Int.toNat_natCast, if_pos c1.2.2.2.1]
end Go.Proofs.Ytecfdemglbfnoaa.Num
end
section
namespace Go.Proofs.Ytecfdemglbfnoaa.PT
open Go.RowKit Go.Proofs.Ytecfdemglbfnoaa.Num Go.Proofs.YtecfdemglbfnoaaW.PrintWords
def nat_long.f (l0 l1 : List Int) : Option (List Int × List Int) :=
  if 2 ≤ l1.length ∧ l1.length ≤ l0.length ∧ l1.getLastD 0 ≠ 0 ∧ (∀ x ∈ l0, 0 ≤ x ∧ x < 4294967296) ∧ (∀ x ∈ l1, 0 ≤ x ∧ x < 4294967296) ∧ l0.length ≤ 1000000 then
    some (padn (l0.length + 1 - l1.length) (valn l0 / valn l1), padn l1.length (valn l0 % valn l1)) else none
theorem rd_getLastD (l : List Int) : rd l ((l.length - 1 : Nat) : Int) = l.getLastD 0 := by
  unfold rd
  rw [Int.toNat_natCast, List.getLastD_eq_getLast?, List.getLast?_eq_getElem?, List.getD_eq_getElem?_getD]
theorem nat_long.calls (A0 : Option Addr) (c0 : Nat) (l0 : List Int) (A1 : Option Addr) (c1 : Nat) (l1 : List Int) (r1 : List Int) (r2 : List Int) (w : World) (hr0 : Kd.C (Kd.int .u32) w A0 l0.length l0) (hc0 : l0.length ≤ c0) (hr1 : Kd.C (Kd.int .u32) w A1 l1.length l1) (hc1 : l1.length ≤ c1) (h : nat_long.f l0 l1 = some (r1, r2)) :
    Calls Try.prog 187 #[.slice A0 l0.length c0, .slice A1 l1.length c1] w fun e w' => ∃ v0_ v1_ : Value, e = .returned (.tuple #[v0_, v1_]) ∧ Kd.R (Kd.int .u32) 48 w' w.heap.size (fun k_ => some k_ ≠ (v1_ : Value).ownBlock) v0_ r1 ∧ Kd.R (Kd.int .u32) 48 w' w.heap.size (fun k_ => some k_ ≠ (v0_ : Value).ownBlock) v1_ r2 ∧ Below w.heap.size w w' := by
  unfold nat_long.f at h
  split at h
  case isTrue c =>
    obtain ⟨h2, hba, hd, ua, ub, ha⟩ := c
    obtain ⟨k, hk⟩ := (longw_f (a := l0) (b := l1) ua ub h2 hba (by rw [rd_getLastD l1]; exact hd) ha).rounds
    exact nat_longw.calls k A0 c0 l0 A1 c1 l1 r1 r2 w hr0 hc0 hr1 hc1 (hk.trans h)
  case isFalse => exact absurd h (by simp)
end Go.Proofs.Ytecfdemglbfnoaa.PT
end
section
namespace Go.Proofs.Ytecfdemglbfnoaa.PT
open Go.RowKit Go.Proofs.YtecfdemglbfnoaaW.PrintWords Go.Proofs.YtecfdemglbfnoaaW.PrintLast Go.Proofs.YtecfdemglbfnoaaW.PrintMore
attribute [local go_sem] max2_int min2_int max_two min_two max_three min_three max_four min_four   -- for this text's walks alone
set_option linter.unusedVariables false
set_option linter.unusedSimpArgs false
def nat_DivMod.f (k : Nat) (l0 : List Int) (l1 : List Int) : Option (List Int × List Int × Int) := (nat_short.f k l0).bind fun t966 => ((nat_short.f k l1).bind fun t969 => (if (t969.length : Int) = 0 then (some (([] : List Int), ([] : List Int), 7)) else ((nat_Cmp.f k t966 t969).bind fun t972 => (if t972 < 0 then ((nat_Trim.f k t966).bind fun t973 => (some (([] : List Int), t973, 0))) else (if (t969.length : Int) = 1 then (if 0 < (t969.length : Int) then ((nat_digit.f k t966 (rd t969 0)).bind fun bt977 => ((nat_Of.f k (IntKind.u64.wrap (bt977.2))).bind fun t981 => (some (bt977.1, t981, 0)))) else (none)) else ((nat_long.f t966 t969).bind fun bt984 => ((nat_Trim.f k bt984.1).bind fun t990 => ((nat_Trim.f k bt984.2).bind fun t993 => (some (t990, t993, 0))))))))))
set_option maxHeartbeats 8000000 in
set_option maxRecDepth 100000 in
theorem nat_DivMod.calls (k : Nat) (P0_ : Nat → Prop) (A0 : Option Addr) (c0 : Nat) (l0 : List Int) (P1_ : Nat → Prop) (A1 : Option Addr) (c1 : Nat) (l1 : List Int) (r1 : List Int) (r2 : List Int) (r3 : Int) (w : World) (hs0 : Kd.V (Kd.int .u32) 48 w w.heap.size (fun k_ => P0_ k_) (.slice A0 l0.length c0) l0) (hs1 : Kd.V (Kd.int .u32) 48 w w.heap.size (fun k_ => P1_ k_) (.slice A1 l1.length c1) l1) (h : nat_DivMod.f k l0 l1 = some (r1, r2, r3)) :
 Calls Try.prog 167 #[.slice A0 l0.length c0, .slice A1 l1.length c1] w fun e w' => ∃ v0_ v1_ : Value, e = .returned (.tuple #[v0_, v1_, .int .i64 r3]) ∧ Kd.V (Kd.int .u32) 48 w' w.heap.size (fun k_ => ((P0_ k_ ∨ P1_ k_) ∨ w.heap.size ≤ k_)) v0_ r1 ∧ Kd.V (Kd.int .u32) 48 w' w.heap.size (fun k_ => ((P0_ k_ ∨ P1_ k_) ∨ w.heap.size ≤ k_)) v1_ r2 ∧ Below w.heap.size w w' := by
 have HO0 := Aside0.mk (show Kd.V (Kd.int .u32) 48 w w.heap.size (fun k_ => ((P0_ k_ ∨ P1_ k_) ∨ w.heap.size ≤ k_)) (.slice A0 l0.length c0) l0 from Kd.V_mono hs0 (fun k_ hk => .inl (.inl hk)))
 have HO1 := Aside0.mk (show Kd.V (Kd.int .u32) 48 w w.heap.size (fun k_ => ((P0_ k_ ∨ P1_ k_) ∨ w.heap.size ≤ k_)) (.slice A1 l1.length c1) l1 from Kd.V_mono hs1 (fun k_ hk => .inl (.inr hk)))
 have HB := Aside0.mk (Below.refl w.heap.size w)
 have H : ((nat_short.f k l0).bind fun t966 => ((nat_short.f k l1).bind fun t969 => (if (t969.length : Int) = 0 then (some (([] : List Int), ([] : List Int), 7)) else ((nat_Cmp.f k t966 t969).bind fun t972 => (if t972 < 0 then ((nat_Trim.f k t966).bind fun t973 => (some (([] : List Int), t973, 0))) else (if (t969.length : Int) = 1 then (if 0 < (t969.length : Int) then ((nat_digit.f k t966 (rd t969 0)).bind fun bt977 => ((nat_Of.f k (IntKind.u64.wrap (bt977.2))).bind fun t981 => (some (bt977.1, t981, 0)))) else (none)) else ((nat_long.f t966 t969).bind fun bt984 => ((nat_Trim.f k bt984.1).bind fun t990 => ((nat_Trim.f k bt984.2).bind fun t993 => (some (t990, t993, 0))))))))))) = some (r1, r2, r3) := h
 clear h
 replace H := Option.bind_eq_some_iff.mp H
 obtain ⟨t966, A30, H⟩ := H
 replace H : ((nat_short.f k l1).bind fun t969 => (if (t969.length : Int) = 0 then (some (([] : List Int), ([] : List Int), 7)) else ((nat_Cmp.f k t966 t969).bind fun t972 => (if t972 < 0 then ((nat_Trim.f k t966).bind fun t973 => (some (([] : List Int), t973, 0))) else (if (t969.length : Int) = 1 then (if 0 < (t969.length : Int) then ((nat_digit.f k t966 (rd t969 0)).bind fun bt977 => ((nat_Of.f k (IntKind.u64.wrap (bt977.2))).bind fun t981 => (some (bt977.1, t981, 0)))) else (none)) else ((nat_long.f t966 t969).bind fun bt984 => ((nat_Trim.f k bt984.1).bind fun t990 => ((nat_Trim.f k bt984.2).bind fun t993 => (some (t990, t993, 0)))))))))) = some (r1, r2, r3) := H
 have A3 := Aside0.mk A30
 clear A30
 replace H := Option.bind_eq_some_iff.mp H
 obtain ⟨t969, A40, H⟩ := H
 replace H : (if (t969.length : Int) = 0 then (some (([] : List Int), ([] : List Int), 7)) else ((nat_Cmp.f k t966 t969).bind fun t972 => (if t972 < 0 then ((nat_Trim.f k t966).bind fun t973 => (some (([] : List Int), t973, 0))) else (if (t969.length : Int) = 1 then (if 0 < (t969.length : Int) then ((nat_digit.f k t966 (rd t969 0)).bind fun bt977 => ((nat_Of.f k (IntKind.u64.wrap (bt977.2))).bind fun t981 => (some (bt977.1, t981, 0)))) else (none)) else ((nat_long.f t966 t969).bind fun bt984 => ((nat_Trim.f k bt984.1).bind fun t990 => ((nat_Trim.f k bt984.2).bind fun t993 => (some (t990, t993, 0))))))))) = some (r1, r2, r3) := H
 have A4 := Aside0.mk A40
 clear A40
 by_cases c5 : (t969.length : Int) = 0
 ·
  rw [if_pos c5] at H
  have c5b0 : ((t969.length : Int) == 0) = true := beq_iff_eq.mpr c5
  have c5b1 : ((t969.length : Int) != 0) = false := bne_eq_false_iff_eq.mpr c5
  clear c5
  simp only [Option.some.injEq, Prod.mk.injEq] at H
  obtain ⟨rfl, rfl, rfl⟩ := H
  go_enter Try.func167, Try.ntmps167
  go_wp2_with (first | ((with_reducible refine gate_callee (f := 179) rfl ?_); refine goesL_ (some 12) rfl rfl Try.func179 (by kernel_rfl) rfl #[.slice A0 l0.length c0] rfl lu ?_; (with_reducible refine (nat_short.calls k (fun k_ => ((P0_ k_ ∨ P1_ k_) ∨ w.heap.size ≤ k_)) _ _ l0 t966 _ ?side1 A3.out).mono ?_); (case side1 => exact HO0.out); rintro e w6 ⟨v967, rfl, ho0, hb⟩; refine ⟨_, rfl, ?_⟩; replace HO0 := Aside0.mk (Kd.V_below (vu HO0.out) hb); replace HO1 := Aside0.mk (Kd.V_below (vu HO1.out) hb); have HO968 := Aside0.mk (Kd.V_lower (Kd.V_mono (ok' := fun k_ => ((P0_ k_ ∨ P1_ k_) ∨ w.heap.size ≤ k_)) ho0 (fun k_ hk_ => Or.elim hk_ (fun hs_ => hs_) (fun hn_ => (.inr (Nat.le_trans (below_size (bu HB.out)) hn_))))) (below_size (bu HB.out))); replace HB := Aside0.mk (below_step (bu HB.out) hb); (try clear hb); (try clear hb2); (try clear hk); (try clear hi); (try clear ho0)) | ((with_reducible refine gate_callee (f := 179) rfl ?_); refine goesL_ (some 14) rfl rfl Try.func179 (by kernel_rfl) rfl #[.slice A1 l1.length c1] rfl lu ?_; (with_reducible refine (nat_short.calls k (fun k_ => ((P0_ k_ ∨ P1_ k_) ∨ w.heap.size ≤ k_)) _ _ l1 t969 _ ?side1 A4.out).mono ?_); (case side1 => exact HO1.out); rintro e w7 ⟨v970, rfl, ho0, hb⟩; refine ⟨_, rfl, ?_⟩; replace HO0 := Aside0.mk (Kd.V_below (vu HO0.out) hb); replace HO1 := Aside0.mk (Kd.V_below (vu HO1.out) hb); replace HO968 := Aside0.mk (Kd.V_below (vu HO968.out) hb); have HO971 := Aside0.mk (Kd.V_lower (Kd.V_mono (ok' := fun k_ => ((P0_ k_ ∨ P1_ k_) ∨ w.heap.size ≤ k_)) ho0 (fun k_ hk_ => Or.elim hk_ (fun hs_ => hs_) (fun hn_ => (.inr (Nat.le_trans (below_size (bu HB.out)) hn_))))) (below_size (bu HB.out))); replace HB := Aside0.mk (below_step (bu HB.out) hb); (try clear hb); (try clear hb2); (try clear hk); (try clear hi); (try clear ho0); obtain ⟨Ao8, co8, eo8⟩ := Kd.V_slice HO971.out; subst eo8))
  go_ret3
  exact ⟨_, _, by first | rfl | (simp [errW_none, errW_some] <;> rfl) | (simp [*, errW_none, errW_some] <;> rfl), Kd.V_nil _ _ _ _ _, Kd.V_nil _ _ _ _ _, by repeat (first | (with_reducible first | exact HB.out | apply below_alloc | apply pw_below_drewN | apply below_drew1) | exact HB.out)⟩
 ·
  rw [if_neg c5] at H
  have c5b0 : ((t969.length : Int) == 0) = false := beq_eq_false_iff_ne.mpr c5
  have c5b1 : ((t969.length : Int) != 0) = true := bne_iff_ne.mpr c5
  have c5b2 : ¬ (t969 = []) := fun h_ => c5 (by rw [h_]; rfl)
  replace H := Option.bind_eq_some_iff.mp H
  obtain ⟨t972, A90, H⟩ := H
  replace H : (if t972 < 0 then ((nat_Trim.f k t966).bind fun t973 => (some (([] : List Int), t973, 0))) else (if (t969.length : Int) = 1 then (if 0 < (t969.length : Int) then ((nat_digit.f k t966 (rd t969 0)).bind fun bt977 => ((nat_Of.f k (IntKind.u64.wrap (bt977.2))).bind fun t981 => (some (bt977.1, t981, 0)))) else (none)) else ((nat_long.f t966 t969).bind fun bt984 => ((nat_Trim.f k bt984.1).bind fun t990 => ((nat_Trim.f k bt984.2).bind fun t993 => (some (t990, t993, 0))))))) = some (r1, r2, r3) := H
  have A9 := Aside0.mk A90
  clear A90
  by_cases c10 : t972 < 0
  ·
   rw [if_pos c10] at H
   have c10b0 : decide (t972 < 0) = true := decide_eq_true c10
   clear c10
   replace H := Option.bind_eq_some_iff.mp H
   obtain ⟨t973, A110, H⟩ := H
   replace H : (some (([] : List Int), t973, 0)) = some (r1, r2, r3) := H
   have A11 := Aside0.mk A110
   clear A110
   simp only [Option.some.injEq, Prod.mk.injEq] at H
   obtain ⟨rfl, rfl, rfl⟩ := H
   go_enter Try.func167, Try.ntmps167
   go_wp2_with (first | ((with_reducible refine gate_callee (f := 179) rfl ?_); refine goesL_ (some 12) rfl rfl Try.func179 (by kernel_rfl) rfl #[.slice A0 l0.length c0] rfl lu ?_; (with_reducible refine (nat_short.calls k (fun k_ => ((P0_ k_ ∨ P1_ k_) ∨ w.heap.size ≤ k_)) _ _ l0 t966 _ ?side1 A3.out).mono ?_); (case side1 => exact HO0.out); rintro e w12 ⟨v967, rfl, ho0, hb⟩; refine ⟨_, rfl, ?_⟩; replace HO0 := Aside0.mk (Kd.V_below (vu HO0.out) hb); replace HO1 := Aside0.mk (Kd.V_below (vu HO1.out) hb); have HO968 := Aside0.mk (Kd.V_lower (Kd.V_mono (ok' := fun k_ => ((P0_ k_ ∨ P1_ k_) ∨ w.heap.size ≤ k_)) ho0 (fun k_ hk_ => Or.elim hk_ (fun hs_ => hs_) (fun hn_ => (.inr (Nat.le_trans (below_size (bu HB.out)) hn_))))) (below_size (bu HB.out))); replace HB := Aside0.mk (below_step (bu HB.out) hb); (try clear hb); (try clear hb2); (try clear hk); (try clear hi); (try clear ho0)) | ((with_reducible refine gate_callee (f := 179) rfl ?_); refine goesL_ (some 14) rfl rfl Try.func179 (by kernel_rfl) rfl #[.slice A1 l1.length c1] rfl lu ?_; (with_reducible refine (nat_short.calls k (fun k_ => ((P0_ k_ ∨ P1_ k_) ∨ w.heap.size ≤ k_)) _ _ l1 t969 _ ?side1 A4.out).mono ?_); (case side1 => exact HO1.out); rintro e w13 ⟨v970, rfl, ho0, hb⟩; refine ⟨_, rfl, ?_⟩; replace HO0 := Aside0.mk (Kd.V_below (vu HO0.out) hb); replace HO1 := Aside0.mk (Kd.V_below (vu HO1.out) hb); replace HO968 := Aside0.mk (Kd.V_below (vu HO968.out) hb); have HO971 := Aside0.mk (Kd.V_lower (Kd.V_mono (ok' := fun k_ => ((P0_ k_ ∨ P1_ k_) ∨ w.heap.size ≤ k_)) ho0 (fun k_ hk_ => Or.elim hk_ (fun hs_ => hs_) (fun hn_ => (.inr (Nat.le_trans (below_size (bu HB.out)) hn_))))) (below_size (bu HB.out))); replace HB := Aside0.mk (below_step (bu HB.out) hb); (try clear hb); (try clear hb2); (try clear hk); (try clear hi); (try clear ho0); obtain ⟨Ao14, co14, eo14⟩ := Kd.V_slice HO971.out; subst eo14; obtain ⟨Ao15, co15, eo15⟩ := Kd.V_slice HO968.out; subst eo15) | ((with_reducible refine gate_callee (f := 146) rfl ?_); refine goesL_ (some 22) rfl rfl Try.func146 (by kernel_rfl) rfl #[.slice Ao15 t966.length co15, .slice Ao14 t969.length co14] rfl lu ?_; (with_reducible refine (nat_Cmp.calls k _ _ t966 _ _ t969 t972 _ ?side1 ?side2 ?side3 ?side4 A9.out).mono ?_); (case side1 => repeat (first | exact (Kd.V_reads' HO968.out).2.2 | (with_reducible refine Kd.C_alloc ?_ _) | (with_reducible refine Kd.C_drewN ?_ _) | (with_reducible refine Kd.C_drew ?_))); (case side2 => exact (Kd.V_reads' HO968.out).2.1); (case side3 => repeat (first | exact (Kd.V_reads' HO971.out).2.2 | (with_reducible refine Kd.C_alloc ?_ _) | (with_reducible refine Kd.C_drewN ?_ _) | (with_reducible refine Kd.C_drew ?_))); (case side4 => exact (Kd.V_reads' HO971.out).2.1); rintro e w16 ⟨rfl, hb⟩; refine ⟨_, rfl, ?_⟩; replace HO0 := Aside0.mk (Kd.V_below (vu HO0.out) hb); replace HO1 := Aside0.mk (Kd.V_below (vu HO1.out) hb); replace HO968 := Aside0.mk (Kd.V_below (vu HO968.out) hb); replace HO971 := Aside0.mk (Kd.V_below (vu HO971.out) hb); replace HB := Aside0.mk (below_step (bu HB.out) hb); (try clear hb); (try clear hb2); (try clear hk); (try clear hi)) | ((with_reducible refine gate_callee (f := 177) rfl ?_); refine goesL_ (some 25) rfl rfl Try.func177 (by kernel_rfl) rfl #[.slice Ao15 t966.length co15] rfl lu ?_; (with_reducible refine (nat_Trim.calls k _ _ t966 t973 _ ?side1 ?side2 A11.out).mono ?_); (case side1 => repeat (first | exact (Kd.V_reads' HO968.out).2.2 | (with_reducible refine Kd.C_alloc ?_ _) | (with_reducible refine Kd.C_drewN ?_ _) | (with_reducible refine Kd.C_drew ?_))); (case side2 => exact (Kd.V_reads' HO968.out).2.1); rintro e w17 ⟨v974, rfl, ho0, hb⟩; refine ⟨_, rfl, ?_⟩; replace ho0 := R_V_base rfl ho0; replace HO0 := Aside0.mk (Kd.V_below (vu HO0.out) hb); replace HO1 := Aside0.mk (Kd.V_below (vu HO1.out) hb); replace HO968 := Aside0.mk (Kd.V_below (vu HO968.out) hb); replace HO971 := Aside0.mk (Kd.V_below (vu HO971.out) hb); have HO975 := Aside0.mk (Kd.V_lower (Kd.V_mono (ok' := fun k_ => ((P0_ k_ ∨ P1_ k_) ∨ w.heap.size ≤ k_)) ho0 (fun k_ hk_ => (.inr (Nat.le_trans (below_size (bu HB.out)) hk_)))) (below_size (bu HB.out))); replace HB := Aside0.mk (below_step (bu HB.out) hb); (try clear hb); (try clear hb2); (try clear hk); (try clear hi); (try clear ho0)))
   go_ret3
   exact ⟨_, _, by first | rfl | (simp [errW_none, errW_some] <;> rfl) | (simp [*, errW_none, errW_some] <;> rfl), Kd.V_nil _ _ _ _ _, by (with_reducible repeat (first | apply Kd.V_alloc | apply Kd.V_drewN | apply Kd.V_drew)); exact HO975.out, by repeat (first | (with_reducible first | exact HB.out | apply below_alloc | apply pw_below_drewN | apply below_drew1) | exact HB.out)⟩
  ·
   rw [if_neg c10] at H
   have c10b0 : decide (t972 < 0) = false := decide_eq_false c10
   clear c10
   by_cases c18 : (t969.length : Int) = 1
   ·
    rw [if_pos c18] at H
    have c18b0 : ((t969.length : Int) == 1) = true := beq_iff_eq.mpr c18
    have c18b1 : ((t969.length : Int) != 1) = false := bne_eq_false_iff_eq.mpr c18
    clear c18
    by_cases c19 : 0 < (t969.length : Int)
    ·
     rw [if_pos c19] at H
     have c19b0 : decide (0 < (t969.length : Int)) = true := decide_eq_true c19
     have c19b1 : decide (0 < t969.length) = true := decide_eq_true (by omega)
     clear c19
     replace H := Option.bind_eq_some_iff.mp H
     obtain ⟨⟨t977, t980⟩, A200, H⟩ := H
     replace H : ((nat_Of.f k (IntKind.u64.wrap (t980))).bind fun t981 => (some (t977, t981, 0))) = some (r1, r2, r3) := H
     have A20 := Aside0.mk A200
     clear A200
     replace H := Option.bind_eq_some_iff.mp H
     obtain ⟨t981, A210, H⟩ := H
     replace H : (some (t977, t981, 0)) = some (r1, r2, r3) := H
     have A21 := Aside0.mk A210
     clear A210
     simp only [Option.some.injEq, Prod.mk.injEq] at H
     obtain ⟨rfl, rfl, rfl⟩ := H
     go_enter Try.func167, Try.ntmps167
     go_wp2_with (first | ((with_reducible refine gate_callee (f := 179) rfl ?_); refine goesL_ (some 12) rfl rfl Try.func179 (by kernel_rfl) rfl #[.slice A0 l0.length c0] rfl lu ?_; (with_reducible refine (nat_short.calls k (fun k_ => ((P0_ k_ ∨ P1_ k_) ∨ w.heap.size ≤ k_)) _ _ l0 t966 _ ?side1 A3.out).mono ?_); (case side1 => exact HO0.out); rintro e w22 ⟨v967, rfl, ho0, hb⟩; refine ⟨_, rfl, ?_⟩; replace HO0 := Aside0.mk (Kd.V_below (vu HO0.out) hb); replace HO1 := Aside0.mk (Kd.V_below (vu HO1.out) hb); have HO968 := Aside0.mk (Kd.V_lower (Kd.V_mono (ok' := fun k_ => ((P0_ k_ ∨ P1_ k_) ∨ w.heap.size ≤ k_)) ho0 (fun k_ hk_ => Or.elim hk_ (fun hs_ => hs_) (fun hn_ => (.inr (Nat.le_trans (below_size (bu HB.out)) hn_))))) (below_size (bu HB.out))); replace HB := Aside0.mk (below_step (bu HB.out) hb); (try clear hb); (try clear hb2); (try clear hk); (try clear hi); (try clear ho0)) | ((with_reducible refine gate_callee (f := 179) rfl ?_); refine goesL_ (some 14) rfl rfl Try.func179 (by kernel_rfl) rfl #[.slice A1 l1.length c1] rfl lu ?_; (with_reducible refine (nat_short.calls k (fun k_ => ((P0_ k_ ∨ P1_ k_) ∨ w.heap.size ≤ k_)) _ _ l1 t969 _ ?side1 A4.out).mono ?_); (case side1 => exact HO1.out); rintro e w23 ⟨v970, rfl, ho0, hb⟩; refine ⟨_, rfl, ?_⟩; replace HO0 := Aside0.mk (Kd.V_below (vu HO0.out) hb); replace HO1 := Aside0.mk (Kd.V_below (vu HO1.out) hb); replace HO968 := Aside0.mk (Kd.V_below (vu HO968.out) hb); have HO971 := Aside0.mk (Kd.V_lower (Kd.V_mono (ok' := fun k_ => ((P0_ k_ ∨ P1_ k_) ∨ w.heap.size ≤ k_)) ho0 (fun k_ hk_ => Or.elim hk_ (fun hs_ => hs_) (fun hn_ => (.inr (Nat.le_trans (below_size (bu HB.out)) hn_))))) (below_size (bu HB.out))); replace HB := Aside0.mk (below_step (bu HB.out) hb); (try clear hb); (try clear hb2); (try clear hk); (try clear hi); (try clear ho0); obtain ⟨Ao24, co24, eo24⟩ := Kd.V_slice HO971.out; subst eo24; obtain ⟨Ao25, co25, eo25⟩ := Kd.V_slice HO968.out; subst eo25) | ((with_reducible refine gate_callee (f := 146) rfl ?_); refine goesL_ (some 22) rfl rfl Try.func146 (by kernel_rfl) rfl #[.slice Ao25 t966.length co25, .slice Ao24 t969.length co24] rfl lu ?_; (with_reducible refine (nat_Cmp.calls k _ _ t966 _ _ t969 t972 _ ?side1 ?side2 ?side3 ?side4 A9.out).mono ?_); (case side1 => repeat (first | exact (Kd.V_reads' HO968.out).2.2 | (with_reducible refine Kd.C_alloc ?_ _) | (with_reducible refine Kd.C_drewN ?_ _) | (with_reducible refine Kd.C_drew ?_))); (case side2 => exact (Kd.V_reads' HO968.out).2.1); (case side3 => repeat (first | exact (Kd.V_reads' HO971.out).2.2 | (with_reducible refine Kd.C_alloc ?_ _) | (with_reducible refine Kd.C_drewN ?_ _) | (with_reducible refine Kd.C_drew ?_))); (case side4 => exact (Kd.V_reads' HO971.out).2.1); rintro e w26 ⟨rfl, hb⟩; refine ⟨_, rfl, ?_⟩; replace HO0 := Aside0.mk (Kd.V_below (vu HO0.out) hb); replace HO1 := Aside0.mk (Kd.V_below (vu HO1.out) hb); replace HO968 := Aside0.mk (Kd.V_below (vu HO968.out) hb); replace HO971 := Aside0.mk (Kd.V_below (vu HO971.out) hb); replace HB := Aside0.mk (below_step (bu HB.out) hb); (try clear hb); (try clear hb2); (try clear hk); (try clear hi); have p976 : 0 ≤ (0 : Int) := (by omega); have q976 : 0 < (t969.length : Int) := of_decide_eq_true (by first | (with_reducible assumption) | assumption); obtain ⟨ad976, e976, hx976_0⟩ := Kd.at_int (Kd.V_reads' HO971.out).2.2 0 p976 q976; cases e976; have qi976 : (0 < t969.length) = True := eq_true (by omega); (try rw [show ((0 : Int)).toNat = 0 from rfl] at hx976_0); (try rw [Addr.add_zero'] at hx976_0); replace p976 := eq_true p976; replace q976 := eq_true q976) | ((with_reducible refine gate_callee (f := 186) rfl ?_); refine goesL_ (some 35) rfl rfl Try.func186 (by kernel_rfl) rfl #[.slice Ao25 t966.length co25, .int .u32 (rd t969 0)] rfl lu ?_; (with_reducible refine (nat_digit.calls k _ _ t966 (rd t969 0) t977 t980 _ ?side1 ?side2 A20.out).mono ?_); (case side1 => repeat (first | exact (Kd.V_reads' HO968.out).2.2 | (with_reducible refine Kd.C_alloc ?_ _) | (with_reducible refine Kd.C_drewN ?_ _) | (with_reducible refine Kd.C_drew ?_))); (case side2 => exact (Kd.V_reads' HO968.out).2.1); rintro e w27 ⟨v978, rfl, ho0, hb⟩; refine ⟨_, rfl, ?_⟩; replace HO0 := Aside0.mk (Kd.V_below (vu HO0.out) hb); replace HO1 := Aside0.mk (Kd.V_below (vu HO1.out) hb); replace HO968 := Aside0.mk (Kd.V_below (vu HO968.out) hb); replace HO971 := Aside0.mk (Kd.V_below (vu HO971.out) hb); have HO979 := Aside0.mk (Kd.V_lower (Kd.V_mono (ok' := fun k_ => ((P0_ k_ ∨ P1_ k_) ∨ w.heap.size ≤ k_)) ho0 (fun k_ hk_ => (.inr (Nat.le_trans (below_size (bu HB.out)) hk_)))) (below_size (bu HB.out))); replace HB := Aside0.mk (below_step (bu HB.out) hb); (try clear hb); (try clear hb2); (try clear hk); (try clear hi); (try clear ho0)) | ((with_reducible refine gate_callee (f := 141) rfl ?_); refine goesL_ (some 41) rfl rfl Try.func141 (by kernel_rfl) rfl #[.int .u64 (IntKind.u64.wrap (t980))] rfl lu ?_; (with_reducible refine (nat_Of.calls k (IntKind.u64.wrap (t980)) t981 _ A21.out).mono ?_); rintro e w28 ⟨v982, rfl, ho0, hb⟩; refine ⟨_, rfl, ?_⟩; replace ho0 := R_V_base rfl ho0; replace HO0 := Aside0.mk (Kd.V_below (vu HO0.out) hb); replace HO1 := Aside0.mk (Kd.V_below (vu HO1.out) hb); replace HO968 := Aside0.mk (Kd.V_below (vu HO968.out) hb); replace HO971 := Aside0.mk (Kd.V_below (vu HO971.out) hb); replace HO979 := Aside0.mk (Kd.V_below (vu HO979.out) hb); have HO983 := Aside0.mk (Kd.V_lower (Kd.V_mono (ok' := fun k_ => ((P0_ k_ ∨ P1_ k_) ∨ w.heap.size ≤ k_)) ho0 (fun k_ hk_ => (.inr (Nat.le_trans (below_size (bu HB.out)) hk_)))) (below_size (bu HB.out))); replace HB := Aside0.mk (below_step (bu HB.out) hb); (try clear hb); (try clear hb2); (try clear hk); (try clear hi); (try clear ho0)))
     go_ret3
     exact ⟨_, _, by first | rfl | (simp [errW_none, errW_some] <;> rfl) | (simp [*, errW_none, errW_some] <;> rfl), by (with_reducible repeat (first | apply Kd.V_alloc | apply Kd.V_drewN | apply Kd.V_drew)); exact HO979.out, by (with_reducible repeat (first | apply Kd.V_alloc | apply Kd.V_drewN | apply Kd.V_drew)); exact HO983.out, by repeat (first | (with_reducible first | exact HB.out | apply below_alloc | apply pw_below_drewN | apply below_drew1) | exact HB.out)⟩
    ·
     rw [if_neg c19] at H
     exact absurd H (by simp)
   ·
    rw [if_neg c18] at H
    have c18b0 : ((t969.length : Int) == 1) = false := beq_eq_false_iff_ne.mpr c18
    have c18b1 : ((t969.length : Int) != 1) = true := bne_iff_ne.mpr c18
    replace H := Option.bind_eq_some_iff.mp H
    obtain ⟨⟨t984, t987⟩, A290, H⟩ := H
    replace H : ((nat_Trim.f k t984).bind fun t990 => ((nat_Trim.f k t987).bind fun t993 => (some (t990, t993, 0)))) = some (r1, r2, r3) := H
    have A29 := Aside0.mk A290
    clear A290
    replace H := Option.bind_eq_some_iff.mp H
    obtain ⟨t990, A300, H⟩ := H
    replace H : ((nat_Trim.f k t987).bind fun t993 => (some (t990, t993, 0))) = some (r1, r2, r3) := H
    have A30 := Aside0.mk A300
    clear A300
    replace H := Option.bind_eq_some_iff.mp H
    obtain ⟨t993, A310, H⟩ := H
    replace H : (some (t990, t993, 0)) = some (r1, r2, r3) := H
    have A31 := Aside0.mk A310
    clear A310
    simp only [Option.some.injEq, Prod.mk.injEq] at H
    obtain ⟨rfl, rfl, rfl⟩ := H
    go_enter Try.func167, Try.ntmps167
    go_wp2_with (first | ((with_reducible refine gate_callee (f := 179) rfl ?_); refine goesL_ (some 12) rfl rfl Try.func179 (by kernel_rfl) rfl #[.slice A0 l0.length c0] rfl lu ?_; (with_reducible refine (nat_short.calls k (fun k_ => ((P0_ k_ ∨ P1_ k_) ∨ w.heap.size ≤ k_)) _ _ l0 t966 _ ?side1 A3.out).mono ?_); (case side1 => exact HO0.out); rintro e w32 ⟨v967, rfl, ho0, hb⟩; refine ⟨_, rfl, ?_⟩; replace HO0 := Aside0.mk (Kd.V_below (vu HO0.out) hb); replace HO1 := Aside0.mk (Kd.V_below (vu HO1.out) hb); have HO968 := Aside0.mk (Kd.V_lower (Kd.V_mono (ok' := fun k_ => ((P0_ k_ ∨ P1_ k_) ∨ w.heap.size ≤ k_)) ho0 (fun k_ hk_ => Or.elim hk_ (fun hs_ => hs_) (fun hn_ => (.inr (Nat.le_trans (below_size (bu HB.out)) hn_))))) (below_size (bu HB.out))); replace HB := Aside0.mk (below_step (bu HB.out) hb); (try clear hb); (try clear hb2); (try clear hk); (try clear hi); (try clear ho0)) | ((with_reducible refine gate_callee (f := 179) rfl ?_); refine goesL_ (some 14) rfl rfl Try.func179 (by kernel_rfl) rfl #[.slice A1 l1.length c1] rfl lu ?_; (with_reducible refine (nat_short.calls k (fun k_ => ((P0_ k_ ∨ P1_ k_) ∨ w.heap.size ≤ k_)) _ _ l1 t969 _ ?side1 A4.out).mono ?_); (case side1 => exact HO1.out); rintro e w33 ⟨v970, rfl, ho0, hb⟩; refine ⟨_, rfl, ?_⟩; replace HO0 := Aside0.mk (Kd.V_below (vu HO0.out) hb); replace HO1 := Aside0.mk (Kd.V_below (vu HO1.out) hb); replace HO968 := Aside0.mk (Kd.V_below (vu HO968.out) hb); have HO971 := Aside0.mk (Kd.V_lower (Kd.V_mono (ok' := fun k_ => ((P0_ k_ ∨ P1_ k_) ∨ w.heap.size ≤ k_)) ho0 (fun k_ hk_ => Or.elim hk_ (fun hs_ => hs_) (fun hn_ => (.inr (Nat.le_trans (below_size (bu HB.out)) hn_))))) (below_size (bu HB.out))); replace HB := Aside0.mk (below_step (bu HB.out) hb); (try clear hb); (try clear hb2); (try clear hk); (try clear hi); (try clear ho0); obtain ⟨Ao34, co34, eo34⟩ := Kd.V_slice HO971.out; subst eo34; obtain ⟨Ao35, co35, eo35⟩ := Kd.V_slice HO968.out; subst eo35) | ((with_reducible refine gate_callee (f := 146) rfl ?_); refine goesL_ (some 22) rfl rfl Try.func146 (by kernel_rfl) rfl #[.slice Ao35 t966.length co35, .slice Ao34 t969.length co34] rfl lu ?_; (with_reducible refine (nat_Cmp.calls k _ _ t966 _ _ t969 t972 _ ?side1 ?side2 ?side3 ?side4 A9.out).mono ?_); (case side1 => repeat (first | exact (Kd.V_reads' HO968.out).2.2 | (with_reducible refine Kd.C_alloc ?_ _) | (with_reducible refine Kd.C_drewN ?_ _) | (with_reducible refine Kd.C_drew ?_))); (case side2 => exact (Kd.V_reads' HO968.out).2.1); (case side3 => repeat (first | exact (Kd.V_reads' HO971.out).2.2 | (with_reducible refine Kd.C_alloc ?_ _) | (with_reducible refine Kd.C_drewN ?_ _) | (with_reducible refine Kd.C_drew ?_))); (case side4 => exact (Kd.V_reads' HO971.out).2.1); rintro e w36 ⟨rfl, hb⟩; refine ⟨_, rfl, ?_⟩; replace HO0 := Aside0.mk (Kd.V_below (vu HO0.out) hb); replace HO1 := Aside0.mk (Kd.V_below (vu HO1.out) hb); replace HO968 := Aside0.mk (Kd.V_below (vu HO968.out) hb); replace HO971 := Aside0.mk (Kd.V_below (vu HO971.out) hb); replace HB := Aside0.mk (below_step (bu HB.out) hb); (try clear hb); (try clear hb2); (try clear hk); (try clear hi)) | ((with_reducible refine gate_callee (f := 187) rfl ?_); refine goesL_ (some 45) rfl rfl Try.func187 (by kernel_rfl) rfl #[.slice Ao35 t966.length co35, .slice Ao34 t969.length co34] rfl lu ?_; (with_reducible refine (nat_long.calls _ _ t966 _ _ t969 t984 t987 _ ?side1 ?side2 ?side3 ?side4 A29.out).mono ?_); (case side1 => repeat (first | exact (Kd.V_reads' HO968.out).2.2 | (with_reducible refine Kd.C_alloc ?_ _) | (with_reducible refine Kd.C_drewN ?_ _) | (with_reducible refine Kd.C_drew ?_))); (case side2 => exact (Kd.V_reads' HO968.out).2.1); (case side3 => repeat (first | exact (Kd.V_reads' HO971.out).2.2 | (with_reducible refine Kd.C_alloc ?_ _) | (with_reducible refine Kd.C_drewN ?_ _) | (with_reducible refine Kd.C_drew ?_))); (case side4 => exact (Kd.V_reads' HO971.out).2.1); rintro e w37 ⟨v985, v988, rfl, ho0, ho1, hb⟩; refine ⟨_, rfl, ?_⟩; replace ho0 := R_V_base rfl ho0; replace ho1 := R_V_base rfl ho1; replace HO0 := Aside0.mk (Kd.V_below (vu HO0.out) hb); replace HO1 := Aside0.mk (Kd.V_below (vu HO1.out) hb); replace HO968 := Aside0.mk (Kd.V_below (vu HO968.out) hb); replace HO971 := Aside0.mk (Kd.V_below (vu HO971.out) hb); have HO986 := Aside0.mk (Kd.V_lower (Kd.V_mono (ok' := fun k_ => ((P0_ k_ ∨ P1_ k_) ∨ w.heap.size ≤ k_)) ho0 (fun k_ hk_ => (.inr (Nat.le_trans (below_size (bu HB.out)) hk_)))) (below_size (bu HB.out))); have HO989 := Aside0.mk (Kd.V_lower (Kd.V_mono (ok' := fun k_ => ((P0_ k_ ∨ P1_ k_) ∨ w.heap.size ≤ k_)) ho1 (fun k_ hk_ => (.inr (Nat.le_trans (below_size (bu HB.out)) hk_)))) (below_size (bu HB.out))); replace HB := Aside0.mk (below_step (bu HB.out) hb); (try clear hb); (try clear hb2); (try clear hk); (try clear hi); (try clear ho0); (try clear ho1); obtain ⟨Ao38, co38, eo38⟩ := Kd.V_slice HO986.out; subst eo38) | ((with_reducible refine gate_callee (f := 177) rfl ?_); refine goesL_ (some 49) rfl rfl Try.func177 (by kernel_rfl) rfl #[.slice Ao38 t984.length co38] rfl lu ?_; (with_reducible refine (nat_Trim.calls k _ _ t984 t990 _ ?side1 ?side2 A30.out).mono ?_); (case side1 => repeat (first | exact (Kd.V_reads' HO986.out).2.2 | (with_reducible refine Kd.C_alloc ?_ _) | (with_reducible refine Kd.C_drewN ?_ _) | (with_reducible refine Kd.C_drew ?_))); (case side2 => exact (Kd.V_reads' HO986.out).2.1); rintro e w39 ⟨v991, rfl, ho0, hb⟩; refine ⟨_, rfl, ?_⟩; replace ho0 := R_V_base rfl ho0; replace HO0 := Aside0.mk (Kd.V_below (vu HO0.out) hb); replace HO1 := Aside0.mk (Kd.V_below (vu HO1.out) hb); replace HO968 := Aside0.mk (Kd.V_below (vu HO968.out) hb); replace HO971 := Aside0.mk (Kd.V_below (vu HO971.out) hb); replace HO986 := Aside0.mk (Kd.V_below (vu HO986.out) hb); replace HO989 := Aside0.mk (Kd.V_below (vu HO989.out) hb); have HO992 := Aside0.mk (Kd.V_lower (Kd.V_mono (ok' := fun k_ => ((P0_ k_ ∨ P1_ k_) ∨ w.heap.size ≤ k_)) ho0 (fun k_ hk_ => (.inr (Nat.le_trans (below_size (bu HB.out)) hk_)))) (below_size (bu HB.out))); replace HB := Aside0.mk (below_step (bu HB.out) hb); (try clear hb); (try clear hb2); (try clear hk); (try clear hi); (try clear ho0); obtain ⟨Ao40, co40, eo40⟩ := Kd.V_slice HO989.out; subst eo40) | ((with_reducible refine gate_callee (f := 177) rfl ?_); refine goesL_ (some 51) rfl rfl Try.func177 (by kernel_rfl) rfl #[.slice Ao40 t987.length co40] rfl lu ?_; (with_reducible refine (nat_Trim.calls k _ _ t987 t993 _ ?side1 ?side2 A31.out).mono ?_); (case side1 => repeat (first | exact (Kd.V_reads' HO989.out).2.2 | (with_reducible refine Kd.C_alloc ?_ _) | (with_reducible refine Kd.C_drewN ?_ _) | (with_reducible refine Kd.C_drew ?_))); (case side2 => exact (Kd.V_reads' HO989.out).2.1); rintro e w41 ⟨v994, rfl, ho0, hb⟩; refine ⟨_, rfl, ?_⟩; replace ho0 := R_V_base rfl ho0; replace HO0 := Aside0.mk (Kd.V_below (vu HO0.out) hb); replace HO1 := Aside0.mk (Kd.V_below (vu HO1.out) hb); replace HO968 := Aside0.mk (Kd.V_below (vu HO968.out) hb); replace HO971 := Aside0.mk (Kd.V_below (vu HO971.out) hb); replace HO986 := Aside0.mk (Kd.V_below (vu HO986.out) hb); replace HO989 := Aside0.mk (Kd.V_below (vu HO989.out) hb); replace HO992 := Aside0.mk (Kd.V_below (vu HO992.out) hb); have HO995 := Aside0.mk (Kd.V_lower (Kd.V_mono (ok' := fun k_ => ((P0_ k_ ∨ P1_ k_) ∨ w.heap.size ≤ k_)) ho0 (fun k_ hk_ => (.inr (Nat.le_trans (below_size (bu HB.out)) hk_)))) (below_size (bu HB.out))); replace HB := Aside0.mk (below_step (bu HB.out) hb); (try clear hb); (try clear hb2); (try clear hk); (try clear hi); (try clear ho0)))
    go_ret3
    exact ⟨_, _, by first | rfl | (simp [errW_none, errW_some] <;> rfl) | (simp [*, errW_none, errW_some] <;> rfl), by (with_reducible repeat (first | apply Kd.V_alloc | apply Kd.V_drewN | apply Kd.V_drew)); exact HO992.out, by (with_reducible repeat (first | apply Kd.V_alloc | apply Kd.V_drewN | apply Kd.V_drew)); exact HO995.out, by repeat (first | (with_reducible first | exact HB.out | apply below_alloc | apply pw_below_drewN | apply below_drew1) | exact HB.out)⟩
end Go.Proofs.Ytecfdemglbfnoaa.PT
end
section
namespace Go.Proofs.Ytecfdemglbfnoaa.PT
open Go.RowKit Go.Proofs.YtecfdemglbfnoaaW.PrintWords Go.Proofs.YtecfdemglbfnoaaW.PrintLast Go.Proofs.YtecfdemglbfnoaaW.PrintMore
attribute [local go_sem] max2_int min2_int max_two min_two max_three min_three max_four min_four   -- for this text's walks alone
set_option linter.unusedVariables false
set_option linter.unusedSimpArgs false
def nat_Gcd.l0 : Nat → List Int → List Int → Option (List Int)
 | 0, _, _ => none
 | k + 1, x0, x1 => if (x1.length : Int) > 0 then ((nat_DivMod.f k x0 x1).bind fun bt1002 => (nat_Gcd.l0 k x1 bt1002.2.1)) else ((nat_Trim.f k x0).bind fun t1009 => (some t1009))
def nat_Gcd.f (k : Nat) (l0 : List Int) (l1 : List Int) : Option (List Int) := (nat_short.f k l0).bind fun t996 => ((nat_short.f k l1).bind fun t999 => (nat_Gcd.l0 k t996 t999))
set_option maxHeartbeats 8000000 in
set_option maxRecDepth 100000 in
theorem nat_Gcd.calls (k : Nat) (A0 : Option Addr) (c0 : Nat) (l0 : List Int) (A1 : Option Addr) (c1 : Nat) (l1 : List Int) (r : List Int) (w : World) (hr0 : Kd.C (Kd.int .u32) w A0 l0.length l0) (hc0 : l0.length ≤ c0) (hr1 : Kd.C (Kd.int .u32) w A1 l1.length l1) (hc1 : l1.length ≤ c1) (h : nat_Gcd.f k l0 l1 = some r) :
 Calls Try.prog 182 #[.slice A0 l0.length c0, .slice A1 l1.length c1] w fun e w' => ∃ v0_ : Value, e = .returned (v0_) ∧ Kd.R (Kd.int .u32) 48 w' w.heap.size (fun _ => True) v0_ r ∧ Below w.heap.size w w' := by
 have HR0 := Aside0.mk hr0
 have HC0 := Aside0.mk hc0
 clear hr0 hc0
 have HR1 := Aside0.mk hr1
 have HC1 := Aside0.mk hc1
 clear hr1 hc1
 have HB := Aside0.mk (Below.refl w.heap.size w)
 have H : ((nat_short.f k l0).bind fun t996 => ((nat_short.f k l1).bind fun t999 => (nat_Gcd.l0 k t996 t999))) = some r := h
 clear h
 replace H := Option.bind_eq_some_iff.mp H
 obtain ⟨t996, A30, H⟩ := H
 replace H : ((nat_short.f k l1).bind fun t999 => (nat_Gcd.l0 k t996 t999)) = some r := H
 have A3 := Aside0.mk A30
 clear A30
 replace H := Option.bind_eq_some_iff.mp H
 obtain ⟨t999, A40, H⟩ := H
 replace H : (nat_Gcd.l0 k t996 t999) = some r := H
 have A4 := Aside0.mk A40
 clear A40
 have H' := Aside0.mk H
 clear H
 go_enter Try.func182, Try.ntmps182
 go_wp2_with (first | ((with_reducible refine gate_callee (f := 179) rfl ?_); refine goesL_ (some 9) rfl rfl Try.func179 (by kernel_rfl) rfl #[.slice A0 l0.length c0] rfl lu ?_; (with_reducible refine (nat_short.calls k (fun k_ => k_ < w.heap.size) _ _ l0 t996 _ ?side1 A3.out).mono ?_); (case side1 => exact Kd.V_mk HC0.out (Kd.F_below (Kd.C_F (Kd.heap_int .u32) HR0.out) (bu HB.out))); rintro e w5 ⟨v997, rfl, ho0, hb⟩; refine ⟨_, rfl, ?_⟩; have HO998 := Aside0.mk (Kd.V_lower (Kd.V_mono (ok' := fun k_ => True) ho0 (fun k_ hk_ => trivial)) (below_size (bu HB.out))); replace HB := Aside0.mk (below_step (bu HB.out) hb); (try clear hb); (try clear hb2); (try clear hk); (try clear hi); (try clear ho0)) | ((with_reducible refine gate_callee (f := 179) rfl ?_); refine goesL_ (some 11) rfl rfl Try.func179 (by kernel_rfl) rfl #[.slice A1 l1.length c1] rfl lu ?_; (with_reducible refine (nat_short.calls k (fun k_ => k_ < w.heap.size) _ _ l1 t999 _ ?side1 A4.out).mono ?_); (case side1 => exact Kd.V_mk HC1.out (Kd.F_below (Kd.C_F (Kd.heap_int .u32) HR1.out) (bu HB.out))); rintro e w6 ⟨v1000, rfl, ho0, hb⟩; refine ⟨_, rfl, ?_⟩; replace HO998 := Aside0.mk (Kd.V_below (vu HO998.out) hb); have HO1001 := Aside0.mk (Kd.V_lower (Kd.V_mono (ok' := fun k_ => True) ho0 (fun k_ hk_ => trivial)) (below_size (bu HB.out))); replace HB := Aside0.mk (below_step (bu HB.out) hb); (try clear hb); (try clear hb2); (try clear hk); (try clear hi); (try clear ho0)))
 go_loopg [0, 1] k (fun kq v0 v1 w' => ∃ (x0_1 : List Int) (x1_1 : List Int), Aside0 (nat_Gcd.l0 kq x0_1 x1_1 = some r) ∧ Aside0 (kq ≤ k) ∧ Aside0 (Kd.V (Kd.int .u32) 48 w' w.heap.size (fun _ => True) v0 x0_1) ∧ Aside0 (Kd.V (Kd.int .u32) 48 w' w.heap.size (fun _ => True) v1 x1_1) ∧ Aside0 (Below w.heap.size w w'))
 case atStart => exact ⟨(t996), (t999), H', ⟨Nat.le_refl _⟩, ⟨by (with_reducible repeat (first | apply Kd.V_alloc | apply Kd.V_drewN | apply Kd.V_drew)); exact HO998.out⟩, ⟨by (with_reducible repeat (first | apply Kd.V_alloc | apply Kd.V_drewN | apply Kd.V_drew)); exact HO1001.out⟩, ⟨by repeat (first | (with_reducible first | exact HB.out | apply below_alloc | apply pw_below_drewN | apply below_drew1) | exact HB.out)⟩⟩
 case round =>
  clear H'
  try clear c1
  try clear p2
  obtain ⟨x0_1, x1_1, HA, HK1, HO_0, HO_1, HB⟩ := hrel
  cases gk with
  | zero => exact absurd HA.out (by simp [nat_Gcd.l0])
  | succ k1 =>
   have H := HA.out
   clear HA
   simp only [nat_Gcd.l0] at H
   by_cases c7 : (x1_1.length : Int) > 0
   ·
    rw [if_pos c7] at H
    have c7b0 : decide (0 < (x1_1.length : Int)) = true := decide_eq_true c7
    have c7b1 : decide (0 < x1_1.length) = true := decide_eq_true (by omega)
    clear c7
    replace H := Option.bind_eq_some_iff.mp H
    obtain ⟨⟨t1002, t1005, t1008⟩, A80, H⟩ := H
    replace H : (nat_Gcd.l0 k1 x1_1 t1005) = some r := H
    have A8 := Aside0.mk A80
    clear A80
    have H' := Aside0.mk H
    clear H
    obtain ⟨Ao9, co9, eo9⟩ := Kd.V_slice HO_1.out
    subst eo9
    obtain ⟨Ao10, co10, eo10⟩ := Kd.V_slice HO_0.out
    subst eo10
    go_wp2_with (first | ((with_reducible refine gate_callee (f := 167) rfl ?_); refine goesL_ (some 18) rfl rfl Try.func167 (by kernel_rfl) rfl #[.slice Ao10 x0_1.length co10, .slice Ao9 x1_1.length co9] rfl lu ?_; (with_reducible refine (nat_DivMod.calls k1 (fun k_ => True) _ _ x0_1 (fun k_ => True) _ _ x1_1 t1002 t1005 t1008 _ ?side1 ?side2 A8.out).mono ?_); (case side1 => exact HO_0.out); (case side2 => exact HO_1.out); rintro e w11 ⟨v1003, v1006, rfl, ho0, ho1, hb⟩; refine ⟨_, rfl, ?_⟩; replace HO_0 := Aside0.mk (Kd.V_below (vu HO_0.out) hb); replace HO_1 := Aside0.mk (Kd.V_below (vu HO_1.out) hb); have HO1004 := Aside0.mk (Kd.V_lower (Kd.V_mono (ok' := fun k_ => True) ho0 (fun k_ hk_ => trivial)) (below_size (bu HB.out))); have HO1007 := Aside0.mk (Kd.V_lower (Kd.V_mono (ok' := fun k_ => True) ho1 (fun k_ hk_ => trivial)) (below_size (bu HB.out))); replace HB := Aside0.mk (below_step (bu HB.out) hb); (try clear hb); (try clear hb2); (try clear hk); (try clear hi); (try clear ho0); (try clear ho1)))
    go_roundg k1
    case measure => have := HK1.out; omega
    case rel => exact ⟨(x1_1), (t1005), H', ⟨by have := HK1.out; omega⟩, ⟨by (with_reducible repeat (first | apply Kd.V_alloc | apply Kd.V_drewN | apply Kd.V_drew)); exact HO_1.out⟩, ⟨by (with_reducible repeat (first | apply Kd.V_alloc | apply Kd.V_drewN | apply Kd.V_drew)); exact HO1007.out⟩, ⟨by repeat (first | (with_reducible first | exact HB.out | apply below_alloc | apply pw_below_drewN | apply below_drew1) | exact HB.out)⟩⟩
   ·
    rw [if_neg c7] at H
    have c7b0 : decide (0 < (x1_1.length : Int)) = false := decide_eq_false c7
    have c7b1 : decide (0 < x1_1.length) = false := decide_eq_false (by omega)
    clear c7
    replace H := Option.bind_eq_some_iff.mp H
    obtain ⟨t1009, A120, H⟩ := H
    replace H : (some t1009) = some r := H
    have A12 := Aside0.mk A120
    clear A120
    obtain rfl := Option.some.inj H
    obtain ⟨Ao13, co13, eo13⟩ := Kd.V_slice HO_1.out
    subst eo13
    obtain ⟨Ao14, co14, eo14⟩ := Kd.V_slice HO_0.out
    subst eo14
    go_wp2_with (first | ((with_reducible refine gate_callee (f := 177) rfl ?_); refine goesL_ (some 25) rfl rfl Try.func177 (by kernel_rfl) rfl #[.slice Ao14 x0_1.length co14] rfl lu ?_; (with_reducible refine (nat_Trim.calls k1 _ _ x0_1 t1009 _ ?side1 ?side2 A12.out).mono ?_); (case side1 => repeat (first | exact (Kd.V_reads' HO_0.out).2.2 | (with_reducible refine Kd.C_alloc ?_ _) | (with_reducible refine Kd.C_drewN ?_ _) | (with_reducible refine Kd.C_drew ?_))); (case side2 => exact (Kd.V_reads' HO_0.out).2.1); rintro e w15 ⟨v1010, rfl, ho0, hb⟩; refine ⟨_, rfl, ?_⟩; replace HO_0 := Aside0.mk (Kd.V_elder' (vu HO_0.out) (Kd.R_base ho0) hb); replace HO_1 := Aside0.mk (Kd.V_elder' (vu HO_1.out) (Kd.R_base ho0) hb); have HO1011 := Aside0.mk (Kd.R_lower ho0 (below_size (bu HB.out))); replace HB := Aside0.mk (below_step (bu HB.out) hb); (try clear hb); (try clear hb2); (try clear hk); (try clear hi); (try clear ho0)))
    go_ret
    exact ⟨_, by first | rfl | (simp [errW_none, errW_some] <;> rfl) | (simp [*, errW_none, errW_some] <;> rfl), by (with_reducible repeat (first | apply Kd.R_alloc | apply Kd.R_drewN | apply Kd.R_drew)); exact HO1011.out, by repeat (first | (with_reducible first | exact HB.out | apply below_alloc | apply pw_below_drewN | apply below_drew1) | exact HB.out)⟩
end Go.Proofs.Ytecfdemglbfnoaa.PT
end
section
namespace Go.Proofs.Ytecfdemglbfnoaa.PT
open Go.RowKit Go.Proofs.YtecfdemglbfnoaaW.PrintWords Go.Proofs.YtecfdemglbfnoaaW.PrintLast Go.Proofs.YtecfdemglbfnoaaW.PrintMore
attribute [local go_sem] max2_int min2_int max_two min_two max_three min_three max_four min_four   -- for this text's walks alone
set_option linter.unusedVariables false
set_option linter.unusedSimpArgs false
def rational_canonical.j0 : Nat → Bool → List Int → List Int → Bool → Option (Bool × List Int × List Int)
 | 0, _, _, _, _ => none
 | k + 1, x0, x1, x2, x15 => if x15 = true then ((rational_one.f).bind fun t1015 => (some (false, ([] : List Int), t1015))) else ((nat_Gcd.f k x1 x2).bind fun t1018 => ((nat_DivMod.f k x1 t1018).bind fun bt1021 => ((nat_DivMod.f k x2 t1018).bind fun bt1028 => (some (x0, bt1021.1, bt1028.1)))))
def rational_canonical.f (k : Nat) (a0 : Bool) (l1 : List Int) (l2 : List Int) : Option (Bool × List Int × List Int) := (nat_Bits.f k l1).bind fun t1013 => (if t1013 = 0 then (rational_canonical.j0 k a0 l1 l2 true) else ((nat_Bits.f k l2).bind fun t1014 => (rational_canonical.j0 k a0 l1 l2 (t1014 == 0))))
set_option maxHeartbeats 8000000 in
set_option maxRecDepth 100000 in
theorem rational_canonical.calls (k : Nat) (a0 : Bool) (P1_ : Nat → Prop) (A1 : Option Addr) (c1 : Nat) (l1 : List Int) (P2_ : Nat → Prop) (A2 : Option Addr) (c2 : Nat) (l2 : List Int) (r1 : Bool) (r2 : List Int) (r3 : List Int) (w : World) (hs1 : Kd.V (Kd.int .u32) 48 w w.heap.size (fun k_ => P1_ k_) (.slice A1 l1.length c1) l1) (hs2 : Kd.V (Kd.int .u32) 48 w w.heap.size (fun k_ => P2_ k_) (.slice A2 l2.length c2) l2) (h : rational_canonical.f k a0 l1 l2 = some (r1, r2, r3)) :
 Calls Try.prog 155 #[.bool a0, .slice A1 l1.length c1, .slice A2 l2.length c2] w fun e w' => ∃ v1_ v2_ : Value, e = .returned (.agg #[.bool r1, v1_, v2_]) ∧ Kd.V (Kd.int .u32) 48 w' w.heap.size (fun k_ => ((P1_ k_ ∨ P2_ k_) ∨ w.heap.size ≤ k_)) v1_ r2 ∧ Kd.V (Kd.int .u32) 48 w' w.heap.size (fun k_ => ((P1_ k_ ∨ P2_ k_) ∨ w.heap.size ≤ k_)) v2_ r3 ∧ Below w.heap.size w w' := by
 have hu67 := Try.underlying67
 have HO1 := Aside0.mk (show Kd.V (Kd.int .u32) 48 w w.heap.size (fun k_ => ((P1_ k_ ∨ P2_ k_) ∨ w.heap.size ≤ k_)) (.slice A1 l1.length c1) l1 from Kd.V_mono hs1 (fun k_ hk => .inl (.inl hk)))
 have HO2 := Aside0.mk (show Kd.V (Kd.int .u32) 48 w w.heap.size (fun k_ => ((P1_ k_ ∨ P2_ k_) ∨ w.heap.size ≤ k_)) (.slice A2 l2.length c2) l2 from Kd.V_mono hs2 (fun k_ hk => .inl (.inr hk)))
 have HB := Aside0.mk (Below.refl w.heap.size w)
 have H : ((nat_Bits.f k l1).bind fun t1013 => (if t1013 = 0 then (rational_canonical.j0 k a0 l1 l2 true) else ((nat_Bits.f k l2).bind fun t1014 => (rational_canonical.j0 k a0 l1 l2 (t1014 == 0))))) = some (r1, r2, r3) := h
 clear h
 have HC4 := Aside0.mk H
 clear H
 go_enter Try.func155, Try.ntmps155
 go_upto_region 1 with (first | ((with_reducible refine gate_dst (N := 6) rfl ?_); refine box_event ?hg (N := 6) ?hd (cs := #[.bool false, .slice none 0 0, .slice none 0 0]) (t := 67) ?hr ?_; (case hd => rfl); (case hg => rfl); (case hr => first | (go_simp; done) | (go_simp; rfl)); intro gb1012 hg w5 hbox hb; replace HO1 := Aside0.mk (Kd.V_below (Kd.V_elderB (vu HO1.out) gb1012 (Nat.le_of_eq hg.symm)) hb); replace HO2 := Aside0.mk (Kd.V_below (Kd.V_elderB (vu HO2.out) gb1012 (Nat.le_of_eq hg.symm)) hb); have BK1012 := Aside0.mk (hbox); have GW1012 := Aside0.mk ((by rw [hg]; exact (below_size (bu HB.out)) : w.heap.size ≤ gb1012)); have GE1012 := Aside0.mk ((by rw [hg]; exact (below_size (bu HB.out)) : w.heap.size ≤ gb1012)); replace HB := Aside0.mk (below_step (bu HB.out) hb); clear hb hbox hg))
 (try simp only [Act.put, List.setIfInBounds_toArray, List.set_cons_zero, List.set_cons_succ])
 go_cut [15] (fun v15 wc => ∃ (kq : Nat) (x15_3 : Bool), v15 = .bool x15_3 ∧ Aside0 (rational_canonical.j0 kq a0 l1 l2 x15_3 = some (r1, r2, r3)) ∧ Aside0 (kq ≤ k) ∧ Aside0 (Kd.V (Kd.int .u32) 48 wc w.heap.size (fun k_ => ((P1_ k_ ∨ P2_ k_) ∨ w.heap.size ≤ k_) ∧ k_ ≠ gb1012) (.slice A1 l1.length c1) l1) ∧ Aside0 (Kd.V (Kd.int .u32) 48 wc w.heap.size (fun k_ => ((P1_ k_ ∨ P2_ k_) ∨ w.heap.size ≤ k_) ∧ k_ ≠ gb1012) (.slice A2 l2.length c2) l2) ∧ Aside0 (wc.heap[gb1012]? = some (.cells #[.bool false, (.slice none 0 0), (.slice none 0 0)] 67 (0, 0))) ∧ Aside0 (Below w.heap.size w wc))
 case first =>
  have H := HC4.out
  clear HC4
  replace H := Option.bind_eq_some_iff.mp H
  obtain ⟨t1013, A60, H⟩ := H
  replace H : (if t1013 = 0 then (rational_canonical.j0 k a0 l1 l2 true) else ((nat_Bits.f k l2).bind fun t1014 => (rational_canonical.j0 k a0 l1 l2 (t1014 == 0)))) = some (r1, r2, r3) := H
  have A6 := Aside0.mk A60
  clear A60
  by_cases c7 : t1013 = 0
  ·
   rw [if_pos c7] at H
   have c7b0 : (t1013 == 0) = true := beq_iff_eq.mpr c7
   have c7b1 : (t1013 != 0) = false := bne_eq_false_iff_eq.mpr c7
   clear c7
   (first | rw [c7b0] | rw [c7b1] | (simp only [i64_w, i32_w]; rw [c7b0]) | skip)
   have H' := Aside0.mk H
   clear H
   go_wp2_with (first | ((with_reducible refine gate_callee (f := 154) rfl ?_); refine goesL_ (some 9) rfl rfl Try.func154 (by kernel_rfl) rfl #[.slice A1 l1.length c1] rfl lu ?_; (with_reducible refine (nat_Bits.calls k _ _ l1 t1013 _ ?side1 ?side2 A6.out).mono ?_); (case side1 => repeat (first | exact (Kd.V_reads' HO1.out).2.2 | (with_reducible refine Kd.C_alloc ?_ _) | (with_reducible refine Kd.C_drewN ?_ _) | (with_reducible refine Kd.C_drew ?_))); (case side2 => exact (Kd.V_reads' HO1.out).2.1); rintro e w8 ⟨rfl, hb⟩; refine ⟨_, rfl, ?_⟩; replace HO1 := Aside0.mk (Kd.V_below (vu HO1.out) hb); replace HO2 := Aside0.mk (Kd.V_below (vu HO2.out) hb); replace BK1012 := Aside0.mk (blk_below (g := gb1012) (o := .cells #[.bool false, .slice none 0 0, .slice none 0 0] 67 (0, 0)) (ku BK1012.out) hb); replace HB := Aside0.mk (below_step (bu1 HB.out GE1012.out) hb); (try clear hb); (try clear hb2); (try clear hk); (try clear hi)))
   go_meet
   case rel => exact ⟨_, (true), (by first | rfl | (simp; done) | (simp [*]; done)), H', ⟨by first | omega | exact Nat.le_refl _⟩, ⟨by (with_reducible repeat (first | apply Kd.V_alloc | apply Kd.V_drewN | apply Kd.V_drew)); exact HO1.out⟩, ⟨by (with_reducible repeat (first | apply Kd.V_alloc | apply Kd.V_drewN | apply Kd.V_drew)); exact HO2.out⟩, ⟨by (with_reducible repeat (first | refine blk_drewN ?_ _ | refine blk_drew ?_ | refine blk_alloc ?_ _)); exact BK1012.out⟩, ⟨by repeat (first | (with_reducible first | exact HB.out | apply below_alloc | apply pw_below_drewN | apply below_drew1 | refine below_set ?_ GE1012.out) | exact HB.out)⟩⟩
  ·
   rw [if_neg c7] at H
   have c7b0 : (t1013 == 0) = false := beq_eq_false_iff_ne.mpr c7
   have c7b1 : (t1013 != 0) = true := bne_iff_ne.mpr c7
   (first | rw [c7b0] | rw [c7b1] | (simp only [i64_w, i32_w]; rw [c7b0]) | skip)
   replace H := Option.bind_eq_some_iff.mp H
   obtain ⟨t1014, A90, H⟩ := H
   replace H : (rational_canonical.j0 k a0 l1 l2 (t1014 == 0)) = some (r1, r2, r3) := H
   have A9 := Aside0.mk A90
   clear A90
   have H' := Aside0.mk H
   clear H
   go_wp2_with (first | ((with_reducible refine gate_callee (f := 154) rfl ?_); refine goesL_ (some 9) rfl rfl Try.func154 (by kernel_rfl) rfl #[.slice A1 l1.length c1] rfl lu ?_; (with_reducible refine (nat_Bits.calls k _ _ l1 t1013 _ ?side1 ?side2 A6.out).mono ?_); (case side1 => repeat (first | exact (Kd.V_reads' HO1.out).2.2 | (with_reducible refine Kd.C_alloc ?_ _) | (with_reducible refine Kd.C_drewN ?_ _) | (with_reducible refine Kd.C_drew ?_))); (case side2 => exact (Kd.V_reads' HO1.out).2.1); rintro e w10 ⟨rfl, hb⟩; refine ⟨_, rfl, ?_⟩; replace HO1 := Aside0.mk (Kd.V_below (vu HO1.out) hb); replace HO2 := Aside0.mk (Kd.V_below (vu HO2.out) hb); replace BK1012 := Aside0.mk (blk_below (g := gb1012) (o := .cells #[.bool false, .slice none 0 0, .slice none 0 0] 67 (0, 0)) (ku BK1012.out) hb); replace HB := Aside0.mk (below_step (bu1 HB.out GE1012.out) hb); (try clear hb); (try clear hb2); (try clear hk); (try clear hi)) | (go_at_call 154; (with_reducible refine (nat_Bits.calls k _ _ l2 t1014 _ ?side1 ?side2 A9.out).mono ?_); (case side1 => repeat (first | exact (Kd.V_reads' HO2.out).2.2 | (with_reducible refine Kd.C_alloc ?_ _) | (with_reducible refine Kd.C_drewN ?_ _) | (with_reducible refine Kd.C_drew ?_))); (case side2 => exact (Kd.V_reads' HO2.out).2.1); rintro e w11 ⟨rfl, hb⟩; replace HO1 := Aside0.mk (Kd.V_below (vu HO1.out) hb); replace HO2 := Aside0.mk (Kd.V_below (vu HO2.out) hb); replace BK1012 := Aside0.mk (blk_below (g := gb1012) (o := .cells #[.bool false, .slice none 0 0, .slice none 0 0] 67 (0, 0)) (ku BK1012.out) hb); replace HB := Aside0.mk (below_step (bu1 HB.out GE1012.out) hb); (try clear hb); (try clear hb2); (try clear hk); (try clear hi)))
   go_meet
   case rel => exact ⟨_, ((t1014 == 0)), (by first | rfl | (simp; done) | (simp [*]; done) | (cases t1014 <;> first | rfl | (simp; done))), H', ⟨by first | omega | exact Nat.le_refl _⟩, ⟨by (with_reducible repeat (first | apply Kd.V_alloc | apply Kd.V_drewN | apply Kd.V_drew)); exact HO1.out⟩, ⟨by (with_reducible repeat (first | apply Kd.V_alloc | apply Kd.V_drewN | apply Kd.V_drew)); exact HO2.out⟩, ⟨by (with_reducible repeat (first | refine blk_drewN ?_ _ | refine blk_drew ?_ | refine blk_alloc ?_ _)); exact BK1012.out⟩, ⟨by repeat (first | (with_reducible first | exact HB.out | apply below_alloc | apply pw_below_drewN | apply below_drew1 | refine below_set ?_ GE1012.out) | exact HB.out)⟩⟩
 case rest =>
  clear HC4
  try clear c1
  try clear c2
  try clear p2
  try clear c7
  try clear c7b0
  try clear c7b1
  obtain ⟨kq, x15_3, rfl, HA, HJ3, HO_1, HO_2, BK1012, HB⟩ := hcut
  cases kq with
  | zero => exact absurd HA.out (by simp [rational_canonical.j0])
  | succ kj3 =>
   have H := HA.out
   clear HA
   simp only [rational_canonical.j0] at H
   by_cases c12 : x15_3 = true
   ·
    subst c12
    have H1 : ((rational_one.f).bind fun t1015 => (some (false, ([] : List Int), t1015))) = some (r1, r2, r3) := by rw [if_pos rfl] at H; exact H
    clear H
    have H := H1
    clear H1
    replace H := Option.bind_eq_some_iff.mp H
    obtain ⟨t1015, A130, H⟩ := H
    replace H : (some (false, ([] : List Int), t1015)) = some (r1, r2, r3) := H
    have A13 := Aside0.mk A130
    clear A130
    simp only [Option.some.injEq, Prod.mk.injEq] at H
    obtain ⟨rfl, rfl, rfl⟩ := H
    go_wp2_with (first | ((with_reducible refine gate_callee (f := 161) rfl ?_); refine goesL_ (some 16) rfl rfl Try.func161 (by kernel_rfl) rfl #[] rfl lu ?_; (with_reducible refine (rational_one.calls  t1015 _ A13.out).mono ?_); rintro e w14 ⟨v1016, rfl, ho0, hb⟩; refine ⟨_, rfl, ?_⟩; replace ho0 := R_V_base rfl ho0; replace HO_1 := Aside0.mk (Kd.V_below (vu HO_1.out) hb); replace HO_2 := Aside0.mk (Kd.V_below (vu HO_2.out) hb); have HO1017 := Aside0.mk (Kd.V_lower (Kd.V_mono (ok' := fun k_ => ((P1_ k_ ∨ P2_ k_) ∨ w.heap.size ≤ k_) ∧ k_ ≠ gb1012) ho0 (fun k_ hk_ => ⟨(.inr (Nat.le_trans (below_size (bu1 HB.out GE1012.out)) hk_)), (Kd.freshB (g := gb1012) (o := .cells #[.bool false, .slice none 0 0, .slice none 0 0] 67 (0, 0)) (ku BK1012.out) k_ hk_)⟩)) (below_size (bu1 HB.out GE1012.out))); replace BK1012 := Aside0.mk (blk_below (g := gb1012) (o := .cells #[.bool false, .slice none 0 0, .slice none 0 0] 67 (0, 0)) (ku BK1012.out) hb); replace HB := Aside0.mk (below_step (bu1 HB.out GE1012.out) hb); (try clear hb); (try clear hb2); (try clear hk); (try clear hi); (try clear ho0); obtain ⟨Ao15, co15, eo15⟩ := Kd.V_slice HO1017.out; subst eo15; have hcz16_0 : w14.cell? ⟨gb1012, 0, none⟩ = some (.bool false) := (blk_cell BK1012.out 0).trans rfl; have hcz16_1 : w14.cell? ⟨gb1012, 1, none⟩ = some (.slice none 0 0) := (blk_cell BK1012.out 1).trans rfl; have hcz16_2 : w14.cell? ⟨gb1012, 2, none⟩ = some (.slice none 0 0) := (blk_cell BK1012.out 2).trans rfl; have hfz16_0 := blk_frozen BK1012.out 0; have hfz16_1 := blk_frozen BK1012.out 1; have hfz16_2 := blk_frozen BK1012.out 2))
    refine bodyPost_ret (results_cell_row rfl _ _ gb1012 67 #[.bool false, .slice none 0 0, .slice Ao15 t1015.length co15] (0, 0) _ rfl (by (with_reducible repeat (first | refine blk_drewN ?_ _ | refine blk_drew ?_ | refine blk_alloc ?_ _)); refine blk_put (cs := #[.bool false, .slice none 0 0, .slice none 0 0]) ?_ 2 _ rfl; (with_reducible repeat (first | refine blk_drewN ?_ _ | refine blk_drew ?_ | refine blk_alloc ?_ _)); refine blk_put (cs := #[.bool false, .slice none 0 0, .slice none 0 0]) ?_ 1 _ rfl; (with_reducible repeat (first | refine blk_drewN ?_ _ | refine blk_drew ?_ | refine blk_alloc ?_ _)); refine blk_put (cs := #[.bool false, .slice none 0 0, .slice none 0 0]) ?_ 0 _ rfl; (with_reducible repeat (first | refine blk_drewN ?_ _ | refine blk_drew ?_ | refine blk_alloc ?_ _)); exact BK1012.out) Try.underlying67 rfl (by kernel_rfl)) rfl ?_
    exact ⟨_, _, by first | rfl | (simp [errW_none, errW_some] <;> rfl) | (simp [*, errW_none, errW_some] <;> rfl), Kd.V_nil _ _ _ _ _, by (with_reducible repeat (first | apply Kd.V_alloc | apply Kd.V_drewN | apply Kd.V_drew)); exact Kd.V_mono (Kd.V_far (p := ⟨gb1012, 2, none⟩) (Kd.V_far (p := ⟨gb1012, 1, none⟩) (Kd.V_far (p := ⟨gb1012, 0, none⟩) (Kd.V_mono HO1017.out (fun k_ hk => (⟨hk, hk.2⟩ : _ ∧ k_ ≠ gb1012))) (fun _ hk => hk.2) (.bool false)) (fun _ hk => hk.2) (.slice none 0 0)) (fun _ hk => hk.2) (.slice Ao15 t1015.length co15)) (fun _ hk => hk.1.1), by repeat (first | (with_reducible first | exact HB.out | apply below_alloc | apply pw_below_drewN | apply below_drew1 | refine below_set ?_ GE1012.out) | exact HB.out)⟩
   ·
    replace c12 := Bool.eq_false_iff.mpr c12
    subst c12
    have H1 : ((nat_Gcd.f kj3 l1 l2).bind fun t1018 => ((nat_DivMod.f kj3 l1 t1018).bind fun bt1021 => ((nat_DivMod.f kj3 l2 t1018).bind fun bt1028 => (some (a0, bt1021.1, bt1028.1))))) = some (r1, r2, r3) := by rw [if_neg (show ¬ (false = true) by decide)] at H; exact H
    clear H
    have H := H1
    clear H1
    replace H := Option.bind_eq_some_iff.mp H
    obtain ⟨t1018, A170, H⟩ := H
    replace H : ((nat_DivMod.f kj3 l1 t1018).bind fun bt1021 => ((nat_DivMod.f kj3 l2 t1018).bind fun bt1028 => (some (a0, bt1021.1, bt1028.1)))) = some (r1, r2, r3) := H
    have A17 := Aside0.mk A170
    clear A170
    replace H := Option.bind_eq_some_iff.mp H
    obtain ⟨⟨t1021, t1024, t1027⟩, A180, H⟩ := H
    replace H : ((nat_DivMod.f kj3 l2 t1018).bind fun bt1028 => (some (a0, t1021, bt1028.1))) = some (r1, r2, r3) := H
    have A18 := Aside0.mk A180
    clear A180
    replace H := Option.bind_eq_some_iff.mp H
    obtain ⟨⟨t1028, t1031, t1034⟩, A190, H⟩ := H
    replace H : (some (a0, t1021, t1028)) = some (r1, r2, r3) := H
    have A19 := Aside0.mk A190
    clear A190
    simp only [Option.some.injEq, Prod.mk.injEq] at H
    obtain ⟨rfl, rfl, rfl⟩ := H
    go_wp2_with (first | ((with_reducible refine gate_callee (f := 182) rfl ?_); refine goesL_ (some 20) rfl rfl Try.func182 (by kernel_rfl) rfl #[.slice A1 l1.length c1, .slice A2 l2.length c2] rfl lu ?_; (with_reducible refine (nat_Gcd.calls kj3 _ _ l1 _ _ l2 t1018 _ ?side1 ?side2 ?side3 ?side4 A17.out).mono ?_); (case side1 => repeat (first | exact (Kd.V_reads' HO_1.out).2.2 | (with_reducible refine Kd.C_alloc ?_ _) | (with_reducible refine Kd.C_drewN ?_ _) | (with_reducible refine Kd.C_drew ?_))); (case side2 => exact (Kd.V_reads' HO_1.out).2.1); (case side3 => repeat (first | exact (Kd.V_reads' HO_2.out).2.2 | (with_reducible refine Kd.C_alloc ?_ _) | (with_reducible refine Kd.C_drewN ?_ _) | (with_reducible refine Kd.C_drew ?_))); (case side4 => exact (Kd.V_reads' HO_2.out).2.1); rintro e w20 ⟨v1019, rfl, ho0, hb⟩; refine ⟨_, rfl, ?_⟩; replace ho0 := R_V_base rfl ho0; replace HO_1 := Aside0.mk (Kd.V_below (vu HO_1.out) hb); replace HO_2 := Aside0.mk (Kd.V_below (vu HO_2.out) hb); have HO1020 := Aside0.mk (Kd.V_lower (Kd.V_mono (ok' := fun k_ => ((P1_ k_ ∨ P2_ k_) ∨ w.heap.size ≤ k_) ∧ k_ ≠ gb1012) ho0 (fun k_ hk_ => ⟨(.inr (Nat.le_trans (below_size (bu1 HB.out GE1012.out)) hk_)), (Kd.freshB (g := gb1012) (o := .cells #[.bool false, .slice none 0 0, .slice none 0 0] 67 (0, 0)) (ku BK1012.out) k_ hk_)⟩)) (below_size (bu1 HB.out GE1012.out))); replace BK1012 := Aside0.mk (blk_below (g := gb1012) (o := .cells #[.bool false, .slice none 0 0, .slice none 0 0] 67 (0, 0)) (ku BK1012.out) hb); replace HB := Aside0.mk (below_step (bu1 HB.out GE1012.out) hb); (try clear hb); (try clear hb2); (try clear hk); (try clear hi); (try clear ho0); obtain ⟨Ao21, co21, eo21⟩ := Kd.V_slice HO1020.out; subst eo21) | ((with_reducible refine gate_callee (f := 167) rfl ?_); refine goesL_ (some 24) rfl rfl Try.func167 (by kernel_rfl) rfl #[.slice A1 l1.length c1, .slice Ao21 t1018.length co21] rfl lu ?_; (with_reducible refine (nat_DivMod.calls kj3 (fun k_ => (((P1_ k_ ∨ P2_ k_) ∨ w.heap.size ≤ k_) ∧ k_ ≠ gb1012)) _ _ l1 (fun k_ => (((P1_ k_ ∨ P2_ k_) ∨ w.heap.size ≤ k_) ∧ k_ ≠ gb1012)) _ _ t1018 t1021 t1024 t1027 _ ?side1 ?side2 A18.out).mono ?_); (case side1 => exact HO_1.out); (case side2 => exact HO1020.out); rintro e w22 ⟨v1022, v1025, rfl, ho0, ho1, hb⟩; refine ⟨_, rfl, ?_⟩; replace HO_1 := Aside0.mk (Kd.V_below (vu HO_1.out) hb); replace HO_2 := Aside0.mk (Kd.V_below (vu HO_2.out) hb); replace HO1020 := Aside0.mk (Kd.V_below (vu HO1020.out) hb); have HO1023 := Aside0.mk (Kd.V_lower (Kd.V_mono (ok' := fun k_ => ((P1_ k_ ∨ P2_ k_) ∨ w.heap.size ≤ k_) ∧ k_ ≠ gb1012) ho0 (fun k_ hk_ => ⟨Or.elim hk_ (fun hs_ => Or.elim hs_ (fun hs_ => hs_.1) (fun hs_ => hs_.1)) (fun hn_ => (.inr (Nat.le_trans (below_size (bu1 HB.out GE1012.out)) hn_))), Or.elim hk_ (fun hs_ => Or.elim hs_ (fun hs_ => hs_.2) (fun hs_ => hs_.2)) (fun hn_ => (Kd.freshB (g := gb1012) (o := .cells #[.bool false, .slice none 0 0, .slice none 0 0] 67 (0, 0)) (ku BK1012.out) k_ hn_))⟩)) (below_size (bu1 HB.out GE1012.out))); have HO1026 := Aside0.mk (Kd.V_lower (Kd.V_mono (ok' := fun k_ => ((P1_ k_ ∨ P2_ k_) ∨ w.heap.size ≤ k_) ∧ k_ ≠ gb1012) ho1 (fun k_ hk_ => ⟨Or.elim hk_ (fun hs_ => Or.elim hs_ (fun hs_ => hs_.1) (fun hs_ => hs_.1)) (fun hn_ => (.inr (Nat.le_trans (below_size (bu1 HB.out GE1012.out)) hn_))), Or.elim hk_ (fun hs_ => Or.elim hs_ (fun hs_ => hs_.2) (fun hs_ => hs_.2)) (fun hn_ => (Kd.freshB (g := gb1012) (o := .cells #[.bool false, .slice none 0 0, .slice none 0 0] 67 (0, 0)) (ku BK1012.out) k_ hn_))⟩)) (below_size (bu1 HB.out GE1012.out))); replace BK1012 := Aside0.mk (blk_below (g := gb1012) (o := .cells #[.bool false, .slice none 0 0, .slice none 0 0] 67 (0, 0)) (ku BK1012.out) hb); replace HB := Aside0.mk (below_step (bu1 HB.out GE1012.out) hb); (try clear hb); (try clear hb2); (try clear hk); (try clear hi); (try clear ho0); (try clear ho1)) | ((with_reducible refine gate_callee (f := 167) rfl ?_); refine goesL_ (some 31) rfl rfl Try.func167 (by kernel_rfl) rfl #[.slice A2 l2.length c2, .slice Ao21 t1018.length co21] rfl lu ?_; (with_reducible refine (nat_DivMod.calls kj3 (fun k_ => (((P1_ k_ ∨ P2_ k_) ∨ w.heap.size ≤ k_) ∧ k_ ≠ gb1012)) _ _ l2 (fun k_ => (((P1_ k_ ∨ P2_ k_) ∨ w.heap.size ≤ k_) ∧ k_ ≠ gb1012)) _ _ t1018 t1028 t1031 t1034 _ ?side1 ?side2 A19.out).mono ?_); (case side1 => exact HO_2.out); (case side2 => exact HO1020.out); rintro e w23 ⟨v1029, v1032, rfl, ho0, ho1, hb⟩; refine ⟨_, rfl, ?_⟩; replace HO_1 := Aside0.mk (Kd.V_below (vu HO_1.out) hb); replace HO_2 := Aside0.mk (Kd.V_below (vu HO_2.out) hb); replace HO1020 := Aside0.mk (Kd.V_below (vu HO1020.out) hb); replace HO1023 := Aside0.mk (Kd.V_below (vu HO1023.out) hb); replace HO1026 := Aside0.mk (Kd.V_below (vu HO1026.out) hb); have HO1030 := Aside0.mk (Kd.V_lower (Kd.V_mono (ok' := fun k_ => ((P1_ k_ ∨ P2_ k_) ∨ w.heap.size ≤ k_) ∧ k_ ≠ gb1012) ho0 (fun k_ hk_ => ⟨Or.elim hk_ (fun hs_ => Or.elim hs_ (fun hs_ => hs_.1) (fun hs_ => hs_.1)) (fun hn_ => (.inr (Nat.le_trans (below_size (bu1 HB.out GE1012.out)) hn_))), Or.elim hk_ (fun hs_ => Or.elim hs_ (fun hs_ => hs_.2) (fun hs_ => hs_.2)) (fun hn_ => (Kd.freshB (g := gb1012) (o := .cells #[.bool false, .slice none 0 0, .slice none 0 0] 67 (0, 0)) (ku BK1012.out) k_ hn_))⟩)) (below_size (bu1 HB.out GE1012.out))); have HO1033 := Aside0.mk (Kd.V_lower (Kd.V_mono (ok' := fun k_ => ((P1_ k_ ∨ P2_ k_) ∨ w.heap.size ≤ k_) ∧ k_ ≠ gb1012) ho1 (fun k_ hk_ => ⟨Or.elim hk_ (fun hs_ => Or.elim hs_ (fun hs_ => hs_.1) (fun hs_ => hs_.1)) (fun hn_ => (.inr (Nat.le_trans (below_size (bu1 HB.out GE1012.out)) hn_))), Or.elim hk_ (fun hs_ => Or.elim hs_ (fun hs_ => hs_.2) (fun hs_ => hs_.2)) (fun hn_ => (Kd.freshB (g := gb1012) (o := .cells #[.bool false, .slice none 0 0, .slice none 0 0] 67 (0, 0)) (ku BK1012.out) k_ hn_))⟩)) (below_size (bu1 HB.out GE1012.out))); replace BK1012 := Aside0.mk (blk_below (g := gb1012) (o := .cells #[.bool false, .slice none 0 0, .slice none 0 0] 67 (0, 0)) (ku BK1012.out) hb); replace HB := Aside0.mk (below_step (bu1 HB.out GE1012.out) hb); (try clear hb); (try clear hb2); (try clear hk); (try clear hi); (try clear ho0); (try clear ho1); obtain ⟨Ao24, co24, eo24⟩ := Kd.V_slice HO1030.out; subst eo24; obtain ⟨Ao25, co25, eo25⟩ := Kd.V_slice HO1023.out; subst eo25; have hcz26_0 : w23.cell? ⟨gb1012, 0, none⟩ = some (.bool false) := (blk_cell BK1012.out 0).trans rfl; have hcz26_1 : w23.cell? ⟨gb1012, 1, none⟩ = some (.slice none 0 0) := (blk_cell BK1012.out 1).trans rfl; have hcz26_2 : w23.cell? ⟨gb1012, 2, none⟩ = some (.slice none 0 0) := (blk_cell BK1012.out 2).trans rfl; have hfz26_0 := blk_frozen BK1012.out 0; have hfz26_1 := blk_frozen BK1012.out 1; have hfz26_2 := blk_frozen BK1012.out 2))
    refine bodyPost_ret (results_cell_row rfl _ _ gb1012 67 #[.bool a0, .slice Ao25 t1021.length co25, .slice Ao24 t1028.length co24] (0, 0) _ rfl (by (with_reducible repeat (first | refine blk_drewN ?_ _ | refine blk_drew ?_ | refine blk_alloc ?_ _)); refine blk_put (cs := #[.bool a0, .slice Ao25 t1021.length co25, .slice none 0 0]) ?_ 2 _ rfl; (with_reducible repeat (first | refine blk_drewN ?_ _ | refine blk_drew ?_ | refine blk_alloc ?_ _)); refine blk_put (cs := #[.bool a0, .slice none 0 0, .slice none 0 0]) ?_ 1 _ rfl; (with_reducible repeat (first | refine blk_drewN ?_ _ | refine blk_drew ?_ | refine blk_alloc ?_ _)); refine blk_put (cs := #[.bool false, .slice none 0 0, .slice none 0 0]) ?_ 0 _ rfl; (with_reducible repeat (first | refine blk_drewN ?_ _ | refine blk_drew ?_ | refine blk_alloc ?_ _)); exact BK1012.out) Try.underlying67 rfl (by kernel_rfl)) rfl ?_
    exact ⟨_, _, by first | rfl | (simp [errW_none, errW_some] <;> rfl) | (simp [*, errW_none, errW_some] <;> rfl), by (with_reducible repeat (first | apply Kd.V_alloc | apply Kd.V_drewN | apply Kd.V_drew)); exact Kd.V_mono (Kd.V_far (p := ⟨gb1012, 2, none⟩) (Kd.V_far (p := ⟨gb1012, 1, none⟩) (Kd.V_far (p := ⟨gb1012, 0, none⟩) (Kd.V_mono HO1023.out (fun k_ hk => (⟨hk, hk.2⟩ : _ ∧ k_ ≠ gb1012))) (fun _ hk => hk.2) (.bool a0)) (fun _ hk => hk.2) (.slice Ao25 t1021.length co25)) (fun _ hk => hk.2) (.slice Ao24 t1028.length co24)) (fun _ hk => hk.1.1), by (with_reducible repeat (first | apply Kd.V_alloc | apply Kd.V_drewN | apply Kd.V_drew)); exact Kd.V_mono (Kd.V_far (p := ⟨gb1012, 2, none⟩) (Kd.V_far (p := ⟨gb1012, 1, none⟩) (Kd.V_far (p := ⟨gb1012, 0, none⟩) (Kd.V_mono HO1030.out (fun k_ hk => (⟨hk, hk.2⟩ : _ ∧ k_ ≠ gb1012))) (fun _ hk => hk.2) (.bool a0)) (fun _ hk => hk.2) (.slice Ao25 t1021.length co25)) (fun _ hk => hk.2) (.slice Ao24 t1028.length co24)) (fun _ hk => hk.1.1), by repeat (first | (with_reducible first | exact HB.out | apply below_alloc | apply pw_below_drewN | apply below_drew1 | refine below_set ?_ GE1012.out) | exact HB.out)⟩
end Go.Proofs.Ytecfdemglbfnoaa.PT
end
section
namespace Go.Proofs.Ytecfdemglbfnoaa.PT
open Go.RowKit Go.Proofs.YtecfdemglbfnoaaW.PrintWords Go.Proofs.YtecfdemglbfnoaaW.PrintLast Go.Proofs.YtecfdemglbfnoaaW.PrintMore
attribute [local go_sem] max2_int min2_int max_two min_two max_three min_three max_four min_four   -- for this text's walks alone
set_option linter.unusedVariables false
set_option linter.unusedSimpArgs false
def rational_Trim.f (k : Nat) (a0_0 : Bool) (l0_1 : List Int) (l0_2 : List Int) : Option (Bool × List Int × List Int) := (rational_canonical.f k a0_0 l0_1 l0_2).bind fun bt1256 => (some (bt1256.1, bt1256.2.1, bt1256.2.2))
set_option maxHeartbeats 8000000 in
set_option maxRecDepth 100000 in
theorem rational_Trim.calls (k : Nat) (a0_0 : Bool) (P0_1_ : Nat → Prop) (A0_1 : Option Addr) (c0_1 : Nat) (l0_1 : List Int) (P0_2_ : Nat → Prop) (A0_2 : Option Addr) (c0_2 : Nat) (l0_2 : List Int) (r1 : Bool) (r2 : List Int) (r3 : List Int) (w : World) (hs0_1 : Kd.V (Kd.int .u32) 48 w w.heap.size (fun k_ => P0_1_ k_) (.slice A0_1 l0_1.length c0_1) l0_1) (hs0_2 : Kd.V (Kd.int .u32) 48 w w.heap.size (fun k_ => P0_2_ k_) (.slice A0_2 l0_2.length c0_2) l0_2) (h : rational_Trim.f k a0_0 l0_1 l0_2 = some (r1, r2, r3)) :
 Calls Try.prog 87 #[.agg #[.bool a0_0, .slice A0_1 l0_1.length c0_1, .slice A0_2 l0_2.length c0_2]] w fun e w' => ∃ v1_ v2_ : Value, e = .returned (.agg #[.bool r1, v1_, v2_]) ∧ Kd.V (Kd.int .u32) 48 w' w.heap.size (fun k_ => ((P0_1_ k_ ∨ P0_2_ k_) ∨ w.heap.size ≤ k_)) v1_ r2 ∧ Kd.V (Kd.int .u32) 48 w' w.heap.size (fun k_ => ((P0_1_ k_ ∨ P0_2_ k_) ∨ w.heap.size ≤ k_)) v2_ r3 ∧ Below w.heap.size w w' := by
 have hu67 := Try.underlying67
 have HO0_1 := Aside0.mk (show Kd.V (Kd.int .u32) 48 w w.heap.size (fun k_ => ((P0_1_ k_ ∨ P0_2_ k_) ∨ w.heap.size ≤ k_)) (.slice A0_1 l0_1.length c0_1) l0_1 from Kd.V_mono hs0_1 (fun k_ hk => .inl (.inl hk)))
 have HO0_2 := Aside0.mk (show Kd.V (Kd.int .u32) 48 w w.heap.size (fun k_ => ((P0_1_ k_ ∨ P0_2_ k_) ∨ w.heap.size ≤ k_)) (.slice A0_2 l0_2.length c0_2) l0_2 from Kd.V_mono hs0_2 (fun k_ hk => .inl (.inr hk)))
 have HB := Aside0.mk (Below.refl w.heap.size w)
 have H : ((rational_canonical.f k a0_0 l0_1 l0_2).bind fun bt1256 => (some (bt1256.1, bt1256.2.1, bt1256.2.2))) = some (r1, r2, r3) := h
 clear h
 replace H := Option.bind_eq_some_iff.mp H
 obtain ⟨⟨t1256, t1257, t1260⟩, A20, H⟩ := H
 replace H : (some (t1256, t1257, t1260)) = some (r1, r2, r3) := H
 have A2 := Aside0.mk A20
 clear A20
 simp only [Option.some.injEq, Prod.mk.injEq] at H
 obtain ⟨rfl, rfl, rfl⟩ := H
 go_enter Try.func87, Try.ntmps87
 go_wp2_with (first | ((with_reducible refine gate_dst (N := 1) rfl ?_); refine box_event ?hg (N := 1) ?hd (cs := #[.bool a0_0, .slice A0_1 l0_1.length c0_1, .slice A0_2 l0_2.length c0_2]) (t := 67) ?hr ?_; (case hd => rfl); (case hg => rfl); (case hr => first | (go_simp; done) | (go_simp; rfl)); intro gb1254 hg w3 hbox hb; replace HO0_1 := Aside0.mk (Kd.V_below (Kd.V_elderB (vu HO0_1.out) gb1254 (Nat.le_of_eq hg.symm)) hb); replace HO0_2 := Aside0.mk (Kd.V_below (Kd.V_elderB (vu HO0_2.out) gb1254 (Nat.le_of_eq hg.symm)) hb); have BK1254 := Aside0.mk (hbox); have GW1254 := Aside0.mk ((by rw [hg]; exact (below_size (bu HB.out)) : w.heap.size ≤ gb1254)); have GE1254 := Aside0.mk ((by rw [hg]; exact (below_size (bu HB.out)) : w.heap.size ≤ gb1254)); replace HB := Aside0.mk (below_step (bu HB.out) hb); clear hb hbox hg) | ((with_reducible refine gate_dst (N := 2) rfl ?_); refine box_event ?hg (N := 2) ?hd (cs := #[.bool false, .slice none 0 0, .slice none 0 0]) (t := 67) ?hr ?_; (case hd => rfl); (case hg => rfl); (case hr => first | (go_simp; done) | (go_simp; rfl)); intro gb1255 hg w4 hbox hb; replace HO0_1 := Aside0.mk (Kd.V_below (Kd.V_elderB (vu HO0_1.out) gb1255 (Nat.le_of_eq hg.symm)) hb); replace HO0_2 := Aside0.mk (Kd.V_below (Kd.V_elderB (vu HO0_2.out) gb1255 (Nat.le_of_eq hg.symm)) hb); have BK1255 := Aside0.mk (hbox); have GW1255 := Aside0.mk ((by rw [hg]; exact (below_size (bu1 HB.out GE1254.out)) : w.heap.size ≤ gb1255)); have GE1255 := Aside0.mk ((by rw [hg]; exact (below_size (bu1 HB.out GE1254.out)) : w.heap.size ≤ gb1255)); replace HB := Aside0.mk (below_step (bu1 HB.out GE1254.out) hb); have NB1254_1255 := Aside0.mk ((by rw [hg]; exact Nat.ne_of_lt (blk_lt (g := gb1254) (o := .cells #[.bool a0_0, .slice A0_1 l0_1.length c0_1, .slice A0_2 l0_2.length c0_2] 67 (0, 0)) (ku BK1254.out)) : gb1254 ≠ gb1255)); have NB1255_1254 := Aside0.mk ((by rw [hg]; exact Nat.ne_of_gt (blk_lt (g := gb1254) (o := .cells #[.bool a0_0, .slice A0_1 l0_1.length c0_1, .slice A0_2 l0_2.length c0_2] 67 (0, 0)) (ku BK1254.out)) : gb1255 ≠ gb1254)); replace BK1254 := Aside0.mk (blk_below (g := gb1254) (o := .cells #[.bool a0_0, .slice A0_1 l0_1.length c0_1, .slice A0_2 l0_2.length c0_2] 67 (0, 0)) (ku BK1254.out) hb); clear hb hbox hg; have hnb5 := NB1254_1255.out; have hnc5 := NB1255_1254.out; have hcz6_0 : w4.cell? ⟨gb1254, 0, none⟩ = some (.bool a0_0) := (blk_cell BK1254.out 0).trans rfl; have hcz6_1 : w4.cell? ⟨gb1254, 1, none⟩ = some (.slice A0_1 l0_1.length c0_1) := (blk_cell BK1254.out 1).trans rfl; have hcz6_2 : w4.cell? ⟨gb1254, 2, none⟩ = some (.slice A0_2 l0_2.length c0_2) := (blk_cell BK1254.out 2).trans rfl; have hfz6_0 := blk_frozen BK1254.out 0; have hfz6_1 := blk_frozen BK1254.out 1; have hfz6_2 := blk_frozen BK1254.out 2) | ((with_reducible refine gate_callee (f := 155) rfl ?_); refine goesL_ (some 9) rfl rfl Try.func155 (by kernel_rfl) rfl #[.bool a0_0, .slice A0_1 l0_1.length c0_1, .slice A0_2 l0_2.length c0_2] rfl lu ?_; (with_reducible refine (rational_canonical.calls k a0_0 (fun k_ => ((((P0_1_ k_ ∨ P0_2_ k_) ∨ w.heap.size ≤ k_) ∧ k_ ≠ gb1254) ∧ k_ ≠ gb1255)) _ _ l0_1 (fun k_ => ((((P0_1_ k_ ∨ P0_2_ k_) ∨ w.heap.size ≤ k_) ∧ k_ ≠ gb1254) ∧ k_ ≠ gb1255)) _ _ l0_2 t1256 t1257 t1260 _ ?side1 ?side2 A2.out).mono ?_); (case side1 => exact HO0_1.out); (case side2 => exact HO0_2.out); rintro e w7 ⟨v1258, v1261, rfl, ho0, ho1, hb⟩; refine ⟨_, rfl, ?_⟩; replace HO0_1 := Aside0.mk (Kd.V_below (vu HO0_1.out) hb); replace HO0_2 := Aside0.mk (Kd.V_below (vu HO0_2.out) hb); have HO1259 := Aside0.mk (Kd.V_lower (Kd.V_mono (ok' := fun k_ => ((P0_1_ k_ ∨ P0_2_ k_) ∨ w.heap.size ≤ k_) ∧ k_ ≠ gb1254 ∧ k_ ≠ gb1255) ho0 (fun k_ hk_ => ⟨Or.elim hk_ (fun hs_ => Or.elim hs_ (fun hs_ => hs_.1.1) (fun hs_ => hs_.1.1)) (fun hn_ => (.inr (Nat.le_trans (below_size (bu2 HB.out GE1254.out GE1255.out)) hn_))), Or.elim hk_ (fun hs_ => Or.elim hs_ (fun hs_ => hs_.1.2) (fun hs_ => hs_.1.2)) (fun hn_ => (Kd.freshB (g := gb1254) (o := .cells #[.bool a0_0, .slice A0_1 l0_1.length c0_1, .slice A0_2 l0_2.length c0_2] 67 (0, 0)) (ku BK1254.out) k_ hn_)), Or.elim hk_ (fun hs_ => Or.elim hs_ (fun hs_ => hs_.2) (fun hs_ => hs_.2)) (fun hn_ => (Kd.freshB (g := gb1255) (o := .cells #[.bool false, .slice none 0 0, .slice none 0 0] 67 (0, 0)) (ku BK1255.out) k_ hn_))⟩)) (below_size (bu2 HB.out GE1254.out GE1255.out))); have HO1262 := Aside0.mk (Kd.V_lower (Kd.V_mono (ok' := fun k_ => ((P0_1_ k_ ∨ P0_2_ k_) ∨ w.heap.size ≤ k_) ∧ k_ ≠ gb1254 ∧ k_ ≠ gb1255) ho1 (fun k_ hk_ => ⟨Or.elim hk_ (fun hs_ => Or.elim hs_ (fun hs_ => hs_.1.1) (fun hs_ => hs_.1.1)) (fun hn_ => (.inr (Nat.le_trans (below_size (bu2 HB.out GE1254.out GE1255.out)) hn_))), Or.elim hk_ (fun hs_ => Or.elim hs_ (fun hs_ => hs_.1.2) (fun hs_ => hs_.1.2)) (fun hn_ => (Kd.freshB (g := gb1254) (o := .cells #[.bool a0_0, .slice A0_1 l0_1.length c0_1, .slice A0_2 l0_2.length c0_2] 67 (0, 0)) (ku BK1254.out) k_ hn_)), Or.elim hk_ (fun hs_ => Or.elim hs_ (fun hs_ => hs_.2) (fun hs_ => hs_.2)) (fun hn_ => (Kd.freshB (g := gb1255) (o := .cells #[.bool false, .slice none 0 0, .slice none 0 0] 67 (0, 0)) (ku BK1255.out) k_ hn_))⟩)) (below_size (bu2 HB.out GE1254.out GE1255.out))); replace BK1254 := Aside0.mk (blk_below (g := gb1254) (o := .cells #[.bool a0_0, .slice A0_1 l0_1.length c0_1, .slice A0_2 l0_2.length c0_2] 67 (0, 0)) (ku BK1254.out) hb); replace BK1255 := Aside0.mk (blk_below (g := gb1255) (o := .cells #[.bool false, .slice none 0 0, .slice none 0 0] 67 (0, 0)) (ku BK1255.out) hb); replace HB := Aside0.mk (below_step (bu2 HB.out GE1254.out GE1255.out) hb); (try clear hb); (try clear hb2); (try clear hk); (try clear hi); (try clear ho0); (try clear ho1); have hcz8_0 : w7.cell? ⟨gb1255, 0, none⟩ = some (.bool false) := (blk_cell BK1255.out 0).trans rfl; have hcz8_1 : w7.cell? ⟨gb1255, 1, none⟩ = some (.slice none 0 0) := (blk_cell BK1255.out 1).trans rfl; have hcz8_2 : w7.cell? ⟨gb1255, 2, none⟩ = some (.slice none 0 0) := (blk_cell BK1255.out 2).trans rfl; have hfz8_0 := blk_frozen BK1255.out 0; have hfz8_1 := blk_frozen BK1255.out 1; have hfz8_2 := blk_frozen BK1255.out 2; obtain ⟨Ao9, co9, eo9⟩ := Kd.V_slice HO1259.out; subst eo9; obtain ⟨Ao10, co10, eo10⟩ := Kd.V_slice HO1262.out; subst eo10))
 refine bodyPost_ret (results_cell_row rfl _ _ gb1255 67 #[.bool t1256, .slice Ao9 t1257.length co9, .slice Ao10 t1260.length co10] (0, 0) _ rfl (by (with_reducible repeat (first | refine blk_drewN ?_ _ | refine blk_drew ?_ | refine blk_alloc ?_ _)); refine blk_put (cs := #[.bool t1256, .slice Ao9 t1257.length co9, .slice none 0 0]) ?_ 2 _ rfl; (with_reducible repeat (first | refine blk_drewN ?_ _ | refine blk_drew ?_ | refine blk_alloc ?_ _)); refine blk_put (cs := #[.bool t1256, .slice none 0 0, .slice none 0 0]) ?_ 1 _ rfl; (with_reducible repeat (first | refine blk_drewN ?_ _ | refine blk_drew ?_ | refine blk_alloc ?_ _)); refine blk_put (cs := #[.bool false, .slice none 0 0, .slice none 0 0]) ?_ 0 _ rfl; (with_reducible repeat (first | refine blk_drewN ?_ _ | refine blk_drew ?_ | refine blk_alloc ?_ _)); exact BK1255.out) Try.underlying67 rfl (by kernel_rfl)) rfl ?_
 exact ⟨_, _, by first | rfl | (simp [errW_none, errW_some] <;> rfl) | (simp [*, errW_none, errW_some] <;> rfl), by (with_reducible repeat (first | apply Kd.V_alloc | apply Kd.V_drewN | apply Kd.V_drew)); exact Kd.V_mono (Kd.V_far (p := ⟨gb1255, 2, none⟩) (Kd.V_far (p := ⟨gb1255, 1, none⟩) (Kd.V_far (p := ⟨gb1255, 0, none⟩) (Kd.V_mono HO1259.out (fun k_ hk => (⟨hk, hk.2.2⟩ : _ ∧ k_ ≠ gb1255))) (fun _ hk => hk.2) (.bool t1256)) (fun _ hk => hk.2) (.slice Ao9 t1257.length co9)) (fun _ hk => hk.2) (.slice Ao10 t1260.length co10)) (fun _ hk => hk.1.1), by (with_reducible repeat (first | apply Kd.V_alloc | apply Kd.V_drewN | apply Kd.V_drew)); exact Kd.V_mono (Kd.V_far (p := ⟨gb1255, 2, none⟩) (Kd.V_far (p := ⟨gb1255, 1, none⟩) (Kd.V_far (p := ⟨gb1255, 0, none⟩) (Kd.V_mono HO1262.out (fun k_ hk => (⟨hk, hk.2.2⟩ : _ ∧ k_ ≠ gb1255))) (fun _ hk => hk.2) (.bool t1256)) (fun _ hk => hk.2) (.slice Ao9 t1257.length co9)) (fun _ hk => hk.2) (.slice Ao10 t1260.length co10)) (fun _ hk => hk.1.1), by repeat (first | (with_reducible first | exact HB.out | apply below_alloc | apply pw_below_drewN | apply below_drew1 | refine below_set ?_ GE1254.out | refine below_set ?_ GE1255.out) | exact HB.out)⟩
end Go.Proofs.Ytecfdemglbfnoaa.PT
end
section
namespace Go.Proofs.Ytecfdemglbfnoaa.PT
open Go.RowKit Go.Proofs.YtecfdemglbfnoaaW.PrintWords Go.Proofs.YtecfdemglbfnoaaW.PrintLast Go.Proofs.YtecfdemglbfnoaaW.PrintMore
attribute [local go_sem] max2_int min2_int max_two min_two max_three min_three max_four min_four   -- for this text's walks alone
set_option linter.unusedVariables false
set_option linter.unusedSimpArgs false
def rational_equal.f (k : Nat) (l0 : List Int) (l1 : List Int) : Option (Bool) := if (l0.length : Int) = (l1.length : Int) then ((nat_Cmp.f k l0 l1).bind fun t1263 => (some (t1263 == 0))) else (some false)
set_option maxHeartbeats 8000000 in
set_option maxRecDepth 100000 in
theorem rational_equal.calls (k : Nat) (A0 : Option Addr) (c0 : Nat) (l0 : List Int) (A1 : Option Addr) (c1 : Nat) (l1 : List Int) (r : Bool) (w : World) (hr0 : Kd.C (Kd.int .u32) w A0 l0.length l0) (hc0 : l0.length ≤ c0) (hr1 : Kd.C (Kd.int .u32) w A1 l1.length l1) (hc1 : l1.length ≤ c1) (h : rational_equal.f k l0 l1 = some r) :
 Calls Try.prog 160 #[.slice A0 l0.length c0, .slice A1 l1.length c1] w fun e w' => e = .returned (.bool r) ∧ Below w.heap.size w w' := by
 have HR0 := Aside0.mk hr0
 have HC0 := Aside0.mk hc0
 clear hr0 hc0
 have HR1 := Aside0.mk hr1
 have HC1 := Aside0.mk hc1
 clear hr1 hc1
 have HB := Aside0.mk (Below.refl w.heap.size w)
 have H : (if (l0.length : Int) = (l1.length : Int) then ((nat_Cmp.f k l0 l1).bind fun t1263 => (some (t1263 == 0))) else (some false)) = some r := h
 clear h
 by_cases c3 : (l0.length : Int) = (l1.length : Int)
 ·
  rw [if_pos c3] at H
  have c3b0 : ((l0.length : Int) == (l1.length : Int)) = true := beq_iff_eq.mpr c3
  have c3b1 : ((l0.length : Int) != (l1.length : Int)) = false := bne_eq_false_iff_eq.mpr c3
  have c3b2 : (l0.length == l1.length) = true := by first | simpa using c3 | (simp at c3 ⊢; omega)
  clear c3
  replace H := Option.bind_eq_some_iff.mp H
  obtain ⟨t1263, A40, H⟩ := H
  replace H : (some (t1263 == 0)) = some r := H
  have A4 := Aside0.mk A40
  clear A40
  obtain rfl := Option.some.inj H
  go_enter Try.func160, Try.ntmps160
  go_wp2_with (first | (go_at_call 146; (with_reducible refine (nat_Cmp.calls k _ _ l0 _ _ l1 t1263 _ ?side1 ?side2 ?side3 ?side4 A4.out).mono ?_); (case side1 => repeat (first | exact HR0.out | (with_reducible refine Kd.C_alloc ?_ _) | (with_reducible refine Kd.C_drewN ?_ _) | (with_reducible refine Kd.C_drew ?_))); (case side2 => exact HC0.out); (case side3 => repeat (first | exact HR1.out | (with_reducible refine Kd.C_alloc ?_ _) | (with_reducible refine Kd.C_drewN ?_ _) | (with_reducible refine Kd.C_drew ?_))); (case side4 => exact HC1.out); rintro e w5 ⟨rfl, hb⟩; replace HB := Aside0.mk (below_step (bu HB.out) hb); (try clear hb); (try clear hb2); (try clear hk); (try clear hi)))
  go_ret
  exact ⟨by first | rfl | (simp [errW_none, errW_some] <;> rfl) | (simp [*, errW_none, errW_some] <;> rfl), by repeat (first | (with_reducible first | exact HB.out | apply below_alloc | apply pw_below_drewN | apply below_drew1) | exact HB.out)⟩
 ·
  rw [if_neg c3] at H
  have c3b0 : ((l0.length : Int) == (l1.length : Int)) = false := beq_eq_false_iff_ne.mpr c3
  have c3b1 : ((l0.length : Int) != (l1.length : Int)) = true := bne_iff_ne.mpr c3
  have c3b2 : (l0.length == l1.length) = false := by first | simpa using c3 | (simp at c3 ⊢; omega)
  obtain rfl := Option.some.inj H
  go_enter Try.func160, Try.ntmps160
  go_wp2
  go_ret
  exact ⟨by first | rfl | (simp [errW_none, errW_some] <;> rfl) | (simp [*, errW_none, errW_some] <;> rfl), by repeat (first | (with_reducible first | exact HB.out | apply below_alloc | apply pw_below_drewN | apply below_drew1) | exact HB.out)⟩
end Go.Proofs.Ytecfdemglbfnoaa.PT
end
section
namespace Go.Proofs.Ytecfdemglbfnoaa.PT
open Go.RowKit Go.Proofs.YtecfdemglbfnoaaW.PrintWords Go.Proofs.YtecfdemglbfnoaaW.PrintLast Go.Proofs.YtecfdemglbfnoaaW.PrintMore
attribute [local go_sem] max2_int min2_int max_two min_two max_three min_three max_four min_four   -- for this text's walks alone
set_option linter.unusedVariables false
set_option linter.unusedSimpArgs false
def rational_Is.f (k : Nat) (a0_0 : Bool) (l0_1 : List Int) (l0_2 : List Int) : Option (Bool) := (rational_Trim.f k a0_0 l0_1 l0_2).bind fun bt1265 => (if (a0_0 == bt1265.1) = true then ((rational_equal.f k l0_1 bt1265.2.1).bind fun t1273 => (if t1273 = true then ((rational_equal.f k l0_2 bt1265.2.2).bind fun t1274 => (some t1274)) else (some false))) else (some false))
set_option maxHeartbeats 8000000 in
set_option maxRecDepth 100000 in
theorem rational_Is.calls (k : Nat) (a0_0 : Bool) (A0_1 : Option Addr) (c0_1 : Nat) (l0_1 : List Int) (A0_2 : Option Addr) (c0_2 : Nat) (l0_2 : List Int) (r : Bool) (w : World) (hr0_1 : Kd.C (Kd.int .u32) w A0_1 l0_1.length l0_1) (hc0_1 : l0_1.length ≤ c0_1) (hr0_2 : Kd.C (Kd.int .u32) w A0_2 l0_2.length l0_2) (hc0_2 : l0_2.length ≤ c0_2) (h : rational_Is.f k a0_0 l0_1 l0_2 = some r) :
 Calls Try.prog 89 #[.agg #[.bool a0_0, .slice A0_1 l0_1.length c0_1, .slice A0_2 l0_2.length c0_2]] w fun e w' => e = .returned (.bool r) ∧ Below w.heap.size w w' := by
 have hu67 := Try.underlying67
 have HR0_1 := Aside0.mk hr0_1
 have HC0_1 := Aside0.mk hc0_1
 clear hr0_1 hc0_1
 have HR0_2 := Aside0.mk hr0_2
 have HC0_2 := Aside0.mk hc0_2
 clear hr0_2 hc0_2
 have HB := Aside0.mk (Below.refl w.heap.size w)
 have H : ((rational_Trim.f k a0_0 l0_1 l0_2).bind fun bt1265 => (if (a0_0 == bt1265.1) = true then ((rational_equal.f k l0_1 bt1265.2.1).bind fun t1273 => (if t1273 = true then ((rational_equal.f k l0_2 bt1265.2.2).bind fun t1274 => (some t1274)) else (some false))) else (some false))) = some r := h
 clear h
 replace H := Option.bind_eq_some_iff.mp H
 obtain ⟨⟨t1265, t1266, t1269⟩, A20, H⟩ := H
 replace H : (if (a0_0 == t1265) = true then ((rational_equal.f k l0_1 t1266).bind fun t1273 => (if t1273 = true then ((rational_equal.f k l0_2 t1269).bind fun t1274 => (some t1274)) else (some false))) else (some false)) = some r := H
 have A2 := Aside0.mk A20
 clear A20
 by_cases c3 : (a0_0 == t1265) = true
 ·
  rw [if_pos c3] at H
  have c3b0 : (a0_0 == t1265) = true := c3
  (try (have c3b1 : decide (a0_0 = t1265) = true := by simpa using c3))
  (try (have c3b2 : (a0_0 == t1265) = true := by simpa using c3))
  clear c3
  replace H := Option.bind_eq_some_iff.mp H
  obtain ⟨t1273, A40, H⟩ := H
  replace H : (if t1273 = true then ((rational_equal.f k l0_2 t1269).bind fun t1274 => (some t1274)) else (some false)) = some r := H
  have A4 := Aside0.mk A40
  clear A40
  by_cases c5 : t1273 = true
  ·
   subst c5
   have H1 : ((rational_equal.f k l0_2 t1269).bind fun t1274 => (some t1274)) = some r := by rw [if_pos rfl] at H; exact H
   clear H
   have H := H1
   clear H1
   replace H := Option.bind_eq_some_iff.mp H
   obtain ⟨t1274, A60, H⟩ := H
   replace H : (some t1274) = some r := H
   have A6 := Aside0.mk A60
   clear A60
   obtain rfl := Option.some.inj H
   go_enter Try.func89, Try.ntmps89
   go_wp2_with (first | ((with_reducible refine gate_dst (N := 1) rfl ?_); refine box_event ?hg (N := 1) ?hd (cs := #[.bool a0_0, .slice A0_1 l0_1.length c0_1, .slice A0_2 l0_2.length c0_2]) (t := 67) ?hr ?_; (case hd => rfl); (case hg => rfl); (case hr => first | (go_simp; done) | (go_simp; rfl)); intro gb1264 hg w7 hbox hb; have BK1264 := Aside0.mk (hbox); have GW1264 := Aside0.mk ((by rw [hg]; exact (below_size (bu HB.out)) : w.heap.size ≤ gb1264)); have GE1264 := Aside0.mk ((by rw [hg]; exact (below_size (bu HB.out)) : w.heap.size ≤ gb1264)); replace HB := Aside0.mk (below_step (bu HB.out) hb); clear hb hbox hg; have hcz8_0 : w7.cell? ⟨gb1264, 0, none⟩ = some (.bool a0_0) := (blk_cell BK1264.out 0).trans rfl; have hcz8_1 : w7.cell? ⟨gb1264, 1, none⟩ = some (.slice A0_1 l0_1.length c0_1) := (blk_cell BK1264.out 1).trans rfl; have hcz8_2 : w7.cell? ⟨gb1264, 2, none⟩ = some (.slice A0_2 l0_2.length c0_2) := (blk_cell BK1264.out 2).trans rfl; have hfz8_0 := blk_frozen BK1264.out 0; have hfz8_1 := blk_frozen BK1264.out 1; have hfz8_2 := blk_frozen BK1264.out 2) | ((with_reducible refine gate_callee (f := 87) rfl ?_); refine goesL_ (some 5) rfl rfl Try.func87 (by kernel_rfl) rfl #[.agg #[.bool a0_0, .slice A0_1 l0_1.length c0_1, .slice A0_2 l0_2.length c0_2]] rfl lu ?_; (with_reducible refine (rational_Trim.calls k a0_0 (fun k_ => k_ < w.heap.size) _ _ l0_1 (fun k_ => k_ < w.heap.size) _ _ l0_2 t1265 t1266 t1269 _ ?side1 ?side2 A2.out).mono ?_); (case side1 => exact Kd.V_mk HC0_1.out (Kd.F_below (Kd.C_F (Kd.heap_int .u32) HR0_1.out) (bu1 HB.out GE1264.out))); (case side2 => exact Kd.V_mk HC0_2.out (Kd.F_below (Kd.C_F (Kd.heap_int .u32) HR0_2.out) (bu1 HB.out GE1264.out))); rintro e w9 ⟨v1267, v1270, rfl, ho0, ho1, hb⟩; refine ⟨_, rfl, ?_⟩; have HO1268 := Aside0.mk (Kd.V_lower (Kd.V_mono (ok' := fun k_ => k_ ≠ gb1264) ho0 (fun k_ hk_ => Or.elim hk_ (fun hs_ => Or.elim hs_ (fun hs_ => fun e_ => Nat.not_le.2 hs_ (by rw [e_]; exact GW1264.out)) (fun hs_ => fun e_ => Nat.not_le.2 hs_ (by rw [e_]; exact GW1264.out))) (fun hn_ => (Kd.freshB (g := gb1264) (o := .cells #[.bool a0_0, .slice A0_1 l0_1.length c0_1, .slice A0_2 l0_2.length c0_2] 67 (0, 0)) (ku BK1264.out) k_ hn_)))) (below_size (bu1 HB.out GE1264.out))); have HO1271 := Aside0.mk (Kd.V_lower (Kd.V_mono (ok' := fun k_ => k_ ≠ gb1264) ho1 (fun k_ hk_ => Or.elim hk_ (fun hs_ => Or.elim hs_ (fun hs_ => fun e_ => Nat.not_le.2 hs_ (by rw [e_]; exact GW1264.out)) (fun hs_ => fun e_ => Nat.not_le.2 hs_ (by rw [e_]; exact GW1264.out))) (fun hn_ => (Kd.freshB (g := gb1264) (o := .cells #[.bool a0_0, .slice A0_1 l0_1.length c0_1, .slice A0_2 l0_2.length c0_2] 67 (0, 0)) (ku BK1264.out) k_ hn_)))) (below_size (bu1 HB.out GE1264.out))); replace BK1264 := Aside0.mk (blk_below (g := gb1264) (o := .cells #[.bool a0_0, .slice A0_1 l0_1.length c0_1, .slice A0_2 l0_2.length c0_2] 67 (0, 0)) (ku BK1264.out) hb); replace HB := Aside0.mk (below_step (bu1 HB.out GE1264.out) hb); (try clear hb); (try clear hb2); (try clear hk); (try clear hi); (try clear ho0); (try clear ho1)) | ((with_reducible refine gate_dst (N := 3) rfl ?_); refine box_event ?hg (N := 3) ?hd (cs := #[.bool false, .slice none 0 0, .slice none 0 0]) (t := 67) ?hr ?_; (case hd => rfl); (case hg => rfl); (case hr => first | (go_simp; done) | (go_simp; rfl)); intro gb1272 hg w10 hbox hb; replace HO1268 := Aside0.mk (Kd.V_below (Kd.V_elderB (vu HO1268.out) gb1272 (Nat.le_of_eq hg.symm)) hb); replace HO1271 := Aside0.mk (Kd.V_below (Kd.V_elderB (vu HO1271.out) gb1272 (Nat.le_of_eq hg.symm)) hb); have BK1272 := Aside0.mk (hbox); have GW1272 := Aside0.mk ((by rw [hg]; exact (below_size (bu1 HB.out GE1264.out)) : w.heap.size ≤ gb1272)); have GE1272 := Aside0.mk ((by rw [hg]; exact (below_size (bu1 HB.out GE1264.out)) : w.heap.size ≤ gb1272)); replace HB := Aside0.mk (below_step (bu1 HB.out GE1264.out) hb); have NB1264_1272 := Aside0.mk ((by rw [hg]; exact Nat.ne_of_lt (blk_lt (g := gb1264) (o := .cells #[.bool a0_0, .slice A0_1 l0_1.length c0_1, .slice A0_2 l0_2.length c0_2] 67 (0, 0)) (ku BK1264.out)) : gb1264 ≠ gb1272)); have NB1272_1264 := Aside0.mk ((by rw [hg]; exact Nat.ne_of_gt (blk_lt (g := gb1264) (o := .cells #[.bool a0_0, .slice A0_1 l0_1.length c0_1, .slice A0_2 l0_2.length c0_2] 67 (0, 0)) (ku BK1264.out)) : gb1272 ≠ gb1264)); replace BK1264 := Aside0.mk (blk_below (g := gb1264) (o := .cells #[.bool a0_0, .slice A0_1 l0_1.length c0_1, .slice A0_2 l0_2.length c0_2] 67 (0, 0)) (ku BK1264.out) hb); clear hb hbox hg; have hnb11 := NB1272_1264.out; have hnc11 := NB1264_1272.out; have hcz12_0 : w10.cell? ⟨gb1272, 0, none⟩ = some (.bool false) := (blk_cell BK1272.out 0).trans rfl; have hcz12_1 : w10.cell? ⟨gb1272, 1, none⟩ = some (.slice none 0 0) := (blk_cell BK1272.out 1).trans rfl; have hcz12_2 : w10.cell? ⟨gb1272, 2, none⟩ = some (.slice none 0 0) := (blk_cell BK1272.out 2).trans rfl; have hfz12_0 := blk_frozen BK1272.out 0; have hfz12_1 := blk_frozen BK1272.out 1; have hfz12_2 := blk_frozen BK1272.out 2; obtain ⟨Ao13, co13, eo13⟩ := Kd.V_slice HO1268.out; subst eo13; obtain ⟨Ao14, co14, eo14⟩ := Kd.V_slice HO1271.out; subst eo14; have hcz15_0 : w10.cell? ⟨gb1264, 0, none⟩ = some (.bool a0_0) := (blk_cell BK1264.out 0).trans rfl; have hcz15_1 : w10.cell? ⟨gb1264, 1, none⟩ = some (.slice A0_1 l0_1.length c0_1) := (blk_cell BK1264.out 1).trans rfl; have hcz15_2 : w10.cell? ⟨gb1264, 2, none⟩ = some (.slice A0_2 l0_2.length c0_2) := (blk_cell BK1264.out 2).trans rfl; have hfz15_0 := blk_frozen BK1264.out 0; have hfz15_1 := blk_frozen BK1264.out 1; have hfz15_2 := blk_frozen BK1264.out 2) | (go_at_call 160; (with_reducible refine (rational_equal.calls k _ _ l0_1 _ _ t1266 true _ ?side1 ?side2 ?side3 ?side4 A4.out).mono ?_); (case side1 => exact Kd.C_below HR0_1.out (bu2 HB.out GE1264.out GE1272.out)); (case side2 => exact HC0_1.out); (case side3 => refine (Kd.V_reads' (e := 48) (base := w.heap.size) (ok := fun k_ => (k_ ≠ gb1264 ∧ k_ ≠ gb1272)) (n := t1266.length) (c := co13) ?_).2.2; exact (by (with_reducible repeat (first | apply Kd.V_alloc | apply Kd.V_drewN | apply Kd.V_drew)); exact (Kd.V_mono (Kd.V_far (p := ⟨gb1272, 2, none⟩) (Kd.V_far (p := ⟨gb1272, 1, none⟩) (Kd.V_far (p := ⟨gb1272, 0, none⟩) (Kd.V_mono HO1268.out (fun k_ hk => (⟨hk, hk.2⟩ : _ ∧ k_ ≠ gb1272))) (fun _ hk => hk.2) (.bool t1265)) (fun _ hk => hk.2) (.slice Ao13 t1266.length co13)) (fun _ hk => hk.2) (.slice Ao14 t1269.length co14)) (fun _ h_ => h_.1)))); (case side4 => exact (Kd.V_reads' HO1268.out).2.1); rintro e w16 ⟨rfl, hb⟩; replace HO1268 := Aside0.mk (Kd.V_below (by (with_reducible repeat (first | apply Kd.V_alloc | apply Kd.V_drewN | apply Kd.V_drew)); exact (Kd.V_mono (Kd.V_far (p := ⟨gb1272, 2, none⟩) (Kd.V_far (p := ⟨gb1272, 1, none⟩) (Kd.V_far (p := ⟨gb1272, 0, none⟩) (Kd.V_mono HO1268.out (fun k_ hk => (⟨hk, hk.2⟩ : _ ∧ k_ ≠ gb1272))) (fun _ hk => hk.2) (.bool t1265)) (fun _ hk => hk.2) (.slice Ao13 t1266.length co13)) (fun _ hk => hk.2) (.slice Ao14 t1269.length co14)) (fun _ h_ => h_.1))) hb); replace HO1271 := Aside0.mk (Kd.V_below (by (with_reducible repeat (first | apply Kd.V_alloc | apply Kd.V_drewN | apply Kd.V_drew)); exact (Kd.V_mono (Kd.V_far (p := ⟨gb1272, 2, none⟩) (Kd.V_far (p := ⟨gb1272, 1, none⟩) (Kd.V_far (p := ⟨gb1272, 0, none⟩) (Kd.V_mono HO1271.out (fun k_ hk => (⟨hk, hk.2⟩ : _ ∧ k_ ≠ gb1272))) (fun _ hk => hk.2) (.bool t1265)) (fun _ hk => hk.2) (.slice Ao13 t1266.length co13)) (fun _ hk => hk.2) (.slice Ao14 t1269.length co14)) (fun _ h_ => h_.1))) hb); replace BK1264 := Aside0.mk (blk_below (g := gb1264) (o := .cells #[.bool a0_0, .slice A0_1 l0_1.length c0_1, .slice A0_2 l0_2.length c0_2] 67 (0, 0)) (by (with_reducible repeat (first | refine blk_drewN ?_ _ | refine blk_drew ?_ | refine blk_alloc ?_ _)); refine blk_far ?_ NB1264_1272.out _; (with_reducible repeat (first | refine blk_drewN ?_ _ | refine blk_drew ?_ | refine blk_alloc ?_ _)); refine blk_far ?_ NB1264_1272.out _; (with_reducible repeat (first | refine blk_drewN ?_ _ | refine blk_drew ?_ | refine blk_alloc ?_ _)); refine blk_far ?_ NB1264_1272.out _; (with_reducible repeat (first | refine blk_drewN ?_ _ | refine blk_drew ?_ | refine blk_alloc ?_ _)); exact BK1264.out) hb); replace BK1272 := Aside0.mk (blk_below (g := gb1272) (o := .cells #[.bool t1265, .slice Ao13 t1266.length co13, .slice Ao14 t1269.length co14] 67 (0, 0)) (by (with_reducible repeat (first | refine blk_drewN ?_ _ | refine blk_drew ?_ | refine blk_alloc ?_ _)); refine blk_put (cs := #[.bool t1265, .slice Ao13 t1266.length co13, .slice none 0 0]) ?_ 2 _ rfl; (with_reducible repeat (first | refine blk_drewN ?_ _ | refine blk_drew ?_ | refine blk_alloc ?_ _)); refine blk_put (cs := #[.bool t1265, .slice none 0 0, .slice none 0 0]) ?_ 1 _ rfl; (with_reducible repeat (first | refine blk_drewN ?_ _ | refine blk_drew ?_ | refine blk_alloc ?_ _)); refine blk_put (cs := #[.bool false, .slice none 0 0, .slice none 0 0]) ?_ 0 _ rfl; (with_reducible repeat (first | refine blk_drewN ?_ _ | refine blk_drew ?_ | refine blk_alloc ?_ _)); exact BK1272.out) hb); replace HB := Aside0.mk (below_step (bu2 HB.out GE1264.out GE1272.out) hb); (try clear hb); (try clear hb2); (try clear hk); (try clear hi); have hcz17_0 : w16.cell? ⟨gb1264, 0, none⟩ = some (.bool a0_0) := (blk_cell BK1264.out 0).trans rfl; have hcz17_1 : w16.cell? ⟨gb1264, 1, none⟩ = some (.slice A0_1 l0_1.length c0_1) := (blk_cell BK1264.out 1).trans rfl; have hcz17_2 : w16.cell? ⟨gb1264, 2, none⟩ = some (.slice A0_2 l0_2.length c0_2) := (blk_cell BK1264.out 2).trans rfl; have hfz17_0 := blk_frozen BK1264.out 0; have hfz17_1 := blk_frozen BK1264.out 1; have hfz17_2 := blk_frozen BK1264.out 2; have hcz18_0 : w16.cell? ⟨gb1272, 0, none⟩ = some (.bool t1265) := (blk_cell BK1272.out 0).trans rfl; have hcz18_1 : w16.cell? ⟨gb1272, 1, none⟩ = some (.slice Ao13 t1266.length co13) := (blk_cell BK1272.out 1).trans rfl; have hcz18_2 : w16.cell? ⟨gb1272, 2, none⟩ = some (.slice Ao14 t1269.length co14) := (blk_cell BK1272.out 2).trans rfl; have hfz18_0 := blk_frozen BK1272.out 0; have hfz18_1 := blk_frozen BK1272.out 1; have hfz18_2 := blk_frozen BK1272.out 2) | (go_at_call 160; (with_reducible refine (rational_equal.calls k _ _ l0_2 _ _ t1269 t1274 _ ?side1 ?side2 ?side3 ?side4 A6.out).mono ?_); (case side1 => repeat (first | exact (Kd.C_below HR0_2.out HB.out) | (with_reducible refine Kd.C_alloc ?_ _) | (with_reducible refine Kd.C_drewN ?_ _) | (with_reducible refine Kd.C_drew ?_))); (case side2 => exact HC0_2.out); (case side3 => repeat (first | exact (Kd.V_reads' HO1271.out).2.2 | (with_reducible refine Kd.C_alloc ?_ _) | (with_reducible refine Kd.C_drewN ?_ _) | (with_reducible refine Kd.C_drew ?_))); (case side4 => exact (Kd.V_reads' HO1271.out).2.1); rintro e w19 ⟨rfl, hb⟩; replace HO1268 := Aside0.mk (Kd.V_below (vu HO1268.out) hb); replace HO1271 := Aside0.mk (Kd.V_below (vu HO1271.out) hb); replace BK1264 := Aside0.mk (blk_below (g := gb1264) (o := .cells #[.bool a0_0, .slice A0_1 l0_1.length c0_1, .slice A0_2 l0_2.length c0_2] 67 (0, 0)) (ku BK1264.out) hb); replace BK1272 := Aside0.mk (blk_below (g := gb1272) (o := .cells #[.bool t1265, .slice Ao13 t1266.length co13, .slice Ao14 t1269.length co14] 67 (0, 0)) (ku BK1272.out) hb); replace HB := Aside0.mk (below_step (bu2 HB.out GE1264.out GE1272.out) hb); (try clear hb); (try clear hb2); (try clear hk); (try clear hi)))
   go_ret
   exact ⟨by first | rfl | (simp [errW_none, errW_some] <;> rfl) | (simp [*, errW_none, errW_some] <;> rfl), by repeat (first | (with_reducible first | exact HB.out | apply below_alloc | apply pw_below_drewN | apply below_drew1 | refine below_set ?_ GE1264.out | refine below_set ?_ GE1272.out) | exact HB.out)⟩
  ·
   replace c5 := Bool.eq_false_iff.mpr c5
   subst c5
   have H1 : (some false) = some r := by rw [if_neg (show ¬ (false = true) by decide)] at H; exact H
   clear H
   have H := H1
   clear H1
   obtain rfl := Option.some.inj H
   go_enter Try.func89, Try.ntmps89
   go_wp2_with (first | ((with_reducible refine gate_dst (N := 1) rfl ?_); refine box_event ?hg (N := 1) ?hd (cs := #[.bool a0_0, .slice A0_1 l0_1.length c0_1, .slice A0_2 l0_2.length c0_2]) (t := 67) ?hr ?_; (case hd => rfl); (case hg => rfl); (case hr => first | (go_simp; done) | (go_simp; rfl)); intro gb1264 hg w20 hbox hb; have BK1264 := Aside0.mk (hbox); have GW1264 := Aside0.mk ((by rw [hg]; exact (below_size (bu HB.out)) : w.heap.size ≤ gb1264)); have GE1264 := Aside0.mk ((by rw [hg]; exact (below_size (bu HB.out)) : w.heap.size ≤ gb1264)); replace HB := Aside0.mk (below_step (bu HB.out) hb); clear hb hbox hg; have hcz21_0 : w20.cell? ⟨gb1264, 0, none⟩ = some (.bool a0_0) := (blk_cell BK1264.out 0).trans rfl; have hcz21_1 : w20.cell? ⟨gb1264, 1, none⟩ = some (.slice A0_1 l0_1.length c0_1) := (blk_cell BK1264.out 1).trans rfl; have hcz21_2 : w20.cell? ⟨gb1264, 2, none⟩ = some (.slice A0_2 l0_2.length c0_2) := (blk_cell BK1264.out 2).trans rfl; have hfz21_0 := blk_frozen BK1264.out 0; have hfz21_1 := blk_frozen BK1264.out 1; have hfz21_2 := blk_frozen BK1264.out 2) | ((with_reducible refine gate_callee (f := 87) rfl ?_); refine goesL_ (some 5) rfl rfl Try.func87 (by kernel_rfl) rfl #[.agg #[.bool a0_0, .slice A0_1 l0_1.length c0_1, .slice A0_2 l0_2.length c0_2]] rfl lu ?_; (with_reducible refine (rational_Trim.calls k a0_0 (fun k_ => k_ < w.heap.size) _ _ l0_1 (fun k_ => k_ < w.heap.size) _ _ l0_2 t1265 t1266 t1269 _ ?side1 ?side2 A2.out).mono ?_); (case side1 => exact Kd.V_mk HC0_1.out (Kd.F_below (Kd.C_F (Kd.heap_int .u32) HR0_1.out) (bu1 HB.out GE1264.out))); (case side2 => exact Kd.V_mk HC0_2.out (Kd.F_below (Kd.C_F (Kd.heap_int .u32) HR0_2.out) (bu1 HB.out GE1264.out))); rintro e w22 ⟨v1267, v1270, rfl, ho0, ho1, hb⟩; refine ⟨_, rfl, ?_⟩; have HO1268 := Aside0.mk (Kd.V_lower (Kd.V_mono (ok' := fun k_ => k_ ≠ gb1264) ho0 (fun k_ hk_ => Or.elim hk_ (fun hs_ => Or.elim hs_ (fun hs_ => fun e_ => Nat.not_le.2 hs_ (by rw [e_]; exact GW1264.out)) (fun hs_ => fun e_ => Nat.not_le.2 hs_ (by rw [e_]; exact GW1264.out))) (fun hn_ => (Kd.freshB (g := gb1264) (o := .cells #[.bool a0_0, .slice A0_1 l0_1.length c0_1, .slice A0_2 l0_2.length c0_2] 67 (0, 0)) (ku BK1264.out) k_ hn_)))) (below_size (bu1 HB.out GE1264.out))); have HO1271 := Aside0.mk (Kd.V_lower (Kd.V_mono (ok' := fun k_ => k_ ≠ gb1264) ho1 (fun k_ hk_ => Or.elim hk_ (fun hs_ => Or.elim hs_ (fun hs_ => fun e_ => Nat.not_le.2 hs_ (by rw [e_]; exact GW1264.out)) (fun hs_ => fun e_ => Nat.not_le.2 hs_ (by rw [e_]; exact GW1264.out))) (fun hn_ => (Kd.freshB (g := gb1264) (o := .cells #[.bool a0_0, .slice A0_1 l0_1.length c0_1, .slice A0_2 l0_2.length c0_2] 67 (0, 0)) (ku BK1264.out) k_ hn_)))) (below_size (bu1 HB.out GE1264.out))); replace BK1264 := Aside0.mk (blk_below (g := gb1264) (o := .cells #[.bool a0_0, .slice A0_1 l0_1.length c0_1, .slice A0_2 l0_2.length c0_2] 67 (0, 0)) (ku BK1264.out) hb); replace HB := Aside0.mk (below_step (bu1 HB.out GE1264.out) hb); (try clear hb); (try clear hb2); (try clear hk); (try clear hi); (try clear ho0); (try clear ho1)) | ((with_reducible refine gate_dst (N := 3) rfl ?_); refine box_event ?hg (N := 3) ?hd (cs := #[.bool false, .slice none 0 0, .slice none 0 0]) (t := 67) ?hr ?_; (case hd => rfl); (case hg => rfl); (case hr => first | (go_simp; done) | (go_simp; rfl)); intro gb1272 hg w23 hbox hb; replace HO1268 := Aside0.mk (Kd.V_below (Kd.V_elderB (vu HO1268.out) gb1272 (Nat.le_of_eq hg.symm)) hb); replace HO1271 := Aside0.mk (Kd.V_below (Kd.V_elderB (vu HO1271.out) gb1272 (Nat.le_of_eq hg.symm)) hb); have BK1272 := Aside0.mk (hbox); have GW1272 := Aside0.mk ((by rw [hg]; exact (below_size (bu1 HB.out GE1264.out)) : w.heap.size ≤ gb1272)); have GE1272 := Aside0.mk ((by rw [hg]; exact (below_size (bu1 HB.out GE1264.out)) : w.heap.size ≤ gb1272)); replace HB := Aside0.mk (below_step (bu1 HB.out GE1264.out) hb); have NB1264_1272 := Aside0.mk ((by rw [hg]; exact Nat.ne_of_lt (blk_lt (g := gb1264) (o := .cells #[.bool a0_0, .slice A0_1 l0_1.length c0_1, .slice A0_2 l0_2.length c0_2] 67 (0, 0)) (ku BK1264.out)) : gb1264 ≠ gb1272)); have NB1272_1264 := Aside0.mk ((by rw [hg]; exact Nat.ne_of_gt (blk_lt (g := gb1264) (o := .cells #[.bool a0_0, .slice A0_1 l0_1.length c0_1, .slice A0_2 l0_2.length c0_2] 67 (0, 0)) (ku BK1264.out)) : gb1272 ≠ gb1264)); replace BK1264 := Aside0.mk (blk_below (g := gb1264) (o := .cells #[.bool a0_0, .slice A0_1 l0_1.length c0_1, .slice A0_2 l0_2.length c0_2] 67 (0, 0)) (ku BK1264.out) hb); clear hb hbox hg; have hnb24 := NB1272_1264.out; have hnc24 := NB1264_1272.out; have hcz25_0 : w23.cell? ⟨gb1272, 0, none⟩ = some (.bool false) := (blk_cell BK1272.out 0).trans rfl; have hcz25_1 : w23.cell? ⟨gb1272, 1, none⟩ = some (.slice none 0 0) := (blk_cell BK1272.out 1).trans rfl; have hcz25_2 : w23.cell? ⟨gb1272, 2, none⟩ = some (.slice none 0 0) := (blk_cell BK1272.out 2).trans rfl; have hfz25_0 := blk_frozen BK1272.out 0; have hfz25_1 := blk_frozen BK1272.out 1; have hfz25_2 := blk_frozen BK1272.out 2; obtain ⟨Ao26, co26, eo26⟩ := Kd.V_slice HO1268.out; subst eo26; obtain ⟨Ao27, co27, eo27⟩ := Kd.V_slice HO1271.out; subst eo27; have hcz28_0 : w23.cell? ⟨gb1264, 0, none⟩ = some (.bool a0_0) := (blk_cell BK1264.out 0).trans rfl; have hcz28_1 : w23.cell? ⟨gb1264, 1, none⟩ = some (.slice A0_1 l0_1.length c0_1) := (blk_cell BK1264.out 1).trans rfl; have hcz28_2 : w23.cell? ⟨gb1264, 2, none⟩ = some (.slice A0_2 l0_2.length c0_2) := (blk_cell BK1264.out 2).trans rfl; have hfz28_0 := blk_frozen BK1264.out 0; have hfz28_1 := blk_frozen BK1264.out 1; have hfz28_2 := blk_frozen BK1264.out 2) | (go_at_call 160; (with_reducible refine (rational_equal.calls k _ _ l0_1 _ _ t1266 false _ ?side1 ?side2 ?side3 ?side4 A4.out).mono ?_); (case side1 => exact Kd.C_below HR0_1.out (bu2 HB.out GE1264.out GE1272.out)); (case side2 => exact HC0_1.out); (case side3 => refine (Kd.V_reads' (e := 48) (base := w.heap.size) (ok := fun k_ => (k_ ≠ gb1264 ∧ k_ ≠ gb1272)) (n := t1266.length) (c := co26) ?_).2.2; exact (by (with_reducible repeat (first | apply Kd.V_alloc | apply Kd.V_drewN | apply Kd.V_drew)); exact (Kd.V_mono (Kd.V_far (p := ⟨gb1272, 2, none⟩) (Kd.V_far (p := ⟨gb1272, 1, none⟩) (Kd.V_far (p := ⟨gb1272, 0, none⟩) (Kd.V_mono HO1268.out (fun k_ hk => (⟨hk, hk.2⟩ : _ ∧ k_ ≠ gb1272))) (fun _ hk => hk.2) (.bool t1265)) (fun _ hk => hk.2) (.slice Ao26 t1266.length co26)) (fun _ hk => hk.2) (.slice Ao27 t1269.length co27)) (fun _ h_ => h_.1)))); (case side4 => exact (Kd.V_reads' HO1268.out).2.1); rintro e w29 ⟨rfl, hb⟩; replace HO1268 := Aside0.mk (Kd.V_below (by (with_reducible repeat (first | apply Kd.V_alloc | apply Kd.V_drewN | apply Kd.V_drew)); exact (Kd.V_mono (Kd.V_far (p := ⟨gb1272, 2, none⟩) (Kd.V_far (p := ⟨gb1272, 1, none⟩) (Kd.V_far (p := ⟨gb1272, 0, none⟩) (Kd.V_mono HO1268.out (fun k_ hk => (⟨hk, hk.2⟩ : _ ∧ k_ ≠ gb1272))) (fun _ hk => hk.2) (.bool t1265)) (fun _ hk => hk.2) (.slice Ao26 t1266.length co26)) (fun _ hk => hk.2) (.slice Ao27 t1269.length co27)) (fun _ h_ => h_.1))) hb); replace HO1271 := Aside0.mk (Kd.V_below (by (with_reducible repeat (first | apply Kd.V_alloc | apply Kd.V_drewN | apply Kd.V_drew)); exact (Kd.V_mono (Kd.V_far (p := ⟨gb1272, 2, none⟩) (Kd.V_far (p := ⟨gb1272, 1, none⟩) (Kd.V_far (p := ⟨gb1272, 0, none⟩) (Kd.V_mono HO1271.out (fun k_ hk => (⟨hk, hk.2⟩ : _ ∧ k_ ≠ gb1272))) (fun _ hk => hk.2) (.bool t1265)) (fun _ hk => hk.2) (.slice Ao26 t1266.length co26)) (fun _ hk => hk.2) (.slice Ao27 t1269.length co27)) (fun _ h_ => h_.1))) hb); replace BK1264 := Aside0.mk (blk_below (g := gb1264) (o := .cells #[.bool a0_0, .slice A0_1 l0_1.length c0_1, .slice A0_2 l0_2.length c0_2] 67 (0, 0)) (by (with_reducible repeat (first | refine blk_drewN ?_ _ | refine blk_drew ?_ | refine blk_alloc ?_ _)); refine blk_far ?_ NB1264_1272.out _; (with_reducible repeat (first | refine blk_drewN ?_ _ | refine blk_drew ?_ | refine blk_alloc ?_ _)); refine blk_far ?_ NB1264_1272.out _; (with_reducible repeat (first | refine blk_drewN ?_ _ | refine blk_drew ?_ | refine blk_alloc ?_ _)); refine blk_far ?_ NB1264_1272.out _; (with_reducible repeat (first | refine blk_drewN ?_ _ | refine blk_drew ?_ | refine blk_alloc ?_ _)); exact BK1264.out) hb); replace BK1272 := Aside0.mk (blk_below (g := gb1272) (o := .cells #[.bool t1265, .slice Ao26 t1266.length co26, .slice Ao27 t1269.length co27] 67 (0, 0)) (by (with_reducible repeat (first | refine blk_drewN ?_ _ | refine blk_drew ?_ | refine blk_alloc ?_ _)); refine blk_put (cs := #[.bool t1265, .slice Ao26 t1266.length co26, .slice none 0 0]) ?_ 2 _ rfl; (with_reducible repeat (first | refine blk_drewN ?_ _ | refine blk_drew ?_ | refine blk_alloc ?_ _)); refine blk_put (cs := #[.bool t1265, .slice none 0 0, .slice none 0 0]) ?_ 1 _ rfl; (with_reducible repeat (first | refine blk_drewN ?_ _ | refine blk_drew ?_ | refine blk_alloc ?_ _)); refine blk_put (cs := #[.bool false, .slice none 0 0, .slice none 0 0]) ?_ 0 _ rfl; (with_reducible repeat (first | refine blk_drewN ?_ _ | refine blk_drew ?_ | refine blk_alloc ?_ _)); exact BK1272.out) hb); replace HB := Aside0.mk (below_step (bu2 HB.out GE1264.out GE1272.out) hb); (try clear hb); (try clear hb2); (try clear hk); (try clear hi)))
   go_ret
   exact ⟨by first | rfl | (simp [errW_none, errW_some] <;> rfl) | (simp [*, errW_none, errW_some] <;> rfl), by repeat (first | (with_reducible first | exact HB.out | apply below_alloc | apply pw_below_drewN | apply below_drew1 | refine below_set ?_ GE1264.out | refine below_set ?_ GE1272.out) | exact HB.out)⟩
 ·
  rw [if_neg c3] at H
  have c3b0 : (a0_0 == t1265) = false := by simpa using c3
  (try (have c3b1 : decide (a0_0 = t1265) = false := by simpa using c3))
  (try (have c3b2 : (a0_0 == t1265) = false := by simpa using c3))
  (try (have c3b3 : ¬ (a0_0 = t1265) := by simpa using c3))
  clear c3
  obtain rfl := Option.some.inj H
  go_enter Try.func89, Try.ntmps89
  go_wp2_with (first | ((with_reducible refine gate_dst (N := 1) rfl ?_); refine box_event ?hg (N := 1) ?hd (cs := #[.bool a0_0, .slice A0_1 l0_1.length c0_1, .slice A0_2 l0_2.length c0_2]) (t := 67) ?hr ?_; (case hd => rfl); (case hg => rfl); (case hr => first | (go_simp; done) | (go_simp; rfl)); intro gb1264 hg w30 hbox hb; have BK1264 := Aside0.mk (hbox); have GW1264 := Aside0.mk ((by rw [hg]; exact (below_size (bu HB.out)) : w.heap.size ≤ gb1264)); have GE1264 := Aside0.mk ((by rw [hg]; exact (below_size (bu HB.out)) : w.heap.size ≤ gb1264)); replace HB := Aside0.mk (below_step (bu HB.out) hb); clear hb hbox hg; have hcz31_0 : w30.cell? ⟨gb1264, 0, none⟩ = some (.bool a0_0) := (blk_cell BK1264.out 0).trans rfl; have hcz31_1 : w30.cell? ⟨gb1264, 1, none⟩ = some (.slice A0_1 l0_1.length c0_1) := (blk_cell BK1264.out 1).trans rfl; have hcz31_2 : w30.cell? ⟨gb1264, 2, none⟩ = some (.slice A0_2 l0_2.length c0_2) := (blk_cell BK1264.out 2).trans rfl; have hfz31_0 := blk_frozen BK1264.out 0; have hfz31_1 := blk_frozen BK1264.out 1; have hfz31_2 := blk_frozen BK1264.out 2) | ((with_reducible refine gate_callee (f := 87) rfl ?_); refine goesL_ (some 5) rfl rfl Try.func87 (by kernel_rfl) rfl #[.agg #[.bool a0_0, .slice A0_1 l0_1.length c0_1, .slice A0_2 l0_2.length c0_2]] rfl lu ?_; (with_reducible refine (rational_Trim.calls k a0_0 (fun k_ => k_ < w.heap.size) _ _ l0_1 (fun k_ => k_ < w.heap.size) _ _ l0_2 t1265 t1266 t1269 _ ?side1 ?side2 A2.out).mono ?_); (case side1 => exact Kd.V_mk HC0_1.out (Kd.F_below (Kd.C_F (Kd.heap_int .u32) HR0_1.out) (bu1 HB.out GE1264.out))); (case side2 => exact Kd.V_mk HC0_2.out (Kd.F_below (Kd.C_F (Kd.heap_int .u32) HR0_2.out) (bu1 HB.out GE1264.out))); rintro e w32 ⟨v1267, v1270, rfl, ho0, ho1, hb⟩; refine ⟨_, rfl, ?_⟩; have HO1268 := Aside0.mk (Kd.V_lower (Kd.V_mono (ok' := fun k_ => k_ ≠ gb1264) ho0 (fun k_ hk_ => Or.elim hk_ (fun hs_ => Or.elim hs_ (fun hs_ => fun e_ => Nat.not_le.2 hs_ (by rw [e_]; exact GW1264.out)) (fun hs_ => fun e_ => Nat.not_le.2 hs_ (by rw [e_]; exact GW1264.out))) (fun hn_ => (Kd.freshB (g := gb1264) (o := .cells #[.bool a0_0, .slice A0_1 l0_1.length c0_1, .slice A0_2 l0_2.length c0_2] 67 (0, 0)) (ku BK1264.out) k_ hn_)))) (below_size (bu1 HB.out GE1264.out))); have HO1271 := Aside0.mk (Kd.V_lower (Kd.V_mono (ok' := fun k_ => k_ ≠ gb1264) ho1 (fun k_ hk_ => Or.elim hk_ (fun hs_ => Or.elim hs_ (fun hs_ => fun e_ => Nat.not_le.2 hs_ (by rw [e_]; exact GW1264.out)) (fun hs_ => fun e_ => Nat.not_le.2 hs_ (by rw [e_]; exact GW1264.out))) (fun hn_ => (Kd.freshB (g := gb1264) (o := .cells #[.bool a0_0, .slice A0_1 l0_1.length c0_1, .slice A0_2 l0_2.length c0_2] 67 (0, 0)) (ku BK1264.out) k_ hn_)))) (below_size (bu1 HB.out GE1264.out))); replace BK1264 := Aside0.mk (blk_below (g := gb1264) (o := .cells #[.bool a0_0, .slice A0_1 l0_1.length c0_1, .slice A0_2 l0_2.length c0_2] 67 (0, 0)) (ku BK1264.out) hb); replace HB := Aside0.mk (below_step (bu1 HB.out GE1264.out) hb); (try clear hb); (try clear hb2); (try clear hk); (try clear hi); (try clear ho0); (try clear ho1)) | ((with_reducible refine gate_dst (N := 3) rfl ?_); refine box_event ?hg (N := 3) ?hd (cs := #[.bool false, .slice none 0 0, .slice none 0 0]) (t := 67) ?hr ?_; (case hd => rfl); (case hg => rfl); (case hr => first | (go_simp; done) | (go_simp; rfl)); intro gb1272 hg w33 hbox hb; replace HO1268 := Aside0.mk (Kd.V_below (Kd.V_elderB (vu HO1268.out) gb1272 (Nat.le_of_eq hg.symm)) hb); replace HO1271 := Aside0.mk (Kd.V_below (Kd.V_elderB (vu HO1271.out) gb1272 (Nat.le_of_eq hg.symm)) hb); have BK1272 := Aside0.mk (hbox); have GW1272 := Aside0.mk ((by rw [hg]; exact (below_size (bu1 HB.out GE1264.out)) : w.heap.size ≤ gb1272)); have GE1272 := Aside0.mk ((by rw [hg]; exact (below_size (bu1 HB.out GE1264.out)) : w.heap.size ≤ gb1272)); replace HB := Aside0.mk (below_step (bu1 HB.out GE1264.out) hb); have NB1264_1272 := Aside0.mk ((by rw [hg]; exact Nat.ne_of_lt (blk_lt (g := gb1264) (o := .cells #[.bool a0_0, .slice A0_1 l0_1.length c0_1, .slice A0_2 l0_2.length c0_2] 67 (0, 0)) (ku BK1264.out)) : gb1264 ≠ gb1272)); have NB1272_1264 := Aside0.mk ((by rw [hg]; exact Nat.ne_of_gt (blk_lt (g := gb1264) (o := .cells #[.bool a0_0, .slice A0_1 l0_1.length c0_1, .slice A0_2 l0_2.length c0_2] 67 (0, 0)) (ku BK1264.out)) : gb1272 ≠ gb1264)); replace BK1264 := Aside0.mk (blk_below (g := gb1264) (o := .cells #[.bool a0_0, .slice A0_1 l0_1.length c0_1, .slice A0_2 l0_2.length c0_2] 67 (0, 0)) (ku BK1264.out) hb); clear hb hbox hg; have hnb34 := NB1272_1264.out; have hnc34 := NB1264_1272.out; have hcz35_0 : w33.cell? ⟨gb1272, 0, none⟩ = some (.bool false) := (blk_cell BK1272.out 0).trans rfl; have hcz35_1 : w33.cell? ⟨gb1272, 1, none⟩ = some (.slice none 0 0) := (blk_cell BK1272.out 1).trans rfl; have hcz35_2 : w33.cell? ⟨gb1272, 2, none⟩ = some (.slice none 0 0) := (blk_cell BK1272.out 2).trans rfl; have hfz35_0 := blk_frozen BK1272.out 0; have hfz35_1 := blk_frozen BK1272.out 1; have hfz35_2 := blk_frozen BK1272.out 2; obtain ⟨Ao36, co36, eo36⟩ := Kd.V_slice HO1268.out; subst eo36; obtain ⟨Ao37, co37, eo37⟩ := Kd.V_slice HO1271.out; subst eo37; have hcz38_0 : w33.cell? ⟨gb1264, 0, none⟩ = some (.bool a0_0) := (blk_cell BK1264.out 0).trans rfl; have hcz38_1 : w33.cell? ⟨gb1264, 1, none⟩ = some (.slice A0_1 l0_1.length c0_1) := (blk_cell BK1264.out 1).trans rfl; have hcz38_2 : w33.cell? ⟨gb1264, 2, none⟩ = some (.slice A0_2 l0_2.length c0_2) := (blk_cell BK1264.out 2).trans rfl; have hfz38_0 := blk_frozen BK1264.out 0; have hfz38_1 := blk_frozen BK1264.out 1; have hfz38_2 := blk_frozen BK1264.out 2))
  go_ret
  exact ⟨by first | rfl | (simp [errW_none, errW_some] <;> rfl) | (simp [*, errW_none, errW_some] <;> rfl), by repeat (first | (with_reducible first | exact HB.out | apply below_alloc | apply pw_below_drewN | apply below_drew1 | refine below_set ?_ GE1264.out | refine below_set ?_ GE1272.out) | exact HB.out)⟩
end Go.Proofs.Ytecfdemglbfnoaa.PT
end
section
namespace Go.Proofs.Ytecfdemglbfnoaa.PT
open Go.RowKit Go.Proofs.YtecfdemglbfnoaaW.PrintWords Go.Proofs.YtecfdemglbfnoaaW.PrintLast Go.Proofs.YtecfdemglbfnoaaW.PrintMore
attribute [local go_sem] max2_int min2_int max_two min_two max_three min_three max_four min_four   -- for this text's walks alone
set_option linter.unusedVariables false
set_option linter.unusedSimpArgs false
def codewrightref02_Is.f (k : Nat) (a0_0 : Bool) (l0_1 : List Int) (l0_2 : List Int) : Option (Bool) := (codewrightref02_Trim.f k a0_0 l0_1 l0_2).bind fun bt1276 => ((codewrightref02_Same.f k a0_0 l0_1 l0_2 bt1276.1 bt1276.2.1 bt1276.2.2).bind fun t1283 => (some t1283))
set_option maxHeartbeats 8000000 in
set_option maxRecDepth 100000 in
theorem codewrightref02_Is.calls (k : Nat) (a0_0 : Bool) (A0_1 : Option Addr) (c0_1 : Nat) (l0_1 : List Int) (A0_2 : Option Addr) (c0_2 : Nat) (l0_2 : List Int) (r : Bool) (w : World) (hr0_1 : Kd.C (Kd.int .u32) w A0_1 l0_1.length l0_1) (hc0_1 : l0_1.length ≤ c0_1) (hr0_2 : Kd.C (Kd.int .u32) w A0_2 l0_2.length l0_2) (hc0_2 : l0_2.length ≤ c0_2) (h : codewrightref02_Is.f k a0_0 l0_1 l0_2 = some r) :
 Calls Try.prog 90 #[.agg #[.bool a0_0, .slice A0_1 l0_1.length c0_1, .slice A0_2 l0_2.length c0_2]] w fun e w' => e = .returned (.bool r) ∧ Below w.heap.size w w' := by
 have hu67 := Try.underlying67
 have HR0_1 := Aside0.mk hr0_1
 have HC0_1 := Aside0.mk hc0_1
 clear hr0_1 hc0_1
 have HR0_2 := Aside0.mk hr0_2
 have HC0_2 := Aside0.mk hc0_2
 clear hr0_2 hc0_2
 have HB := Aside0.mk (Below.refl w.heap.size w)
 have H : ((codewrightref02_Trim.f k a0_0 l0_1 l0_2).bind fun bt1276 => ((codewrightref02_Same.f k a0_0 l0_1 l0_2 bt1276.1 bt1276.2.1 bt1276.2.2).bind fun t1283 => (some t1283))) = some r := h
 clear h
 replace H := Option.bind_eq_some_iff.mp H
 obtain ⟨⟨t1276, t1277, t1280⟩, A20, H⟩ := H
 replace H : ((codewrightref02_Same.f k a0_0 l0_1 l0_2 t1276 t1277 t1280).bind fun t1283 => (some t1283)) = some r := H
 have A2 := Aside0.mk A20
 clear A20
 replace H := Option.bind_eq_some_iff.mp H
 obtain ⟨t1283, A30, H⟩ := H
 replace H : (some t1283) = some r := H
 have A3 := Aside0.mk A30
 clear A30
 obtain rfl := Option.some.inj H
 go_enter Try.func90, Try.ntmps90
 try go_wp2_with (first | ((with_reducible refine gate_dst (N := 1) rfl ?_); refine box_event ?hg (N := 1) ?hd (cs := #[.bool a0_0, .slice A0_1 l0_1.length c0_1, .slice A0_2 l0_2.length c0_2]) (t := 67) ?hr ?_; (case hd => rfl); (case hg => rfl); (case hr => first | (go_simp; done) | (go_simp; rfl)); intro gb1275 hg w4 hbox hb; have BK1275 := Aside0.mk (hbox); have GW1275 := Aside0.mk ((by rw [hg]; exact (below_size (bu HB.out)) : w.heap.size ≤ gb1275)); have GE1275 := Aside0.mk ((by rw [hg]; exact (below_size (bu HB.out)) : w.heap.size ≤ gb1275)); replace HB := Aside0.mk (below_step (bu HB.out) hb); clear hb hbox hg))
 replace BK1275 := Aside0.mk (blk_drew BK1275.out)
 replace HB := Aside0.mk (below_drew1 HB.out)
 refine start_ (n := 5) (S := fun w' => w'.cell? ⟨gb1275, 0, none⟩ = some (.bool a0_0) ∧ w'.cell? ⟨gb1275, 1, none⟩ = some (.slice A0_1 l0_1.length c0_1) ∧ w'.cell? ⟨gb1275, 2, none⟩ = some (.slice A0_2 l0_2.length c0_2)) (ds := []) #[false, false, false, false, false] (by kernel_rfl) rfl rfl ⟨(blk_cell BK1275.out 0).trans rfl, (blk_cell BK1275.out 1).trans rfl, (blk_cell BK1275.out 2).trans rfl⟩ (fun hHeld => ?_)
 generalize w4.drew = w5 at BK1275 HB hHeld ⊢
 refine take_ (i := 0) (N := some 3) (v := ?_) (a' := ?_) #[true, false, false, false, false] rfl rfl (by kernel_rfl) (fun _ _ _ h => h) (Or.inl ⟨by rfl, ?_⟩) hHeld ?_ ?_
 rotate_left
 ·
  rintro w' ⟨s0, s1, s2⟩
  go_simp
  with_reducible rfl
 rotate_left
 ·
  simp only [Act.put, List.setIfInBounds_toArray, List.set_cons_zero, List.set_cons_succ, i64_w, i32_w]
  rfl
 refine take_ (i := 1) (N := some 4) (v := ?_) (a' := ?_) #[true, true, false, false, false] rfl rfl (by kernel_rfl) (fun _ _ _ h => h) (Or.inl ⟨by rfl, ?_⟩) hHeld ?_ ?_
 rotate_left
 ·
  rintro w' ⟨s0, s1, s2⟩
  go_simp
  with_reducible rfl
 rotate_left
 ·
  simp only [Act.put, List.setIfInBounds_toArray, List.set_cons_zero, List.set_cons_succ, i64_w, i32_w]
  rfl
 refine one_ (i := 2) (N := some 5) #[true, true, true, false, false] rfl rfl (by kernel_rfl) (by decide) (fun K hK => ?_)
 refine goes_ Try.func88 (by kernel_rfl) rfl #[.agg #[.bool a0_0, .slice A0_1 l0_1.length c0_1, .slice A0_2 l0_2.length c0_2]] (by rfl) rfl rfl lu ?_
 with_reducible refine (codewrightref02_Trim.calls k a0_0 (fun k_ => k_ < w.heap.size) _ _ l0_1 (fun k_ => k_ < w.heap.size) _ _ l0_2 t1276 t1277 t1280 _ ?side1 ?side2 A2.out).mono ?_
 (case side1 => exact Kd.V_mk HC0_1.out (Kd.F_below (Kd.C_F (Kd.heap_int .u32) HR0_1.out) (bu1 HB.out GE1275.out)))
 (case side2 => exact Kd.V_mk HC0_2.out (Kd.F_below (Kd.C_F (Kd.heap_int .u32) HR0_2.out) (bu1 HB.out GE1275.out)))
 rintro e w6 ⟨v1278, v1281, rfl, ho0, ho1, hb⟩
 refine ⟨_, rfl, ?_⟩
 have HO1279 := Aside0.mk (Kd.V_lower (Kd.V_mono (ok' := fun k_ => k_ ≠ gb1275) ho0 (fun k_ hk_ => Or.elim hk_ (fun hs_ => Or.elim hs_ (fun hs_ => fun e_ => Nat.not_le.2 hs_ (by rw [e_]; exact GW1275.out)) (fun hs_ => fun e_ => Nat.not_le.2 hs_ (by rw [e_]; exact GW1275.out))) (fun hn_ => (Kd.freshB (g := gb1275) (o := .cells #[.bool a0_0, .slice A0_1 l0_1.length c0_1, .slice A0_2 l0_2.length c0_2] 67 (0, 0)) (ku BK1275.out) k_ hn_)))) (below_size (bu1 HB.out GE1275.out)))
 have HO1282 := Aside0.mk (Kd.V_lower (Kd.V_mono (ok' := fun k_ => k_ ≠ gb1275) ho1 (fun k_ hk_ => Or.elim hk_ (fun hs_ => Or.elim hs_ (fun hs_ => fun e_ => Nat.not_le.2 hs_ (by rw [e_]; exact GW1275.out)) (fun hs_ => fun e_ => Nat.not_le.2 hs_ (by rw [e_]; exact GW1275.out))) (fun hn_ => (Kd.freshB (g := gb1275) (o := .cells #[.bool a0_0, .slice A0_1 l0_1.length c0_1, .slice A0_2 l0_2.length c0_2] 67 (0, 0)) (ku BK1275.out) k_ hn_)))) (below_size (bu1 HB.out GE1275.out)))
 replace BK1275 := Aside0.mk (blk_below (g := gb1275) (o := .cells #[.bool a0_0, .slice A0_1 l0_1.length c0_1, .slice A0_2 l0_2.length c0_2] 67 (0, 0)) (ku BK1275.out) hb)
 replace HB := Aside0.mk (below_step (bu1 HB.out GE1275.out) hb)
 (try clear hb)
 (try clear hb2)
 (try clear hk)
 (try clear hi)
 (try clear ho0)
 (try clear ho1)
 obtain ⟨Ao7, co7, eo7⟩ := Kd.V_slice HO1279.out
 (first | subst eo7 | (injection eo7 with f1_ f2_ f3_; have f4_ := f1_.symm; have f5_ := f3_.symm; clear f1_ f2_ f3_; subst f4_; subst f5_))
 obtain ⟨Ao8, co8, eo8⟩ := Kd.V_slice HO1282.out
 (first | subst eo8 | (injection eo8 with f1_ f2_ f3_; have f4_ := f1_.symm; have f5_ := f3_.symm; clear f1_ f2_ f3_; subst f4_; subst f5_))
 refine hK.out _ _ ⟨(blk_cell BK1275.out 0).trans rfl, (blk_cell BK1275.out 1).trans rfl, (blk_cell BK1275.out 2).trans rfl⟩ (fun hHeld => ?_)
 clear hK K
 refine norm_ (a' := ?_) ?_ ?_
 rotate_left
 ·
  show Act.put _ (some 5) _ = _
  simp only [Act.put, List.setIfInBounds_toArray, List.set_cons_zero, List.set_cons_succ, i64_w, i32_w]
  rfl
 refine one_ (i := 3) (N := some 6) #[true, true, true, true, false] rfl rfl (by kernel_rfl) (by decide) (fun K hK => ?_)
 refine goes_ Try.func110 (by kernel_rfl) rfl #[.agg #[.bool a0_0, .slice A0_1 l0_1.length c0_1, .slice A0_2 l0_2.length c0_2], .agg #[.bool t1276, .slice Ao7 t1277.length co7, .slice Ao8 t1280.length co8]] (by rfl) rfl rfl lu ?_
 with_reducible refine (codewrightref02_Same.calls k a0_0 _ _ l0_1 _ _ l0_2 t1276 _ _ t1277 _ _ t1280 t1283 _ ?side1 ?side2 ?side3 ?side4 ?side5 ?side6 ?side7 ?side8 A3.out).mono ?_
 (case side1 => repeat (first | exact (Kd.C_below HR0_1.out HB.out) | (with_reducible refine Kd.C_alloc ?_ _) | (with_reducible refine Kd.C_drewN ?_ _) | (with_reducible refine Kd.C_drew ?_)))
 (case side2 => exact HC0_1.out)
 (case side3 => repeat (first | exact (Kd.C_below HR0_2.out HB.out) | (with_reducible refine Kd.C_alloc ?_ _) | (with_reducible refine Kd.C_drewN ?_ _) | (with_reducible refine Kd.C_drew ?_)))
 (case side4 => exact HC0_2.out)
 (case side5 => repeat (first | exact (Kd.V_reads' HO1279.out).2.2 | (with_reducible refine Kd.C_alloc ?_ _) | (with_reducible refine Kd.C_drewN ?_ _) | (with_reducible refine Kd.C_drew ?_)))
 (case side6 => exact (Kd.V_reads' HO1279.out).2.1)
 (case side7 => repeat (first | exact (Kd.V_reads' HO1282.out).2.2 | (with_reducible refine Kd.C_alloc ?_ _) | (with_reducible refine Kd.C_drewN ?_ _) | (with_reducible refine Kd.C_drew ?_)))
 (case side8 => exact (Kd.V_reads' HO1282.out).2.1)
 rintro e w9 ⟨rfl, hb⟩
 refine ⟨_, rfl, ?_⟩
 replace HO1279 := Aside0.mk (Kd.V_below (vu HO1279.out) hb)
 replace HO1282 := Aside0.mk (Kd.V_below (vu HO1282.out) hb)
 replace BK1275 := Aside0.mk (blk_below (g := gb1275) (o := .cells #[.bool a0_0, .slice A0_1 l0_1.length c0_1, .slice A0_2 l0_2.length c0_2] 67 (0, 0)) (ku BK1275.out) hb)
 replace HB := Aside0.mk (below_step (bu1 HB.out GE1275.out) hb)
 (try clear hb)
 (try clear hb2)
 (try clear hk)
 (try clear hi)
 refine hK.out _ _ ⟨(blk_cell BK1275.out 0).trans rfl, (blk_cell BK1275.out 1).trans rfl, (blk_cell BK1275.out 2).trans rfl⟩ (fun hHeld => ?_)
 clear hK K
 refine norm_ (a' := ?_) ?_ ?_
 rotate_left
 ·
  show Act.put _ (some 6) _ = _
  simp only [Act.put, List.setIfInBounds_toArray, List.set_cons_zero, List.set_cons_succ, i64_w, i32_w]
  rfl
 refine pure_ (i := 4) (N := some 2) (v := ?_) (a' := ?_) #[true, true, true, true, true] rfl rfl (by kernel_rfl) (fun _ _ _ h => h) (Or.inl ⟨by rfl, ?_⟩) ?_ ?_
 rotate_left
 ·
  intro w'
  go_simp
  with_reducible rfl
 rotate_left
 ·
  simp only [Act.put, List.setIfInBounds_toArray, List.set_cons_zero, List.set_cons_succ, i64_w, i32_w]
  rfl
 refine done_ (by kernel_rfl) ?_
 try go_wp2
 go_ret
 exact ⟨by first | rfl | (simp [errW_none, errW_some] <;> rfl) | (simp [*, errW_none, errW_some] <;> rfl), by repeat (first | (with_reducible first | exact HB.out | apply below_alloc | apply pw_below_drewN | apply below_drew1 | refine below_set ?_ GE1275.out) | exact HB.out)⟩
end Go.Proofs.Ytecfdemglbfnoaa.PT
end
section
namespace Go.Proofs.Ytecfdemglbfnoaa.PT
open Go.RowKit Go.Proofs.YtecfdemglbfnoaaW.PrintWords Go.Proofs.YtecfdemglbfnoaaW.PrintLast Go.Proofs.YtecfdemglbfnoaaW.PrintMore
attribute [local go_sem] max2_int min2_int max_two min_two max_three min_three max_four min_four   -- for this text's walks alone
set_option linter.unusedVariables false
set_option linter.unusedSimpArgs false
def rational_Sign.j0 : Nat → Bool → Bool → List Int → List Int → Option (Int)
 | 0, _, _, _, _ => none
 | k + 1, x3, x1285000, x1285001, x1285002 => if x3 = true then (some 0) else (if x1285000 = true then (some (-1)) else (some 1))
def rational_Sign.f (k : Nat) (a0_0 : Bool) (l0_1 : List Int) (l0_2 : List Int) : Option (Int) := (nat_Bits.f k l0_1).bind fun t1285 => (if t1285 = 0 then (rational_Sign.j0 k true a0_0 l0_1 l0_2) else ((nat_Bits.f k l0_2).bind fun t1286 => (rational_Sign.j0 k (t1286 == 0) a0_0 l0_1 l0_2)))
set_option maxHeartbeats 8000000 in
set_option maxRecDepth 100000 in
theorem rational_Sign.calls (k : Nat) (a0_0 : Bool) (A0_1 : Option Addr) (c0_1 : Nat) (l0_1 : List Int) (A0_2 : Option Addr) (c0_2 : Nat) (l0_2 : List Int) (r : Int) (w : World) (hr0_1 : Kd.C (Kd.int .u32) w A0_1 l0_1.length l0_1) (hc0_1 : l0_1.length ≤ c0_1) (hr0_2 : Kd.C (Kd.int .u32) w A0_2 l0_2.length l0_2) (hc0_2 : l0_2.length ≤ c0_2) (h : rational_Sign.f k a0_0 l0_1 l0_2 = some r) :
 Calls Try.prog 91 #[.agg #[.bool a0_0, .slice A0_1 l0_1.length c0_1, .slice A0_2 l0_2.length c0_2]] w fun e w' => e = .returned (.int .i64 r) ∧ Below w.heap.size w w' := by
 have hu67 := Try.underlying67
 have HR0_1 := Aside0.mk hr0_1
 have HC0_1 := Aside0.mk hc0_1
 clear hr0_1 hc0_1
 have HR0_2 := Aside0.mk hr0_2
 have HC0_2 := Aside0.mk hc0_2
 clear hr0_2 hc0_2
 have HB := Aside0.mk (Below.refl w.heap.size w)
 have H : ((nat_Bits.f k l0_1).bind fun t1285 => (if t1285 = 0 then (rational_Sign.j0 k true a0_0 l0_1 l0_2) else ((nat_Bits.f k l0_2).bind fun t1286 => (rational_Sign.j0 k (t1286 == 0) a0_0 l0_1 l0_2)))) = some r := h
 clear h
 have HC2 := Aside0.mk H
 clear H
 go_enter Try.func91, Try.ntmps91
 go_upto_region 1 with (first | ((with_reducible refine gate_dst (N := 1) rfl ?_); refine box_event ?hg (N := 1) ?hd (cs := #[.bool a0_0, .slice A0_1 l0_1.length c0_1, .slice A0_2 l0_2.length c0_2]) (t := 67) ?hr ?_; (case hd => rfl); (case hg => rfl); (case hr => first | (go_simp; done) | (go_simp; rfl)); intro gb1284 hg w3 hbox hb; have BK1284 := Aside0.mk (hbox); have GW1284 := Aside0.mk ((by rw [hg]; exact (below_size (bu HB.out)) : w.heap.size ≤ gb1284)); have GE1284 := Aside0.mk ((by rw [hg]; exact (below_size (bu HB.out)) : w.heap.size ≤ gb1284)); replace HB := Aside0.mk (below_step (bu HB.out) hb); clear hb hbox hg))
 (try simp only [Act.put, List.setIfInBounds_toArray, List.set_cons_zero, List.set_cons_succ])
 go_cut [3] (fun v3 wc => ∃ (kq : Nat) (x3_1 : Bool), v3 = .bool x3_1 ∧ Aside0 (rational_Sign.j0 kq x3_1 a0_0 l0_1 l0_2 = some r) ∧ Aside0 (kq ≤ k) ∧ Aside0 (wc.heap[gb1284]? = some (.cells #[.bool a0_0, (.slice A0_1 l0_1.length c0_1), (.slice A0_2 l0_2.length c0_2)] 67 (0, 0))) ∧ Aside0 (Below w.heap.size w wc))
 case first =>
  have H := HC2.out
  clear HC2
  replace H := Option.bind_eq_some_iff.mp H
  obtain ⟨t1285, A40, H⟩ := H
  replace H : (if t1285 = 0 then (rational_Sign.j0 k true a0_0 l0_1 l0_2) else ((nat_Bits.f k l0_2).bind fun t1286 => (rational_Sign.j0 k (t1286 == 0) a0_0 l0_1 l0_2))) = some r := H
  have A4 := Aside0.mk A40
  clear A40
  by_cases c5 : t1285 = 0
  ·
   rw [if_pos c5] at H
   have c5b0 : (t1285 == 0) = true := beq_iff_eq.mpr c5
   have c5b1 : (t1285 != 0) = false := bne_eq_false_iff_eq.mpr c5
   clear c5
   (first | rw [c5b0] | rw [c5b1] | (simp only [i64_w, i32_w]; rw [c5b0]) | skip)
   have H' := Aside0.mk H
   clear H
   have hcz6_0 : w3.cell? ⟨gb1284, 0, none⟩ = some (.bool a0_0) := (blk_cell BK1284.out 0).trans rfl
   have hcz6_1 : w3.cell? ⟨gb1284, 1, none⟩ = some (.slice A0_1 l0_1.length c0_1) := (blk_cell BK1284.out 1).trans rfl
   have hcz6_2 : w3.cell? ⟨gb1284, 2, none⟩ = some (.slice A0_2 l0_2.length c0_2) := (blk_cell BK1284.out 2).trans rfl
   have hfz6_0 := blk_frozen BK1284.out 0
   have hfz6_1 := blk_frozen BK1284.out 1
   have hfz6_2 := blk_frozen BK1284.out 2
   go_wp2_with (first | ((with_reducible refine gate_callee (f := 154) rfl ?_); refine goesL_ (some 6) rfl rfl Try.func154 (by kernel_rfl) rfl #[.slice A0_1 l0_1.length c0_1] rfl lu ?_; (with_reducible refine (nat_Bits.calls k _ _ l0_1 t1285 _ ?side1 ?side2 A4.out).mono ?_); (case side1 => repeat (first | exact (Kd.C_below HR0_1.out HB.out) | (with_reducible refine Kd.C_alloc ?_ _) | (with_reducible refine Kd.C_drewN ?_ _) | (with_reducible refine Kd.C_drew ?_))); (case side2 => exact HC0_1.out); rintro e w7 ⟨rfl, hb⟩; refine ⟨_, rfl, ?_⟩; replace BK1284 := Aside0.mk (blk_below (g := gb1284) (o := .cells #[.bool a0_0, .slice A0_1 l0_1.length c0_1, .slice A0_2 l0_2.length c0_2] 67 (0, 0)) (ku BK1284.out) hb); replace HB := Aside0.mk (below_step (bu1 HB.out GE1284.out) hb); (try clear hb); (try clear hb2); (try clear hk); (try clear hi)))
   go_meet
   case rel => exact ⟨_, (true), (by first | rfl | (simp; done) | (simp [*]; done)), H', ⟨by first | omega | exact Nat.le_refl _⟩, ⟨by (with_reducible repeat (first | refine blk_drewN ?_ _ | refine blk_drew ?_ | refine blk_alloc ?_ _)); exact BK1284.out⟩, ⟨by repeat (first | (with_reducible first | exact HB.out | apply below_alloc | apply pw_below_drewN | apply below_drew1 | refine below_set ?_ GE1284.out) | exact HB.out)⟩⟩
  ·
   rw [if_neg c5] at H
   have c5b0 : (t1285 == 0) = false := beq_eq_false_iff_ne.mpr c5
   have c5b1 : (t1285 != 0) = true := bne_iff_ne.mpr c5
   (first | rw [c5b0] | rw [c5b1] | (simp only [i64_w, i32_w]; rw [c5b0]) | skip)
   replace H := Option.bind_eq_some_iff.mp H
   obtain ⟨t1286, A80, H⟩ := H
   replace H : (rational_Sign.j0 k (t1286 == 0) a0_0 l0_1 l0_2) = some r := H
   have A8 := Aside0.mk A80
   clear A80
   have H' := Aside0.mk H
   clear H
   have hcz9_0 : w3.cell? ⟨gb1284, 0, none⟩ = some (.bool a0_0) := (blk_cell BK1284.out 0).trans rfl
   have hcz9_1 : w3.cell? ⟨gb1284, 1, none⟩ = some (.slice A0_1 l0_1.length c0_1) := (blk_cell BK1284.out 1).trans rfl
   have hcz9_2 : w3.cell? ⟨gb1284, 2, none⟩ = some (.slice A0_2 l0_2.length c0_2) := (blk_cell BK1284.out 2).trans rfl
   have hfz9_0 := blk_frozen BK1284.out 0
   have hfz9_1 := blk_frozen BK1284.out 1
   have hfz9_2 := blk_frozen BK1284.out 2
   go_wp2_with (first | ((with_reducible refine gate_callee (f := 154) rfl ?_); refine goesL_ (some 6) rfl rfl Try.func154 (by kernel_rfl) rfl #[.slice A0_1 l0_1.length c0_1] rfl lu ?_; (with_reducible refine (nat_Bits.calls k _ _ l0_1 t1285 _ ?side1 ?side2 A4.out).mono ?_); (case side1 => repeat (first | exact (Kd.C_below HR0_1.out HB.out) | (with_reducible refine Kd.C_alloc ?_ _) | (with_reducible refine Kd.C_drewN ?_ _) | (with_reducible refine Kd.C_drew ?_))); (case side2 => exact HC0_1.out); rintro e w10 ⟨rfl, hb⟩; refine ⟨_, rfl, ?_⟩; replace BK1284 := Aside0.mk (blk_below (g := gb1284) (o := .cells #[.bool a0_0, .slice A0_1 l0_1.length c0_1, .slice A0_2 l0_2.length c0_2] 67 (0, 0)) (ku BK1284.out) hb); replace HB := Aside0.mk (below_step (bu1 HB.out GE1284.out) hb); (try clear hb); (try clear hb2); (try clear hk); (try clear hi); have hcz11_0 : w10.cell? ⟨gb1284, 0, none⟩ = some (.bool a0_0) := (blk_cell BK1284.out 0).trans rfl; have hcz11_1 : w10.cell? ⟨gb1284, 1, none⟩ = some (.slice A0_1 l0_1.length c0_1) := (blk_cell BK1284.out 1).trans rfl; have hcz11_2 : w10.cell? ⟨gb1284, 2, none⟩ = some (.slice A0_2 l0_2.length c0_2) := (blk_cell BK1284.out 2).trans rfl; have hfz11_0 := blk_frozen BK1284.out 0; have hfz11_1 := blk_frozen BK1284.out 1; have hfz11_2 := blk_frozen BK1284.out 2) | (go_at_call 154; (with_reducible refine (nat_Bits.calls k _ _ l0_2 t1286 _ ?side1 ?side2 A8.out).mono ?_); (case side1 => repeat (first | exact (Kd.C_below HR0_2.out HB.out) | (with_reducible refine Kd.C_alloc ?_ _) | (with_reducible refine Kd.C_drewN ?_ _) | (with_reducible refine Kd.C_drew ?_))); (case side2 => exact HC0_2.out); rintro e w12 ⟨rfl, hb⟩; replace BK1284 := Aside0.mk (blk_below (g := gb1284) (o := .cells #[.bool a0_0, .slice A0_1 l0_1.length c0_1, .slice A0_2 l0_2.length c0_2] 67 (0, 0)) (ku BK1284.out) hb); replace HB := Aside0.mk (below_step (bu1 HB.out GE1284.out) hb); (try clear hb); (try clear hb2); (try clear hk); (try clear hi)))
   go_meet
   case rel => exact ⟨_, ((t1286 == 0)), (by first | rfl | (simp; done) | (simp [*]; done) | (cases t1286 <;> first | rfl | (simp; done))), H', ⟨by first | omega | exact Nat.le_refl _⟩, ⟨by (with_reducible repeat (first | refine blk_drewN ?_ _ | refine blk_drew ?_ | refine blk_alloc ?_ _)); exact BK1284.out⟩, ⟨by repeat (first | (with_reducible first | exact HB.out | apply below_alloc | apply pw_below_drewN | apply below_drew1 | refine below_set ?_ GE1284.out) | exact HB.out)⟩⟩
 case rest =>
  clear HC2
  try clear c1
  try clear p2
  try clear c5
  try clear c5b0
  try clear c5b1
  try clear c9
  try clear hcz11_0
  try clear hcz11_1
  try clear hcz11_2
  try clear hcz6_0
  try clear hcz6_1
  try clear hcz6_2
  try clear hcz9_0
  try clear hcz9_1
  try clear hcz9_2
  try clear hfz11_0
  try clear hfz11_1
  try clear hfz11_2
  try clear hfz6_0
  try clear hfz6_1
  try clear hfz6_2
  try clear hfz9_0
  try clear hfz9_1
  try clear hfz9_2
  obtain ⟨kq, x3_1, rfl, HA, HJ1, BK1284, HB⟩ := hcut
  cases kq with
  | zero => exact absurd HA.out (by simp [rational_Sign.j0])
  | succ kj1 =>
   have H := HA.out
   clear HA
   simp only [rational_Sign.j0] at H
   by_cases c13 : x3_1 = true
   ·
    subst c13
    have H1 : (some 0) = some r := by rw [if_pos rfl] at H; exact H
    clear H
    have H := H1
    clear H1
    obtain rfl := Option.some.inj H
    go_wp2
    go_ret
    exact ⟨by first | rfl | (simp [errW_none, errW_some] <;> rfl) | (simp [*, errW_none, errW_some] <;> rfl), by repeat (first | (with_reducible first | exact HB.out | apply below_alloc | apply pw_below_drewN | apply below_drew1 | refine below_set ?_ GE1284.out) | exact HB.out)⟩
   ·
    replace c13 := Bool.eq_false_iff.mpr c13
    subst c13
    have H1 : (if a0_0 = true then (some (-1)) else (some 1)) = some r := by rw [if_neg (show ¬ (false = true) by decide)] at H; exact H
    clear H
    have H := H1
    clear H1
    by_cases c14 : a0_0 = true
    ·
     subst c14
     have H1 : (some (-1)) = some r := by rw [if_pos rfl] at H; exact H
     clear H
     have H := H1
     clear H1
     obtain rfl := Option.some.inj H
     have hcz15_0 : wc.cell? ⟨gb1284, 0, none⟩ = some (.bool true) := (blk_cell BK1284.out 0).trans rfl
     have hcz15_1 : wc.cell? ⟨gb1284, 1, none⟩ = some (.slice A0_1 l0_1.length c0_1) := (blk_cell BK1284.out 1).trans rfl
     have hcz15_2 : wc.cell? ⟨gb1284, 2, none⟩ = some (.slice A0_2 l0_2.length c0_2) := (blk_cell BK1284.out 2).trans rfl
     have hfz15_0 := blk_frozen BK1284.out 0
     have hfz15_1 := blk_frozen BK1284.out 1
     have hfz15_2 := blk_frozen BK1284.out 2
     go_wp2
     go_ret
     exact ⟨by first | rfl | (simp [errW_none, errW_some] <;> rfl) | (simp [*, errW_none, errW_some] <;> rfl), by repeat (first | (with_reducible first | exact HB.out | apply below_alloc | apply pw_below_drewN | apply below_drew1 | refine below_set ?_ GE1284.out) | exact HB.out)⟩
    ·
     replace c14 := Bool.eq_false_iff.mpr c14
     subst c14
     have H1 : (some 1) = some r := by rw [if_neg (show ¬ (false = true) by decide)] at H; exact H
     clear H
     have H := H1
     clear H1
     obtain rfl := Option.some.inj H
     have hcz16_0 : wc.cell? ⟨gb1284, 0, none⟩ = some (.bool false) := (blk_cell BK1284.out 0).trans rfl
     have hcz16_1 : wc.cell? ⟨gb1284, 1, none⟩ = some (.slice A0_1 l0_1.length c0_1) := (blk_cell BK1284.out 1).trans rfl
     have hcz16_2 : wc.cell? ⟨gb1284, 2, none⟩ = some (.slice A0_2 l0_2.length c0_2) := (blk_cell BK1284.out 2).trans rfl
     have hfz16_0 := blk_frozen BK1284.out 0
     have hfz16_1 := blk_frozen BK1284.out 1
     have hfz16_2 := blk_frozen BK1284.out 2
     go_wp2
     go_ret
     exact ⟨by first | rfl | (simp [errW_none, errW_some] <;> rfl) | (simp [*, errW_none, errW_some] <;> rfl), by repeat (first | (with_reducible first | exact HB.out | apply below_alloc | apply pw_below_drewN | apply below_drew1 | refine below_set ?_ GE1284.out) | exact HB.out)⟩
end Go.Proofs.Ytecfdemglbfnoaa.PT
end
section
namespace Go.Proofs.Ytecfdemglbfnoaa.PT
open Go.RowKit Go.Proofs.YtecfdemglbfnoaaW.PrintWords Go.Proofs.YtecfdemglbfnoaaW.PrintLast Go.Proofs.YtecfdemglbfnoaaW.PrintMore
attribute [local go_sem] max2_int min2_int max_two min_two max_three min_three max_four min_four   -- for this text's walks alone
set_option linter.unusedVariables false
set_option linter.unusedSimpArgs false
def rational_Neg.f (k : Nat) (a0_0 : Bool) (l0_1 : List Int) (l0_2 : List Int) : Option (Bool × List Int × List Int) := (rational_canonical.f k (!a0_0) l0_1 l0_2).bind fun bt1289 => (some (bt1289.1, bt1289.2.1, bt1289.2.2))
set_option maxHeartbeats 8000000 in
set_option maxRecDepth 100000 in
theorem rational_Neg.calls (k : Nat) (a0_0 : Bool) (P0_1_ : Nat → Prop) (A0_1 : Option Addr) (c0_1 : Nat) (l0_1 : List Int) (P0_2_ : Nat → Prop) (A0_2 : Option Addr) (c0_2 : Nat) (l0_2 : List Int) (r1 : Bool) (r2 : List Int) (r3 : List Int) (w : World) (hs0_1 : Kd.V (Kd.int .u32) 48 w w.heap.size (fun k_ => P0_1_ k_) (.slice A0_1 l0_1.length c0_1) l0_1) (hs0_2 : Kd.V (Kd.int .u32) 48 w w.heap.size (fun k_ => P0_2_ k_) (.slice A0_2 l0_2.length c0_2) l0_2) (h : rational_Neg.f k a0_0 l0_1 l0_2 = some (r1, r2, r3)) :
 Calls Try.prog 92 #[.agg #[.bool a0_0, .slice A0_1 l0_1.length c0_1, .slice A0_2 l0_2.length c0_2]] w fun e w' => ∃ v1_ v2_ : Value, e = .returned (.agg #[.bool r1, v1_, v2_]) ∧ Kd.V (Kd.int .u32) 48 w' w.heap.size (fun k_ => ((P0_1_ k_ ∨ P0_2_ k_) ∨ w.heap.size ≤ k_)) v1_ r2 ∧ Kd.V (Kd.int .u32) 48 w' w.heap.size (fun k_ => ((P0_1_ k_ ∨ P0_2_ k_) ∨ w.heap.size ≤ k_)) v2_ r3 ∧ Below w.heap.size w w' := by
 have hu67 := Try.underlying67
 have HO0_1 := Aside0.mk (show Kd.V (Kd.int .u32) 48 w w.heap.size (fun k_ => ((P0_1_ k_ ∨ P0_2_ k_) ∨ w.heap.size ≤ k_)) (.slice A0_1 l0_1.length c0_1) l0_1 from Kd.V_mono hs0_1 (fun k_ hk => .inl (.inl hk)))
 have HO0_2 := Aside0.mk (show Kd.V (Kd.int .u32) 48 w w.heap.size (fun k_ => ((P0_1_ k_ ∨ P0_2_ k_) ∨ w.heap.size ≤ k_)) (.slice A0_2 l0_2.length c0_2) l0_2 from Kd.V_mono hs0_2 (fun k_ hk => .inl (.inr hk)))
 have HB := Aside0.mk (Below.refl w.heap.size w)
 have H : ((rational_canonical.f k (!a0_0) l0_1 l0_2).bind fun bt1289 => (some (bt1289.1, bt1289.2.1, bt1289.2.2))) = some (r1, r2, r3) := h
 clear h
 replace H := Option.bind_eq_some_iff.mp H
 obtain ⟨⟨t1289, t1290, t1293⟩, A20, H⟩ := H
 replace H : (some (t1289, t1290, t1293)) = some (r1, r2, r3) := H
 have A2 := Aside0.mk A20
 clear A20
 simp only [Option.some.injEq, Prod.mk.injEq] at H
 obtain ⟨rfl, rfl, rfl⟩ := H
 go_enter Try.func92, Try.ntmps92
 go_wp2_with (first | ((with_reducible refine gate_dst (N := 1) rfl ?_); refine box_event ?hg (N := 1) ?hd (cs := #[.bool a0_0, .slice A0_1 l0_1.length c0_1, .slice A0_2 l0_2.length c0_2]) (t := 67) ?hr ?_; (case hd => rfl); (case hg => rfl); (case hr => first | (go_simp; done) | (go_simp; rfl)); intro gb1287 hg w3 hbox hb; replace HO0_1 := Aside0.mk (Kd.V_below (Kd.V_elderB (vu HO0_1.out) gb1287 (Nat.le_of_eq hg.symm)) hb); replace HO0_2 := Aside0.mk (Kd.V_below (Kd.V_elderB (vu HO0_2.out) gb1287 (Nat.le_of_eq hg.symm)) hb); have BK1287 := Aside0.mk (hbox); have GW1287 := Aside0.mk ((by rw [hg]; exact (below_size (bu HB.out)) : w.heap.size ≤ gb1287)); have GE1287 := Aside0.mk ((by rw [hg]; exact (below_size (bu HB.out)) : w.heap.size ≤ gb1287)); replace HB := Aside0.mk (below_step (bu HB.out) hb); clear hb hbox hg) | ((with_reducible refine gate_dst (N := 2) rfl ?_); refine box_event ?hg (N := 2) ?hd (cs := #[.bool false, .slice none 0 0, .slice none 0 0]) (t := 67) ?hr ?_; (case hd => rfl); (case hg => rfl); (case hr => first | (go_simp; done) | (go_simp; rfl)); intro gb1288 hg w4 hbox hb; replace HO0_1 := Aside0.mk (Kd.V_below (Kd.V_elderB (vu HO0_1.out) gb1288 (Nat.le_of_eq hg.symm)) hb); replace HO0_2 := Aside0.mk (Kd.V_below (Kd.V_elderB (vu HO0_2.out) gb1288 (Nat.le_of_eq hg.symm)) hb); have BK1288 := Aside0.mk (hbox); have GW1288 := Aside0.mk ((by rw [hg]; exact (below_size (bu1 HB.out GE1287.out)) : w.heap.size ≤ gb1288)); have GE1288 := Aside0.mk ((by rw [hg]; exact (below_size (bu1 HB.out GE1287.out)) : w.heap.size ≤ gb1288)); replace HB := Aside0.mk (below_step (bu1 HB.out GE1287.out) hb); have NB1287_1288 := Aside0.mk ((by rw [hg]; exact Nat.ne_of_lt (blk_lt (g := gb1287) (o := .cells #[.bool a0_0, .slice A0_1 l0_1.length c0_1, .slice A0_2 l0_2.length c0_2] 67 (0, 0)) (ku BK1287.out)) : gb1287 ≠ gb1288)); have NB1288_1287 := Aside0.mk ((by rw [hg]; exact Nat.ne_of_gt (blk_lt (g := gb1287) (o := .cells #[.bool a0_0, .slice A0_1 l0_1.length c0_1, .slice A0_2 l0_2.length c0_2] 67 (0, 0)) (ku BK1287.out)) : gb1288 ≠ gb1287)); replace BK1287 := Aside0.mk (blk_below (g := gb1287) (o := .cells #[.bool a0_0, .slice A0_1 l0_1.length c0_1, .slice A0_2 l0_2.length c0_2] 67 (0, 0)) (ku BK1287.out) hb); clear hb hbox hg; have hnb5 := NB1287_1288.out; have hnc5 := NB1288_1287.out; have hcz6_0 : w4.cell? ⟨gb1287, 0, none⟩ = some (.bool a0_0) := (blk_cell BK1287.out 0).trans rfl; have hcz6_1 : w4.cell? ⟨gb1287, 1, none⟩ = some (.slice A0_1 l0_1.length c0_1) := (blk_cell BK1287.out 1).trans rfl; have hcz6_2 : w4.cell? ⟨gb1287, 2, none⟩ = some (.slice A0_2 l0_2.length c0_2) := (blk_cell BK1287.out 2).trans rfl; have hfz6_0 := blk_frozen BK1287.out 0; have hfz6_1 := blk_frozen BK1287.out 1; have hfz6_2 := blk_frozen BK1287.out 2) | ((with_reducible refine gate_callee (f := 155) rfl ?_); refine goesL_ (some 10) rfl rfl Try.func155 (by kernel_rfl) rfl #[.bool (!a0_0), .slice A0_1 l0_1.length c0_1, .slice A0_2 l0_2.length c0_2] rfl lu ?_; (with_reducible refine (rational_canonical.calls k (!a0_0) (fun k_ => ((((P0_1_ k_ ∨ P0_2_ k_) ∨ w.heap.size ≤ k_) ∧ k_ ≠ gb1287) ∧ k_ ≠ gb1288)) _ _ l0_1 (fun k_ => ((((P0_1_ k_ ∨ P0_2_ k_) ∨ w.heap.size ≤ k_) ∧ k_ ≠ gb1287) ∧ k_ ≠ gb1288)) _ _ l0_2 t1289 t1290 t1293 _ ?side1 ?side2 A2.out).mono ?_); (case side1 => exact HO0_1.out); (case side2 => exact HO0_2.out); rintro e w7 ⟨v1291, v1294, rfl, ho0, ho1, hb⟩; refine ⟨_, rfl, ?_⟩; replace HO0_1 := Aside0.mk (Kd.V_below (vu HO0_1.out) hb); replace HO0_2 := Aside0.mk (Kd.V_below (vu HO0_2.out) hb); have HO1292 := Aside0.mk (Kd.V_lower (Kd.V_mono (ok' := fun k_ => ((P0_1_ k_ ∨ P0_2_ k_) ∨ w.heap.size ≤ k_) ∧ k_ ≠ gb1287 ∧ k_ ≠ gb1288) ho0 (fun k_ hk_ => ⟨Or.elim hk_ (fun hs_ => Or.elim hs_ (fun hs_ => hs_.1.1) (fun hs_ => hs_.1.1)) (fun hn_ => (.inr (Nat.le_trans (below_size (bu2 HB.out GE1287.out GE1288.out)) hn_))), Or.elim hk_ (fun hs_ => Or.elim hs_ (fun hs_ => hs_.1.2) (fun hs_ => hs_.1.2)) (fun hn_ => (Kd.freshB (g := gb1287) (o := .cells #[.bool a0_0, .slice A0_1 l0_1.length c0_1, .slice A0_2 l0_2.length c0_2] 67 (0, 0)) (ku BK1287.out) k_ hn_)), Or.elim hk_ (fun hs_ => Or.elim hs_ (fun hs_ => hs_.2) (fun hs_ => hs_.2)) (fun hn_ => (Kd.freshB (g := gb1288) (o := .cells #[.bool false, .slice none 0 0, .slice none 0 0] 67 (0, 0)) (ku BK1288.out) k_ hn_))⟩)) (below_size (bu2 HB.out GE1287.out GE1288.out))); have HO1295 := Aside0.mk (Kd.V_lower (Kd.V_mono (ok' := fun k_ => ((P0_1_ k_ ∨ P0_2_ k_) ∨ w.heap.size ≤ k_) ∧ k_ ≠ gb1287 ∧ k_ ≠ gb1288) ho1 (fun k_ hk_ => ⟨Or.elim hk_ (fun hs_ => Or.elim hs_ (fun hs_ => hs_.1.1) (fun hs_ => hs_.1.1)) (fun hn_ => (.inr (Nat.le_trans (below_size (bu2 HB.out GE1287.out GE1288.out)) hn_))), Or.elim hk_ (fun hs_ => Or.elim hs_ (fun hs_ => hs_.1.2) (fun hs_ => hs_.1.2)) (fun hn_ => (Kd.freshB (g := gb1287) (o := .cells #[.bool a0_0, .slice A0_1 l0_1.length c0_1, .slice A0_2 l0_2.length c0_2] 67 (0, 0)) (ku BK1287.out) k_ hn_)), Or.elim hk_ (fun hs_ => Or.elim hs_ (fun hs_ => hs_.2) (fun hs_ => hs_.2)) (fun hn_ => (Kd.freshB (g := gb1288) (o := .cells #[.bool false, .slice none 0 0, .slice none 0 0] 67 (0, 0)) (ku BK1288.out) k_ hn_))⟩)) (below_size (bu2 HB.out GE1287.out GE1288.out))); replace BK1287 := Aside0.mk (blk_below (g := gb1287) (o := .cells #[.bool a0_0, .slice A0_1 l0_1.length c0_1, .slice A0_2 l0_2.length c0_2] 67 (0, 0)) (ku BK1287.out) hb); replace BK1288 := Aside0.mk (blk_below (g := gb1288) (o := .cells #[.bool false, .slice none 0 0, .slice none 0 0] 67 (0, 0)) (ku BK1288.out) hb); replace HB := Aside0.mk (below_step (bu2 HB.out GE1287.out GE1288.out) hb); (try clear hb); (try clear hb2); (try clear hk); (try clear hi); (try clear ho0); (try clear ho1); have hcz8_0 : w7.cell? ⟨gb1288, 0, none⟩ = some (.bool false) := (blk_cell BK1288.out 0).trans rfl; have hcz8_1 : w7.cell? ⟨gb1288, 1, none⟩ = some (.slice none 0 0) := (blk_cell BK1288.out 1).trans rfl; have hcz8_2 : w7.cell? ⟨gb1288, 2, none⟩ = some (.slice none 0 0) := (blk_cell BK1288.out 2).trans rfl; have hfz8_0 := blk_frozen BK1288.out 0; have hfz8_1 := blk_frozen BK1288.out 1; have hfz8_2 := blk_frozen BK1288.out 2; obtain ⟨Ao9, co9, eo9⟩ := Kd.V_slice HO1292.out; subst eo9; obtain ⟨Ao10, co10, eo10⟩ := Kd.V_slice HO1295.out; subst eo10))
 refine bodyPost_ret (results_cell_row rfl _ _ gb1288 67 #[.bool t1289, .slice Ao9 t1290.length co9, .slice Ao10 t1293.length co10] (0, 0) _ rfl (by (with_reducible repeat (first | refine blk_drewN ?_ _ | refine blk_drew ?_ | refine blk_alloc ?_ _)); refine blk_put (cs := #[.bool t1289, .slice Ao9 t1290.length co9, .slice none 0 0]) ?_ 2 _ rfl; (with_reducible repeat (first | refine blk_drewN ?_ _ | refine blk_drew ?_ | refine blk_alloc ?_ _)); refine blk_put (cs := #[.bool t1289, .slice none 0 0, .slice none 0 0]) ?_ 1 _ rfl; (with_reducible repeat (first | refine blk_drewN ?_ _ | refine blk_drew ?_ | refine blk_alloc ?_ _)); refine blk_put (cs := #[.bool false, .slice none 0 0, .slice none 0 0]) ?_ 0 _ rfl; (with_reducible repeat (first | refine blk_drewN ?_ _ | refine blk_drew ?_ | refine blk_alloc ?_ _)); exact BK1288.out) Try.underlying67 rfl (by kernel_rfl)) rfl ?_
 exact ⟨_, _, by first | rfl | (simp [errW_none, errW_some] <;> rfl) | (simp [*, errW_none, errW_some] <;> rfl), by (with_reducible repeat (first | apply Kd.V_alloc | apply Kd.V_drewN | apply Kd.V_drew)); exact Kd.V_mono (Kd.V_far (p := ⟨gb1288, 2, none⟩) (Kd.V_far (p := ⟨gb1288, 1, none⟩) (Kd.V_far (p := ⟨gb1288, 0, none⟩) (Kd.V_mono HO1292.out (fun k_ hk => (⟨hk, hk.2.2⟩ : _ ∧ k_ ≠ gb1288))) (fun _ hk => hk.2) (.bool t1289)) (fun _ hk => hk.2) (.slice Ao9 t1290.length co9)) (fun _ hk => hk.2) (.slice Ao10 t1293.length co10)) (fun _ hk => hk.1.1), by (with_reducible repeat (first | apply Kd.V_alloc | apply Kd.V_drewN | apply Kd.V_drew)); exact Kd.V_mono (Kd.V_far (p := ⟨gb1288, 2, none⟩) (Kd.V_far (p := ⟨gb1288, 1, none⟩) (Kd.V_far (p := ⟨gb1288, 0, none⟩) (Kd.V_mono HO1295.out (fun k_ hk => (⟨hk, hk.2.2⟩ : _ ∧ k_ ≠ gb1288))) (fun _ hk => hk.2) (.bool t1289)) (fun _ hk => hk.2) (.slice Ao9 t1290.length co9)) (fun _ hk => hk.2) (.slice Ao10 t1293.length co10)) (fun _ hk => hk.1.1), by repeat (first | (with_reducible first | exact HB.out | apply below_alloc | apply pw_below_drewN | apply below_drew1 | refine below_set ?_ GE1287.out | refine below_set ?_ GE1288.out) | exact HB.out)⟩
end Go.Proofs.Ytecfdemglbfnoaa.PT
end
