/- Walks and plain facts for the law RationalExponents, several texts in one: each theorem says what it shows; no condition beyond those that it names. -/
import Derived.Test.YtecfdemglbfnoaaProg
import Derived.Test.YtecfdemglbfnoaaMRationalExponentsG
section
namespace Go.Proofs.Ytecfdemglbfnoaa.PT
open Go.RowKit Go.Proofs.YtecfdemglbfnoaaW.PrintWords Go.Proofs.YtecfdemglbfnoaaW.PrintLast Go.Proofs.YtecfdemglbfnoaaW.PrintMore
attribute [local go_sem] max2_int min2_int max_two min_two max_three min_three max_four min_four   -- for this text's walks alone
set_option linter.unusedVariables false
set_option linter.unusedSimpArgs false
set_option maxHeartbeats 8000000 in
set_option maxRecDepth 100000 in
theorem nat_step.calls (k : Nat) (P0_ : Nat → Prop) (g o N cap co11 : Nat) (zs : List Int) (l0 : List Int) (A1 : Option Addr) (c1 : Nat) (l1 : List Int) (r1 : Int) (r2 : List Int) (w0 w : World) (hB : Below w0.heap.size w0 w) (ho0 : Wn g o N cap l0.length zs w w0.heap.size P0_ l0) (hco : l0.length ≤ co11) (hr1 : ∀ W_, Kept w W_ (fun k_ => P0_ k_) → Kd.C (Kd.int .u32) W_ A1 l1.length l1) (hc1 : l1.length ≤ c1) (h : nat_step.f k l0 l1 = some (r1, r2)) :
    Calls Try.prog 190 #[.slice (some ⟨g, o, none⟩) l0.length co11, .slice A1 l1.length c1] w fun e w' => e = .returned (.int .u32 r1) ∧ Wn g o N cap l0.length zs w' w0.heap.size (fun k_ => (P0_ k_ ∨ w.heap.size ≤ k_)) r2 ∧ Below w0.heap.size w0 w' ∧ Kept w w' (fun k_ => P0_ k_) := by
  have HO0 := Aside0.mk (show Wn g o N cap l0.length zs w w0.heap.size (fun k_ => (P0_ k_ ∨ w.heap.size ≤ k_)) l0 from Wn_mono ho0 (fun k_ hk => (.inl hk)))
  have HR1 := Aside0.mk hr1
  have HC1 := Aside0.mk hc1
  clear hr1 hc1
  have HK := Aside0.mk (Kept.refl w (fun k_ => P0_ k_))
  have HW0 := Aside0.mk hB.size
  have HB := Aside0.mk hB
  clear hB
  have H : (if 0 ≤ (l1.length : Int) then (if (l1.length : Int) < (l0.length : Int) then (if 0 ≤ (wrap64 ((l1.length : Int) - 1)) then (if (wrap64 ((l1.length : Int) - 1)) < (l0.length : Int) then (if (wrap64 ((l1.length : Int) - 1)) < (l1.length : Int) then (if (IntKind.u64.wrap (rd l1 (wrap64 ((l1.length : Int) - 1)))) = 0 then (none) else (nat_step.l0 k l0 l1 (l1.length : Int) (IntKind.u64.wrap (Int.tdiv (Go.bits .or .u64 (IntKind.u64.wrap ((IntKind.u64.wrap (rd l0 (l1.length : Int))) * 4294967296)) (IntKind.u64.wrap (rd l0 (wrap64 ((l1.length : Int) - 1))))) (IntKind.u64.wrap (rd l1 (wrap64 ((l1.length : Int) - 1)))))) (Int.tmod (Go.bits .or .u64 (IntKind.u64.wrap ((IntKind.u64.wrap (rd l0 (l1.length : Int))) * 4294967296)) (IntKind.u64.wrap (rd l0 (wrap64 ((l1.length : Int) - 1))))) (IntKind.u64.wrap (rd l1 (wrap64 ((l1.length : Int) - 1))))))) else (none)) else (none)) else (none)) else (none)) else (none)) = some (r1, r2) := h
  clear h
  by_cases c3 : 0 ≤ (l1.length : Int)
  · rw [if_pos c3] at H
    have c3b0 : decide (0 ≤ (l1.length : Int)) = true := decide_eq_true c3
    have c3b1 : decide (0 ≤ l1.length) = true := decide_eq_true (by omega)
    clear c3
    by_cases c4 : (l1.length : Int) < (l0.length : Int)
    · rw [if_pos c4] at H
      have c4b0 : decide ((l1.length : Int) < (l0.length : Int)) = true := decide_eq_true c4
      have c4b1 : decide (l1.length < l0.length) = true := decide_eq_true (Int.ofNat_lt.mp c4)
      clear c4
      obtain ⟨ji5, hji5⟩ : ∃ j_ : Int, (wrap64 ((l1.length : Int) - 1)) = j_ := ⟨_, rfl⟩
      replace H : (if 0 ≤ (ji5) then (if (ji5) < (l0.length : Int) then (if (ji5) < (l1.length : Int) then (if (IntKind.u64.wrap (rd l1 (ji5))) = 0 then (none) else (nat_step.l0 k l0 l1 (l1.length : Int) (IntKind.u64.wrap (Int.tdiv (Go.bits .or .u64 (IntKind.u64.wrap ((IntKind.u64.wrap (rd l0 (l1.length : Int))) * 4294967296)) (IntKind.u64.wrap (rd l0 (ji5)))) (IntKind.u64.wrap (rd l1 (ji5))))) (Int.tmod (Go.bits .or .u64 (IntKind.u64.wrap ((IntKind.u64.wrap (rd l0 (l1.length : Int))) * 4294967296)) (IntKind.u64.wrap (rd l0 (ji5)))) (IntKind.u64.wrap (rd l1 (ji5)))))) else (none)) else (none)) else (none)) = some (r1, r2) := by first | (rw [hji5] at H; exact H) | (simp only [hji5] at H ⊢; exact H)
      have hji5w : (IntKind.i64.wrap ((l1.length : Int) - 1)) = ji5 := (i64_w _).trans hji5
      by_cases c6 : 0 ≤ (ji5)
      · rw [if_pos c6] at H
        have c6b0 : decide (0 ≤ (ji5)) = true := decide_eq_true c6
        clear c6
        by_cases c7 : (ji5) < (l0.length : Int)
        · rw [if_pos c7] at H
          have c7b0 : decide ((ji5) < (l0.length : Int)) = true := decide_eq_true c7
          clear c7
          by_cases c8 : (ji5) < (l1.length : Int)
          · rw [if_pos c8] at H
            have c8b0 : decide ((ji5) < (l1.length : Int)) = true := decide_eq_true c8
            clear c8
            by_cases c9 : (IntKind.u64.wrap (rd l1 (ji5))) = 0
            · rw [if_pos c9] at H
              exact absurd H (by simp)
            · rw [if_neg c9] at H
              have c9b0 : ((IntKind.u64.wrap (rd l1 (ji5))) == 0) = false := beq_eq_false_iff_ne.mpr c9
              have c9b1 : ((IntKind.u64.wrap (rd l1 (ji5))) != 0) = true := bne_iff_ne.mpr c9
              have HC10 := Aside0.mk H
              clear H
              have p948 : 0 ≤ ((l1.length : Int) : Int) := of_decide_eq_true (by first | (with_reducible assumption) | assumption)
              have q948 : (l1.length : Int) < (l0.length : Int) := of_decide_eq_true (by first | (with_reducible assumption) | assumption)
              have hx948_0 := (Wn_cell HO0.out (l1.length : Int) p948 q948).1
              (try simp only [Go.IntWalk.toNatUp] at hx948_0)
              replace p948 := eq_true p948
              replace q948 := eq_true q948
              have p949 : 0 ≤ ((ji5) : Int) := of_decide_eq_true (by first | (with_reducible assumption) | assumption)
              have q949 : (ji5) < (l0.length : Int) := of_decide_eq_true (by first | (with_reducible assumption) | assumption)
              have hx949_0 := (Wn_cell HO0.out (ji5) p949 q949).1
              replace p949 := eq_true p949
              replace q949 := eq_true q949
              have p950 : 0 ≤ ((ji5) : Int) := of_decide_eq_true (by first | (with_reducible assumption) | assumption)
              have q950 : (ji5) < (l1.length : Int) := of_decide_eq_true (by first | (with_reducible assumption) | assumption)
              obtain ⟨ad950, e950, hx950_0⟩ := Kd.at_int (Kd.C_kept_now HR1.out HK.out) (ji5) p950 q950
              cases e950
              replace p950 := eq_true p950
              replace q950 := eq_true q950
              have p951 : 0 ≤ ((ji5) : Int) := of_decide_eq_true (by first | (with_reducible assumption) | assumption)
              have q951 : (ji5) < (l1.length : Int) := of_decide_eq_true (by first | (with_reducible assumption) | assumption)
              obtain ⟨ad951, e951, hx951_0⟩ := Kd.at_int (Kd.C_kept_now HR1.out HK.out) (ji5) p951 q951
              obtain rfl : ad950 = ad951 := (by injection e951)
              replace p951 := eq_true p951
              replace q951 := eq_true q951
              go_enter Try.func190, Try.ntmps190
              go_upto_block 0 with (fail)
              repeat (go_quiet (fail); go_upto_block 0 with (fail))
              go_cut [7] (fun v7 wc => ∃ (kq : Nat) (x7_9 : Int), v7 = .int .u64 x7_9 ∧ Aside0 (nat_step.j1 kq l0 l1 (l1.length : Int) x7_9 = some (r1, r2)) ∧ Aside0 (kq ≤ k) ∧ Aside0 (Wn g o N cap l0.length zs wc w0.heap.size (fun k_ => (P0_ k_ ∨ w.heap.size ≤ k_)) l0) ∧ Aside0 (Kept w wc (fun k_ => P0_ k_)) ∧ Aside0 (Below w0.heap.size w0 wc))
              case first =>
                have H := HC10.out
                clear HC10
                have H' := Aside0.mk H
                clear H
                go_wp2
                repeat (go_quiet (fail); try go_wp2)
                go_loopg [7, 8] k (fun kq v7 v8 w' => ∃ (x7_1 : Int) (x8_1 : Int), v7 = .int .u64 x7_1 ∧ v8 = .int .u64 x8_1 ∧ Aside0 (nat_step.l0 kq l0 l1 (l1.length : Int) x7_1 x8_1 = some (r1, r2)) ∧ Aside0 (kq ≤ k) ∧ Aside0 (Wn g o N cap l0.length zs w' w0.heap.size (fun k_ => (P0_ k_ ∨ w.heap.size ≤ k_)) l0) ∧ Aside0 (Kept w w' (fun k_ => P0_ k_)) ∧ Aside0 (Below w0.heap.size w0 w'))
                case atStart => exact ⟨(IntKind.u64.wrap (Int.tdiv (Go.bits .or .u64 (IntKind.u64.wrap ((IntKind.u64.wrap (rd l0 (l1.length : Int))) * 4294967296)) (IntKind.u64.wrap (rd l0 (ji5)))) (IntKind.u64.wrap (rd l1 (ji5))))), (Int.tmod (Go.bits .or .u64 (IntKind.u64.wrap ((IntKind.u64.wrap (rd l0 (l1.length : Int))) * 4294967296)) (IntKind.u64.wrap (rd l0 (ji5)))) (IntKind.u64.wrap (rd l1 (ji5)))), (by first | rfl | (simp; done) | (simp only [← hji5] <;> (first | rfl | simp)) | (simp [*]; done)), (by first | rfl | (simp; done) | (simp only [← hji5] <;> (first | rfl | simp)) | (simp [*]; done)), H', ⟨Nat.le_refl _⟩, ⟨by (with_reducible repeat (first | apply Wn_alloc | apply Wn_drewN | apply Wn_drew)); exact HO0.out⟩, ⟨by repeat (first | (with_reducible first | exact HK.out | apply Kept.alloc | apply Kept.drewN | apply Kept.drew) | exact HK.out)⟩, ⟨by repeat (first | (with_reducible first | exact HB.out | apply below_alloc | apply pw_below_drewN | apply below_drew1) | exact HB.out)⟩⟩
                case round =>
                  clear H'
                  try clear c1
                  try clear p2
                  try clear c3
                  try clear c3b0
                  try clear c3b1
                  try clear c4
                  try clear c4b0
                  try clear c4b1
                  try clear c6
                  try clear c6b0
                  try clear p6
                  try clear c7
                  try clear c7b0
                  try clear c8
                  try clear c8b0
                  try clear c9
                  try clear c9b0
                  try clear c9b1
                  try clear p9
                  try clear q9
                  try clear hx9
                  try clear hx948_0
                  try clear hx949_0
                  try clear hx950_0
                  try clear hx951_0
                  try clear p948
                  try clear p949
                  try clear p950
                  try clear p951
                  try clear q948
                  try clear q949
                  try clear q950
                  try clear q951
                  obtain ⟨x7_1, x8_1, rfl, rfl, HA, HK1, HO_0, HK, HB⟩ := hrel
                  cases gk with
                  | zero => exact absurd HA.out (by simp [nat_step.l0])
                  | succ k1 =>
                    have H := HA.out
                    clear HA
                    simp only [nat_step.l0] at H
                    by_cases c12 : x8_1 < 4294967296
                    · rw [if_pos c12] at H
                      have c12b0 : decide (x8_1 < 4294967296) = true := decide_eq_true c12
                      clear c12
                      (first | rw [c12b0] | rw [c12b1] | (simp only [i64_w, i32_w]; rw [c12b0]) | skip)
                      by_cases c13 : x7_1 ≥ 4294967296
                      · rw [if_pos c13] at H
                        have c13b0 : decide (4294967296 ≤ x7_1) = true := decide_eq_true c13
                        clear c13
                        obtain ⟨ji14, hji14⟩ : ∃ j_ : Int, (wrap64 ((l1.length : Int) - 1)) = j_ := ⟨_, rfl⟩
                        replace H : (if 0 ≤ (ji14) then (if (ji14) < (l1.length : Int) then (nat_step.l0 k1 l0 l1 (l1.length : Int) (IntKind.u64.wrap (x7_1 - 1)) (IntKind.u64.wrap (x8_1 + (IntKind.u64.wrap (rd l1 (ji14)))))) else (none)) else (none)) = some (r1, r2) := by first | (rw [hji14] at H; exact H) | (simp only [hji14] at H ⊢; exact H)
                        have hji14w : (IntKind.i64.wrap ((l1.length : Int) - 1)) = ji14 := (i64_w _).trans hji14
                        have hz14 : ji5 = ji14 := hji5.symm.trans hji14
                        subst hz14
                        by_cases c15 : 0 ≤ (ji5)
                        · rw [if_pos c15] at H
                          have c15b0 : decide (0 ≤ (ji5)) = true := decide_eq_true c15
                          clear c15
                          by_cases c16 : (ji5) < (l1.length : Int)
                          · rw [if_pos c16] at H
                            have c16b0 : decide ((ji5) < (l1.length : Int)) = true := decide_eq_true c16
                            clear c16
                            have H' := Aside0.mk H
                            clear H
                            have p952 : 0 ≤ ((ji5) : Int) := of_decide_eq_true (by first | (with_reducible assumption) | assumption)
                            have q952 : (ji5) < (l1.length : Int) := of_decide_eq_true (by first | (with_reducible assumption) | assumption)
                            obtain ⟨ad952, e952, hx952_0⟩ := Kd.at_int (Kd.C_kept_now HR1.out HK.out) (ji5) p952 q952
                            obtain rfl : ad950 = ad952 := (by injection e952)
                            replace p952 := eq_true p952
                            replace q952 := eq_true q952
                            go_wp2
                            repeat (go_quiet (fail); try go_wp2)
                            go_roundg k1
                            case measure => have := HK1.out; omega
                            case rel => exact ⟨(IntKind.u64.wrap (x7_1 - 1)), (IntKind.u64.wrap (x8_1 + (IntKind.u64.wrap (rd l1 (ji5))))), (by first | rfl | (simp; done) | (simp [*]; done)), (by first | rfl | (simp; done) | (simp only [← hji14] <;> (first | rfl | simp)) | (simp [*]; done)), H', ⟨by have := HK1.out; omega⟩, ⟨by (with_reducible repeat (first | apply Wn_alloc | apply Wn_drewN | apply Wn_drew)); exact HO_0.out⟩, ⟨by repeat (first | (with_reducible first | exact HK.out | apply Kept.alloc | apply Kept.drewN | apply Kept.drew) | exact HK.out)⟩, ⟨by repeat (first | (with_reducible first | exact HB.out | apply below_alloc | apply pw_below_drewN | apply below_drew1) | exact HB.out)⟩⟩
                          · rw [if_neg c16] at H
                            exact absurd H (by simp)
                        · rw [if_neg c15] at H
                          exact absurd H (by simp)
                      · rw [if_neg c13] at H
                        have c13b0 : decide (4294967296 ≤ x7_1) = false := decide_eq_false c13
                        clear c13
                        obtain ⟨ji17, hji17⟩ : ∃ j_ : Int, (wrap64 ((l1.length : Int) - 2)) = j_ := ⟨_, rfl⟩
                        replace H : (if 0 ≤ (ji17) then (if (ji17) < (l1.length : Int) then (if (ji17) < (l0.length : Int) then (if (IntKind.u64.wrap (x7_1 * (IntKind.u64.wrap (rd l1 (ji17))))) > (Go.bits .or .u64 (IntKind.u64.wrap (x8_1 * 4294967296)) (IntKind.u64.wrap (rd l0 (ji17)))) then (if 0 ≤ (wrap64 ((l1.length : Int) - 1)) then (if (wrap64 ((l1.length : Int) - 1)) < (l1.length : Int) then (nat_step.l0 k1 l0 l1 (l1.length : Int) (IntKind.u64.wrap (x7_1 - 1)) (IntKind.u64.wrap (x8_1 + (IntKind.u64.wrap (rd l1 (wrap64 ((l1.length : Int) - 1))))))) else (none)) else (none)) else (nat_step.j1 k1 l0 l1 (l1.length : Int) x7_1)) else (none)) else (none)) else (none)) = some (r1, r2) := by first | (rw [hji17] at H; exact H) | (simp only [hji17] at H ⊢; exact H)
                        have hji17w : (IntKind.i64.wrap ((l1.length : Int) - 2)) = ji17 := (i64_w _).trans hji17
                        by_cases c18 : 0 ≤ (ji17)
                        · rw [if_pos c18] at H
                          have c18b0 : decide (0 ≤ (ji17)) = true := decide_eq_true c18
                          clear c18
                          by_cases c19 : (ji17) < (l1.length : Int)
                          · rw [if_pos c19] at H
                            have c19b0 : decide ((ji17) < (l1.length : Int)) = true := decide_eq_true c19
                            clear c19
                            by_cases c20 : (ji17) < (l0.length : Int)
                            · rw [if_pos c20] at H
                              have c20b0 : decide ((ji17) < (l0.length : Int)) = true := decide_eq_true c20
                              clear c20
                              by_cases c21 : (IntKind.u64.wrap (x7_1 * (IntKind.u64.wrap (rd l1 (ji17))))) > (Go.bits .or .u64 (IntKind.u64.wrap (x8_1 * 4294967296)) (IntKind.u64.wrap (rd l0 (ji17))))
                              · rw [if_pos c21] at H
                                have c21b0 : decide ((Go.bits .or .u64 (IntKind.u64.wrap (x8_1 * 4294967296)) (IntKind.u64.wrap (rd l0 (ji17)))) < (IntKind.u64.wrap (x7_1 * (IntKind.u64.wrap (rd l1 (ji17)))))) = true := decide_eq_true c21
                                clear c21
                                obtain ⟨ji22, hji22⟩ : ∃ j_ : Int, (wrap64 ((l1.length : Int) - 1)) = j_ := ⟨_, rfl⟩
                                replace H : (if 0 ≤ (ji22) then (if (ji22) < (l1.length : Int) then (nat_step.l0 k1 l0 l1 (l1.length : Int) (IntKind.u64.wrap (x7_1 - 1)) (IntKind.u64.wrap (x8_1 + (IntKind.u64.wrap (rd l1 (ji22)))))) else (none)) else (none)) = some (r1, r2) := by first | (rw [hji22] at H; exact H) | (simp only [hji22] at H ⊢; exact H)
                                have hji22w : (IntKind.i64.wrap ((l1.length : Int) - 1)) = ji22 := (i64_w _).trans hji22
                                have hz22 : ji5 = ji22 := hji5.symm.trans hji22
                                subst hz22
                                by_cases c23 : 0 ≤ (ji5)
                                · rw [if_pos c23] at H
                                  have c23b0 : decide (0 ≤ (ji5)) = true := decide_eq_true c23
                                  clear c23
                                  by_cases c24 : (ji5) < (l1.length : Int)
                                  · rw [if_pos c24] at H
                                    have c24b0 : decide ((ji5) < (l1.length : Int)) = true := decide_eq_true c24
                                    clear c24
                                    have H' := Aside0.mk H
                                    clear H
                                    have p953 : 0 ≤ ((ji17) : Int) := of_decide_eq_true (by first | (with_reducible assumption) | assumption)
                                    have q953 : (ji17) < (l1.length : Int) := of_decide_eq_true (by first | (with_reducible assumption) | assumption)
                                    obtain ⟨ad953, e953, hx953_0⟩ := Kd.at_int (Kd.C_kept_now HR1.out HK.out) (ji17) p953 q953
                                    obtain rfl : ad950 = ad953 := (by injection e953)
                                    replace p953 := eq_true p953
                                    replace q953 := eq_true q953
                                    have p954 : 0 ≤ ((ji17) : Int) := of_decide_eq_true (by first | (with_reducible assumption) | assumption)
                                    have q954 : (ji17) < (l0.length : Int) := of_decide_eq_true (by first | (with_reducible assumption) | assumption)
                                    have hx954_0 := (Wn_cell HO_0.out (ji17) p954 q954).1
                                    replace p954 := eq_true p954
                                    replace q954 := eq_true q954
                                    have p955 : 0 ≤ ((ji5) : Int) := of_decide_eq_true (by first | (with_reducible assumption) | assumption)
                                    have q955 : (ji5) < (l1.length : Int) := of_decide_eq_true (by first | (with_reducible assumption) | assumption)
                                    obtain ⟨ad955, e955, hx955_0⟩ := Kd.at_int (Kd.C_kept_now HR1.out HK.out) (ji5) p955 q955
                                    obtain rfl : ad950 = ad955 := (by injection e955)
                                    replace p955 := eq_true p955
                                    replace q955 := eq_true q955
                                    go_wp2
                                    repeat (go_quiet (fail); try go_wp2)
                                    go_roundg k1
                                    case measure => have := HK1.out; omega
                                    case rel => exact ⟨(IntKind.u64.wrap (x7_1 - 1)), (IntKind.u64.wrap (x8_1 + (IntKind.u64.wrap (rd l1 (ji5))))), (by first | rfl | (simp; done) | (simp [*]; done)), (by first | rfl | (simp; done) | (simp only [← hji22] <;> (first | rfl | simp)) | (simp [*]; done)), H', ⟨by have := HK1.out; omega⟩, ⟨by (with_reducible repeat (first | apply Wn_alloc | apply Wn_drewN | apply Wn_drew)); exact HO_0.out⟩, ⟨by repeat (first | (with_reducible first | exact HK.out | apply Kept.alloc | apply Kept.drewN | apply Kept.drew) | exact HK.out)⟩, ⟨by repeat (first | (with_reducible first | exact HB.out | apply below_alloc | apply pw_below_drewN | apply below_drew1) | exact HB.out)⟩⟩
                                  · rw [if_neg c24] at H
                                    exact absurd H (by simp)
                                · rw [if_neg c23] at H
                                  exact absurd H (by simp)
                              · rw [if_neg c21] at H
                                have c21b0 : decide ((Go.bits .or .u64 (IntKind.u64.wrap (x8_1 * 4294967296)) (IntKind.u64.wrap (rd l0 (ji17)))) < (IntKind.u64.wrap (x7_1 * (IntKind.u64.wrap (rd l1 (ji17)))))) = false := decide_eq_false c21
                                clear c21
                                have H' := Aside0.mk H
                                clear H
                                have p953 : 0 ≤ ((ji17) : Int) := of_decide_eq_true (by first | (with_reducible assumption) | assumption)
                                have q953 : (ji17) < (l1.length : Int) := of_decide_eq_true (by first | (with_reducible assumption) | assumption)
                                obtain ⟨ad953, e953, hx953_0⟩ := Kd.at_int (Kd.C_kept_now HR1.out HK.out) (ji17) p953 q953
                                obtain rfl : ad950 = ad953 := (by injection e953)
                                replace p953 := eq_true p953
                                replace q953 := eq_true q953
                                have p954 : 0 ≤ ((ji17) : Int) := of_decide_eq_true (by first | (with_reducible assumption) | assumption)
                                have q954 : (ji17) < (l0.length : Int) := of_decide_eq_true (by first | (with_reducible assumption) | assumption)
                                have hx954_0 := (Wn_cell HO_0.out (ji17) p954 q954).1
                                replace p954 := eq_true p954
                                replace q954 := eq_true q954
                                go_wp2
                                repeat (go_quiet (fail); try go_wp2)
                                go_meet
                                case rel => exact ⟨_, (x7_1), (by first | rfl | (simp; done) | (simp [*]; done)), H', ⟨by have := HK1.out; first | omega | exact Nat.le_refl _⟩, ⟨by (with_reducible repeat (first | apply Wn_alloc | apply Wn_drewN | apply Wn_drew)); exact HO_0.out⟩, ⟨by repeat (first | (with_reducible first | exact HK.out | apply Kept.alloc | apply Kept.drewN | apply Kept.drew) | exact HK.out)⟩, ⟨by repeat (first | (with_reducible first | exact HB.out | apply below_alloc | apply pw_below_drewN | apply below_drew1) | exact HB.out)⟩⟩
                            · rw [if_neg c20] at H
                              exact absurd H (by simp)
                          · rw [if_neg c19] at H
                            exact absurd H (by simp)
                        · rw [if_neg c18] at H
                          exact absurd H (by simp)
                    · rw [if_neg c12] at H
                      have c12b0 : decide (x8_1 < 4294967296) = false := decide_eq_false c12
                      clear c12
                      (first | rw [c12b0] | rw [c12b1] | (simp only [i64_w, i32_w]; rw [c12b0]) | skip)
                      have H' := Aside0.mk H
                      clear H
                      go_wp2
                      repeat (go_quiet (fail); try go_wp2)
                      go_meet
                      case rel => exact ⟨_, (x7_1), (by first | rfl | (simp; done) | (simp [*]; done)), H', ⟨by have := HK1.out; first | omega | exact Nat.le_refl _⟩, ⟨by (with_reducible repeat (first | apply Wn_alloc | apply Wn_drewN | apply Wn_drew)); exact HO_0.out⟩, ⟨by repeat (first | (with_reducible first | exact HK.out | apply Kept.alloc | apply Kept.drewN | apply Kept.drew) | exact HK.out)⟩, ⟨by repeat (first | (with_reducible first | exact HB.out | apply below_alloc | apply pw_below_drewN | apply below_drew1) | exact HB.out)⟩⟩
              case rest =>
                clear HC10
                try clear c1
                try clear c2
                try clear p2
                try clear c3
                try clear c3b0
                try clear c3b1
                try clear c4
                try clear c4b0
                try clear c4b1
                try clear c6
                try clear c6b0
                try clear p6
                try clear c7
                try clear c7b0
                try clear c8
                try clear c8b0
                try clear c9
                try clear c9b0
                try clear c9b1
                try clear p9
                try clear q9
                try clear hx9
                try clear c12
                try clear c12b0
                try clear c12b1
                try clear c13
                try clear c13b0
                try clear c15
                try clear c15b0
                try clear c16
                try clear c16b0
                try clear c18
                try clear c18b0
                try clear c19
                try clear c19b0
                try clear c20
                try clear c20b0
                try clear c21
                try clear c21b0
                try clear c23
                try clear c23b0
                try clear c24
                try clear c24b0
                try clear hx948_0
                try clear hx949_0
                try clear hx950_0
                try clear hx951_0
                try clear hx952_0
                try clear hx953_0
                try clear hx954_0
                try clear hx955_0
                try clear p2
                try clear p6
                try clear p9
                try clear p948
                try clear p949
                try clear p950
                try clear p951
                try clear p952
                try clear p953
                try clear p954
                try clear p955
                try clear q9
                try clear q948
                try clear q949
                try clear q950
                try clear q951
                try clear q952
                try clear q953
                try clear q954
                try clear q955
                obtain ⟨kq, x7_9, rfl, HA, HJ9, HO_0, HK, HB⟩ := hcut
                cases kq with
                | zero => exact absurd HA.out (by simp [nat_step.j1])
                | succ kj9 =>
                  have H := HA.out
                  clear HA
                  simp only [nat_step.j1] at H
                  have H' := Aside0.mk H
                  clear H
                  go_wp2
                  repeat (go_quiet (fail); try go_wp2)
                  go_loopg [9, 10, 86] kj9 (fun kq v9 v10 v86 w' => ∃ (x0_2 : List Int) (x9_2 : Int) (x10_2 : Int) (x86_2 : Int), v9 = .int .u64 x9_2 ∧ v10 = .int .u64 x10_2 ∧ v86 = .int .i64 x86_2 ∧ Aside0 (nat_step.l1 kq x0_2 l1 (l1.length : Int) x7_9 x9_2 x10_2 (l1.length : Int) x86_2 = some (r1, r2)) ∧ Aside0 (kq ≤ kj9) ∧ Aside0 (Wn g o N cap l0.length zs w' w0.heap.size (fun k_ => (P0_ k_ ∨ w.heap.size ≤ k_)) x0_2) ∧ Aside0 (Kept w w' (fun k_ => P0_ k_)) ∧ Aside0 (Below w0.heap.size w0 w'))
                  case atStart => exact ⟨(l0), (0), (0), (0), (by first | rfl | (simp; done) | (simp [*]; done)), (by first | rfl | (simp; done) | (simp [*]; done)), (by first | rfl | (simp; done) | (simp [*]; done)), H', ⟨Nat.le_refl _⟩, ⟨by (with_reducible repeat (first | apply Wn_alloc | apply Wn_drewN | apply Wn_drew)); exact HO_0.out⟩, ⟨by repeat (first | (with_reducible first | exact HK.out | apply Kept.alloc | apply Kept.drewN | apply Kept.drew) | exact HK.out)⟩, ⟨by repeat (first | (with_reducible first | exact HB.out | apply below_alloc | apply pw_below_drewN | apply below_drew1) | exact HB.out)⟩⟩
                  case round =>
                    clear H'
                    try clear c1
                    try clear c2
                    try clear p2
                    try clear c3
                    try clear c3b0
                    try clear c3b1
                    try clear c4
                    try clear c4b0
                    try clear c4b1
                    try clear c6
                    try clear c6b0
                    try clear p6
                    try clear c7
                    try clear c7b0
                    try clear c8
                    try clear c8b0
                    try clear c9
                    try clear c9b0
                    try clear c9b1
                    try clear p9
                    try clear q9
                    try clear hx9
                    try clear c12
                    try clear c12b0
                    try clear c12b1
                    try clear c13
                    try clear c13b0
                    try clear c15
                    try clear c15b0
                    try clear c16
                    try clear c16b0
                    try clear c18
                    try clear c18b0
                    try clear c19
                    try clear c19b0
                    try clear c20
                    try clear c20b0
                    try clear c21
                    try clear c21b0
                    try clear c23
                    try clear c23b0
                    try clear c24
                    try clear c24b0
                    try clear hx948_0
                    try clear hx949_0
                    try clear hx950_0
                    try clear hx951_0
                    try clear hx952_0
                    try clear hx953_0
                    try clear hx954_0
                    try clear hx955_0
                    try clear p2
                    try clear p6
                    try clear p9
                    try clear p948
                    try clear p949
                    try clear p950
                    try clear p951
                    try clear p952
                    try clear p953
                    try clear p954
                    try clear p955
                    try clear q9
                    try clear q948
                    try clear q949
                    try clear q950
                    try clear q951
                    try clear q952
                    try clear q953
                    try clear q954
                    try clear q955
                    obtain ⟨x0_2, x9_2, x10_2, x86_2, rfl, rfl, rfl, HA, HK2, HO_0, HK, HB⟩ := hrel
                    have hl0_2 := HO_0.out.1.symm
                    rw [hl0_2] at HO_0
                    (try simp only [hl0_2])
                    cases gk with
                    | zero => exact absurd HA.out (by simp [nat_step.l1])
                    | succ k2 =>
                      have H := HA.out
                      clear HA
                      simp only [nat_step.l1] at H
                      by_cases c25 : x86_2 < (l1.length : Int)
                      · rw [if_pos c25] at H
                        have c25b0 : decide (x86_2 < (l1.length : Int)) = true := decide_eq_true c25
                        clear c25
                        (try (have c25b0h := c25b0; simp only [hl0_2] at c25b0h))
                        by_cases c26 : 0 ≤ x86_2
                        · rw [if_pos c26] at H
                          have c26b0 : decide (0 ≤ x86_2) = true := decide_eq_true c26
                          clear c26
                          by_cases c27 : x86_2 < (l1.length : Int)
                          · rw [if_pos c27] at H
                            have c27b0 : decide (x86_2 < (l1.length : Int)) = true := decide_eq_true c27
                            clear c27
                            (try (have c27b0h := c27b0; simp only [hl0_2] at c27b0h))
                            by_cases c28 : x86_2 < (x0_2.length : Int)
                            · rw [if_pos c28] at H
                              have c28b0 : decide (x86_2 < (x0_2.length : Int)) = true := decide_eq_true c28
                              clear c28
                              (try (have c28b0h := c28b0; simp only [hl0_2] at c28b0h))
                              obtain ⟨y958, hy958⟩ : ∃ y_ : List Int, y_ = (x0_2.set (x86_2 : Int).toNat ((IntKind.u64.wrap ((IntKind.u64.wrap ((IntKind.u64.wrap (rd x0_2 x86_2)) - ((IntKind.u64.wrap ((IntKind.u64.wrap (x7_9 * (IntKind.u64.wrap (rd l1 x86_2)))) + x10_2)) % 4294967296))) - x9_2)) % 4294967296)) := ⟨_, rfl⟩
                              replace H : (nat_step.l1 k2 y958 l1 (l1.length : Int) x7_9 ((IntKind.u64.wrap ((IntKind.u64.wrap ((IntKind.u64.wrap (rd x0_2 x86_2)) - ((IntKind.u64.wrap ((IntKind.u64.wrap (x7_9 * (IntKind.u64.wrap (rd l1 x86_2)))) + x10_2)) % 4294967296))) - x9_2)) / 9223372036854775808) ((IntKind.u64.wrap ((IntKind.u64.wrap (x7_9 * (IntKind.u64.wrap (rd l1 x86_2)))) + x10_2)) / 4294967296) (l1.length : Int) (wrap64 (x86_2 + 1))) = some (r1, r2) := by first | (rw [hy958]; with_reducible exact H) | (have H2_ := (Option.bind_some _ _).symm.trans H; rw [hy958]; with_reducible exact H2_) | (have H2_ := (Option.bind_some _ _).symm.trans H; with_reducible exact H2_) | with_reducible exact H | (rw [hy958]; exact H) | exact H
                              have Ny958 := Aside0.mk hy958
                              clear hy958
                              have H' := Aside0.mk H
                              clear H
                              have p956 : 0 ≤ (x86_2 : Int) := of_decide_eq_true (by first | (with_reducible assumption) | assumption)
                              have q956 : x86_2 < (l1.length : Int) := of_decide_eq_true (by first | (with_reducible assumption) | assumption)
                              obtain ⟨ad956, e956, hx956_0⟩ := Kd.at_int (Kd.C_kept_now HR1.out HK.out) x86_2 p956 q956
                              obtain rfl : ad950 = ad956 := (by injection e956)
                              replace p956 := eq_true p956
                              replace q956 := eq_true q956
                              have p957 : 0 ≤ (x86_2 : Int) := of_decide_eq_true (by first | (with_reducible assumption) | assumption)
                              have q957 : x86_2 < (x0_2.length : Int) := of_decide_eq_true (by first | (with_reducible assumption) | assumption)
                              have hx957_0 := (Wn_cell HO_0.out x86_2 p957 q957).1
                              replace p957 := eq_true p957
                              replace q957 := eq_true q957
                              have p29 : 0 ≤ (x86_2 : Int) := of_decide_eq_true (by first | (with_reducible assumption) | assumption)
                              have q29 : (x86_2 : Int) < ((x0_2.length : Int) : Int) := of_decide_eq_true (by first | (with_reducible assumption) | assumption)
                              have GB29 := Aside0.mk (Wn_base HO_0.out)
                              have HMgo29 := Aside0.mk (Wn_ok HO_0.out g rfl)
                              (first | simp only [add_off] at hx948_0 | skip)
                              (first | simp only [add_off] at hx949_0 | skip)
                              (first | simp only [add_off] at hx954_0 | skip)
                              (first | simp only [add_off] at hx957_0 | skip)
                              obtain ⟨hx29_0, hf29_0⟩ := Wn_cell HO_0.out (x86_2 : Int) p29 q29
                              replace p29 := eq_true p29
                              replace q29 := eq_true q29
                              obtain ⟨hy30_, hz30_⟩ := Wn_cell HO_0.out (x86_2 : Int) (of_decide_eq_true (by first | (with_reducible assumption) | assumption)) (of_decide_eq_true (by first | (with_reducible assumption) | assumption))
                              have HP30 := Wn_put HO_0.out (x86_2 : Int) (of_decide_eq_true (by first | (with_reducible assumption) | assumption)) (of_decide_eq_true (by first | (with_reducible assumption) | assumption)) ((IntKind.u64.wrap ((IntKind.u64.wrap ((IntKind.u64.wrap (rd x0_2 x86_2)) - ((IntKind.u64.wrap ((IntKind.u64.wrap (x7_9 * (IntKind.u64.wrap (rd l1 x86_2)))) + x10_2)) % 4294967296))) - x9_2)) % 4294967296)
                              go_wp2_with (first | ((with_reducible refine gate_store (t := 48) (p := 115) rfl ?_); (try (rw [drewN_self wr]; generalize hq_ : World.drewN wr _ = wr; have n0_ := Aside0.mk (Wn_at hq_ HO_0.out); have n1_ := Aside0.mk (kept_at hq_ HK.out); have n2_ := Aside0.mk (below_at hq_ HB.out); clear hq_ HO_0 HK HB; have HO_0 := n0_; have HK := n1_; have HB := n2_; clear n0_ n1_ n2_; (try (obtain ⟨hy30_, hz30_⟩ := Wn_cell HO_0.out (x86_2 : Int) (of_decide_eq_true (by first | (with_reducible assumption) | assumption)) (of_decide_eq_true (by first | (with_reducible assumption) | assumption)))); (try (have HP30 := Wn_put HO_0.out (x86_2 : Int) (of_decide_eq_true (by first | (with_reducible assumption) | assumption)) (of_decide_eq_true (by first | (with_reducible assumption) | assumption)) ((IntKind.u64.wrap ((IntKind.u64.wrap ((IntKind.u64.wrap (rd x0_2 x86_2)) - ((IntKind.u64.wrap ((IntKind.u64.wrap (x7_9 * (IntKind.u64.wrap (rd l1 x86_2)))) + x10_2)) % 4294967296))) - x9_2)) % 4294967296))))); refine store_event (t := 48) (p := 115) (v := ?vo_w31) (w1 := (wr.setCell ⟨g, o + (x86_2 : Int).toNat, none⟩ (.int .u32 ((IntKind.u64.wrap ((IntKind.u64.wrap ((IntKind.u64.wrap (rd x0_2 x86_2)) - ((IntKind.u64.wrap ((IntKind.u64.wrap (x7_9 * (IntKind.u64.wrap (rd l1 x86_2)))) + x10_2)) % 4294967296))) - x9_2)) % 4294967296)))) ?hg ?ho ?hn ?hr ?_; (case ho => rfl); (case hg => rfl); (case hn => rfl); (case hr => first | (go_simp; done) | (go_simp; rfl)); intro w31 hw; have hg : wr.grownBy w31 (some g) := (by rw [hw]; exact HP30.2); have hp_ : Wn g o N cap x0_2.length zs w31 w0.heap.size (fun k_ => (P0_ k_ ∨ w.heap.size ≤ k_)) y958 := (by rw [hw, Ny958.out]; exact HP30.1); clear HP30; have n0_ := Aside0.mk (hp_); have n1_ := Aside0.mk ((by rw [hw]; exact below_set (HB.out) GB29.out : Below w0.heap.size w0 w31)); have n2_ := Aside0.mk (Kept.of_grown (S := (fun k_ => P0_ k_)) hg (by repeat (first | (with_reducible first | exact HK.out | apply Kept.alloc | apply Kept.drewN | apply Kept.drew) | exact HK.out)) (fun k_ e_ => (Wn_ok HO_0.out k_ e_))); clear HO_0; clear HB; clear HK; have HO_0 := n0_; have HB := n1_; have HK := n2_; clear n0_ n1_ n2_; clear hg hw hp_))
                              repeat (go_quiet (first | ((with_reducible refine gate_store (t := 48) (p := 115) rfl ?_); (try (rw [drewN_self wr]; generalize hq_ : World.drewN wr _ = wr; have n0_ := Aside0.mk (Wn_at hq_ HO_0.out); have n1_ := Aside0.mk (kept_at hq_ HK.out); have n2_ := Aside0.mk (below_at hq_ HB.out); clear hq_ HO_0 HK HB; have HO_0 := n0_; have HK := n1_; have HB := n2_; clear n0_ n1_ n2_; (try (obtain ⟨hy30_, hz30_⟩ := Wn_cell HO_0.out (x86_2 : Int) (of_decide_eq_true (by first | (with_reducible assumption) | assumption)) (of_decide_eq_true (by first | (with_reducible assumption) | assumption)))); (try (have HP30 := Wn_put HO_0.out (x86_2 : Int) (of_decide_eq_true (by first | (with_reducible assumption) | assumption)) (of_decide_eq_true (by first | (with_reducible assumption) | assumption)) ((IntKind.u64.wrap ((IntKind.u64.wrap ((IntKind.u64.wrap (rd x0_2 x86_2)) - ((IntKind.u64.wrap ((IntKind.u64.wrap (x7_9 * (IntKind.u64.wrap (rd l1 x86_2)))) + x10_2)) % 4294967296))) - x9_2)) % 4294967296))))); refine store_event (t := 48) (p := 115) (v := ?vo_w31) (w1 := (wr.setCell ⟨g, o + (x86_2 : Int).toNat, none⟩ (.int .u32 ((IntKind.u64.wrap ((IntKind.u64.wrap ((IntKind.u64.wrap (rd x0_2 x86_2)) - ((IntKind.u64.wrap ((IntKind.u64.wrap (x7_9 * (IntKind.u64.wrap (rd l1 x86_2)))) + x10_2)) % 4294967296))) - x9_2)) % 4294967296)))) ?hg ?ho ?hn ?hr ?_; (case ho => rfl); (case hg => rfl); (case hn => rfl); (case hr => first | (go_simp; done) | (go_simp; rfl)); intro w31 hw; have hg : wr.grownBy w31 (some g) := (by rw [hw]; exact HP30.2); have hp_ : Wn g o N cap x0_2.length zs w31 w0.heap.size (fun k_ => (P0_ k_ ∨ w.heap.size ≤ k_)) y958 := (by rw [hw, Ny958.out]; exact HP30.1); clear HP30; have n0_ := Aside0.mk (hp_); have n1_ := Aside0.mk ((by rw [hw]; exact below_set (HB.out) GB29.out : Below w0.heap.size w0 w31)); have n2_ := Aside0.mk (Kept.of_grown (S := (fun k_ => P0_ k_)) hg (by repeat (first | (with_reducible first | exact HK.out | apply Kept.alloc | apply Kept.drewN | apply Kept.drew) | exact HK.out)) (fun k_ e_ => (Wn_ok HO_0.out k_ e_))); clear HO_0; clear HB; clear HK; have HO_0 := n0_; have HB := n1_; have HK := n2_; clear n0_ n1_ n2_; clear hg hw hp_)); try go_wp2_with (first | ((with_reducible refine gate_store (t := 48) (p := 115) rfl ?_); (try (rw [drewN_self wr]; generalize hq_ : World.drewN wr _ = wr; have n0_ := Aside0.mk (Wn_at hq_ HO_0.out); have n1_ := Aside0.mk (kept_at hq_ HK.out); have n2_ := Aside0.mk (below_at hq_ HB.out); clear hq_ HO_0 HK HB; have HO_0 := n0_; have HK := n1_; have HB := n2_; clear n0_ n1_ n2_; (try (obtain ⟨hy30_, hz30_⟩ := Wn_cell HO_0.out (x86_2 : Int) (of_decide_eq_true (by first | (with_reducible assumption) | assumption)) (of_decide_eq_true (by first | (with_reducible assumption) | assumption)))); (try (have HP30 := Wn_put HO_0.out (x86_2 : Int) (of_decide_eq_true (by first | (with_reducible assumption) | assumption)) (of_decide_eq_true (by first | (with_reducible assumption) | assumption)) ((IntKind.u64.wrap ((IntKind.u64.wrap ((IntKind.u64.wrap (rd x0_2 x86_2)) - ((IntKind.u64.wrap ((IntKind.u64.wrap (x7_9 * (IntKind.u64.wrap (rd l1 x86_2)))) + x10_2)) % 4294967296))) - x9_2)) % 4294967296))))); refine store_event (t := 48) (p := 115) (v := ?vo_w31) (w1 := (wr.setCell ⟨g, o + (x86_2 : Int).toNat, none⟩ (.int .u32 ((IntKind.u64.wrap ((IntKind.u64.wrap ((IntKind.u64.wrap (rd x0_2 x86_2)) - ((IntKind.u64.wrap ((IntKind.u64.wrap (x7_9 * (IntKind.u64.wrap (rd l1 x86_2)))) + x10_2)) % 4294967296))) - x9_2)) % 4294967296)))) ?hg ?ho ?hn ?hr ?_; (case ho => rfl); (case hg => rfl); (case hn => rfl); (case hr => first | (go_simp; done) | (go_simp; rfl)); intro w31 hw; have hg : wr.grownBy w31 (some g) := (by rw [hw]; exact HP30.2); have hp_ : Wn g o N cap x0_2.length zs w31 w0.heap.size (fun k_ => (P0_ k_ ∨ w.heap.size ≤ k_)) y958 := (by rw [hw, Ny958.out]; exact HP30.1); clear HP30; have n0_ := Aside0.mk (hp_); have n1_ := Aside0.mk ((by rw [hw]; exact below_set (HB.out) GB29.out : Below w0.heap.size w0 w31)); have n2_ := Aside0.mk (Kept.of_grown (S := (fun k_ => P0_ k_)) hg (by repeat (first | (with_reducible first | exact HK.out | apply Kept.alloc | apply Kept.drewN | apply Kept.drew) | exact HK.out)) (fun k_ e_ => (Wn_ok HO_0.out k_ e_))); clear HO_0; clear HB; clear HK; have HO_0 := n0_; have HB := n1_; have HK := n2_; clear n0_ n1_ n2_; clear hg hw hp_)))
                              (try simp only [← hl0_2])
                              go_roundg k2
                              case measure => have := HJ9.out; have := HK2.out; omega
                              case rel => exact ⟨(y958), ((IntKind.u64.wrap ((IntKind.u64.wrap ((IntKind.u64.wrap (rd x0_2 x86_2)) - ((IntKind.u64.wrap ((IntKind.u64.wrap (x7_9 * (IntKind.u64.wrap (rd l1 x86_2)))) + x10_2)) % 4294967296))) - x9_2)) / 9223372036854775808), ((IntKind.u64.wrap ((IntKind.u64.wrap (x7_9 * (IntKind.u64.wrap (rd l1 x86_2)))) + x10_2)) / 4294967296), (wrap64 (x86_2 + 1)), (by first | rfl | (simp; done) | (simp [*]; done)), (by first | rfl | (simp; done) | (simp [*]; done)), (by first | rfl | (simp; done) | (simp [*]; done)), H', ⟨by have := HJ9.out; have := HK2.out; omega⟩, ⟨by (try simp only [hl0_2]); (with_reducible repeat (first | apply Wn_alloc | apply Wn_drewN | apply Wn_drew)); exact HO_0.out⟩, ⟨by repeat (first | (with_reducible first | exact HK.out | apply Kept.alloc | apply Kept.drewN | apply Kept.drew) | exact HK.out)⟩, ⟨by repeat (first | (with_reducible first | exact HB.out | apply below_alloc | apply pw_below_drewN | apply below_drew1) | exact HB.out)⟩⟩
                            · rw [if_neg c28] at H
                              exact absurd H (by simp)
                          · rw [if_neg c27] at H
                            exact absurd H (by simp)
                        · rw [if_neg c26] at H
                          exact absurd H (by simp)
                      · rw [if_neg c25] at H
                        have c25b0 : decide (x86_2 < (l1.length : Int)) = false := decide_eq_false c25
                        clear c25
                        (try (have c25b0h := c25b0; simp only [hl0_2] at c25b0h))
                        by_cases c32 : 0 ≤ (l1.length : Int)
                        · rw [if_pos c32] at H
                          have c32b0 : decide (0 ≤ (l1.length : Int)) = true := decide_eq_true c32
                          have c32b1 : decide (0 ≤ l1.length) = true := decide_eq_true (by omega)
                          clear c32
                          (try (have c32b0h := c32b0; simp only [hl0_2] at c32b0h))
                          (try (have c32b1h := c32b1; simp only [hl0_2] at c32b1h))
                          by_cases c33 : (l1.length : Int) < (x0_2.length : Int)
                          · rw [if_pos c33] at H
                            have c33b0 : decide ((l1.length : Int) < (x0_2.length : Int)) = true := decide_eq_true c33
                            have c33b1 : decide (l1.length < x0_2.length) = true := decide_eq_true (Int.ofNat_lt.mp c33)
                            clear c33
                            (try (have c33b0h := c33b0; simp only [hl0_2] at c33b0h))
                            (try (have c33b1h := c33b1; simp only [hl0_2] at c33b1h))
                            obtain ⟨y960, hy960⟩ : ∃ y_ : List Int, y_ = (x0_2.set ((l1.length : Int) : Int).toNat ((IntKind.u64.wrap ((IntKind.u64.wrap ((IntKind.u64.wrap (rd x0_2 (l1.length : Int))) - x10_2)) - x9_2)) % 4294967296)) := ⟨_, rfl⟩
                            replace H : (if ((IntKind.u64.wrap ((IntKind.u64.wrap ((IntKind.u64.wrap (rd x0_2 (l1.length : Int))) - x10_2)) - x9_2)) / 9223372036854775808) = 0 then (some ((x7_9) % 4294967296, y960)) else (nat_step.l2 k2 y960 l1 (l1.length : Int) x7_9 0 (l1.length : Int) 0)) = some (r1, r2) := by first | (rw [hy960]; with_reducible exact H) | (have H2_ := (Option.bind_some _ _).symm.trans H; rw [hy960]; with_reducible exact H2_) | (have H2_ := (Option.bind_some _ _).symm.trans H; with_reducible exact H2_) | with_reducible exact H | (rw [hy960]; exact H) | exact H
                            have Ny960 := Aside0.mk hy960
                            clear hy960
                            by_cases c35 : ((IntKind.u64.wrap ((IntKind.u64.wrap ((IntKind.u64.wrap (rd x0_2 (l1.length : Int))) - x10_2)) - x9_2)) / 9223372036854775808) = 0
                            · rw [if_pos c35] at H
                              have c35b0 : (((IntKind.u64.wrap ((IntKind.u64.wrap ((IntKind.u64.wrap (rd x0_2 (l1.length : Int))) - x10_2)) - x9_2)) / 9223372036854775808) == 0) = true := beq_iff_eq.mpr c35
                              have c35b1 : (((IntKind.u64.wrap ((IntKind.u64.wrap ((IntKind.u64.wrap (rd x0_2 (l1.length : Int))) - x10_2)) - x9_2)) / 9223372036854775808) != 0) = false := bne_eq_false_iff_eq.mpr c35
                              clear c35
                              (try (have c35b0h := c35b0; simp only [hl0_2] at c35b0h))
                              (try (have c35b1h := c35b1; simp only [hl0_2] at c35b1h))
                              simp only [Option.some.injEq, Prod.mk.injEq] at H
                              obtain ⟨rfl, rfl⟩ := H
                              have p959 : 0 ≤ ((l1.length : Int) : Int) := of_decide_eq_true (by first | (with_reducible assumption) | assumption)
                              have q959 : (l1.length : Int) < (x0_2.length : Int) := of_decide_eq_true (by first | (with_reducible assumption) | assumption)
                              have hx959_0 := (Wn_cell HO_0.out (l1.length : Int) p959 q959).1
                              (try simp only [Go.IntWalk.toNatUp] at hx959_0)
                              (try simp only [hl0_2] at p959)
                              (try simp only [hl0_2] at q959)
                              (try simp only [hl0_2] at hx959_0)
                              replace p959 := eq_true p959
                              replace q959 := eq_true q959
                              have p34 : 0 ≤ ((l1.length : Int) : Int) := of_decide_eq_true (by first | (with_reducible assumption) | assumption)
                              have q34 : ((l1.length : Int) : Int) < ((x0_2.length : Int) : Int) := of_decide_eq_true (by first | (with_reducible assumption) | assumption)
                              have GB34 := Aside0.mk (Wn_base HO_0.out)
                              have HMgo34 := Aside0.mk (Wn_ok HO_0.out g rfl)
                              (first | simp only [add_off] at hx959_0 | skip)
                              obtain ⟨hx34_0, hf34_0⟩ := Wn_cell HO_0.out ((l1.length : Int) : Int) p34 q34
                              (try simp only [Go.IntWalk.toNatUp] at hx34_0 hf34_0)
                              replace p34 := eq_true p34
                              replace q34 := eq_true q34
                              obtain ⟨hy36_, hz36_⟩ := Wn_cell HO_0.out ((l1.length : Int) : Int) (of_decide_eq_true (by first | (with_reducible assumption) | assumption)) (of_decide_eq_true (by first | (with_reducible assumption) | assumption))
                              (try simp only [Go.IntWalk.toNatUp] at hy36_ hz36_)
                              have HP36 := Wn_put HO_0.out ((l1.length : Int) : Int) (of_decide_eq_true (by first | (with_reducible assumption) | assumption)) (of_decide_eq_true (by first | (with_reducible assumption) | assumption)) ((IntKind.u64.wrap ((IntKind.u64.wrap ((IntKind.u64.wrap (rd x0_2 (l1.length : Int))) - x10_2)) - x9_2)) % 4294967296)
                              go_wp2_with (first | ((with_reducible refine gate_store (t := 48) (p := 132) rfl ?_); (try (rw [drewN_self wr]; generalize hq_ : World.drewN wr _ = wr; have n0_ := Aside0.mk (Wn_at hq_ HO_0.out); have n1_ := Aside0.mk (kept_at hq_ HK.out); have n2_ := Aside0.mk (below_at hq_ HB.out); clear hq_ HO_0 HK HB; have HO_0 := n0_; have HK := n1_; have HB := n2_; clear n0_ n1_ n2_; (try (obtain ⟨hy36_, hz36_⟩ := Wn_cell HO_0.out ((l1.length : Int) : Int) (of_decide_eq_true (by first | (with_reducible assumption) | assumption)) (of_decide_eq_true (by first | (with_reducible assumption) | assumption)))); (try (try simp only [Go.IntWalk.toNatUp] at hy36_ hz36_)); (try (have HP36 := Wn_put HO_0.out ((l1.length : Int) : Int) (of_decide_eq_true (by first | (with_reducible assumption) | assumption)) (of_decide_eq_true (by first | (with_reducible assumption) | assumption)) ((IntKind.u64.wrap ((IntKind.u64.wrap ((IntKind.u64.wrap (rd x0_2 (l1.length : Int))) - x10_2)) - x9_2)) % 4294967296))))); refine store_event (t := 48) (p := 132) (v := ?vo_w37) (w1 := (wr.setCell ⟨g, o + ((l1.length : Int) : Int).toNat, none⟩ (.int .u32 ((IntKind.u64.wrap ((IntKind.u64.wrap ((IntKind.u64.wrap (rd x0_2 (l1.length : Int))) - x10_2)) - x9_2)) % 4294967296)))) ?hg ?ho ?hn ?hr ?_; (case ho => rfl); (case hg => rfl); (case hn => rfl); (case hr => first | (go_simp; done) | (go_simp; rfl)); intro w37 hw; have hg : wr.grownBy w37 (some g) := (by rw [hw]; exact HP36.2); have hp_ : Wn g o N cap x0_2.length zs w37 w0.heap.size (fun k_ => (P0_ k_ ∨ w.heap.size ≤ k_)) y960 := (by rw [hw, Ny960.out]; exact HP36.1); clear HP36; have n0_ := Aside0.mk (hp_); have n1_ := Aside0.mk ((by rw [hw]; exact below_set (HB.out) GB34.out : Below w0.heap.size w0 w37)); have n2_ := Aside0.mk (Kept.of_grown (S := (fun k_ => P0_ k_)) hg (by repeat (first | (with_reducible first | exact HK.out | apply Kept.alloc | apply Kept.drewN | apply Kept.drew) | exact HK.out)) (fun k_ e_ => (Wn_ok HO_0.out k_ e_))); clear HO_0; clear HB; clear HK; have HO_0 := n0_; have HB := n1_; have HK := n2_; clear n0_ n1_ n2_; clear hg hw hp_))
                              repeat (go_quiet (first | ((with_reducible refine gate_store (t := 48) (p := 132) rfl ?_); (try (rw [drewN_self wr]; generalize hq_ : World.drewN wr _ = wr; have n0_ := Aside0.mk (Wn_at hq_ HO_0.out); have n1_ := Aside0.mk (kept_at hq_ HK.out); have n2_ := Aside0.mk (below_at hq_ HB.out); clear hq_ HO_0 HK HB; have HO_0 := n0_; have HK := n1_; have HB := n2_; clear n0_ n1_ n2_; (try (obtain ⟨hy36_, hz36_⟩ := Wn_cell HO_0.out ((l1.length : Int) : Int) (of_decide_eq_true (by first | (with_reducible assumption) | assumption)) (of_decide_eq_true (by first | (with_reducible assumption) | assumption)))); (try (try simp only [Go.IntWalk.toNatUp] at hy36_ hz36_)); (try (have HP36 := Wn_put HO_0.out ((l1.length : Int) : Int) (of_decide_eq_true (by first | (with_reducible assumption) | assumption)) (of_decide_eq_true (by first | (with_reducible assumption) | assumption)) ((IntKind.u64.wrap ((IntKind.u64.wrap ((IntKind.u64.wrap (rd x0_2 (l1.length : Int))) - x10_2)) - x9_2)) % 4294967296))))); refine store_event (t := 48) (p := 132) (v := ?vo_w37) (w1 := (wr.setCell ⟨g, o + ((l1.length : Int) : Int).toNat, none⟩ (.int .u32 ((IntKind.u64.wrap ((IntKind.u64.wrap ((IntKind.u64.wrap (rd x0_2 (l1.length : Int))) - x10_2)) - x9_2)) % 4294967296)))) ?hg ?ho ?hn ?hr ?_; (case ho => rfl); (case hg => rfl); (case hn => rfl); (case hr => first | (go_simp; done) | (go_simp; rfl)); intro w37 hw; have hg : wr.grownBy w37 (some g) := (by rw [hw]; exact HP36.2); have hp_ : Wn g o N cap x0_2.length zs w37 w0.heap.size (fun k_ => (P0_ k_ ∨ w.heap.size ≤ k_)) y960 := (by rw [hw, Ny960.out]; exact HP36.1); clear HP36; have n0_ := Aside0.mk (hp_); have n1_ := Aside0.mk ((by rw [hw]; exact below_set (HB.out) GB34.out : Below w0.heap.size w0 w37)); have n2_ := Aside0.mk (Kept.of_grown (S := (fun k_ => P0_ k_)) hg (by repeat (first | (with_reducible first | exact HK.out | apply Kept.alloc | apply Kept.drewN | apply Kept.drew) | exact HK.out)) (fun k_ e_ => (Wn_ok HO_0.out k_ e_))); clear HO_0; clear HB; clear HK; have HO_0 := n0_; have HB := n1_; have HK := n2_; clear n0_ n1_ n2_; clear hg hw hp_)); try go_wp2_with (first | ((with_reducible refine gate_store (t := 48) (p := 132) rfl ?_); (try (rw [drewN_self wr]; generalize hq_ : World.drewN wr _ = wr; have n0_ := Aside0.mk (Wn_at hq_ HO_0.out); have n1_ := Aside0.mk (kept_at hq_ HK.out); have n2_ := Aside0.mk (below_at hq_ HB.out); clear hq_ HO_0 HK HB; have HO_0 := n0_; have HK := n1_; have HB := n2_; clear n0_ n1_ n2_; (try (obtain ⟨hy36_, hz36_⟩ := Wn_cell HO_0.out ((l1.length : Int) : Int) (of_decide_eq_true (by first | (with_reducible assumption) | assumption)) (of_decide_eq_true (by first | (with_reducible assumption) | assumption)))); (try (try simp only [Go.IntWalk.toNatUp] at hy36_ hz36_)); (try (have HP36 := Wn_put HO_0.out ((l1.length : Int) : Int) (of_decide_eq_true (by first | (with_reducible assumption) | assumption)) (of_decide_eq_true (by first | (with_reducible assumption) | assumption)) ((IntKind.u64.wrap ((IntKind.u64.wrap ((IntKind.u64.wrap (rd x0_2 (l1.length : Int))) - x10_2)) - x9_2)) % 4294967296))))); refine store_event (t := 48) (p := 132) (v := ?vo_w37) (w1 := (wr.setCell ⟨g, o + ((l1.length : Int) : Int).toNat, none⟩ (.int .u32 ((IntKind.u64.wrap ((IntKind.u64.wrap ((IntKind.u64.wrap (rd x0_2 (l1.length : Int))) - x10_2)) - x9_2)) % 4294967296)))) ?hg ?ho ?hn ?hr ?_; (case ho => rfl); (case hg => rfl); (case hn => rfl); (case hr => first | (go_simp; done) | (go_simp; rfl)); intro w37 hw; have hg : wr.grownBy w37 (some g) := (by rw [hw]; exact HP36.2); have hp_ : Wn g o N cap x0_2.length zs w37 w0.heap.size (fun k_ => (P0_ k_ ∨ w.heap.size ≤ k_)) y960 := (by rw [hw, Ny960.out]; exact HP36.1); clear HP36; have n0_ := Aside0.mk (hp_); have n1_ := Aside0.mk ((by rw [hw]; exact below_set (HB.out) GB34.out : Below w0.heap.size w0 w37)); have n2_ := Aside0.mk (Kept.of_grown (S := (fun k_ => P0_ k_)) hg (by repeat (first | (with_reducible first | exact HK.out | apply Kept.alloc | apply Kept.drewN | apply Kept.drew) | exact HK.out)) (fun k_ e_ => (Wn_ok HO_0.out k_ e_))); clear HO_0; clear HB; clear HK; have HO_0 := n0_; have HB := n1_; have HK := n2_; clear n0_ n1_ n2_; clear hg hw hp_)))
                              go_ret
                              exact ⟨by first | rfl | (simp [errW_none, errW_some] <;> rfl) | (simp only [← hji5]; first | rfl | (simp [errW_none, errW_some] <;> rfl)) | (simp [*, errW_none, errW_some] <;> rfl), (by first | exact (by (with_reducible repeat (first | apply Wn_alloc | apply Wn_drewN | apply Wn_drew)); exact HO_0.out) | (simp only [hl0_2]; exact (by (with_reducible repeat (first | apply Wn_alloc | apply Wn_drewN | apply Wn_drew)); exact HO_0.out))), by repeat (first | (with_reducible first | exact HB.out | apply below_alloc | apply pw_below_drewN | apply below_drew1) | exact HB.out), by repeat (first | (with_reducible first | exact HK.out | apply Kept.alloc | apply Kept.drewN | apply Kept.drew) | exact HK.out)⟩
                            · rw [if_neg c35] at H
                              have c35b0 : (((IntKind.u64.wrap ((IntKind.u64.wrap ((IntKind.u64.wrap (rd x0_2 (l1.length : Int))) - x10_2)) - x9_2)) / 9223372036854775808) == 0) = false := beq_eq_false_iff_ne.mpr c35
                              have c35b1 : (((IntKind.u64.wrap ((IntKind.u64.wrap ((IntKind.u64.wrap (rd x0_2 (l1.length : Int))) - x10_2)) - x9_2)) / 9223372036854775808) != 0) = true := bne_iff_ne.mpr c35
                              (try (have c35b0h := c35b0; simp only [hl0_2] at c35b0h))
                              (try (have c35b1h := c35b1; simp only [hl0_2] at c35b1h))
                              have H' := Aside0.mk H
                              clear H
                              have p959 : 0 ≤ ((l1.length : Int) : Int) := of_decide_eq_true (by first | (with_reducible assumption) | assumption)
                              have q959 : (l1.length : Int) < (x0_2.length : Int) := of_decide_eq_true (by first | (with_reducible assumption) | assumption)
                              have hx959_0 := (Wn_cell HO_0.out (l1.length : Int) p959 q959).1
                              (try simp only [Go.IntWalk.toNatUp] at hx959_0)
                              (try simp only [hl0_2] at p959)
                              (try simp only [hl0_2] at q959)
                              (try simp only [hl0_2] at hx959_0)
                              replace p959 := eq_true p959
                              replace q959 := eq_true q959
                              have p34 : 0 ≤ ((l1.length : Int) : Int) := of_decide_eq_true (by first | (with_reducible assumption) | assumption)
                              have q34 : ((l1.length : Int) : Int) < ((x0_2.length : Int) : Int) := of_decide_eq_true (by first | (with_reducible assumption) | assumption)
                              have GB34 := Aside0.mk (Wn_base HO_0.out)
                              have HMgo34 := Aside0.mk (Wn_ok HO_0.out g rfl)
                              (first | simp only [add_off] at hx959_0 | skip)
                              obtain ⟨hx34_0, hf34_0⟩ := Wn_cell HO_0.out ((l1.length : Int) : Int) p34 q34
                              (try simp only [Go.IntWalk.toNatUp] at hx34_0 hf34_0)
                              replace p34 := eq_true p34
                              replace q34 := eq_true q34
                              obtain ⟨hy38_, hz38_⟩ := Wn_cell HO_0.out ((l1.length : Int) : Int) (of_decide_eq_true (by first | (with_reducible assumption) | assumption)) (of_decide_eq_true (by first | (with_reducible assumption) | assumption))
                              (try simp only [Go.IntWalk.toNatUp] at hy38_ hz38_)
                              have HP38 := Wn_put HO_0.out ((l1.length : Int) : Int) (of_decide_eq_true (by first | (with_reducible assumption) | assumption)) (of_decide_eq_true (by first | (with_reducible assumption) | assumption)) ((IntKind.u64.wrap ((IntKind.u64.wrap ((IntKind.u64.wrap (rd x0_2 (l1.length : Int))) - x10_2)) - x9_2)) % 4294967296)
                              go_wp2_with (first | ((with_reducible refine gate_store (t := 48) (p := 132) rfl ?_); (try (rw [drewN_self wr]; generalize hq_ : World.drewN wr _ = wr; have n0_ := Aside0.mk (Wn_at hq_ HO_0.out); have n1_ := Aside0.mk (kept_at hq_ HK.out); have n2_ := Aside0.mk (below_at hq_ HB.out); clear hq_ HO_0 HK HB; have HO_0 := n0_; have HK := n1_; have HB := n2_; clear n0_ n1_ n2_; (try (obtain ⟨hy38_, hz38_⟩ := Wn_cell HO_0.out ((l1.length : Int) : Int) (of_decide_eq_true (by first | (with_reducible assumption) | assumption)) (of_decide_eq_true (by first | (with_reducible assumption) | assumption)))); (try (try simp only [Go.IntWalk.toNatUp] at hy38_ hz38_)); (try (have HP38 := Wn_put HO_0.out ((l1.length : Int) : Int) (of_decide_eq_true (by first | (with_reducible assumption) | assumption)) (of_decide_eq_true (by first | (with_reducible assumption) | assumption)) ((IntKind.u64.wrap ((IntKind.u64.wrap ((IntKind.u64.wrap (rd x0_2 (l1.length : Int))) - x10_2)) - x9_2)) % 4294967296))))); refine store_event (t := 48) (p := 132) (v := ?vo_w39) (w1 := (wr.setCell ⟨g, o + ((l1.length : Int) : Int).toNat, none⟩ (.int .u32 ((IntKind.u64.wrap ((IntKind.u64.wrap ((IntKind.u64.wrap (rd x0_2 (l1.length : Int))) - x10_2)) - x9_2)) % 4294967296)))) ?hg ?ho ?hn ?hr ?_; (case ho => rfl); (case hg => rfl); (case hn => rfl); (case hr => first | (go_simp; done) | (go_simp; rfl)); intro w39 hw; have hg : wr.grownBy w39 (some g) := (by rw [hw]; exact HP38.2); have hp_ : Wn g o N cap x0_2.length zs w39 w0.heap.size (fun k_ => (P0_ k_ ∨ w.heap.size ≤ k_)) y960 := (by rw [hw, Ny960.out]; exact HP38.1); clear HP38; have n0_ := Aside0.mk (hp_); have n1_ := Aside0.mk ((by rw [hw]; exact below_set (HB.out) GB34.out : Below w0.heap.size w0 w39)); have n2_ := Aside0.mk (Kept.of_grown (S := (fun k_ => P0_ k_)) hg (by repeat (first | (with_reducible first | exact HK.out | apply Kept.alloc | apply Kept.drewN | apply Kept.drew) | exact HK.out)) (fun k_ e_ => (Wn_ok HO_0.out k_ e_))); clear HO_0; clear HB; clear HK; have HO_0 := n0_; have HB := n1_; have HK := n2_; clear n0_ n1_ n2_; clear hg hw hp_))
                              repeat (go_quiet (first | ((with_reducible refine gate_store (t := 48) (p := 132) rfl ?_); (try (rw [drewN_self wr]; generalize hq_ : World.drewN wr _ = wr; have n0_ := Aside0.mk (Wn_at hq_ HO_0.out); have n1_ := Aside0.mk (kept_at hq_ HK.out); have n2_ := Aside0.mk (below_at hq_ HB.out); clear hq_ HO_0 HK HB; have HO_0 := n0_; have HK := n1_; have HB := n2_; clear n0_ n1_ n2_; (try (obtain ⟨hy38_, hz38_⟩ := Wn_cell HO_0.out ((l1.length : Int) : Int) (of_decide_eq_true (by first | (with_reducible assumption) | assumption)) (of_decide_eq_true (by first | (with_reducible assumption) | assumption)))); (try (try simp only [Go.IntWalk.toNatUp] at hy38_ hz38_)); (try (have HP38 := Wn_put HO_0.out ((l1.length : Int) : Int) (of_decide_eq_true (by first | (with_reducible assumption) | assumption)) (of_decide_eq_true (by first | (with_reducible assumption) | assumption)) ((IntKind.u64.wrap ((IntKind.u64.wrap ((IntKind.u64.wrap (rd x0_2 (l1.length : Int))) - x10_2)) - x9_2)) % 4294967296))))); refine store_event (t := 48) (p := 132) (v := ?vo_w39) (w1 := (wr.setCell ⟨g, o + ((l1.length : Int) : Int).toNat, none⟩ (.int .u32 ((IntKind.u64.wrap ((IntKind.u64.wrap ((IntKind.u64.wrap (rd x0_2 (l1.length : Int))) - x10_2)) - x9_2)) % 4294967296)))) ?hg ?ho ?hn ?hr ?_; (case ho => rfl); (case hg => rfl); (case hn => rfl); (case hr => first | (go_simp; done) | (go_simp; rfl)); intro w39 hw; have hg : wr.grownBy w39 (some g) := (by rw [hw]; exact HP38.2); have hp_ : Wn g o N cap x0_2.length zs w39 w0.heap.size (fun k_ => (P0_ k_ ∨ w.heap.size ≤ k_)) y960 := (by rw [hw, Ny960.out]; exact HP38.1); clear HP38; have n0_ := Aside0.mk (hp_); have n1_ := Aside0.mk ((by rw [hw]; exact below_set (HB.out) GB34.out : Below w0.heap.size w0 w39)); have n2_ := Aside0.mk (Kept.of_grown (S := (fun k_ => P0_ k_)) hg (by repeat (first | (with_reducible first | exact HK.out | apply Kept.alloc | apply Kept.drewN | apply Kept.drew) | exact HK.out)) (fun k_ e_ => (Wn_ok HO_0.out k_ e_))); clear HO_0; clear HB; clear HK; have HO_0 := n0_; have HB := n1_; have HK := n2_; clear n0_ n1_ n2_; clear hg hw hp_)); try go_wp2_with (first | ((with_reducible refine gate_store (t := 48) (p := 132) rfl ?_); (try (rw [drewN_self wr]; generalize hq_ : World.drewN wr _ = wr; have n0_ := Aside0.mk (Wn_at hq_ HO_0.out); have n1_ := Aside0.mk (kept_at hq_ HK.out); have n2_ := Aside0.mk (below_at hq_ HB.out); clear hq_ HO_0 HK HB; have HO_0 := n0_; have HK := n1_; have HB := n2_; clear n0_ n1_ n2_; (try (obtain ⟨hy38_, hz38_⟩ := Wn_cell HO_0.out ((l1.length : Int) : Int) (of_decide_eq_true (by first | (with_reducible assumption) | assumption)) (of_decide_eq_true (by first | (with_reducible assumption) | assumption)))); (try (try simp only [Go.IntWalk.toNatUp] at hy38_ hz38_)); (try (have HP38 := Wn_put HO_0.out ((l1.length : Int) : Int) (of_decide_eq_true (by first | (with_reducible assumption) | assumption)) (of_decide_eq_true (by first | (with_reducible assumption) | assumption)) ((IntKind.u64.wrap ((IntKind.u64.wrap ((IntKind.u64.wrap (rd x0_2 (l1.length : Int))) - x10_2)) - x9_2)) % 4294967296))))); refine store_event (t := 48) (p := 132) (v := ?vo_w39) (w1 := (wr.setCell ⟨g, o + ((l1.length : Int) : Int).toNat, none⟩ (.int .u32 ((IntKind.u64.wrap ((IntKind.u64.wrap ((IntKind.u64.wrap (rd x0_2 (l1.length : Int))) - x10_2)) - x9_2)) % 4294967296)))) ?hg ?ho ?hn ?hr ?_; (case ho => rfl); (case hg => rfl); (case hn => rfl); (case hr => first | (go_simp; done) | (go_simp; rfl)); intro w39 hw; have hg : wr.grownBy w39 (some g) := (by rw [hw]; exact HP38.2); have hp_ : Wn g o N cap x0_2.length zs w39 w0.heap.size (fun k_ => (P0_ k_ ∨ w.heap.size ≤ k_)) y960 := (by rw [hw, Ny960.out]; exact HP38.1); clear HP38; have n0_ := Aside0.mk (hp_); have n1_ := Aside0.mk ((by rw [hw]; exact below_set (HB.out) GB34.out : Below w0.heap.size w0 w39)); have n2_ := Aside0.mk (Kept.of_grown (S := (fun k_ => P0_ k_)) hg (by repeat (first | (with_reducible first | exact HK.out | apply Kept.alloc | apply Kept.drewN | apply Kept.drew) | exact HK.out)) (fun k_ e_ => (Wn_ok HO_0.out k_ e_))); clear HO_0; clear HB; clear HK; have HO_0 := n0_; have HB := n1_; have HK := n2_; clear n0_ n1_ n2_; clear hg hw hp_)))
                              go_loopg [10, 140] k2 (fun kq v10 v140 w' => ∃ (x0_3 : List Int) (x10_3 : Int) (x140_3 : Int), v10 = .int .u64 x10_3 ∧ v140 = .int .i64 x140_3 ∧ Aside0 (nat_step.l2 kq x0_3 l1 (l1.length : Int) x7_9 x10_3 (l1.length : Int) x140_3 = some (r1, r2)) ∧ Aside0 (kq ≤ k2) ∧ Aside0 (Wn g o N cap x0_2.length zs w' w0.heap.size (fun k_ => (P0_ k_ ∨ w.heap.size ≤ k_)) x0_3) ∧ Aside0 (Kept w w' (fun k_ => P0_ k_)) ∧ Aside0 (Below w0.heap.size w0 w'))
                              case atStart => exact ⟨(y960), (0), (0), (by first | rfl | (simp; done) | (simp [*]; done)), (by first | rfl | (simp; done) | (simp [*]; done)), H', ⟨Nat.le_refl _⟩, ⟨by (try simp only [hl0_2]); (with_reducible repeat (first | apply Wn_alloc | apply Wn_drewN | apply Wn_drew)); exact HO_0.out⟩, ⟨by repeat (first | (with_reducible first | exact HK.out | apply Kept.alloc | apply Kept.drewN | apply Kept.drew) | exact HK.out)⟩, ⟨by repeat (first | (with_reducible first | exact HB.out | apply below_alloc | apply pw_below_drewN | apply below_drew1) | exact HB.out)⟩⟩
                              case round =>
                                clear H'
                                try clear c1
                                try clear c2
                                try clear p2
                                try clear q2
                                try clear hx2
                                try clear hf2
                                try clear c3
                                try clear c3b0
                                try clear c3b1
                                try clear p3
                                try clear q3
                                try clear hx3
                                try clear hf3
                                try clear c4
                                try clear c4b0
                                try clear c4b1
                                try clear c6
                                try clear c6b0
                                try clear p6
                                try clear c7
                                try clear c7b0
                                try clear c8
                                try clear c8b0
                                try clear c9
                                try clear c9b0
                                try clear c9b1
                                try clear p9
                                try clear q9
                                try clear hx9
                                try clear c12
                                try clear c12b0
                                try clear c12b1
                                try clear c13
                                try clear c13b0
                                try clear c15
                                try clear c15b0
                                try clear c16
                                try clear c16b0
                                try clear c18
                                try clear c18b0
                                try clear c19
                                try clear c19b0
                                try clear c20
                                try clear c20b0
                                try clear c21
                                try clear c21b0
                                try clear c23
                                try clear c23b0
                                try clear c24
                                try clear c24b0
                                try clear c25
                                try clear c25b0
                                try clear c26
                                try clear c26b0
                                try clear c27
                                try clear c27b0
                                try clear c28
                                try clear c28b0
                                try clear p29
                                try clear q29
                                try clear hx29
                                try clear hf29
                                try clear c32
                                try clear c32b0
                                try clear c32b1
                                try clear c33
                                try clear c33b0
                                try clear c33b1
                                try clear p34
                                try clear q34
                                try clear hx34
                                try clear hf34
                                try clear c35
                                try clear c35b0
                                try clear c35b1
                                try clear hx29_0
                                try clear hx34_0
                                try clear hx948_0
                                try clear hx949_0
                                try clear hx950_0
                                try clear hx951_0
                                try clear hx952_0
                                try clear hx953_0
                                try clear hx954_0
                                try clear hx955_0
                                try clear hx956_0
                                try clear hx957_0
                                try clear hx959_0
                                try clear p2
                                try clear p29
                                try clear p34
                                try clear p6
                                try clear p9
                                try clear p948
                                try clear p949
                                try clear p950
                                try clear p951
                                try clear p952
                                try clear p953
                                try clear p954
                                try clear p955
                                try clear p956
                                try clear p957
                                try clear p959
                                try clear q29
                                try clear q34
                                try clear q9
                                try clear q948
                                try clear q949
                                try clear q950
                                try clear q951
                                try clear q952
                                try clear q953
                                try clear q954
                                try clear q955
                                try clear q956
                                try clear q957
                                try clear q959
                                obtain ⟨x0_3, x10_3, x140_3, rfl, rfl, HA, HK3, HO_0, HK, HB⟩ := hrel
                                have hl0_3 := HO_0.out.1.symm
                                rw [hl0_3] at HO_0
                                (try simp only [hl0_3])
                                cases gk with
                                | zero => exact absurd HA.out (by simp [nat_step.l2])
                                | succ k3 =>
                                  have H := HA.out
                                  clear HA
                                  simp only [nat_step.l2] at H
                                  by_cases c40 : x140_3 < (l1.length : Int)
                                  · rw [if_pos c40] at H
                                    have c40b0 : decide (x140_3 < (l1.length : Int)) = true := decide_eq_true c40
                                    clear c40
                                    (try (have c40b0h := c40b0; simp only [hl0_2, hl0_3] at c40b0h))
                                    by_cases c41 : 0 ≤ x140_3
                                    · rw [if_pos c41] at H
                                      have c41b0 : decide (0 ≤ x140_3) = true := decide_eq_true c41
                                      clear c41
                                      by_cases c42 : x140_3 < (x0_3.length : Int)
                                      · rw [if_pos c42] at H
                                        have c42b0 : decide (x140_3 < (x0_3.length : Int)) = true := decide_eq_true c42
                                        clear c42
                                        (try (have c42b0h := c42b0; simp only [hl0_2, hl0_3] at c42b0h))
                                        by_cases c43 : x140_3 < (l1.length : Int)
                                        · rw [if_pos c43] at H
                                          have c43b0 : decide (x140_3 < (l1.length : Int)) = true := decide_eq_true c43
                                          clear c43
                                          (try (have c43b0h := c43b0; simp only [hl0_2, hl0_3] at c43b0h))
                                          obtain ⟨y963, hy963⟩ : ∃ y_ : List Int, y_ = (x0_3.set (x140_3 : Int).toNat ((IntKind.u64.wrap ((IntKind.u64.wrap ((IntKind.u64.wrap (rd x0_3 x140_3)) + (IntKind.u64.wrap (rd l1 x140_3)))) + x10_3)) % 4294967296)) := ⟨_, rfl⟩
                                          replace H : (nat_step.l2 k3 y963 l1 (l1.length : Int) x7_9 ((IntKind.u64.wrap ((IntKind.u64.wrap ((IntKind.u64.wrap (rd x0_3 x140_3)) + (IntKind.u64.wrap (rd l1 x140_3)))) + x10_3)) / 4294967296) (l1.length : Int) (wrap64 (x140_3 + 1))) = some (r1, r2) := by first | (rw [hy963]; with_reducible exact H) | (have H2_ := (Option.bind_some _ _).symm.trans H; rw [hy963]; with_reducible exact H2_) | (have H2_ := (Option.bind_some _ _).symm.trans H; with_reducible exact H2_) | with_reducible exact H | (rw [hy963]; exact H) | exact H
                                          have Ny963 := Aside0.mk hy963
                                          clear hy963
                                          have H' := Aside0.mk H
                                          clear H
                                          have p961 : 0 ≤ (x140_3 : Int) := of_decide_eq_true (by first | (with_reducible assumption) | assumption)
                                          have q961 : x140_3 < (x0_3.length : Int) := of_decide_eq_true (by first | (with_reducible assumption) | assumption)
                                          have hx961_0 := (Wn_cell HO_0.out x140_3 p961 q961).1
                                          (first | simp only [add_off] at hx961_0 | simp only [add_at] at hx961_0 | simp only [Addr.add, Nat.zero_add] at hx961_0 | skip)
                                          replace p961 := eq_true p961
                                          replace q961 := eq_true q961
                                          have p962 : 0 ≤ (x140_3 : Int) := of_decide_eq_true (by first | (with_reducible assumption) | assumption)
                                          have q962 : x140_3 < (l1.length : Int) := of_decide_eq_true (by first | (with_reducible assumption) | assumption)
                                          obtain ⟨ad962, e962, hx962_0⟩ := Kd.at_int (Kd.C_kept_now HR1.out HK.out) x140_3 p962 q962
                                          obtain rfl : ad950 = ad962 := (by injection e962)
                                          replace p962 := eq_true p962
                                          replace q962 := eq_true q962
                                          have p44 : 0 ≤ (x140_3 : Int) := of_decide_eq_true (by first | (with_reducible assumption) | assumption)
                                          have q44 : (x140_3 : Int) < ((x0_3.length : Int) : Int) := of_decide_eq_true (by first | (with_reducible assumption) | assumption)
                                          obtain ⟨hx44_0, hf44_0⟩ := Wn_cell HO_0.out (x140_3 : Int) p44 q44
                                          replace p44 := eq_true p44
                                          replace q44 := eq_true q44
                                          obtain ⟨hy45_, hz45_⟩ := Wn_cell HO_0.out (x140_3 : Int) (of_decide_eq_true (by first | (with_reducible assumption) | assumption)) (of_decide_eq_true (by first | (with_reducible assumption) | assumption))
                                          have HP45 := Wn_put HO_0.out (x140_3 : Int) (of_decide_eq_true (by first | (with_reducible assumption) | assumption)) (of_decide_eq_true (by first | (with_reducible assumption) | assumption)) ((IntKind.u64.wrap ((IntKind.u64.wrap ((IntKind.u64.wrap (rd x0_3 x140_3)) + (IntKind.u64.wrap (rd l1 x140_3)))) + x10_3)) % 4294967296)
                                          go_wp2_with (first | ((with_reducible refine gate_store (t := 48) (p := 160) rfl ?_); (try (rw [drewN_self wr]; generalize hq_ : World.drewN wr _ = wr; have n0_ := Aside0.mk (Wn_at hq_ HO_0.out); have n1_ := Aside0.mk (kept_at hq_ HK.out); have n2_ := Aside0.mk (below_at hq_ HB.out); clear hq_ HO_0 HK HB; have HO_0 := n0_; have HK := n1_; have HB := n2_; clear n0_ n1_ n2_; (try (obtain ⟨hy45_, hz45_⟩ := Wn_cell HO_0.out (x140_3 : Int) (of_decide_eq_true (by first | (with_reducible assumption) | assumption)) (of_decide_eq_true (by first | (with_reducible assumption) | assumption)))); (try (have HP45 := Wn_put HO_0.out (x140_3 : Int) (of_decide_eq_true (by first | (with_reducible assumption) | assumption)) (of_decide_eq_true (by first | (with_reducible assumption) | assumption)) ((IntKind.u64.wrap ((IntKind.u64.wrap ((IntKind.u64.wrap (rd x0_3 x140_3)) + (IntKind.u64.wrap (rd l1 x140_3)))) + x10_3)) % 4294967296))))); refine store_event (t := 48) (p := 160) (v := ?vo_w46) (w1 := (wr.setCell ⟨g, o + (x140_3 : Int).toNat, none⟩ (.int .u32 ((IntKind.u64.wrap ((IntKind.u64.wrap ((IntKind.u64.wrap (rd x0_3 x140_3)) + (IntKind.u64.wrap (rd l1 x140_3)))) + x10_3)) % 4294967296)))) ?hg ?ho ?hn ?hr ?_; (case ho => rfl); (case hg => rfl); (case hn => rfl); (case hr => first | (go_simp; done) | (go_simp; rfl)); intro w46 hw; have hg : wr.grownBy w46 (some g) := (by rw [hw]; exact HP45.2); have hp_ : Wn g o N cap x0_3.length zs w46 w0.heap.size (fun k_ => (P0_ k_ ∨ w.heap.size ≤ k_)) y963 := (by rw [hw, Ny963.out]; exact HP45.1); clear HP45; have n0_ := Aside0.mk (hp_); have n1_ := Aside0.mk ((by rw [hw]; exact below_set (HB.out) GB34.out : Below w0.heap.size w0 w46)); have n2_ := Aside0.mk (Kept.of_grown (S := (fun k_ => P0_ k_)) hg (by repeat (first | (with_reducible first | exact HK.out | apply Kept.alloc | apply Kept.drewN | apply Kept.drew) | exact HK.out)) (fun k_ e_ => (Wn_ok HO_0.out k_ e_))); clear HO_0; clear HB; clear HK; have HO_0 := n0_; have HB := n1_; have HK := n2_; clear n0_ n1_ n2_; clear hg hw hp_))
                                          repeat (go_quiet (first | ((with_reducible refine gate_store (t := 48) (p := 160) rfl ?_); (try (rw [drewN_self wr]; generalize hq_ : World.drewN wr _ = wr; have n0_ := Aside0.mk (Wn_at hq_ HO_0.out); have n1_ := Aside0.mk (kept_at hq_ HK.out); have n2_ := Aside0.mk (below_at hq_ HB.out); clear hq_ HO_0 HK HB; have HO_0 := n0_; have HK := n1_; have HB := n2_; clear n0_ n1_ n2_; (try (obtain ⟨hy45_, hz45_⟩ := Wn_cell HO_0.out (x140_3 : Int) (of_decide_eq_true (by first | (with_reducible assumption) | assumption)) (of_decide_eq_true (by first | (with_reducible assumption) | assumption)))); (try (have HP45 := Wn_put HO_0.out (x140_3 : Int) (of_decide_eq_true (by first | (with_reducible assumption) | assumption)) (of_decide_eq_true (by first | (with_reducible assumption) | assumption)) ((IntKind.u64.wrap ((IntKind.u64.wrap ((IntKind.u64.wrap (rd x0_3 x140_3)) + (IntKind.u64.wrap (rd l1 x140_3)))) + x10_3)) % 4294967296))))); refine store_event (t := 48) (p := 160) (v := ?vo_w46) (w1 := (wr.setCell ⟨g, o + (x140_3 : Int).toNat, none⟩ (.int .u32 ((IntKind.u64.wrap ((IntKind.u64.wrap ((IntKind.u64.wrap (rd x0_3 x140_3)) + (IntKind.u64.wrap (rd l1 x140_3)))) + x10_3)) % 4294967296)))) ?hg ?ho ?hn ?hr ?_; (case ho => rfl); (case hg => rfl); (case hn => rfl); (case hr => first | (go_simp; done) | (go_simp; rfl)); intro w46 hw; have hg : wr.grownBy w46 (some g) := (by rw [hw]; exact HP45.2); have hp_ : Wn g o N cap x0_3.length zs w46 w0.heap.size (fun k_ => (P0_ k_ ∨ w.heap.size ≤ k_)) y963 := (by rw [hw, Ny963.out]; exact HP45.1); clear HP45; have n0_ := Aside0.mk (hp_); have n1_ := Aside0.mk ((by rw [hw]; exact below_set (HB.out) GB34.out : Below w0.heap.size w0 w46)); have n2_ := Aside0.mk (Kept.of_grown (S := (fun k_ => P0_ k_)) hg (by repeat (first | (with_reducible first | exact HK.out | apply Kept.alloc | apply Kept.drewN | apply Kept.drew) | exact HK.out)) (fun k_ e_ => (Wn_ok HO_0.out k_ e_))); clear HO_0; clear HB; clear HK; have HO_0 := n0_; have HB := n1_; have HK := n2_; clear n0_ n1_ n2_; clear hg hw hp_)); try go_wp2_with (first | ((with_reducible refine gate_store (t := 48) (p := 160) rfl ?_); (try (rw [drewN_self wr]; generalize hq_ : World.drewN wr _ = wr; have n0_ := Aside0.mk (Wn_at hq_ HO_0.out); have n1_ := Aside0.mk (kept_at hq_ HK.out); have n2_ := Aside0.mk (below_at hq_ HB.out); clear hq_ HO_0 HK HB; have HO_0 := n0_; have HK := n1_; have HB := n2_; clear n0_ n1_ n2_; (try (obtain ⟨hy45_, hz45_⟩ := Wn_cell HO_0.out (x140_3 : Int) (of_decide_eq_true (by first | (with_reducible assumption) | assumption)) (of_decide_eq_true (by first | (with_reducible assumption) | assumption)))); (try (have HP45 := Wn_put HO_0.out (x140_3 : Int) (of_decide_eq_true (by first | (with_reducible assumption) | assumption)) (of_decide_eq_true (by first | (with_reducible assumption) | assumption)) ((IntKind.u64.wrap ((IntKind.u64.wrap ((IntKind.u64.wrap (rd x0_3 x140_3)) + (IntKind.u64.wrap (rd l1 x140_3)))) + x10_3)) % 4294967296))))); refine store_event (t := 48) (p := 160) (v := ?vo_w46) (w1 := (wr.setCell ⟨g, o + (x140_3 : Int).toNat, none⟩ (.int .u32 ((IntKind.u64.wrap ((IntKind.u64.wrap ((IntKind.u64.wrap (rd x0_3 x140_3)) + (IntKind.u64.wrap (rd l1 x140_3)))) + x10_3)) % 4294967296)))) ?hg ?ho ?hn ?hr ?_; (case ho => rfl); (case hg => rfl); (case hn => rfl); (case hr => first | (go_simp; done) | (go_simp; rfl)); intro w46 hw; have hg : wr.grownBy w46 (some g) := (by rw [hw]; exact HP45.2); have hp_ : Wn g o N cap x0_3.length zs w46 w0.heap.size (fun k_ => (P0_ k_ ∨ w.heap.size ≤ k_)) y963 := (by rw [hw, Ny963.out]; exact HP45.1); clear HP45; have n0_ := Aside0.mk (hp_); have n1_ := Aside0.mk ((by rw [hw]; exact below_set (HB.out) GB34.out : Below w0.heap.size w0 w46)); have n2_ := Aside0.mk (Kept.of_grown (S := (fun k_ => P0_ k_)) hg (by repeat (first | (with_reducible first | exact HK.out | apply Kept.alloc | apply Kept.drewN | apply Kept.drew) | exact HK.out)) (fun k_ e_ => (Wn_ok HO_0.out k_ e_))); clear HO_0; clear HB; clear HK; have HO_0 := n0_; have HB := n1_; have HK := n2_; clear n0_ n1_ n2_; clear hg hw hp_)))
                                          (try simp only [← hl0_3])
                                          go_roundg k3
                                          case measure => have := HJ9.out; have := HK2.out; have := HK3.out; omega
                                          case rel => exact ⟨(y963), ((IntKind.u64.wrap ((IntKind.u64.wrap ((IntKind.u64.wrap (rd x0_3 x140_3)) + (IntKind.u64.wrap (rd l1 x140_3)))) + x10_3)) / 4294967296), (wrap64 (x140_3 + 1)), (by first | rfl | (simp; done) | (simp [*]; done)), (by first | rfl | (simp; done) | (simp [*]; done)), H', ⟨by have := HJ9.out; have := HK2.out; have := HK3.out; omega⟩, ⟨by (try simp only [hl0_2]); (try simp only [hl0_3]); (with_reducible repeat (first | apply Wn_alloc | apply Wn_drewN | apply Wn_drew)); exact HO_0.out⟩, ⟨by repeat (first | (with_reducible first | exact HK.out | apply Kept.alloc | apply Kept.drewN | apply Kept.drew) | exact HK.out)⟩, ⟨by repeat (first | (with_reducible first | exact HB.out | apply below_alloc | apply pw_below_drewN | apply below_drew1) | exact HB.out)⟩⟩
                                        · rw [if_neg c43] at H
                                          exact absurd H (by simp)
                                      · rw [if_neg c42] at H
                                        exact absurd H (by simp)
                                    · rw [if_neg c41] at H
                                      exact absurd H (by simp)
                                  · rw [if_neg c40] at H
                                    have c40b0 : decide (x140_3 < (l1.length : Int)) = false := decide_eq_false c40
                                    clear c40
                                    (try (have c40b0h := c40b0; simp only [hl0_2, hl0_3] at c40b0h))
                                    by_cases c47 : 0 ≤ (l1.length : Int)
                                    · rw [if_pos c47] at H
                                      have c47b0 : decide (0 ≤ (l1.length : Int)) = true := decide_eq_true c47
                                      have c47b1 : decide (0 ≤ l1.length) = true := decide_eq_true (by omega)
                                      clear c47
                                      (try (have c47b0h := c47b0; simp only [hl0_2, hl0_3] at c47b0h))
                                      (try (have c47b1h := c47b1; simp only [hl0_2, hl0_3] at c47b1h))
                                      by_cases c48 : (l1.length : Int) < (x0_3.length : Int)
                                      · rw [if_pos c48] at H
                                        have c48b0 : decide ((l1.length : Int) < (x0_3.length : Int)) = true := decide_eq_true c48
                                        have c48b1 : decide (l1.length < x0_3.length) = true := decide_eq_true (Int.ofNat_lt.mp c48)
                                        clear c48
                                        (try (have c48b0h := c48b0; simp only [hl0_2, hl0_3] at c48b0h))
                                        (try (have c48b1h := c48b1; simp only [hl0_2, hl0_3] at c48b1h))
                                        obtain ⟨y965, hy965⟩ : ∃ y_ : List Int, y_ = (x0_3.set ((l1.length : Int) : Int).toNat (((rd x0_3 (l1.length : Int)) + ((x10_3) % 4294967296)) % 4294967296)) := ⟨_, rfl⟩
                                        replace H : (some ((IntKind.u64.wrap (x7_9 - 1)) % 4294967296, y965)) = some (r1, r2) := by first | (rw [hy965]; with_reducible exact H) | (have H2_ := (Option.bind_some _ _).symm.trans H; rw [hy965]; with_reducible exact H2_) | (have H2_ := (Option.bind_some _ _).symm.trans H; with_reducible exact H2_) | with_reducible exact H | (rw [hy965]; exact H) | exact H
                                        have Ny965 := Aside0.mk hy965
                                        clear hy965
                                        simp only [Option.some.injEq, Prod.mk.injEq] at H
                                        obtain ⟨rfl, rfl⟩ := H
                                        have p964 : 0 ≤ ((l1.length : Int) : Int) := of_decide_eq_true (by first | (with_reducible assumption) | assumption)
                                        have q964 : (l1.length : Int) < (x0_3.length : Int) := of_decide_eq_true (by first | (with_reducible assumption) | assumption)
                                        have hx964_0 := (Wn_cell HO_0.out (l1.length : Int) p964 q964).1
                                        (first | simp only [add_off] at hx964_0 | simp only [add_at] at hx964_0 | simp only [Addr.add, Nat.zero_add] at hx964_0 | skip)
                                        (try simp only [Go.IntWalk.toNatUp] at hx964_0)
                                        (try simp only [hl0_2, hl0_3] at p964)
                                        (try simp only [hl0_2, hl0_3] at q964)
                                        (try simp only [hl0_2, hl0_3] at hx964_0)
                                        replace p964 := eq_true p964
                                        replace q964 := eq_true q964
                                        have p49 : 0 ≤ ((l1.length : Int) : Int) := of_decide_eq_true (by first | (with_reducible assumption) | assumption)
                                        have q49 : ((l1.length : Int) : Int) < ((x0_3.length : Int) : Int) := of_decide_eq_true (by first | (with_reducible assumption) | assumption)
                                        obtain ⟨hx49_0, hf49_0⟩ := Wn_cell HO_0.out ((l1.length : Int) : Int) p49 q49
                                        (try simp only [Go.IntWalk.toNatUp] at hx49_0 hf49_0)
                                        replace p49 := eq_true p49
                                        replace q49 := eq_true q49
                                        obtain ⟨hy50_, hz50_⟩ := Wn_cell HO_0.out ((l1.length : Int) : Int) (of_decide_eq_true (by first | (with_reducible assumption) | assumption)) (of_decide_eq_true (by first | (with_reducible assumption) | assumption))
                                        (try simp only [Go.IntWalk.toNatUp] at hy50_ hz50_)
                                        have HP50 := Wn_put HO_0.out ((l1.length : Int) : Int) (of_decide_eq_true (by first | (with_reducible assumption) | assumption)) (of_decide_eq_true (by first | (with_reducible assumption) | assumption)) (((rd x0_3 (l1.length : Int)) + ((x10_3) % 4294967296)) % 4294967296)
                                        go_wp2_with (first | ((with_reducible refine gate_store (t := 48) (p := 171) rfl ?_); (try (rw [drewN_self wr]; generalize hq_ : World.drewN wr _ = wr; have n0_ := Aside0.mk (Wn_at hq_ HO_0.out); have n1_ := Aside0.mk (kept_at hq_ HK.out); have n2_ := Aside0.mk (below_at hq_ HB.out); clear hq_ HO_0 HK HB; have HO_0 := n0_; have HK := n1_; have HB := n2_; clear n0_ n1_ n2_; (try (obtain ⟨hy50_, hz50_⟩ := Wn_cell HO_0.out ((l1.length : Int) : Int) (of_decide_eq_true (by first | (with_reducible assumption) | assumption)) (of_decide_eq_true (by first | (with_reducible assumption) | assumption)))); (try (try simp only [Go.IntWalk.toNatUp] at hy50_ hz50_)); (try (have HP50 := Wn_put HO_0.out ((l1.length : Int) : Int) (of_decide_eq_true (by first | (with_reducible assumption) | assumption)) (of_decide_eq_true (by first | (with_reducible assumption) | assumption)) (((rd x0_3 (l1.length : Int)) + ((x10_3) % 4294967296)) % 4294967296))))); refine store_event (t := 48) (p := 171) (v := ?vo_w51) (w1 := (wr.setCell ⟨g, o + ((l1.length : Int) : Int).toNat, none⟩ (.int .u32 (((rd x0_3 (l1.length : Int)) + ((x10_3) % 4294967296)) % 4294967296)))) ?hg ?ho ?hn ?hr ?_; (case ho => rfl); (case hg => rfl); (case hn => rfl); (case hr => first | (go_simp; done) | (go_simp; rfl)); intro w51 hw; have hg : wr.grownBy w51 (some g) := (by rw [hw]; exact HP50.2); have hp_ : Wn g o N cap x0_3.length zs w51 w0.heap.size (fun k_ => (P0_ k_ ∨ w.heap.size ≤ k_)) y965 := (by rw [hw, Ny965.out]; exact HP50.1); clear HP50; have n0_ := Aside0.mk (hp_); have n1_ := Aside0.mk ((by rw [hw]; exact below_set (HB.out) GB34.out : Below w0.heap.size w0 w51)); have n2_ := Aside0.mk (Kept.of_grown (S := (fun k_ => P0_ k_)) hg (by repeat (first | (with_reducible first | exact HK.out | apply Kept.alloc | apply Kept.drewN | apply Kept.drew) | exact HK.out)) (fun k_ e_ => (Wn_ok HO_0.out k_ e_))); clear HO_0; clear HB; clear HK; have HO_0 := n0_; have HB := n1_; have HK := n2_; clear n0_ n1_ n2_; clear hg hw hp_))
                                        repeat (go_quiet (first | ((with_reducible refine gate_store (t := 48) (p := 171) rfl ?_); (try (rw [drewN_self wr]; generalize hq_ : World.drewN wr _ = wr; have n0_ := Aside0.mk (Wn_at hq_ HO_0.out); have n1_ := Aside0.mk (kept_at hq_ HK.out); have n2_ := Aside0.mk (below_at hq_ HB.out); clear hq_ HO_0 HK HB; have HO_0 := n0_; have HK := n1_; have HB := n2_; clear n0_ n1_ n2_; (try (obtain ⟨hy50_, hz50_⟩ := Wn_cell HO_0.out ((l1.length : Int) : Int) (of_decide_eq_true (by first | (with_reducible assumption) | assumption)) (of_decide_eq_true (by first | (with_reducible assumption) | assumption)))); (try (try simp only [Go.IntWalk.toNatUp] at hy50_ hz50_)); (try (have HP50 := Wn_put HO_0.out ((l1.length : Int) : Int) (of_decide_eq_true (by first | (with_reducible assumption) | assumption)) (of_decide_eq_true (by first | (with_reducible assumption) | assumption)) (((rd x0_3 (l1.length : Int)) + ((x10_3) % 4294967296)) % 4294967296))))); refine store_event (t := 48) (p := 171) (v := ?vo_w51) (w1 := (wr.setCell ⟨g, o + ((l1.length : Int) : Int).toNat, none⟩ (.int .u32 (((rd x0_3 (l1.length : Int)) + ((x10_3) % 4294967296)) % 4294967296)))) ?hg ?ho ?hn ?hr ?_; (case ho => rfl); (case hg => rfl); (case hn => rfl); (case hr => first | (go_simp; done) | (go_simp; rfl)); intro w51 hw; have hg : wr.grownBy w51 (some g) := (by rw [hw]; exact HP50.2); have hp_ : Wn g o N cap x0_3.length zs w51 w0.heap.size (fun k_ => (P0_ k_ ∨ w.heap.size ≤ k_)) y965 := (by rw [hw, Ny965.out]; exact HP50.1); clear HP50; have n0_ := Aside0.mk (hp_); have n1_ := Aside0.mk ((by rw [hw]; exact below_set (HB.out) GB34.out : Below w0.heap.size w0 w51)); have n2_ := Aside0.mk (Kept.of_grown (S := (fun k_ => P0_ k_)) hg (by repeat (first | (with_reducible first | exact HK.out | apply Kept.alloc | apply Kept.drewN | apply Kept.drew) | exact HK.out)) (fun k_ e_ => (Wn_ok HO_0.out k_ e_))); clear HO_0; clear HB; clear HK; have HO_0 := n0_; have HB := n1_; have HK := n2_; clear n0_ n1_ n2_; clear hg hw hp_)); try go_wp2_with (first | ((with_reducible refine gate_store (t := 48) (p := 171) rfl ?_); (try (rw [drewN_self wr]; generalize hq_ : World.drewN wr _ = wr; have n0_ := Aside0.mk (Wn_at hq_ HO_0.out); have n1_ := Aside0.mk (kept_at hq_ HK.out); have n2_ := Aside0.mk (below_at hq_ HB.out); clear hq_ HO_0 HK HB; have HO_0 := n0_; have HK := n1_; have HB := n2_; clear n0_ n1_ n2_; (try (obtain ⟨hy50_, hz50_⟩ := Wn_cell HO_0.out ((l1.length : Int) : Int) (of_decide_eq_true (by first | (with_reducible assumption) | assumption)) (of_decide_eq_true (by first | (with_reducible assumption) | assumption)))); (try (try simp only [Go.IntWalk.toNatUp] at hy50_ hz50_)); (try (have HP50 := Wn_put HO_0.out ((l1.length : Int) : Int) (of_decide_eq_true (by first | (with_reducible assumption) | assumption)) (of_decide_eq_true (by first | (with_reducible assumption) | assumption)) (((rd x0_3 (l1.length : Int)) + ((x10_3) % 4294967296)) % 4294967296))))); refine store_event (t := 48) (p := 171) (v := ?vo_w51) (w1 := (wr.setCell ⟨g, o + ((l1.length : Int) : Int).toNat, none⟩ (.int .u32 (((rd x0_3 (l1.length : Int)) + ((x10_3) % 4294967296)) % 4294967296)))) ?hg ?ho ?hn ?hr ?_; (case ho => rfl); (case hg => rfl); (case hn => rfl); (case hr => first | (go_simp; done) | (go_simp; rfl)); intro w51 hw; have hg : wr.grownBy w51 (some g) := (by rw [hw]; exact HP50.2); have hp_ : Wn g o N cap x0_3.length zs w51 w0.heap.size (fun k_ => (P0_ k_ ∨ w.heap.size ≤ k_)) y965 := (by rw [hw, Ny965.out]; exact HP50.1); clear HP50; have n0_ := Aside0.mk (hp_); have n1_ := Aside0.mk ((by rw [hw]; exact below_set (HB.out) GB34.out : Below w0.heap.size w0 w51)); have n2_ := Aside0.mk (Kept.of_grown (S := (fun k_ => P0_ k_)) hg (by repeat (first | (with_reducible first | exact HK.out | apply Kept.alloc | apply Kept.drewN | apply Kept.drew) | exact HK.out)) (fun k_ e_ => (Wn_ok HO_0.out k_ e_))); clear HO_0; clear HB; clear HK; have HO_0 := n0_; have HB := n1_; have HK := n2_; clear n0_ n1_ n2_; clear hg hw hp_)))
                                        go_ret
                                        exact ⟨by first | rfl | (simp [errW_none, errW_some] <;> rfl) | (simp only [← hji5]; first | rfl | (simp [errW_none, errW_some] <;> rfl)) | (simp [*, errW_none, errW_some] <;> rfl), (by first | exact (by (with_reducible repeat (first | apply Wn_alloc | apply Wn_drewN | apply Wn_drew)); exact HO_0.out) | (simp only [hl0_2, hl0_3]; exact (by (with_reducible repeat (first | apply Wn_alloc | apply Wn_drewN | apply Wn_drew)); exact HO_0.out))), by repeat (first | (with_reducible first | exact HB.out | apply below_alloc | apply pw_below_drewN | apply below_drew1) | exact HB.out), by repeat (first | (with_reducible first | exact HK.out | apply Kept.alloc | apply Kept.drewN | apply Kept.drew) | exact HK.out)⟩
                                      · rw [if_neg c48] at H
                                        exact absurd H (by simp)
                                    · rw [if_neg c47] at H
                                      exact absurd H (by simp)
                          · rw [if_neg c33] at H
                            exact absurd H (by simp)
                        · rw [if_neg c32] at H
                          exact absurd H (by simp)
          · rw [if_neg c8] at H
            exact absurd H (by simp)
        · rw [if_neg c7] at H
          exact absurd H (by simp)
      · rw [if_neg c6] at H
        exact absurd H (by simp)
    · rw [if_neg c4] at H
      exact absurd H (by simp)
  · rw [if_neg c3] at H
    exact absurd H (by simp)
end Go.Proofs.Ytecfdemglbfnoaa.PT
end
section
namespace Go.Proofs.Ytecfdemglbfnoaa.PT
open Go.RowKit Go.Proofs.YtecfdemglbfnoaaW.PrintWords Go.Proofs.YtecfdemglbfnoaaW.PrintLast Go.Proofs.YtecfdemglbfnoaaW.PrintMore
attribute [local go_sem] max2_int min2_int max_two min_two max_three min_three max_four min_four   -- for this text's walks alone
set_option linter.unusedVariables false
set_option linter.unusedSimpArgs false
/-- The window of n limbs of u at j goes through a step; the row behind it. -/
def stepat (k : Nat) (u : List Int) (j : Int) (v : List Int) (n : Int) : Option (Int × List Int) :=
  if 0 ≤ j ∧ n = v.length ∧ j.toNat + v.length + 1 ≤ u.length ∧ u.length ≤ 70368744177664 then (nat_step.f k ((u.drop j.toNat).take (v.length + 1)) v).bind fun r => some (r.1, sp u j.toNat r.2) else none
theorem stepat_parts {k : Nat} {u v u2 : List Int} {j n q : Int} (h : stepat k u j v n = some (q, u2)) :
    0 ≤ j ∧ n = v.length ∧ j.toNat + v.length + 1 ≤ u.length ∧ u.length ≤ 70368744177664 ∧ ∃ xs, nat_step.f k ((u.drop j.toNat).take (v.length + 1)) v = some (q, xs) ∧ u2 = sp u j.toNat xs := by
  unfold stepat at h
  split at h
  case isTrue c =>
    obtain ⟨r, hr, e⟩ := Option.bind_eq_some_iff.mp h
    obtain ⟨a, b⟩ := r
    injection e with e; injection e with e1 e2
    subst e1
    exact ⟨c.1, c.2.1, c.2.2.1, c.2.2.2, b, hr, e2.symm⟩
  case isFalse => exact absurd h (by simp)
theorem sp_self (u : List Int) (j n : Nat) (h : j + n ≤ u.length) : sp u j ((u.drop j).take n) = u := by
  have hl : ((u.drop j).take n).length = n := by rw [List.length_take, List.length_drop]; omega
  rw [sp, hl, ← List.drop_drop, List.append_assoc, List.take_append_drop, List.take_append_drop]
theorem win_len (u : List Int) (j n : Nat) (h : j + n ≤ u.length) : ((u.drop j).take n).length = n := by rw [List.length_take, List.length_drop]; omega
theorem Wn_of {w : World} {base g cap j n : Nat} {ok : Nat → Prop} {u : List Int} (h : Kd.R (Kd.int .u32) 48 w base ok (.slice (some ⟨g, 0, none⟩) u.length cap) u) (hl : j + n ≤ u.length) :
    Wn g j u.length cap ((u.drop j).take n).length u w base ok ((u.drop j).take n) :=
  ⟨rfl, by rw [win_len u j n hl]; exact hl, by rw [sp_self u j n hl]; exact h⟩
/-- The window's slice, as the machine makes it. -/
theorem cut_win {u v : List Int} {j js jt : Int} {g c : Nat} (h0 : 0 ≤ j) (hle : j.toNat + v.length + 1 ≤ u.length) (hb : u.length ≤ 70368744177664) (hc : u.length ≤ c) (e1 : wrap64 (j + (v.length : Int)) = js) (e2 : wrap64 (js + 1) = jt) :
    ∀ W : World, (Instr.slice 42 (.slice (some ⟨g, 0, none⟩) u.length c) (some (.int .i64 j)) (some (.int .i64 jt)) none).run Try.prog W = .ok (.slice (some ⟨g, j.toNat, none⟩) ((u.drop j.toNat).take (v.length + 1)).length (c - j.toNat)) W := by
  obtain ⟨J, rfl⟩ := Int.eq_ofNat_of_zero_le h0
  rw [Int.toNat_natCast] at hle ⊢
  have a1 : js = ((J + v.length : Nat) : Int) := by rw [← e1]; unfold wrap64; omega
  have a2 : jt = ((J + v.length + 1 : Nat) : Int) := by rw [← e2, a1]; unfold wrap64; omega
  subst a2
  obtain ⟨i0, hi0, _, hsz, _⟩ := info_parts info48
  have := cut_mid (P := Try.prog) 42 48 .i64 .i64 Try.underlying42 hi0 1 hsz (some ⟨g, 0, none⟩) u.length c (J : Int) ((J + v.length + 1 : Nat) : Int) (by omega) (by omega) (by omega) hc
  intro W
  have e := this W
  rw [Int.toNat_natCast, Int.toNat_natCast, if_neg (by omega)] at e
  rw [e, win_len u J (v.length + 1) (by omega)]
  have hA : (some (⟨g, 0, none⟩ : Addr)).map (·.add (J * 1)) = some ⟨g, J, none⟩ := by rw [Option.map_some, add_off, Nat.zero_add, Nat.mul_one]
  rw [hA, show J + v.length + 1 - J = v.length + 1 from by omega]
mutual
def nat_longw.l0 : Nat → List Int → Int → List Int → List Int → Int → Int → Option (List Int × List Int)
  | 0, _, _, _, _, _, _ => none
  | k + 1, x4, x6, x7, x8, x9, x10 => if x10 ≥ 0 then ((stepat k x8 x10 x7 x9).bind fun bt151 => (if 0 ≤ x10 then (if x10 < (x4.length : Int) then (nat_longw.l0 k (x4.set (x10 : Int).toNat bt151.1) x6 x7 bt151.2 x9 (wrap64 (x10 - 1))) else (none)) else (none))) else (if 0 ≤ x9 then (if (x9 : Int).toNat ≤ 70368744177664 then ((some (List.replicate (x9 : Int).toNat 0 : List Int)).bind fun y154 => (nat_longw.l1 k x4 y154 x6 x8 (y154.length : Int) 0)) else (none)) else (none))
def nat_longw.l1 : Nat → List Int → List Int → Int → List Int → Int → Int → Option (List Int × List Int)
  | 0, _, _, _, _, _, _ => none
  | k + 1, x4, x5, x6, x8, x57, x58 => if x58 < x57 then (if 0 ≤ x58 then (if x58 < (x8.length : Int) then (if 0 ≤ (wrap64 (x58 + 1)) then (if (wrap64 (x58 + 1)) < (x8.length : Int) then (if 0 ≤ x6 then (if x58 < (x5.length : Int) then (nat_longw.l1 k x4 (x5.set (x58 : Int).toNat ((shr .u64 (Go.bits .or .u64 (IntKind.u64.wrap (rd x8 x58)) (IntKind.u64.wrap ((IntKind.u64.wrap (rd x8 (wrap64 (x58 + 1)))) * 4294967296))) x6) % 4294967296)) x6 x8 x57 (wrap64 (x58 + 1))) else (none)) else (none)) else (none)) else (none)) else (none)) else (none)) else (some (x4, x5))
end
def nat_longw.f (k : Nat) (l0 : List Int) (l1 : List Int) : Option (List Int × List Int) := if 0 ≤ (wrap64 ((l1.length : Int) - 1)) then (if (wrap64 ((l1.length : Int) - 1)) < (l1.length : Int) then ((bits_LeadingZeros32.f (rd l1 (wrap64 ((l1.length : Int) - 1)))).bind fun t138 => ((nat_shift.f k l1 t138).bind fun t139 => ((nat_short.f k t139).bind fun t142 => ((nat_shift.f k l0 t138).bind fun t145 => (if 0 ≤ (wrap64 ((t145.length : Int) - (t142.length : Int))) then (if (wrap64 ((t145.length : Int) - (t142.length : Int)) : Int).toNat ≤ 70368744177664 then (nat_longw.l0 k (List.replicate (wrap64 ((t145.length : Int) - (t142.length : Int)) : Int).toNat 0) t138 t142 t145 (t142.length : Int) (wrap64 ((wrap64 ((t145.length : Int) - (t142.length : Int))) - 1))) else (none)) else (none)))))) else (none)) else (none)
def nat_longw.T14 : Bool × List (List Nat × List Nat) := (true, [([], []), ([], []), ([], []), ([], []), ([2, 3], [2, 3]), ([4], [4]), ([5], [5]), ([], []), ([], []), ([8], [8]), ([7, 9], [7, 9]), ([10], [10]), ([11], [11]), ([12], [12]), ([6, 13], [6, 13]), ([], []), ([14, 15], [14, 15]), ([16], [16]), ([0, 1, 0, 1, 2, 3, 4, 5, 6, 7, 8, 9, 10, 11, 12, 13, 14, 15, 16, 17], [0, 1]), ([18, 17, 0, 1, 2, 3, 4, 5, 6, 7, 8, 9, 10, 11, 12, 13, 14, 15, 16, 17], [17, 18])])
def nat_longw.B14 : List Nat := [0, 0, 0, 0, 12, 28, 60, 0, 0, 256, 896, 1920, 3968, 8064, 16380, 0, 65532, 131068, 262143, 524287]
theorem nat_longw.tab14 : rtab .any (opsOf Try.f187 14) = nat_longw.T14 := by kernel_rfl
theorem nat_longw.bits14 : waitsOk nat_longw.T14.2 nat_longw.B14 = true := by kernel_rfl
set_option maxHeartbeats 8000000 in
set_option maxRecDepth 100000 in
theorem nat_longw.calls (k : Nat) (A0 : Option Addr) (c0 : Nat) (l0 : List Int) (A1 : Option Addr) (c1 : Nat) (l1 : List Int) (r1 : List Int) (r2 : List Int) (w : World) (hr0 : Kd.C (Kd.int .u32) w A0 l0.length l0) (hc0 : l0.length ≤ c0) (hr1 : Kd.C (Kd.int .u32) w A1 l1.length l1) (hc1 : l1.length ≤ c1) (h : nat_longw.f k l0 l1 = some (r1, r2)) :
    Calls Try.prog 187 #[.slice A0 l0.length c0, .slice A1 l1.length c1] w fun e w' => ∃ v0_ v1_ : Value, e = .returned (.tuple #[v0_, v1_]) ∧ Kd.R (Kd.int .u32) 48 w' w.heap.size (fun k_ => some k_ ≠ (v1_ : Value).ownBlock) v0_ r1 ∧ Kd.R (Kd.int .u32) 48 w' w.heap.size (fun k_ => some k_ ≠ (v0_ : Value).ownBlock) v1_ r2 ∧ Below w.heap.size w w' := by
  have HR0 := Aside0.mk hr0
  have HC0 := Aside0.mk hc0
  clear hr0 hc0
  have HR1 := Aside0.mk hr1
  have HC1 := Aside0.mk hc1
  clear hr1 hc1
  have HB := Aside0.mk (Below.refl w.heap.size w)
  have H : (if 0 ≤ (wrap64 ((l1.length : Int) - 1)) then (if (wrap64 ((l1.length : Int) - 1)) < (l1.length : Int) then ((bits_LeadingZeros32.f (rd l1 (wrap64 ((l1.length : Int) - 1)))).bind fun t138 => ((nat_shift.f k l1 t138).bind fun t139 => ((nat_short.f k t139).bind fun t142 => ((nat_shift.f k l0 t138).bind fun t145 => (if 0 ≤ (wrap64 ((t145.length : Int) - (t142.length : Int))) then (if (wrap64 ((t145.length : Int) - (t142.length : Int)) : Int).toNat ≤ 70368744177664 then (nat_longw.l0 k (List.replicate (wrap64 ((t145.length : Int) - (t142.length : Int)) : Int).toNat 0) t138 t142 t145 (t142.length : Int) (wrap64 ((wrap64 ((t145.length : Int) - (t142.length : Int))) - 1))) else (none)) else (none)))))) else (none)) else (none)) = some (r1, r2) := h
  clear h
  obtain ⟨ji3, hji3⟩ : ∃ j_ : Int, (wrap64 ((l1.length : Int) - 1)) = j_ := ⟨_, rfl⟩
  replace H : (if 0 ≤ (ji3) then (if (ji3) < (l1.length : Int) then ((bits_LeadingZeros32.f (rd l1 (ji3))).bind fun t138 => ((nat_shift.f k l1 t138).bind fun t139 => ((nat_short.f k t139).bind fun t142 => ((nat_shift.f k l0 t138).bind fun t145 => (if 0 ≤ (wrap64 ((t145.length : Int) - (t142.length : Int))) then (if (wrap64 ((t145.length : Int) - (t142.length : Int)) : Int).toNat ≤ 70368744177664 then (nat_longw.l0 k (List.replicate (wrap64 ((t145.length : Int) - (t142.length : Int)) : Int).toNat 0) t138 t142 t145 (t142.length : Int) (wrap64 ((wrap64 ((t145.length : Int) - (t142.length : Int))) - 1))) else (none)) else (none)))))) else (none)) else (none)) = some (r1, r2) := by first | (rw [hji3] at H; exact H) | (simp only [hji3] at H ⊢; exact H)
  have hji3w : (IntKind.i64.wrap ((l1.length : Int) - 1)) = ji3 := (i64_w _).trans hji3
  by_cases c4 : 0 ≤ (ji3)
  · rw [if_pos c4] at H
    have c4b0 : decide (0 ≤ (ji3)) = true := decide_eq_true c4
    clear c4
    by_cases c5 : (ji3) < (l1.length : Int)
    · rw [if_pos c5] at H
      have c5b0 : decide ((ji3) < (l1.length : Int)) = true := decide_eq_true c5
      clear c5
      replace H := Option.bind_eq_some_iff.mp H
      obtain ⟨t138, A60, H⟩ := H
      replace H : ((nat_shift.f k l1 t138).bind fun t139 => ((nat_short.f k t139).bind fun t142 => ((nat_shift.f k l0 t138).bind fun t145 => (if 0 ≤ (wrap64 ((t145.length : Int) - (t142.length : Int))) then (if (wrap64 ((t145.length : Int) - (t142.length : Int)) : Int).toNat ≤ 70368744177664 then (nat_longw.l0 k (List.replicate (wrap64 ((t145.length : Int) - (t142.length : Int)) : Int).toNat 0) t138 t142 t145 (t142.length : Int) (wrap64 ((wrap64 ((t145.length : Int) - (t142.length : Int))) - 1))) else (none)) else (none))))) = some (r1, r2) := H
      have A6 := Aside0.mk A60
      clear A60
      replace H := Option.bind_eq_some_iff.mp H
      obtain ⟨t139, A70, H⟩ := H
      replace H : ((nat_short.f k t139).bind fun t142 => ((nat_shift.f k l0 t138).bind fun t145 => (if 0 ≤ (wrap64 ((t145.length : Int) - (t142.length : Int))) then (if (wrap64 ((t145.length : Int) - (t142.length : Int)) : Int).toNat ≤ 70368744177664 then (nat_longw.l0 k (List.replicate (wrap64 ((t145.length : Int) - (t142.length : Int)) : Int).toNat 0) t138 t142 t145 (t142.length : Int) (wrap64 ((wrap64 ((t145.length : Int) - (t142.length : Int))) - 1))) else (none)) else (none)))) = some (r1, r2) := H
      have A7 := Aside0.mk A70
      clear A70
      replace H := Option.bind_eq_some_iff.mp H
      obtain ⟨t142, A80, H⟩ := H
      replace H : ((nat_shift.f k l0 t138).bind fun t145 => (if 0 ≤ (wrap64 ((t145.length : Int) - (t142.length : Int))) then (if (wrap64 ((t145.length : Int) - (t142.length : Int)) : Int).toNat ≤ 70368744177664 then (nat_longw.l0 k (List.replicate (wrap64 ((t145.length : Int) - (t142.length : Int)) : Int).toNat 0) t138 t142 t145 (t142.length : Int) (wrap64 ((wrap64 ((t145.length : Int) - (t142.length : Int))) - 1))) else (none)) else (none))) = some (r1, r2) := H
      have A8 := Aside0.mk A80
      clear A80
      replace H := Option.bind_eq_some_iff.mp H
      obtain ⟨t145, A90, H⟩ := H
      replace H : (if 0 ≤ (wrap64 ((t145.length : Int) - (t142.length : Int))) then (if (wrap64 ((t145.length : Int) - (t142.length : Int)) : Int).toNat ≤ 70368744177664 then (nat_longw.l0 k (List.replicate (wrap64 ((t145.length : Int) - (t142.length : Int)) : Int).toNat 0) t138 t142 t145 (t142.length : Int) (wrap64 ((wrap64 ((t145.length : Int) - (t142.length : Int))) - 1))) else (none)) else (none)) = some (r1, r2) := H
      have A9 := Aside0.mk A90
      clear A90
      obtain ⟨ji10, hji10⟩ : ∃ j_ : Int, (wrap64 ((t145.length : Int) - (t142.length : Int))) = j_ := ⟨_, rfl⟩
      replace H : (if 0 ≤ (ji10) then (if (ji10 : Int).toNat ≤ 70368744177664 then (nat_longw.l0 k (List.replicate (ji10 : Int).toNat 0) t138 t142 t145 (t142.length : Int) (wrap64 ((ji10) - 1))) else (none)) else (none)) = some (r1, r2) := by first | (rw [hji10] at H; exact H) | (simp only [hji10] at H ⊢; exact H)
      (try rw [hji10] at A6)
      (try rw [hji10] at A7)
      (try rw [hji10] at A8)
      (try rw [hji10] at A9)
      have hji10w : (IntKind.i64.wrap ((t145.length : Int) - (t142.length : Int))) = ji10 := (i64_w _).trans hji10
      by_cases c11 : 0 ≤ (ji10)
      · rw [if_pos c11] at H
        have c11b0 := eq_true c11
        have c11b1 : decide (0 ≤ (ji10)) = true := decide_eq_true c11
        clear c11
        by_cases c12 : (ji10 : Int).toNat ≤ 70368744177664
        · rw [if_pos c12] at H
          have c12b0 := eq_true c12
          have c12b1 : decide ((ji10 : Int).toNat ≤ 70368744177664) = true := decide_eq_true c12
          clear c12
          obtain ⟨y148, hy148⟩ : ∃ y_ : List Int, y_ = (List.replicate (ji10 : Int).toNat 0) := ⟨_, rfl⟩
          replace H : (nat_longw.l0 k y148 t138 t142 t145 (t142.length : Int) (wrap64 ((ji10) - 1))) = some (r1, r2) := by first | (rw [hy148]; with_reducible exact H) | (have H2_ := (Option.bind_some _ _).symm.trans H; rw [hy148]; with_reducible exact H2_) | (have H2_ := (Option.bind_some _ _).symm.trans H; with_reducible exact H2_) | with_reducible exact H | (rw [hy148]; exact H) | exact H
          have Ny148 := Aside0.mk hy148
          clear hy148
          have H' := Aside0.mk H
          clear H
          have p137 : 0 ≤ ((ji3) : Int) := of_decide_eq_true (by first | (with_reducible assumption) | assumption)
          have q137 : (ji3) < (l1.length : Int) := of_decide_eq_true (by first | (with_reducible assumption) | assumption)
          obtain ⟨ad137, e137, hx137_0⟩ := Kd.at_int HR1.out (ji3) p137 q137
          cases e137
          replace p137 := eq_true p137
          replace q137 := eq_true q137
          go_enter Try.func187, Try.ntmps187
          go_wp2_with (first | ((with_reducible refine gate_callee (f := 188) rfl ?_); refine goesL_ (some 18) rfl rfl Try.func188 (by kernel_rfl) rfl #[.int .u32 (rd l1 (ji3))] rfl (by (try simp only [List.map_toArray, List.map_cons, List.map_nil]); first | done | (simp only [hji3]; rfl) | rfl | (simp only [List.length_drop, List.length_take]; rfl)) ?_; (with_reducible refine (bits_LeadingZeros32.calls (rd l1 (ji3)) t138 _ A6.out).mono ?_); rintro e w' ⟨rfl, ⟨nd, rfl⟩⟩; refine ⟨_, rfl, ?_⟩) | ((with_reducible refine gate_callee (f := 189) rfl ?_); refine goesL_ (some 21) rfl rfl Try.func189 (by kernel_rfl) rfl #[.slice (some ad137) l1.length c1, .int .i64 t138] rfl (by (try simp only [List.map_toArray, List.map_cons, List.map_nil]); first | done | rfl | (simp only [List.length_drop, List.length_take]; rfl)) ?_; (with_reducible refine (nat_shift.calls k _ _ l1 t138 t139 _ ?side1 ?side2 A7.out).mono ?_); (case side1 => repeat (first | exact HR1.out | (with_reducible refine Kd.C_alloc ?_ _) | (with_reducible refine Kd.C_drewN ?_ _) | (with_reducible refine Kd.C_drew ?_))); (case side2 => exact HC1.out); rintro e w13 ⟨v140, rfl, ho0, hb⟩; refine ⟨_, rfl, ?_⟩; have n0_ := Aside0.mk (Kd.R_lower ho0 (below_size (by repeat (first | (with_reducible first | exact HB.out | apply below_alloc | apply pw_below_drewN | apply below_drew1) | exact HB.out)))); have n1_ := Aside0.mk (below_step (by repeat (first | (with_reducible first | exact HB.out | apply below_alloc | apply pw_below_drewN | apply below_drew1) | exact HB.out)) hb); clear HB; have HO141 := n0_; have HB := n1_; clear n0_ n1_; (try clear hb); (try clear hb2); (try clear hk); (try clear hi); (try clear ho0); obtain ⟨Ao14, co14, eo14⟩ := Kd.R_slice HO141.out; subst eo14) | ((with_reducible refine gate_callee (f := 179) rfl ?_); refine goesL_ (some 22) rfl rfl Try.func179 (by kernel_rfl) rfl #[.slice Ao14 t139.length co14] rfl (by (try simp only [List.map_toArray, List.map_cons, List.map_nil]); first | done | rfl | (simp only [List.length_drop, List.length_take]; rfl)) ?_; (with_reducible refine (nat_short.calls k (fun k_ => some k_ = (.slice Ao14 t139.length co14 : Value).ownBlock) _ _ t139 t142 _ ?side1 A8.out).mono ?_); (case side1 => exact Kd.R_V (Kd.R_tight rfl (HO141.out))); rintro e w15 ⟨v143, rfl, ho0, hb⟩; refine ⟨_, rfl, ?_⟩; have n0_ := Aside0.mk (Kd.R_below (by (with_reducible repeat (first | apply Kd.R_alloc | apply Kd.R_drewN | apply Kd.R_drew)); exact HO141.out) hb); have n1_ := Aside0.mk (Kd.V_lower (Kd.V_mono (ok' := fun k_ => True) ho0 (fun k_ hk_ => trivial)) (below_size (by repeat (first | (with_reducible first | exact HB.out | apply below_alloc | apply pw_below_drewN | apply below_drew1) | exact HB.out)))); have n2_ := Aside0.mk (below_step (by repeat (first | (with_reducible first | exact HB.out | apply below_alloc | apply pw_below_drewN | apply below_drew1) | exact HB.out)) hb); clear HO141; clear HB; have HO141 := n0_; have HO144 := n1_; have HB := n2_; clear n0_ n1_ n2_; (try clear hb); (try clear hb2); (try clear hk); (try clear hi); (try clear ho0)) | ((with_reducible refine gate_callee (f := 189) rfl ?_); refine goesL_ (some 25) rfl rfl Try.func189 (by kernel_rfl) rfl #[.slice A0 l0.length c0, .int .i64 t138] rfl (by (try simp only [List.map_toArray, List.map_cons, List.map_nil]); first | done | rfl | (simp only [List.length_drop, List.length_take]; rfl)) ?_; (with_reducible refine (nat_shift.calls k _ _ l0 t138 t145 _ ?side1 ?side2 A9.out).mono ?_); (case side1 => repeat (first | exact (Kd.C_below HR0.out HB.out) | (with_reducible refine Kd.C_alloc ?_ _) | (with_reducible refine Kd.C_drewN ?_ _) | (with_reducible refine Kd.C_drew ?_))); (case side2 => exact HC0.out); rintro e w16 ⟨v146, rfl, ho0, hb⟩; refine ⟨_, rfl, ?_⟩; have n0_ := Aside0.mk (Kd.R_elder' (by (with_reducible repeat (first | apply Kd.R_alloc | apply Kd.R_drewN | apply Kd.R_drew)); exact HO141.out) (Kd.R_base ho0) hb); have n1_ := Aside0.mk (Kd.V_elder' (by (with_reducible repeat (first | apply Kd.V_alloc | apply Kd.V_drewN | apply Kd.V_drew)); exact HO144.out) (Kd.R_base ho0) hb); have n2_ := Aside0.mk (Kd.R_lower (Kd.R_new' ho0 (Kd.R_lt (by (with_reducible repeat (first | apply Kd.R_alloc | apply Kd.R_drewN | apply Kd.R_drew)); exact HO141.out))) (below_size (by repeat (first | (with_reducible first | exact HB.out | apply below_alloc | apply pw_below_drewN | apply below_drew1) | exact HB.out)))); have n3_ := Aside0.mk (below_step (by repeat (first | (with_reducible first | exact HB.out | apply below_alloc | apply pw_below_drewN | apply below_drew1) | exact HB.out)) hb); clear HO141; clear HO144; clear HB; have HO141 := n0_; have HO144 := n1_; have HO147 := n2_; have HB := n3_; clear n0_ n1_ n2_ n3_; (try clear hb); (try clear hb2); (try clear hk); (try clear hi); (try clear ho0); obtain ⟨Ao17, co17, eo17⟩ := Kd.V_slice HO144.out; subst eo17; obtain ⟨Ao18, co18, eo18⟩ := Kd.R_slice HO147.out; subst eo18) | ((with_reducible refine gate_dst (N := 32) rfl ?_); refine Kd.R_make (Kd.int .u32) _ 48 rfl (N := 32) rfl 42 _ _ rfl ji10 rfl rfl Try.underlying42 (.int .u32 0) 4 info48 rfl (by decide) (by omega) 0 (ok := fun _ => True) (okp := fun _ => True) rfl (fun _ hk => hk) trivial (of_decide_eq_true (by first | (with_reducible assumption) | assumption)) (Nat.le_trans (Nat.mul_le_mul_right _ (of_decide_eq_true (by first | (with_reducible assumption) | assumption) : ji10.toNat ≤ 70368744177664)) (by omega)) (Below.refl _ _) (Nat.le_refl _) ?_; intro v149 w19 ho20 hb hg_ hnew_; clear hg_ hnew_; (first | rw [← Ny148.out] at ho20 | (simp only [Int.reduceToNat] at ho20; rw [← Ny148.out] at ho20)); have n0_ := Aside0.mk (Kd.R_elder' (by (with_reducible repeat (first | apply Kd.R_alloc | apply Kd.R_drewN | apply Kd.R_drew)); exact HO141.out) (Kd.R_base ho20) hb); have n1_ := Aside0.mk (Kd.V_elder' (by (with_reducible repeat (first | apply Kd.V_alloc | apply Kd.V_drewN | apply Kd.V_drew)); exact HO144.out) (Kd.R_base ho20) hb); have n2_ := Aside0.mk (Kd.R_elder' (by (with_reducible repeat (first | apply Kd.R_alloc | apply Kd.R_drewN | apply Kd.R_drew)); exact HO147.out) (Kd.R_base ho20) hb); have n3_ := Aside0.mk (Kd.R_lower (Kd.R_new' (Kd.R_new' ho20 (Kd.R_lt (by (with_reducible repeat (first | apply Kd.R_alloc | apply Kd.R_drewN | apply Kd.R_drew)); exact HO141.out))) (Kd.R_lt (by (with_reducible repeat (first | apply Kd.R_alloc | apply Kd.R_drewN | apply Kd.R_drew)); exact HO147.out))) (below_size (by repeat (first | (with_reducible first | exact HB.out | apply below_alloc | apply pw_below_drewN | apply below_drew1) | exact HB.out)))); have n4_ := Aside0.mk (below_step (by repeat (first | (with_reducible first | exact HB.out | apply below_alloc | apply pw_below_drewN | apply below_drew1) | exact HB.out)) hb); clear HO141; clear HO144; clear HO147; clear HB; have HO141 := n0_; have HO144 := n1_; have HO147 := n2_; have HO150 := n3_; have HB := n4_; clear n0_ n1_ n2_ n3_ n4_; clear hb ho20))
          go_loopg [10] k (fun kq v10 w' => ∃ (x4_1 : List Int) (x7_1 : List Int) (x8_1 : List Int) (x10_1 : Int), v10 = .int .i64 x10_1 ∧ Aside0 (nat_longw.l0 kq x4_1 t138 x7_1 x8_1 (t142.length : Int) x10_1 = some (r1, r2)) ∧ Aside0 (kq ≤ k) ∧ Aside0 (Kd.R (Kd.int .u32) 48 w' w.heap.size (fun k_ => some k_ ≠ ((.slice Ao18 t145.length co18) : Value).ownBlock) v149 x4_1) ∧ Aside0 (Kd.V (Kd.int .u32) 48 w' w.heap.size (fun k_ => some k_ ≠ (v149 : Value).ownBlock ∧ some k_ ≠ ((.slice Ao18 t145.length co18) : Value).ownBlock) (.slice Ao17 t142.length co17) x7_1) ∧ Aside0 (Kd.R (Kd.int .u32) 48 w' w.heap.size (fun k_ => some k_ ≠ (v149 : Value).ownBlock) (.slice Ao18 t145.length co18) x8_1) ∧ Aside0 (Below w.heap.size w w'))
          case atStart => exact ⟨(y148), (t142), (t145), (wrap64 ((ji10) - 1)), (by first | rfl | (simp; done) | (simp only [← hji10] <;> (first | rfl | simp)) | (simp [*]; done)), H', ⟨Nat.le_refl _⟩, ⟨by (with_reducible repeat (first | apply Kd.R_alloc | apply Kd.R_drewN | apply Kd.R_drew)); exact Kd.R_mono HO150.out (fun _ hk => hk.2)⟩, ⟨by (with_reducible repeat (first | apply Kd.V_alloc | apply Kd.V_drewN | apply Kd.V_drew)); exact Kd.V_mono HO144.out (fun _ hk => ⟨hk.2, hk.1.2⟩)⟩, ⟨by (with_reducible repeat (first | apply Kd.R_alloc | apply Kd.R_drewN | apply Kd.R_drew)); exact Kd.R_mono HO147.out (fun _ hk => hk.2)⟩, ⟨by repeat (first | (with_reducible first | exact HB.out | apply below_alloc | apply pw_below_drewN | apply below_drew1) | exact HB.out)⟩⟩
          case round =>
            clear H'
            try clear c1
            try clear p1
            try clear q1
            try clear hx1
            try clear p2
            try clear c4
            try clear c4b0
            try clear c5
            try clear c5b0
            try clear p6
            try clear c11
            try clear c11b0
            try clear c11b1
            try clear c12
            try clear c12b0
            try clear c12b1
            try clear p13
            try clear q13
            try clear hx13
            try clear c17
            try clear c18
            try clear hx137_0
            try clear p137
            try clear q137
            obtain ⟨x4_1, x7_1, x8_1, x10_1, rfl, HA, HK1, HO_4, HO_7, HO_8, HB⟩ := hrel
            have hl7_1 := (Kd.V_reads' HO_7.out).1
            rw [hl7_1] at HO_7
            (try simp only [hl7_1])
            (try simp only [hl7_1] at HO_4)
            (try simp only [hl7_1] at HO_8)
            have hl8_1 := (Kd.R_reads' HO_8.out).1
            rw [hl8_1] at HO_8
            (try simp only [hl8_1])
            (try simp only [hl8_1] at HO_4)
            (try simp only [hl8_1] at HO_7)
            cases gk with
            | zero => exact absurd HA.out (by simp [nat_longw.l0])
            | succ k1 =>
              have H := HA.out
              clear HA
              simp only [nat_longw.l0] at H
              by_cases c21 : x10_1 ≥ 0
              · rw [if_pos c21] at H
                have c21b0 : decide (0 ≤ x10_1) = true := decide_eq_true c21
                clear c21
                replace H := Option.bind_eq_some_iff.mp H
                obtain ⟨⟨t151, t152⟩, A220, H⟩ := H
                replace H : (if 0 ≤ x10_1 then (if x10_1 < (x4_1.length : Int) then (nat_longw.l0 k1 (x4_1.set (x10_1 : Int).toNat t151) t138 x7_1 t152 (t142.length : Int) (wrap64 (x10_1 - 1))) else (none)) else (none)) = some (r1, r2) := H
                have A22 := Aside0.mk A220
                clear A220
                by_cases c23 : 0 ≤ x10_1
                · rw [if_pos c23] at H
                  have c23b0 : decide (0 ≤ x10_1) = true := decide_eq_true c23
                  clear c23
                  by_cases c24 : x10_1 < (x4_1.length : Int)
                  · rw [if_pos c24] at H
                    have c24b0 : decide (x10_1 < (x4_1.length : Int)) = true := decide_eq_true c24
                    clear c24
                    (try (have c24b0h := c24b0; simp only [hl7_1, hl8_1] at c24b0h))
                    obtain ⟨y153, hy153⟩ : ∃ y_ : List Int, y_ = (x4_1.set (x10_1 : Int).toNat t151) := ⟨_, rfl⟩
                    replace H : (nat_longw.l0 k1 y153 t138 x7_1 t152 (t142.length : Int) (wrap64 (x10_1 - 1))) = some (r1, r2) := by first | (rw [hy153]; with_reducible exact H) | (have H2_ := (Option.bind_some _ _).symm.trans H; rw [hy153]; with_reducible exact H2_) | (have H2_ := (Option.bind_some _ _).symm.trans H; with_reducible exact H2_) | with_reducible exact H | (rw [hy153]; exact H) | exact H
                    have Ny153 := Aside0.mk hy153
                    clear hy153
                    have H' := Aside0.mk H
                    clear H
                    obtain ⟨hj18, hn18, hle18_, hbig18, xs18, hst18_, hsp18_⟩ := stepat_parts A22.out
                    obtain ⟨xw18, hxw18_⟩ : ∃ l_ : List Int, l_ = (x8_1.drop (x10_1 : Int).toNat).take (x7_1.length + 1) := ⟨_, rfl⟩
                    rw [← hxw18_] at hst18_
                    have hst18 := Aside0.mk hst18_
                    have hsp18 := Aside0.mk hsp18_
                    have hroom18 : x8_1.length ≤ co18 := (Kd.R_reads' HO_8.out).2.1
                    obtain ⟨gz18, cz18, ez18, gb18, gl18, cl18, HG18⟩ := Kd.R_form HO_8.out (by omega)
                    (first | cases ez18 | (injection ez18 with ea_ en_ ec_; (first | subst ea_ | (injection ea_ with ea_; subst ea_)); subst ec_; clear en_))
                    clear gb18 gl18 cl18 HG18 hst18_ hsp18_
                    have hle18 := Aside0.mk (show (x10_1 : Int).toNat + (x7_1.length + 1) ≤ x8_1.length from by omega)
                    have hlc18 := Aside0.mk (show xw18.length ≤ co18 - (x10_1 : Int).toNat from by rw [hxw18_, win_len _ _ _ hle18.out]; omega)
                    obtain ⟨js18, hjs18⟩ : ∃ j_ : Int, wrap64 (x10_1 + (x7_1.length : Int)) = j_ := ⟨_, rfl⟩
                    have hjs18w : (IntKind.i64.wrap (x10_1 + (x7_1.length : Int))) = js18 := (i64_w _).trans hjs18
                    obtain ⟨jt18, hjt18⟩ : ∃ j_ : Int, wrap64 (js18 + 1) = j_ := ⟨_, rfl⟩
                    have hjt18w : (IntKind.i64.wrap (js18 + 1)) = jt18 := (i64_w _).trans hjt18
                    have hcut18 := cut_win (g := gz18) (c := co18) hj18 hle18_ hbig18 hroom18 hjs18 hjt18
                    rw [← hxw18_] at hcut18
                    have hxw18 := Aside0.mk hxw18_
                    clear hxw18_ hle18_ hbig18 hroom18
                    go_wp2_with (first | ((with_reducible refine gate_callee (f := 190) rfl ?_); refine goesL_ (some 52) rfl rfl Try.func190 (by kernel_rfl) rfl #[.slice (some ⟨gz18, (x10_1 : Int).toNat, none⟩) xw18.length (co18 - (x10_1 : Int).toNat), .slice Ao17 x7_1.length co17] rfl (by (try simp only [List.map_toArray, List.map_cons, List.map_nil]); first | done | rfl | (simp only [List.length_drop, List.length_take]; rfl)) ?_; (with_reducible refine (nat_step.calls k1 (fun k_ => some k_ = (.slice (some ⟨gz18, 0, none⟩) x8_1.length co18 : Value).ownBlock) gz18 (x10_1 : Int).toNat x8_1.length co18 (co18 - (x10_1 : Int).toNat) x8_1 xw18 _ _ x7_1 t151 xs18 w _ ?side1 ?side2 ?sideC ?side3 ?side4 hst18.out).mono ?_); (case side1 => repeat (first | (with_reducible first | exact HB.out | apply below_alloc | apply pw_below_drewN | apply below_drew1) | exact HB.out)); (case side2 => rw [hxw18.out]; exact Wn_of (Kd.R_tight rfl HO_8.out) hle18.out); (case sideC => exact hlc18.out); (case side3 => exact Kd.C_kept_ownV (HO_7.out) (fun k_ hk_ hs_ => (hk_.2) hs_)); (case side4 => exact (Kd.V_reads' HO_7.out).2.1); rintro e w26 ⟨rfl, hy0, hb, hkp⟩; refine ⟨_, rfl, ?_⟩; replace hy0 := hy0.2.2; rw [← hsp18.out] at hy0; have n0_ := Aside0.mk (Kd.R_mono (ok' := fun k_ => some k_ ≠ (.slice (some ⟨gz18, 0, none⟩) x8_1.length co18 : Value).ownBlock) (Kd.R_keptB (HO_4.out) hkp (fun k_ hk_ hs_ => (hk_) hs_)) (fun k_ hk_ => hk_.1)); have n1_ := Aside0.mk (Kd.V_mono (ok' := fun k_ => some k_ ≠ (v149 : Value).ownBlock ∧ some k_ ≠ (.slice (some ⟨gz18, 0, none⟩) x8_1.length co18 : Value).ownBlock) (Kd.V_keptB (HO_7.out) hkp (fun k_ hk_ hs_ => (hk_.2) hs_)) (fun k_ hk_ => ⟨hk_.1.1, hk_.1.2⟩)); have n2_ := Aside0.mk (Kd.R_reok rfl hy0 (fun k_ e_ => HO_8.out.1 k_ e_)); have n3_ := Aside0.mk (hb); clear HO_4; clear HO_7; clear HO_8; clear HB; have HO_4 := n0_; have HO_7 := n1_; have HO_8 := n2_; have HB := n3_; clear n0_ n1_ n2_ n3_; (try clear hb); (try clear hkp); (try clear hy0); have p25 : 0 ≤ (x10_1 : Int) := of_decide_eq_true (by first | (with_reducible assumption) | assumption); have q25 : (x10_1 : Int) < ((x4_1.length : Int) : Int) := of_decide_eq_true (by first | (with_reducible assumption) | assumption); obtain ⟨go25, co25, eo25, gb25, gl25, cl25, HG25⟩ := Kd.R_form HO_4.out (by omega); (first | cases eo25 | (injection eo25 with ea_ en_ ec_; (first | subst ea_ | (injection ea_ with ea_; subst ea_)); subst ec_; clear en_)); have GB25 := Aside0.mk gb25; have GG25 := Aside0.mk HG25; clear gb25 gl25 HG25; obtain ⟨hx25_0, hf25_0⟩ := Kd.R_celln 0 HO_4.out (x10_1 : Int) p25 q25; replace p25 := eq_true p25; replace q25 := eq_true q25; obtain ⟨hy27_, hz27_⟩ := Kd.R_celln 0 HO_4.out (x10_1 : Int) (of_decide_eq_true (by first | (with_reducible assumption) | assumption)) (of_decide_eq_true (by first | (with_reducible assumption) | assumption)); have HP27 := Kd.R_putg HO_4.out (x10_1 : Int) t151) | ((with_reducible refine gate_store (t := 48) (p := 53) rfl ?_); refine store_event (t := 48) (p := 53) (v := ?vo_w28) (w1 := (w26.setCell ⟨go25, (x10_1 : Int).toNat, none⟩ (.int .u32 t151))) ?hg ?ho ?hn ?hr ?_; (case ho => rfl); (case hg => rfl); (case hn => rfl); (case hr => first | (go_simp; done) | (go_simp; rfl)); intro w28 hw; have hg : w26.grownBy w28 (some go25) := (by rw [hw]; exact HP27.2); have hp_ : Kd.R (Kd.int .u32) 48 w28 w.heap.size (fun k_ => some k_ ≠ (.slice (some ⟨gz18, 0, none⟩) x8_1.length co18 : Value).ownBlock) (.slice (some ⟨go25, 0, none⟩) x4_1.length co25) y153 := (by rw [hw, Ny153.out]; exact HP27.1); clear HP27; have n0_ := Aside0.mk (hp_); have n1_ := Aside0.mk (Kd.V_afterv (v := (.slice (some ⟨go25, 0, none⟩) x4_1.length co25)) (v1 := (.slice (some ⟨go25, 0, none⟩) x4_1.length co25)) (ok := (fun k_ => some k_ ≠ (.slice (some ⟨gz18, 0, none⟩) x8_1.length co18 : Value).ownBlock)) (by (with_reducible repeat (first | apply Kd.V_alloc | apply Kd.V_drewN | apply Kd.V_drew)); exact Kd.V_mono HO_7.out (fun _ hk => ⟨hk.2, hk.1⟩)) hg (.inl rfl)); have n2_ := Aside0.mk (Kd.R_after (v := (.slice (some ⟨go25, 0, none⟩) x4_1.length co25)) (v1 := (.slice (some ⟨go25, 0, none⟩) x4_1.length co25)) (ok := (fun _ => True)) (by (with_reducible repeat (first | apply Kd.R_alloc | apply Kd.R_drewN | apply Kd.R_drew)); exact Kd.R_mono HO_8.out (fun _ hk => ⟨trivial, hk⟩)) hg (.inl rfl)); have n3_ := Aside0.mk ((by rw [hw]; exact below_set (HB.out) GB25.out : Below w.heap.size w w28)); clear HO_4; clear HO_7; clear HO_8; clear HB; have HO_4 := n0_; have HO_7 := n1_; have HO_8 := n2_; have HB := n3_; clear n0_ n1_ n2_ n3_; clear hg hw hp_))
                    (try simp only [← hl7_1, ← hl8_1])
                    go_roundg k1
                    case measure => have := HK1.out; omega
                    case rel => exact ⟨(y153), (x7_1), (t152), (wrap64 (x10_1 - 1)), (by first | rfl | (simp; done) | (simp [*]; done)), H', ⟨by have := HK1.out; omega⟩, ⟨by (try simp only [hl7_1]); (try simp only [hl8_1]); (with_reducible repeat (first | apply Kd.R_alloc | apply Kd.R_drewN | apply Kd.R_drew)); exact HO_4.out⟩, ⟨by (try simp only [hl7_1]); (try simp only [hl8_1]); (with_reducible repeat (first | apply Kd.V_alloc | apply Kd.V_drewN | apply Kd.V_drew)); exact Kd.V_mono HO_7.out (fun _ hk => ⟨hk.2, hk.1⟩)⟩, ⟨by (try simp only [hl7_1]); (try simp only [hl8_1]); (with_reducible repeat (first | apply Kd.R_alloc | apply Kd.R_drewN | apply Kd.R_drew)); exact Kd.R_mono HO_8.out (fun _ hk => hk.2)⟩, ⟨by repeat (first | (with_reducible first | exact HB.out | apply below_alloc | apply pw_below_drewN | apply below_drew1) | exact HB.out)⟩⟩
                  · rw [if_neg c24] at H
                    exact absurd H (by simp)
                · rw [if_neg c23] at H
                  exact absurd H (by simp)
              · rw [if_neg c21] at H
                have c21b0 : decide (0 ≤ x10_1) = false := decide_eq_false c21
                clear c21
                by_cases c29 : 0 ≤ (t142.length : Int)
                · rw [if_pos c29] at H
                  have c29b0 := eq_true c29
                  have c29b1 : decide (0 ≤ (t142.length : Int)) = true := decide_eq_true c29
                  clear c29
                  (try (have c29b0h := c29b0; simp only [hl7_1, hl8_1] at c29b0h))
                  (try (have c29b1h := c29b1; simp only [hl7_1, hl8_1] at c29b1h))
                  by_cases c30 : ((t142.length : Int) : Int).toNat ≤ 70368744177664
                  · rw [if_pos c30] at H
                    have c30b0 := eq_true c30
                    have c30b1 : decide (((t142.length : Int) : Int).toNat ≤ 70368744177664) = true := decide_eq_true c30
                    clear c30
                    (try (have c30b0h := c30b0; simp only [hl7_1, hl8_1] at c30b0h))
                    (try (have c30b1h := c30b1; simp only [hl7_1, hl8_1] at c30b1h))
                    obtain ⟨y154, hy154⟩ : ∃ y_ : List Int, y_ = (List.replicate ((t142.length : Int) : Int).toNat 0) := ⟨_, rfl⟩
                    replace H : (nat_longw.l1 k1 x4_1 y154 t138 x8_1 (y154.length : Int) 0) = some (r1, r2) := by first | (rw [hy154]; with_reducible exact H) | (have H2_ := (Option.bind_some _ _).symm.trans H; rw [hy154]; with_reducible exact H2_) | (have H2_ := (Option.bind_some _ _).symm.trans H; with_reducible exact H2_) | with_reducible exact H | (rw [hy154]; exact H) | exact H
                    have Ny154 := Aside0.mk hy154
                    clear hy154
                    have H' := Aside0.mk H
                    clear H
                    go_wp2_with (first | ((with_reducible refine gate_dst (N := 55) rfl ?_); refine Kd.R_make (Kd.int .u32) _ 48 rfl (N := 55) rfl 42 _ _ rfl (x7_1.length : Int) rfl rfl Try.underlying42 (.int .u32 0) 4 info48 rfl (by decide) (by omega) 0 (ok := fun _ => True) (okp := fun _ => True) rfl (fun _ hk => hk) trivial (of_decide_eq_true (by first | (with_reducible assumption) | assumption)) (Nat.le_trans (Nat.mul_le_mul_right _ (of_decide_eq_true (by first | (with_reducible assumption) | assumption) : (x7_1.length : Int).toNat ≤ 70368744177664)) (by omega)) (Below.refl _ _) (Nat.le_refl _) ?_; intro v155 w31 ho32 hb hg_ hnew_; clear hg_ hnew_; rw [← hl7_1] at ho32; (first | rw [← Ny154.out] at ho32 | (simp only [Int.reduceToNat] at ho32; rw [← Ny154.out] at ho32)); have n0_ := Aside0.mk (Kd.R_elder' (by (with_reducible repeat (first | apply Kd.R_alloc | apply Kd.R_drewN | apply Kd.R_drew)); exact HO_4.out) (Kd.R_base ho32) hb); have n1_ := Aside0.mk (Kd.V_elder' (by (with_reducible repeat (first | apply Kd.V_alloc | apply Kd.V_drewN | apply Kd.V_drew)); exact HO_7.out) (Kd.R_base ho32) hb); have n2_ := Aside0.mk (Kd.R_elder' (by (with_reducible repeat (first | apply Kd.R_alloc | apply Kd.R_drewN | apply Kd.R_drew)); exact HO_8.out) (Kd.R_base ho32) hb); have n3_ := Aside0.mk (Kd.R_lower (Kd.R_new' (Kd.R_new' ho32 (Kd.R_lt (by (with_reducible repeat (first | apply Kd.R_alloc | apply Kd.R_drewN | apply Kd.R_drew)); exact HO_4.out))) (Kd.R_lt (by (with_reducible repeat (first | apply Kd.R_alloc | apply Kd.R_drewN | apply Kd.R_drew)); exact HO_8.out))) (below_size (by repeat (first | (with_reducible first | exact HB.out | apply below_alloc | apply pw_below_drewN | apply below_drew1) | exact HB.out)))); have n4_ := Aside0.mk (below_step (by repeat (first | (with_reducible first | exact HB.out | apply below_alloc | apply pw_below_drewN | apply below_drew1) | exact HB.out)) hb); clear HO_4; clear HO_7; clear HO_8; clear HB; have HO_4 := n0_; have HO_7 := n1_; have HO_8 := n2_; have HO156 := n3_; have HB := n4_; clear n0_ n1_ n2_ n3_ n4_; clear hb ho32; obtain ⟨Ao33, co33, eo33⟩ := Kd.R_slice HO156.out; subst eo33))
                    go_loopg [58] k1 (fun kq v58 w' => ∃ (x5_2 : List Int) (x58_2 : Int), v58 = .int .i64 x58_2 ∧ Aside0 (nat_longw.l1 kq x4_1 x5_2 t138 x8_1 (y154.length : Int) x58_2 = some (r1, r2)) ∧ Aside0 (kq ≤ k1) ∧ Aside0 (Kd.R (Kd.int .u32) 48 w' w.heap.size (fun k_ => some k_ ≠ ((.slice Ao33 y154.length co33) : Value).ownBlock ∧ some k_ ≠ ((.slice Ao18 x8_1.length co18) : Value).ownBlock) v149 x4_1) ∧ Aside0 (Kd.R (Kd.int .u32) 48 w' w.heap.size (fun k_ => some k_ ≠ (v149 : Value).ownBlock ∧ some k_ ≠ ((.slice Ao18 x8_1.length co18) : Value).ownBlock) (.slice Ao33 y154.length co33) x5_2) ∧ Aside0 (Kd.R (Kd.int .u32) 48 w' w.heap.size (fun k_ => some k_ ≠ (v149 : Value).ownBlock ∧ some k_ ≠ ((.slice Ao33 y154.length co33) : Value).ownBlock) (.slice Ao18 x8_1.length co18) x8_1) ∧ Aside0 (Below w.heap.size w w'))
                    case atStart => exact ⟨(y154), (0), (by first | rfl | (simp; done) | (simp [*]; done)), H', ⟨Nat.le_refl _⟩, ⟨by (try simp only [hl7_1]); (try simp only [hl8_1]); (with_reducible repeat (first | apply Kd.R_alloc | apply Kd.R_drewN | apply Kd.R_drew)); exact Kd.R_mono HO_4.out (fun _ hk => ⟨hk.2, hk.1⟩)⟩, ⟨by (try simp only [hl7_1]); (try simp only [hl8_1]); (with_reducible repeat (first | apply Kd.R_alloc | apply Kd.R_drewN | apply Kd.R_drew)); exact Kd.R_mono HO156.out (fun _ hk => ⟨hk.1.2, hk.2⟩)⟩, ⟨by (try simp only [hl7_1]); (try simp only [hl8_1]); (with_reducible repeat (first | apply Kd.R_alloc | apply Kd.R_drewN | apply Kd.R_drew)); exact HO_8.out⟩, ⟨by repeat (first | (with_reducible first | exact HB.out | apply below_alloc | apply pw_below_drewN | apply below_drew1) | exact HB.out)⟩⟩
                    case round =>
                      clear H'
                      try clear c1
                      try clear p1
                      try clear q1
                      try clear hx1
                      try clear c2
                      try clear p2
                      try clear q2
                      try clear hx2
                      try clear hf2
                      try clear c3
                      try clear c4
                      try clear c4b0
                      try clear c5
                      try clear c5b0
                      try clear p6
                      try clear c11
                      try clear c11b0
                      try clear c11b1
                      try clear c12
                      try clear c12b0
                      try clear c12b1
                      try clear p13
                      try clear q13
                      try clear hx13
                      try clear c17
                      try clear c18
                      try clear c19
                      try clear c21
                      try clear c21b0
                      try clear c23
                      try clear c23b0
                      try clear c24
                      try clear c24b0
                      try clear p25
                      try clear q25
                      try clear hx25
                      try clear hf25
                      try clear c29
                      try clear c29b0
                      try clear c29b1
                      try clear c30
                      try clear c30b0
                      try clear c30b1
                      try clear hx137_0
                      try clear hx25_0
                      try clear p1
                      try clear p13
                      try clear p137
                      try clear p2
                      try clear p25
                      try clear p6
                      try clear q1
                      try clear q13
                      try clear q137
                      try clear q25
                      obtain ⟨x5_2, x58_2, rfl, HA, HK2, HO_4, HO_5, HO_8, HB⟩ := hrel
                      have hl5_2 := (Kd.R_reads' HO_5.out).1
                      rw [hl5_2] at HO_5
                      (try simp only [hl5_2])
                      (try simp only [hl5_2] at HO_4)
                      (try simp only [hl5_2] at HO_8)
                      cases gk with
                      | zero => exact absurd HA.out (by simp [nat_longw.l1])
                      | succ k2 =>
                        have H := HA.out
                        clear HA
                        simp only [nat_longw.l1] at H
                        by_cases c34 : x58_2 < (y154.length : Int)
                        · rw [if_pos c34] at H
                          have c34b0 : decide (x58_2 < (y154.length : Int)) = true := decide_eq_true c34
                          clear c34
                          (try (have c34b0h := c34b0; simp only [hl7_1, hl8_1, hl5_2] at c34b0h))
                          by_cases c35 : 0 ≤ x58_2
                          · rw [if_pos c35] at H
                            have c35b0 : decide (0 ≤ x58_2) = true := decide_eq_true c35
                            clear c35
                            by_cases c36 : x58_2 < (x8_1.length : Int)
                            · rw [if_pos c36] at H
                              have c36b0 : decide (x58_2 < (x8_1.length : Int)) = true := decide_eq_true c36
                              clear c36
                              (try (have c36b0h := c36b0; simp only [hl7_1, hl8_1, hl5_2] at c36b0h))
                              obtain ⟨ji37, hji37⟩ : ∃ j_ : Int, (wrap64 (x58_2 + 1)) = j_ := ⟨_, rfl⟩
                              replace H : (if 0 ≤ (ji37) then (if (ji37) < (x8_1.length : Int) then (if 0 ≤ t138 then (if x58_2 < (x5_2.length : Int) then (nat_longw.l1 k2 x4_1 (x5_2.set (x58_2 : Int).toNat ((shr .u64 (Go.bits .or .u64 (IntKind.u64.wrap (rd x8_1 x58_2)) (IntKind.u64.wrap ((IntKind.u64.wrap (rd x8_1 (ji37))) * 4294967296))) t138) % 4294967296)) t138 x8_1 (y154.length : Int) ji37) else (none)) else (none)) else (none)) else (none)) = some (r1, r2) := by first | (rw [hji37] at H; exact H) | (simp only [hji37] at H ⊢; exact H)
                              have hji37w : (IntKind.i64.wrap (x58_2 + 1)) = ji37 := (i64_w _).trans hji37
                              by_cases c38 : 0 ≤ (ji37)
                              · rw [if_pos c38] at H
                                have c38b0 : decide (0 ≤ (ji37)) = true := decide_eq_true c38
                                clear c38
                                by_cases c39 : (ji37) < (x8_1.length : Int)
                                · rw [if_pos c39] at H
                                  have c39b0 : decide ((ji37) < (x8_1.length : Int)) = true := decide_eq_true c39
                                  clear c39
                                  (try (have c39b0h := c39b0; simp only [hl7_1, hl8_1, hl5_2] at c39b0h))
                                  by_cases c40 : 0 ≤ t138
                                  · rw [if_pos c40] at H
                                    have c40b0 := eq_true c40
                                    have c40b1 : decide (0 ≤ t138) = true := decide_eq_true c40
                                    clear c40
                                    obtain ⟨ji41, hji41⟩ : ∃ j_ : Int, (shr .u64 (Go.bits .or .u64 (IntKind.u64.wrap (rd x8_1 x58_2)) (IntKind.u64.wrap ((IntKind.u64.wrap (rd x8_1 (ji37))) * 4294967296))) t138) = j_ := ⟨_, rfl⟩
                                    replace H : (if x58_2 < (x5_2.length : Int) then (nat_longw.l1 k2 x4_1 (x5_2.set (x58_2 : Int).toNat ((ji41) % 4294967296)) t138 x8_1 (y154.length : Int) ji37) else (none)) = some (r1, r2) := by first | (rw [hji41] at H; exact H) | (simp only [hji41] at H ⊢; exact H)
                                    have hji41_ : ((Go.bits .or .u64 (IntKind.u64.wrap (rd x8_1 x58_2)) (IntKind.u64.wrap ((IntKind.u64.wrap (rd x8_1 (ji37))) * 4294967296))) / 2 ^ min t138.toNat 64) = ji41 := hji41
                                    have hji41z : t138 ≤ 64 → ((Go.bits .or .u64 (IntKind.u64.wrap (rd x8_1 x58_2)) (IntKind.u64.wrap ((IntKind.u64.wrap (rd x8_1 (ji37))) * 4294967296))) / 2 ^ t138.toNat) = ji41 := shr_small hji41
                                    by_cases c42 : x58_2 < (x5_2.length : Int)
                                    · rw [if_pos c42] at H
                                      have c42b0 : decide (x58_2 < (x5_2.length : Int)) = true := decide_eq_true c42
                                      clear c42
                                      (try (have c42b0h := c42b0; simp only [hl7_1, hl8_1, hl5_2] at c42b0h))
                                      obtain ⟨y159, hy159⟩ : ∃ y_ : List Int, y_ = (x5_2.set (x58_2 : Int).toNat ((ji41) % 4294967296)) := ⟨_, rfl⟩
                                      replace H : (nat_longw.l1 k2 x4_1 y159 t138 x8_1 (y154.length : Int) ji37) = some (r1, r2) := by first | (rw [hy159]; with_reducible exact H) | (have H2_ := (Option.bind_some _ _).symm.trans H; rw [hy159]; with_reducible exact H2_) | (have H2_ := (Option.bind_some _ _).symm.trans H; with_reducible exact H2_) | with_reducible exact H | (rw [hy159]; exact H) | exact H
                                      have Ny159 := Aside0.mk hy159
                                      clear hy159
                                      have H' := Aside0.mk H
                                      clear H
                                      try go_wp2
                                      have n0_ := Aside0.mk (Kd.R_drew HO_4.out)
                                      have n1_ := Aside0.mk (Kd.R_drew HO_5.out)
                                      have n2_ := Aside0.mk (Kd.R_drew HO_8.out)
                                      have n3_ := Aside0.mk (below_drew1 HB.out)
                                      clear HO_4
                                      clear HO_5
                                      clear HO_8
                                      clear HB
                                      have HO_4 := n0_
                                      have HO_5 := n1_
                                      have HO_8 := n2_
                                      have HB := n3_
                                      clear n0_ n1_ n2_ n3_
                                      have p157 : 0 ≤ (x58_2 : Int) := of_decide_eq_true (by first | (with_reducible assumption) | assumption)
                                      have q157 : x58_2 < (x8_1.length : Int) := of_decide_eq_true (by first | (with_reducible assumption) | assumption)
                                      obtain ⟨ad157, e157, hx157_0⟩ := Kd.at_int (Kd.R_reads' HO_8.out).2.2 x58_2 p157 q157
                                      cases e157
                                      replace p157 := eq_true p157
                                      replace q157 := eq_true q157
                                      have p158 : 0 ≤ ((ji37) : Int) := of_decide_eq_true (by first | (with_reducible assumption) | assumption)
                                      have q158 : (ji37) < (x8_1.length : Int) := of_decide_eq_true (by first | (with_reducible assumption) | assumption)
                                      obtain ⟨ad158, e158, hx158_0⟩ := Kd.at_int (Kd.R_reads' HO_8.out).2.2 (ji37) p158 q158
                                      obtain rfl : ad157 = ad158 := (by injection e158)
                                      replace p158 := eq_true p158
                                      replace q158 := eq_true q158
                                      have p43 : 0 ≤ (x58_2 : Int) := of_decide_eq_true (by first | (with_reducible assumption) | assumption)
                                      have q43 : (x58_2 : Int) < ((x5_2.length : Int) : Int) := of_decide_eq_true (by first | (with_reducible assumption) | assumption)
                                      obtain ⟨go43, co43, eo43, gb43, gl43, cl43, HG43⟩ := Kd.R_form HO_5.out (by omega)
                                      (first | cases eo43 | (injection eo43 with ea_ en_ ec_; (first | subst ea_ | (injection ea_ with ea_; subst ea_)); subst ec_; clear en_))
                                      have GB43 := Aside0.mk gb43
                                      have GG43 := Aside0.mk HG43
                                      clear gb43 gl43 HG43
                                      obtain ⟨hx43_0, hf43_0⟩ := Kd.R_celln 0 HO_5.out (x58_2 : Int) p43 q43
                                      replace p43 := eq_true p43
                                      replace q43 := eq_true q43
                                      have HP45 := Kd.R_putn HO_5.out (x58_2 : Int) ((ji41) % 4294967296)
                                      rw [← Ny159.out] at HP45
                                      have HQ45 := Aside0.mk HP45
                                      clear HP45
                                      refine start_ (n := 20) (S := fun w' => w'.cell? (ad157.add (x58_2).toNat) = some (.int .u32 (rd x8_1 x58_2)) ∧ w'.cell? (ad157.add ((ji37)).toNat) = some (.int .u32 (rd x8_1 (ji37)))) (ds := [19]) #[false, false, false, false, false, false, false, false, false, false, false, false, false, false, false, false, false, false, false, false] (by kernel_rfl) rfl rfl ⟨hx157_0, hx158_0⟩ (fun hHeld => ?_); refine with_tabW nat_longw.tab14 nat_longw.bits14 (fun HT_ HW_ => ?_)
                                      generalize wr.drew = w44 at HO_4 HO_5 HO_8 HB GG43 HQ45 hf43_0 hx157_0 hx158_0 hx43_0 hHeld ⊢
                                      refine pure_ (i := 0) (N := some 61) (v := ?_) (a' := ?_) #[true, false, false, false, false, false, false, false, false, false, false, false, false, false, false, false, false, false, false, false] rfl rfl (any_of HT_.out (by kernel_rfl)) (fun _ _ _ h => h) (Or.inl ⟨by rfl, ?_⟩) ?_ ?_
                                      rotate_left
                                      · intro w'
                                        go_simp
                                        with_reducible rfl
                                      rotate_left
                                      · simp only [Act.put, List.setIfInBounds_toArray, List.set_cons_zero, List.set_cons_succ, i64_w, i32_w]
                                        rfl
                                      refine pure_ (i := 1) (N := some 62) (v := ?_) (a' := ?_) #[true, true, false, false, false, false, false, false, false, false, false, false, false, false, false, false, false, false, false, false] rfl rfl (any_of HT_.out (by kernel_rfl)) (fun _ _ _ h => h) (Or.inl ⟨by rfl, ?_⟩) ?_ ?_
                                      rotate_left
                                      · intro w'
                                        go_simp
                                        with_reducible rfl
                                      rotate_left
                                      · simp only [Act.put, List.setIfInBounds_toArray, List.set_cons_zero, List.set_cons_succ, i64_w, i32_w]
                                        rfl
                                      refine pure_ (i := 2) (N := some 63) (v := ?_) (a' := ?_) #[true, true, true, false, false, false, false, false, false, false, false, false, false, false, false, false, false, false, false, false] rfl rfl (any_of HT_.out (by kernel_rfl)) (fun _ _ _ h => h) (Or.inl ⟨by rfl, ?_⟩) ?_ ?_
                                      rotate_left
                                      · intro w'
                                        go_simp
                                        with_reducible rfl
                                      rotate_left
                                      · simp only [Act.put, List.setIfInBounds_toArray, List.set_cons_zero, List.set_cons_succ, i64_w, i32_w]
                                        rfl
                                      refine pure_ (i := 3) (N := some 64) (v := ?_) (a' := ?_) #[true, true, true, true, false, false, false, false, false, false, false, false, false, false, false, false, false, false, false, false] rfl rfl (any_of HT_.out (by kernel_rfl)) (fun _ _ _ h => h) (Or.inl ⟨by rfl, ?_⟩) ?_ ?_
                                      rotate_left
                                      · intro w'
                                        go_simp
                                        with_reducible rfl
                                      rotate_left
                                      · simp only [Act.put, List.setIfInBounds_toArray, List.set_cons_zero, List.set_cons_succ, i64_w, i32_w]
                                        rfl
                                      refine pure_ (i := 4) (N := some 65) (v := ?_) (a' := ?_) #[true, true, true, true, true, false, false, false, false, false, false, false, false, false, false, false, false, false, false, false] rfl rfl (any_of HT_.out (by kernel_rfl)) (fun _ _ _ h => h) (Or.inl ⟨by rfl, ?_⟩) ?_ ?_
                                      rotate_left
                                      · intro w'
                                        go_simp
                                        with_reducible rfl
                                      rotate_left
                                      · simp only [Act.put, List.setIfInBounds_toArray, List.set_cons_zero, List.set_cons_succ, i64_w, i32_w]
                                        rfl
                                      refine pure_ (i := 7) (N := some 68) (v := ?_) (a' := ?_) #[true, true, true, true, true, false, false, true, false, false, false, false, false, false, false, false, false, false, false, false] rfl rfl (any_of HT_.out (by kernel_rfl)) (fun _ _ _ h => h) (Or.inl ⟨by rfl, ?_⟩) ?_ ?_
                                      rotate_left
                                      · intro w'
                                        go_simp
                                        with_reducible rfl
                                      rotate_left
                                      · simp only [Act.put, List.setIfInBounds_toArray, List.set_cons_zero, List.set_cons_succ, i64_w, i32_w]
                                        rfl
                                      refine pure_ (i := 8) (N := some 69) (v := ?_) (a' := ?_) #[true, true, true, true, true, false, false, true, true, false, false, false, false, false, false, false, false, false, false, false] rfl rfl (any_of HT_.out (by kernel_rfl)) (fun _ _ _ h => h) (Or.inl ⟨by rfl, ?_⟩) ?_ ?_
                                      rotate_left
                                      · intro w'
                                        go_simp
                                        with_reducible rfl
                                      rotate_left
                                      · simp only [Act.put, List.setIfInBounds_toArray, List.set_cons_zero, List.set_cons_succ, i64_w, i32_w]
                                        rfl
                                      refine pure_ (i := 9) (N := some 70) (v := ?_) (a' := ?_) #[true, true, true, true, true, false, false, true, true, true, false, false, false, false, false, false, false, false, false, false] rfl rfl (any_of HT_.out (by kernel_rfl)) (fun _ _ _ h => h) (Or.inl ⟨by rfl, ?_⟩) ?_ ?_
                                      rotate_left
                                      · intro w'
                                        go_simp
                                        with_reducible rfl
                                      rotate_left
                                      · simp only [Act.put, List.setIfInBounds_toArray, List.set_cons_zero, List.set_cons_succ, i64_w, i32_w]
                                        rfl
                                      refine pure_ (i := 10) (N := some 71) (v := ?_) (a' := ?_) #[true, true, true, true, true, false, false, true, true, true, true, false, false, false, false, false, false, false, false, false] rfl rfl (any_of HT_.out (by kernel_rfl)) (fun _ _ _ h => h) (Or.inl ⟨by rfl, ?_⟩) ?_ ?_
                                      rotate_left
                                      · intro w'
                                        go_simp
                                        with_reducible rfl
                                      rotate_left
                                      · simp only [Act.put, List.setIfInBounds_toArray, List.set_cons_zero, List.set_cons_succ, i64_w, i32_w]
                                        rfl
                                      refine pure_ (i := 15) (N := some 76) (v := ?_) (a' := ?_) #[true, true, true, true, true, false, false, true, true, true, true, false, false, false, false, true, false, false, false, false] rfl rfl (any_of HT_.out (by kernel_rfl)) (fun _ _ _ h => h) (Or.inl ⟨by rfl, ?_⟩) ?_ ?_
                                      rotate_left
                                      · intro w'
                                        go_simp
                                        with_reducible rfl
                                      rotate_left
                                      · simp only [Act.put, List.setIfInBounds_toArray, List.set_cons_zero, List.set_cons_succ, i64_w, i32_w]
                                        rfl
                                      refine take_ (i := 5) (N := some 66) (v := ?_) (a' := ?_) #[true, true, true, true, true, true, false, true, true, true, true, false, false, false, false, true, false, false, false, false] rfl rfl (take_ofW HT_.out HW_.out (by kernel_rfl)) (fun _ _ _ h => h) (Or.inl ⟨by rfl, ?_⟩) hHeld ?_ ?_
                                      rotate_left
                                      · rintro w' ⟨s0, s1⟩
                                        go_simp
                                        with_reducible rfl
                                      rotate_left
                                      · simp only [Act.put, List.setIfInBounds_toArray, List.set_cons_zero, List.set_cons_succ, i64_w, i32_w]
                                        rfl
                                      refine pure_ (i := 6) (N := some 67) (v := ?_) (a' := ?_) #[true, true, true, true, true, true, true, true, true, true, true, false, false, false, false, true, false, false, false, false] rfl rfl (any_of HT_.out (by kernel_rfl)) (fun _ _ _ h => h) (Or.inl ⟨by rfl, ?_⟩) ?_ ?_
                                      rotate_left
                                      · intro w'
                                        go_simp
                                        with_reducible rfl
                                      rotate_left
                                      · simp only [Act.put, List.setIfInBounds_toArray, List.set_cons_zero, List.set_cons_succ, i64_w, i32_w]
                                        rfl
                                      refine take_ (i := 11) (N := some 72) (v := ?_) (a' := ?_) #[true, true, true, true, true, true, true, true, true, true, true, true, false, false, false, true, false, false, false, false] rfl rfl (take_ofW HT_.out HW_.out (by kernel_rfl)) (fun _ _ _ h => h) (Or.inl ⟨by rfl, ?_⟩) hHeld ?_ ?_
                                      rotate_left
                                      · rintro w' ⟨s0, s1⟩
                                        go_simp
                                        with_reducible rfl
                                      rotate_left
                                      · simp only [Act.put, List.setIfInBounds_toArray, List.set_cons_zero, List.set_cons_succ, i64_w, i32_w]
                                        rfl
                                      refine pure_ (i := 12) (N := some 73) (v := ?_) (a' := ?_) #[true, true, true, true, true, true, true, true, true, true, true, true, true, false, false, true, false, false, false, false] rfl rfl (any_of HT_.out (by kernel_rfl)) (fun _ _ _ h => h) (Or.inl ⟨by rfl, ?_⟩) ?_ ?_
                                      rotate_left
                                      · intro w'
                                        go_simp
                                        with_reducible rfl
                                      rotate_left
                                      · simp only [Act.put, List.setIfInBounds_toArray, List.set_cons_zero, List.set_cons_succ, i64_w, i32_w]
                                        rfl
                                      refine pure_ (i := 13) (N := some 74) (v := ?_) (a' := ?_) #[true, true, true, true, true, true, true, true, true, true, true, true, true, true, false, true, false, false, false, false] rfl rfl (any_of HT_.out (by kernel_rfl)) (fun _ _ _ h => h) (Or.inl ⟨by rfl, ?_⟩) ?_ ?_
                                      rotate_left
                                      · intro w'
                                        go_simp
                                        with_reducible rfl
                                      rotate_left
                                      · simp only [Act.put, List.setIfInBounds_toArray, List.set_cons_zero, List.set_cons_succ, i64_w, i32_w]
                                        rfl
                                      refine pure_ (i := 14) (N := some 75) (v := ?_) (a' := ?_) #[true, true, true, true, true, true, true, true, true, true, true, true, true, true, true, true, false, false, false, false] rfl rfl (any_of HT_.out (by kernel_rfl)) (fun _ _ _ h => h) (Or.inl ⟨by rfl, ?_⟩) ?_ ?_
                                      rotate_left
                                      · intro w'
                                        go_simp
                                        with_reducible rfl
                                      rotate_left
                                      · simp only [Act.put, List.setIfInBounds_toArray, List.set_cons_zero, List.set_cons_succ, i64_w, i32_w]
                                        rfl
                                      refine pure_ (i := 16) (N := some 77) (v := ?_) (a' := ?_) #[true, true, true, true, true, true, true, true, true, true, true, true, true, true, true, true, true, false, false, false] rfl rfl (any_of HT_.out (by kernel_rfl)) (fun _ _ _ h => h) (Or.inl ⟨by rfl, ?_⟩) ?_ ?_
                                      rotate_left
                                      · intro w'
                                        go_simp
                                        with_reducible rfl
                                      rotate_left
                                      · simp only [Act.put, List.setIfInBounds_toArray, List.set_cons_zero, List.set_cons_succ, i64_w, i32_w]
                                        rfl
                                      refine pure_ (i := 17) (N := some 78) (v := ?_) (a' := ?_) #[true, true, true, true, true, true, true, true, true, true, true, true, true, true, true, true, true, true, false, false] rfl rfl (any_of HT_.out (by kernel_rfl)) (fun _ _ _ h => h) (Or.inl ⟨by rfl, ?_⟩) ?_ ?_
                                      rotate_left
                                      · intro w'
                                        go_simp
                                        with_reducible rfl
                                      rotate_left
                                      · simp only [Act.put, List.setIfInBounds_toArray, List.set_cons_zero, List.set_cons_succ, i64_w, i32_w]
                                        rfl
                                      refine pure_ (i := 18) (N := some 79) (v := ?_) (a' := ?_) #[true, true, true, true, true, true, true, true, true, true, true, true, true, true, true, true, true, true, true, false] rfl rfl (any_of HT_.out (by kernel_rfl)) (fun _ _ _ h => h) (Or.inl ⟨by rfl, ?_⟩) ?_ ?_
                                      rotate_left
                                      · intro w'
                                        go_simp
                                        with_reducible rfl
                                      rotate_left
                                      · simp only [Act.put, List.setIfInBounds_toArray, List.set_cons_zero, List.set_cons_succ, i64_w, i32_w]
                                        rfl
                                      refine last_ (i := 19) (N := none) #[true, true, true, true, true, true, true, true, true, true, true, true, true, true, true, true, true, true, true, true] rfl rfl (one_of HT_.out (by kernel_rfl)) (by decide) (fun K hK => ?_)
                                      refine skip_ (w1 := ?_) (by rfl) rfl ?_ ?_
                                      rotate_left
                                      · go_simp
                                        rfl
                                      refine hK.out _ _ ?_
                                      clear hK K
                                      refine done_ (done_of HT_.out (by kernel_rfl)) ?_
                                      try go_wp2
                                      (try simp only [← hl5_2])
                                      go_roundg k2
                                      case measure => have := HK1.out; have := HK2.out; omega
                                      case rel => exact ⟨(y159), (ji37), (by first | rfl | (simp; done) | (simp only [← hji37] <;> (first | rfl | simp)) | (simp [*]; done)), H', ⟨by have := HK1.out; have := HK2.out; omega⟩, ⟨by (try simp only [hl7_1]); (try simp only [hl8_1]); (try simp only [hl5_2]); (with_reducible repeat (first | apply Kd.R_alloc | apply Kd.R_drewN | apply Kd.R_drew)); exact Kd.R_mono (Kd.R_far (p := ⟨go43, (x58_2 : Int).toNat, none⟩) (Kd.R_mono HO_4.out (fun k_ hk => (⟨hk, fun e_ => hk.1 (by rw [e_]; rfl)⟩ : _ ∧ k_ ≠ go43))) (fun _ hk => hk.2) (.int .u32 ((ji41) % 4294967296))) (fun _ hk => ⟨hk.1.1, hk.1.2⟩)⟩, ⟨by (try simp only [hl7_1]); (try simp only [hl8_1]); (try simp only [hl5_2]); (with_reducible repeat (first | apply Kd.R_alloc | apply Kd.R_drewN | apply Kd.R_drew)); exact HQ45.out⟩, ⟨by (try simp only [hl7_1]); (try simp only [hl8_1]); (try simp only [hl5_2]); (with_reducible repeat (first | apply Kd.R_alloc | apply Kd.R_drewN | apply Kd.R_drew)); exact Kd.R_mono (Kd.R_far (p := ⟨go43, (x58_2 : Int).toNat, none⟩) (Kd.R_mono HO_8.out (fun k_ hk => (⟨hk, fun e_ => hk.2 (by rw [e_]; rfl)⟩ : _ ∧ k_ ≠ go43))) (fun _ hk => hk.2) (.int .u32 ((ji41) % 4294967296))) (fun _ hk => ⟨hk.1.1, hk.1.2⟩)⟩, ⟨by repeat (first | (with_reducible first | exact HB.out | apply below_alloc | apply pw_below_drewN | apply below_drew1 | refine below_set ?_ GB43.out) | exact HB.out)⟩⟩
                                    · rw [if_neg c42] at H
                                      exact absurd H (by simp)
                                  · rw [if_neg c40] at H
                                    exact absurd H (by simp)
                                · rw [if_neg c39] at H
                                  exact absurd H (by simp)
                              · rw [if_neg c38] at H
                                exact absurd H (by simp)
                            · rw [if_neg c36] at H
                              exact absurd H (by simp)
                          · rw [if_neg c35] at H
                            exact absurd H (by simp)
                        · rw [if_neg c34] at H
                          have c34b0 : decide (x58_2 < (y154.length : Int)) = false := decide_eq_false c34
                          clear c34
                          (try (have c34b0h := c34b0; simp only [hl7_1, hl8_1, hl5_2] at c34b0h))
                          simp only [Option.some.injEq, Prod.mk.injEq] at H
                          obtain ⟨rfl, rfl⟩ := H
                          go_wp2
                          go_ret2
                          exact ⟨_, _, by first | rfl | (simp [errW_none, errW_some] <;> rfl) | (simp only [← hji3, ← hji10]; first | rfl | (simp [errW_none, errW_some] <;> rfl)) | (simp [*, errW_none, errW_some] <;> rfl), by (with_reducible repeat (first | apply Kd.R_alloc | apply Kd.R_drewN | apply Kd.R_drew)); exact Kd.R_mono HO_4.out (fun _ hk => hk.1), by (with_reducible repeat (first | apply Kd.R_alloc | apply Kd.R_drewN | apply Kd.R_drew)); exact Kd.R_mono HO_5.out (fun _ hk => hk.1), by repeat (first | (with_reducible first | exact HB.out | apply below_alloc | apply pw_below_drewN | apply below_drew1) | exact HB.out)⟩
                  · rw [if_neg c30] at H
                    exact absurd H (by simp)
                · rw [if_neg c29] at H
                  exact absurd H (by simp)
        · rw [if_neg c12] at H
          exact absurd H (by simp)
      · rw [if_neg c11] at H
        exact absurd H (by simp)
    · rw [if_neg c5] at H
      exact absurd H (by simp)
  · rw [if_neg c4] at H
    exact absurd H (by simp)
end Go.Proofs.Ytecfdemglbfnoaa.PT
end
section
namespace Go.Proofs.Ytecfdemglbfnoaa.Num
open Go.RowKit Go.Proofs.Ytecfdemglbfnoaa.PT Go.Proofs.YtecfdemglbfnoaaW.PrintWords Go.Proofs.YtecfdemglbfnoaaW.PrintLast Go.Proofs.YtecfdemglbfnoaaW.PrintMore
theorem mul_step {V V' Z0 p P q d bj zij c tm c' S : Nat} (h : V + p * c = Z0 + P * d * S) (hs : V' + p * zij = V + p * tm) (e : d * bj + zij + c = tm + 4294967296 * c') (hp : p = P * q) :
    V' + p * 4294967296 * c' = Z0 + P * d * (S + q * bj) := by
  have h1 : p * (d * bj + zij + c) = p * (tm + 4294967296 * c') := by rw [e]
  simp only [Nat.mul_add] at h1 ⊢
  have h2 : P * d * (q * bj) = p * (d * bj) := by rw [hp]; ac_rfl
  have h3 : p * 4294967296 * c' = p * (4294967296 * c') := by rw [Nat.mul_assoc]
  omega
/-- The value of one step's sum. -/
def tv (d bj zij c : Nat) : Nat := d * bj + zij + c
theorem tv_lt {d bj zij c : Nat} (hd : d < 4294967296) (hb : bj < 4294967296) (hz : zij < 4294967296) (hc : c < 4294967296) : tv d bj zij c < 18446744073709551616 := by
  have := Nat.mul_le_mul (Nat.le_sub_one_of_lt hd) (Nat.le_sub_one_of_lt hb)
  unfold tv; omega
theorem inner {α : Type} {b : List Int} (hb : U b) (L i d : Nat) (hd : d < 4294967296) (hL : i + b.length < L) (F : Nat → List Int → Nat → Nat → Option α) (R : α) (v0 : Nat)
    (hstep : ∀ k z c j, j < b.length → z.length = L → U z → c < 4294967296 →
      F (k + 1) z c j = F k (z.set (i + j) ((tv d (rd b (j : Int)).toNat (rd z ((i + j : Nat) : Int)).toNat c % 4294967296 : Nat) : Int)) (tv d (rd b (j : Int)).toNat (rd z ((i + j : Nat) : Int)).toNat c / 4294967296) (j + 1))
    (hend : ∀ z c, z.length = L → U z → c < 4294967296 → valn z + pw (i + b.length) * c = v0 + pw i * d * valn b → valn (z.drop (i + b.length)) = 0 → Ev (fun k => F k z c b.length) R) (n : Nat) :
    ∀ (j : Nat) (z : List Int) (c : Nat), j + n = b.length → z.length = L → U z → c < 4294967296 → valn z + pw (i + j) * c = v0 + pw i * d * valn (b.take j) → valn (z.drop (i + b.length)) = 0 → Ev (fun k => F k z c j) R := by
  induction n with
  | zero =>
    intro j z c hj hz uz hc hv h0
    obtain rfl : j = b.length := by omega
    rw [List.take_of_length_le (Nat.le_refl _)] at hv
    exact hend z c hz uz hc hv h0
  | succ n ih =>
    intro j z c hj hz uz hc hv h0
    have b1 := U_rd hb (j : Int)
    have b2 := U_rd uz ((i + j : Nat) : Int)
    have ht := tv_lt (d := d) (bj := (rd b (j : Int)).toNat) (zij := (rd z ((i + j : Nat) : Int)).toNat) (c := c) hd (by omega) (by omega) hc
    refine Ev.step (fun k => hstep k z c j (by omega) hz uz hc) (ih (j + 1) _ _ (by omega) (by rw [List.length_set]; exact hz) (U_set uz (by omega) _) (by omega) ?_ ?_)
    · rw [valn_take_succ, ← Nat.add_assoc, pw_succ]
      have hs := valn_set z (i + j) ((tv d (rd b (j : Int)).toNat (rd z ((i + j : Nat) : Int)).toNat c % 4294967296 : Nat) : Int) (by omega)
      rw [Int.toNat_natCast] at hs
      exact mul_step hv hs (by have e : d * (rd b (j : Int)).toNat + (rd z ((i + j : Nat) : Int)).toNat + c = tv d (rd b (j : Int)).toNat (rd z ((i + j : Nat) : Int)).toNat c := rfl
                               rw [e]; omega) (pw_add i j)
    · rw [List.drop_set_of_lt (by omega)]; exact h0
theorem mulLoop {α : Type} {a b : List Int} (ha : U a) (hb : U b) (G : Nat → List Int → Nat → Option α) (F : Nat → Nat → List Int → Nat → Nat → Option α) (R : α)
    (h1 : ∀ k z i, i < a.length → z.length = a.length + b.length → G (k + 1) z i = F k i z 0 0)
    (h2 : ∀ k i z c j, i < a.length → j < b.length → z.length = a.length + b.length → U z → c < 4294967296 →
      F (k + 1) i z c j = F k i (z.set (i + j) ((tv (rd a (i : Int)).toNat (rd b (j : Int)).toNat (rd z ((i + j : Nat) : Int)).toNat c % 4294967296 : Nat) : Int)) (tv (rd a (i : Int)).toNat (rd b (j : Int)).toNat (rd z ((i + j : Nat) : Int)).toNat c / 4294967296) (j + 1))
    (h3 : ∀ k i z (c : Nat), i < a.length → z.length = a.length + b.length → c < 4294967296 → F (k + 1) i z c b.length = G k (z.set (i + b.length) (c : Int)) (i + 1))
    (h4 : ∀ z, U z → z.length = a.length + b.length → valn z = valn a * valn b → Ev (fun k => G k z a.length) R) : Ev (fun k => G k (List.replicate (a.length + b.length) 0) 0) R := by
  have go : ∀ (n i : Nat) (z : List Int), i + n = a.length → z.length = a.length + b.length → U z → valn z = valn (a.take i) * valn b → valn (z.drop (i + b.length)) = 0 → Ev (fun k => G k z i) R := by
    intro n
    induction n with
    | zero =>
      intro i z hi hz uz hv h0
      obtain rfl : i = a.length := by omega
      rw [List.take_of_length_le (Nat.le_refl _)] at hv
      exact h4 z uz hz hv
    | succ n ih =>
      intro i z hi hz uz hv h0
      have a1 := U_rd ha (i : Int)
      refine Ev.step (fun k => h1 k z i (by omega) hz) ?_
      refine inner hb (a.length + b.length) i (rd a (i : Int)).toNat (by omega) (by omega) (fun k z c j => F k i z c j) R (valn z) (fun k z c j hj hz uz hc => h2 k i z c j (by omega) hj hz uz hc) ?_ b.length 0 z 0 (by omega) hz uz (by omega) (by simp [valn_nil]) h0
      intro z' c hz' uz' hc hv' h0'
      refine Ev.step (fun k => h3 k i z' c (by omega) hz' hc) (ih (i + 1) _ (by omega) (by rw [List.length_set]; exact hz') (U_set uz' (by omega) _) ?_ ?_)
      · have hs := valn_set z' (i + b.length) (c : Int) (by omega)
        rw [Int.toNat_natCast] at hs
        have hr : (rd z' ((i + b.length : Nat) : Int)).toNat = 0 := by
          have := valn_drop_rd z' (i + b.length)
          omega
        rw [hr, Nat.mul_zero, Nat.add_zero] at hs
        rw [hs, hv', hv, valn_take_succ, Nat.add_mul]
      · rw [List.drop_set_of_lt (by omega)]
        have := valn_drop_rd z' (i + b.length)
        have e : i + 1 + b.length = i + b.length + 1 := by omega
        rw [e]; omega
  exact go a.length 0 _ (by omega) (by simp) (U_replicate _) (by simp [valn_replicate, valn_nil]) (by rw [List.drop_replicate]; exact valn_replicate _)
theorem times_f {a b : List Int} (ha : U a) (hb : U b) (hs : a.length + b.length < 35184372088832) : Ev (fun k => nat_times.f k a b) (lb (valn a * valn b)) := by
  have go := mulLoop ha hb (fun k z i => nat_times.l0 k b z a (a.length : Int) (i : Int)) (fun k i z c j => nat_times.l1 k b z (i : Int) (rd a (i : Int)) (c : Int) a (a.length : Int) (i : Int) b (b.length : Int) (j : Int)) (lb (valn a * valn b)) ?_ ?_ ?_ ?_
  · refine Ev.congr (fun k => ?_) go
    unfold nat_times.f
    have e : wrap64 ((a.length : Int) + (b.length : Int)) = ((a.length + b.length : Nat) : Int) := by rw [w64 (by omega) (by omega)]; rfl
    rw [e, if_pos (by omega), Int.toNat_natCast, if_pos (by omega)]; rfl
  · intro k z i hi hz
    simp only [nat_times.l0]
    rw [if_pos (by omega), if_pos (by omega), if_pos (by omega)]; rfl
  · intro k i z c j hi hj hz uz hc
    have a1 := U_rd ha (i : Int)
    have b1 := U_rd hb (j : Int)
    have b2 := U_rd uz ((i + j : Nat) : Int)
    have ht := tv_lt (d := (rd a (i : Int)).toNat) (bj := (rd b (j : Int)).toNat) (zij := (rd z ((i + j : Nat) : Int)).toNat) (c := c) (by omega) (by omega) (by omega) hc
    obtain ⟨A, hA⟩ : ∃ A : Nat, rd a (i : Int) = (A : Int) := ⟨(rd a (i : Int)).toNat, by omega⟩
    obtain ⟨B, hB⟩ : ∃ B : Nat, rd b (j : Int) = (B : Int) := ⟨(rd b (j : Int)).toNat, by omega⟩
    obtain ⟨Z, hZ⟩ : ∃ Z : Nat, rd z ((i + j : Nat) : Int) = (Z : Int) := ⟨(rd z ((i + j : Nat) : Int)).toNat, by omega⟩
    have eij : wrap64 ((i : Int) + (j : Int)) = ((i + j : Nat) : Int) := by rw [w64 (by omega) (by omega)]; rfl
    simp only [nat_times.l1]
    rw [if_pos (by omega), if_pos (by omega), if_pos (by omega), eij]
    clear eij
    rw [hA, hB, hZ] at ht ⊢
    simp only [Int.toNat_natCast] at ht ⊢
    have hp : A * B ≤ tv A B Z c := by unfold tv; omega
    have ht2 : A * B + Z + c < 18446744073709551616 := ht
    have e1 : IntKind.u64.wrap (A : Int) = (A : Int) := u64 (by omega) (by omega)
    have e2 : IntKind.u64.wrap (B : Int) = (B : Int) := u64 (by omega) (by omega)
    have e3 : IntKind.u64.wrap (Z : Int) = (Z : Int) := u64 (by omega) (by omega)
    have e4 : IntKind.u64.wrap ((A : Int) * (B : Int)) = ((A * B : Nat) : Int) := by rw [← Int.natCast_mul]; exact u64 (Int.natCast_nonneg _) (by omega)
    have e5 : IntKind.u64.wrap (((A * B : Nat) : Int) + (Z : Int)) = ((A * B + Z : Nat) : Int) := by
      rw [← Int.natCast_add]; exact u64 (Int.natCast_nonneg _) (by
        have : A * B + Z ≤ tv A B Z c := by unfold tv; omega
        omega)
    have e6 : IntKind.u64.wrap (((A * B + Z : Nat) : Int) + (c : Int)) = ((tv A B Z c : Nat) : Int) := by
      rw [← Int.natCast_add]; exact u64 (Int.natCast_nonneg _) (by omega)
    rw [e1, e2, e3, e4, e5, e6]
    clear e1 e2 e3 e4 e5 e6
    generalize tv A B Z c = t at ht ⊢
    have em : ((t : Nat) : Int) % 4294967296 = ((t % 4294967296 : Nat) : Int) := by omega
    have ed : ((t : Nat) : Int) / 4294967296 = ((t / 4294967296 : Nat) : Int) := by omega
    rw [if_pos (by omega), if_pos (by omega), em, ed, up j (by omega)]
  · intro k i z c hi hz hc
    have eij : wrap64 ((i : Int) + (b.length : Int)) = ((i + b.length : Nat) : Int) := by rw [w64 (by omega) (by omega)]; rfl
    have ec : ((c : Nat) : Int) % 4294967296 = (c : Int) := by omega
    simp only [nat_times.l1]
    rw [if_neg (by omega), eij, ec]
    clear eij ec
    rw [if_pos (by omega), if_pos (by omega), up i (by omega), Int.toNat_natCast]
  · intro z uz hz hv
    have h := short_f uz (by omega)
    rw [hv] at h
    refine Ev.step (f := fun k => (nat_short.f k z).bind some) (fun k => ?_) (Ev.bind h (Ev.now _))
    simp only [nat_times.l0]
    rw [if_neg (by omega)]
/-- The product of the values of a list of numbers. -/
def prodv (ls : List (List Int)) : Nat := (ls.map valn).foldr (· * ·) 1
def lensum (ls : List (List Int)) : Nat := (ls.map List.length).sum
theorem Mul_l0 {ls : List (List Int)} (hU : ∀ l ∈ ls, U l) (hL : ls.length ≤ 9223372036854775807) (n0 : Nat) (n : Nat) : ∀ (i : Nat) (s m : Nat), i + n = ls.length → s < pw m → m + lensum (ls.drop i) ≤ n0 → n0 < 35184372088832 →
    Ev (fun k => nat_Mul.l0 k (lb s) ls (ls.length : Int) (i : Int)) (lb (s * prodv (ls.drop i))) := by
  induction n with
  | zero =>
    intro i s m hi hlt hm hn
    obtain rfl : i = ls.length := by omega
    have hlen := lb_len_le hlt
    have h := Trim_f (U_lb s) (by omega)
    rw [valn_lb] at h
    have e : s * prodv (ls.drop ls.length) = s := by simp [prodv]
    rw [e]
    refine Ev.step (f := fun k => (nat_Trim.f k (lb s)).bind some) (fun k => ?_) (Ev.bind h (Ev.now _))
    simp only [nat_Mul.l0]
    rw [if_neg (by omega)]
  | succ n ih =>
    intro i s m hi hlt hm hn
    have hmem := rdL4_mem ls i (by omega)
    have hd := rdL4_at ls i (by omega)
    rw [hd] at hm ⊢
    have hm' : m + ((rd_L4 ls (i : Int)).length + lensum (ls.drop (i + 1))) ≤ n0 := by simpa [lensum] using hm
    have hlen := lb_len_le hlt
    have hlen2 := lb_len (hU _ hmem)
    have h1 := short_f (hU _ hmem) (by omega)
    have h2 := times_f (U_lb s) (U_lb (valn (rd_L4 ls (i : Int)))) (by omega)
    rw [valn_lb, valn_lb] at h2
    have hlt2 : s * valn (rd_L4 ls (i : Int)) < pw (m + (rd_L4 ls (i : Int)).length) := by
      rw [pw_add]
      exact Nat.mul_lt_mul'' hlt (valn_lt (hU _ hmem))
    have h3 := ih (i + 1) _ _ (by omega) hlt2 (by omega) hn
    have e : s * prodv (rd_L4 ls (i : Int) :: ls.drop (i + 1)) = s * valn (rd_L4 ls (i : Int)) * prodv (ls.drop (i + 1)) := by
      simp only [prodv, List.map_cons, List.foldr_cons, Nat.mul_assoc]
    rw [e]
    refine Ev.step (f := fun k => (nat_short.f k (rd_L4 ls (i : Int))).bind fun t => (nat_times.f k (lb s) t).bind fun t' => nat_Mul.l0 k t' ls (ls.length : Int) ((i + 1 : Nat) : Int)) (fun k => ?_) (Ev.bind h1 (Ev.bind h2 h3))
    simp only [nat_Mul.l0]
    rw [if_pos (by omega), if_pos (by omega), if_pos (by omega), up i (by omega)]
theorem lb_one : lb 1 = [1] := by rw [lb_pos (by omega)]; simp [lb_zero]
theorem Mul_f {ls : List (List Int)} (hU : ∀ l ∈ ls, U l) (hs : lensum ls < 35184372088831) (hn : ls.length ≤ 9223372036854775807) : Ev (fun k => nat_Mul.f k ls) (lb (prodv ls)) := by
  have h := Mul_l0 hU hn (1 + lensum ls) ls.length 0 1 1 (by omega) (by rw [pw_succ, pw_zero]; omega) (by simp) (by omega)
  rw [lb_one] at h
  simpa [nat_Mul.f] using h
theorem Mul_two {a b : List Int} (ha : U a) (hb : U b) (hs : a.length + b.length < 30000000000000) : Ev (fun k => nat_Mul.f k [a, b]) (lb (valn a * valn b)) := by
  have h := Mul_f (ls := [a, b]) (by intro l hl; simp at hl; rcases hl with rfl | rfl <;> assumption) (by simp [lensum]; omega) (by simp)
  simpa [prodv] using h
end Go.Proofs.Ytecfdemglbfnoaa.Num
end
section
namespace Go.Proofs.Ytecfdemglbfnoaa.Num
open Go.RowKit Go.Proofs.Ytecfdemglbfnoaa.PT Go.Proofs.YtecfdemglbfnoaaW.PrintWords Go.Proofs.YtecfdemglbfnoaaW.PrintLast Go.Proofs.YtecfdemglbfnoaaW.PrintMore
def cmpn (m n : Nat) : Int := if m < n then -1 else if n < m then 1 else 0
theorem cmpn_self (m : Nat) : cmpn m m = 0 := by simp [cmpn]
theorem valn_split (l : List Int) (n : Nat) : valn l = valn (l.take n) + pw n * valn (l.drop n) := by
  by_cases h : n ≤ l.length
  · exact valn_take_drop l n h
  · rw [List.take_of_length_le (by omega), List.drop_eq_nil_of_le (by omega), valn_nil]; simp
theorem take_lt {l : List Int} (h : U l) (n : Nat) : valn (l.take n) < pw n :=
  Nat.lt_of_lt_of_le (valn_lt (U_take h n)) (pw_mono (by rw [List.length_take]; omega))
theorem top_lt {a b : List Int} (ha : U a) (n : Nat) (hd : valn (a.drop (n + 1)) = valn (b.drop (n + 1))) (h : (rd a (n : Int)).toNat < (rd b (n : Int)).toNat) : valn a < valn b := by
  have h1 := take_lt ha n
  have h2 := valn_split a n
  have h3 := valn_split b n
  have h4 := valn_drop_rd a n
  have h5 := valn_drop_rd b n
  have h6 : pw n * (valn (a.drop n) + 1) ≤ pw n * valn (b.drop n) := Nat.mul_le_mul_left _ (by omega)
  rw [Nat.mul_add] at h6
  omega
theorem Cmp_l0 {a b : List Int} (ha : U a) (hb : U b) (he : a.length = b.length) (hs : a.length < 9223372036854775807) : ∀ n : Nat, n ≤ a.length → valn (a.drop n) = valn (b.drop n) →
    Ev (fun k => nat_Cmp.l0 k a b ((n : Int) - 1)) (cmpn (valn a) (valn b)) := by
  intro n
  induction n with
  | zero =>
    intro hn hd
    simp only [List.drop_zero] at hd
    rw [hd, cmpn_self]
    refine Ev.step (f := fun _ => some 0) (fun k => ?_) (Ev.now _)
    simp only [nat_Cmp.l0]
    rw [if_neg (by omega)]
  | succ n ih =>
    intro hn hd
    have e1 : ((n + 1 : Nat) : Int) - 1 = (n : Int) := by omega
    have a1 := U_rd ha (n : Int)
    have b1 := U_rd hb (n : Int)
    rw [e1]
    by_cases h1 : rd a (n : Int) < rd b (n : Int)
    · have := top_lt ha n hd (by omega)
      have ec : cmpn (valn a) (valn b) = -1 := by unfold cmpn; rw [if_pos this]
      rw [ec]
      refine Ev.step (f := fun _ => some (-1)) (fun k => ?_) (Ev.now _)
      simp only [nat_Cmp.l0]
      rw [if_pos (by omega), if_pos (by omega), if_pos (by omega), if_pos (by omega), if_pos h1]
    · by_cases h2 : rd b (n : Int) < rd a (n : Int)
      · have := top_lt hb n hd.symm (by omega)
        have ec : cmpn (valn a) (valn b) = 1 := by unfold cmpn; rw [if_neg (by omega), if_pos this]
        rw [ec]
        refine Ev.step (f := fun _ => some 1) (fun k => ?_) (Ev.now _)
        simp only [nat_Cmp.l0]
        rw [if_pos (by omega), if_pos (by omega), if_pos (by omega), if_pos (by omega), if_neg h1, if_pos (by omega)]
      · refine Ev.step (f := fun k => nat_Cmp.l0 k a b ((n : Int) - 1)) (fun k => ?_) (ih (by omega) (by have := valn_drop_rd a n; have := valn_drop_rd b n; omega))
        simp only [nat_Cmp.l0]
        rw [if_pos (by omega), if_pos (by omega), if_pos (by omega), if_pos (by omega), if_neg h1, if_neg (by omega), w64 (by omega) (by omega)]
theorem Cmp_f {a b : List Int} (ha : U a) (hb : U b) (hsa : a.length < 9223372036854775807) (hsb : b.length < 9223372036854775807) : Ev (fun k => nat_Cmp.f k a b) (cmpn (valn a) (valn b)) := by
  unfold nat_Cmp.f
  refine Ev.bind (short_f ha (by omega)) (Ev.bind (short_f hb (by omega)) ?_)
  have la := lb_len ha
  have lbb := lb_len hb
  by_cases h : (lb (valn a)).length = (lb (valn b)).length
  · have go := Cmp_l0 (U_lb (valn a)) (U_lb (valn b)) h (by omega) (lb (valn a)).length (Nat.le_refl _) (by rw [List.drop_eq_nil_of_le (Nat.le_refl _), List.drop_eq_nil_of_le (by omega)])
    rw [valn_lb, valn_lb] at go
    refine Ev.congr (fun k => ?_) go
    rw [if_pos (by omega), w64 (by omega) (by omega)]
  · by_cases h2 : (lb (valn a)).length < (lb (valn b)).length
    · have ec : cmpn (valn a) (valn b) = -1 := by unfold cmpn; rw [if_pos (len_lt_of_lt h2)]
      rw [ec]
      refine Ev.congr (f := fun _ => some (-1)) (fun k => ?_) (Ev.now _)
      rw [if_neg (by omega), if_pos (by omega)]
    · have := len_lt_of_lt (m := valn b) (n := valn a) (by omega)
      have ec : cmpn (valn a) (valn b) = 1 := by unfold cmpn; rw [if_neg (by omega), if_pos this]
      rw [ec]
      refine Ev.congr (f := fun _ => some 1) (fun k => ?_) (Ev.now _)
      rw [if_neg (by omega), if_neg (by omega)]
theorem Same_l0 {a b : List Int} (he : a.length = b.length) (hs : a.length < 9223372036854775807) (n : Nat) : ∀ i : Nat, i + n = a.length → a.take i = b.take i →
    Ev (fun k => codewrightref01_Same.l0 k a b (i : Int)) (decide (a = b)) := by
  induction n with
  | zero =>
    intro i hi ht
    rw [List.take_of_length_le (by omega), List.take_of_length_le (by omega)] at ht
    rw [decide_eq_true ht]
    refine Ev.step (f := fun _ => some true) (fun k => ?_) (Ev.now _)
    simp only [codewrightref01_Same.l0]
    rw [if_neg (by omega)]
  | succ n ih =>
    intro i hi ht
    by_cases e : rd a (i : Int) = rd b (i : Int)
    · refine Ev.step (fun k => ?_) (ih (i + 1) (by omega) (by rw [take_rd a i (by omega), take_rd b i (by omega), ht, e]))
      simp only [codewrightref01_Same.l0]
      rw [if_pos (by omega), if_pos (by omega), if_pos (by omega), if_pos e, up i (by omega)]
    · have hne : a ≠ b := by rintro rfl; exact e rfl
      rw [decide_eq_false hne]
      refine Ev.step (f := fun _ => some false) (fun k => ?_) (Ev.now _)
      simp only [codewrightref01_Same.l0]
      rw [if_pos (by omega), if_pos (by omega), if_pos (by omega), if_neg e]
theorem Same_f {a b : List Int} (hs : a.length < 9223372036854775807) : Ev (fun k => codewrightref01_Same.f k a b) (decide (a = b)) := by
  unfold codewrightref01_Same.f
  by_cases h : a.length = b.length
  · exact Ev.congr (fun k => if_pos (by omega)) (Same_l0 h hs a.length 0 (by omega) rfl)
  · have hne : a ≠ b := by rintro rfl; exact h rfl
    rw [decide_eq_false hne]
    exact Ev.congr (f := fun _ => some false) (fun k => if_neg (by omega)) (Ev.now _)
end Go.Proofs.Ytecfdemglbfnoaa.Num
end
section
namespace Go.Proofs.Ytecfdemglbfnoaa.PT
open Go.RowKit Go.Proofs.YtecfdemglbfnoaaW.PrintWords Go.Proofs.YtecfdemglbfnoaaW.PrintLast Go.Proofs.YtecfdemglbfnoaaW.PrintMore
attribute [local go_sem] max2_int min2_int max_two min_two max_three min_three max_four min_four   -- for this text's walks alone
set_option linter.unusedVariables false
set_option linter.unusedSimpArgs false
def semiring_cost.f (a0 : Int) : Option (Int) := some (mn (mx a0 0) 4611686018427387904)
end Go.Proofs.Ytecfdemglbfnoaa.PT
end
section
namespace Go.Proofs.Ytecfdemglbfnoaa.PT
open Go.RowKit Go.Proofs.YtecfdemglbfnoaaW.PrintWords Go.Proofs.YtecfdemglbfnoaaW.PrintLast Go.Proofs.YtecfdemglbfnoaaW.PrintMore
attribute [local go_sem] max2_int min2_int max_two min_two max_three min_three max_four min_four   -- for this text's walks alone
set_option linter.unusedVariables false
set_option linter.unusedSimpArgs false
end Go.Proofs.Ytecfdemglbfnoaa.PT
end
section
namespace Go.Proofs.Ytecfdemglbfnoaa.PT
open Go.RowKit Go.Proofs.YtecfdemglbfnoaaW.PrintWords Go.Proofs.YtecfdemglbfnoaaW.PrintLast Go.Proofs.YtecfdemglbfnoaaW.PrintMore
attribute [local go_sem] max2_int min2_int max_two min_two max_three min_three max_four min_four   -- for this text's walks alone
set_option linter.unusedVariables false
set_option linter.unusedSimpArgs false
def semiring_capped.f (a0 : Int) (a1 : Int) : Option (Int) := if a0 > (wrap64 (4611686018427387904 - a1)) then (some 4611686018427387904) else (some (wrap64 (a0 + a1)))
end Go.Proofs.Ytecfdemglbfnoaa.PT
end
section
namespace Go.Proofs.Ytecfdemglbfnoaa.PT
open Go.RowKit Go.Proofs.YtecfdemglbfnoaaW.PrintWords Go.Proofs.YtecfdemglbfnoaaW.PrintLast Go.Proofs.YtecfdemglbfnoaaW.PrintMore
attribute [local go_sem] max2_int min2_int max_two min_two max_three min_three max_four min_four   -- for this text's walks alone
set_option linter.unusedVariables false
set_option linter.unusedSimpArgs false
def semiring_MinPlus_Mul.f  (a1 : Int) (a2 : Int) : Option (Int) := (semiring_cost.f a1).bind fun t133 => ((semiring_cost.f a2).bind fun t134 => ((semiring_capped.f t133 t134).bind fun t135 => (some t135)))
end Go.Proofs.Ytecfdemglbfnoaa.PT
end
section
namespace Go.Proofs.Ytecfdemglbfnoaa.PT
open Go.RowKit Go.Proofs.YtecfdemglbfnoaaW.PrintWords Go.Proofs.YtecfdemglbfnoaaW.PrintLast Go.Proofs.YtecfdemglbfnoaaW.PrintMore
attribute [local go_sem] max2_int min2_int max_two min_two max_three min_three max_four min_four   -- for this text's walks alone
set_option linter.unusedVariables false
set_option linter.unusedSimpArgs false
end Go.Proofs.Ytecfdemglbfnoaa.PT
end
section
namespace Go.Proofs.Ytecfdemglbfnoaa.PT
open Go.RowKit Go.Proofs.YtecfdemglbfnoaaW.PrintWords Go.Proofs.YtecfdemglbfnoaaW.PrintLast Go.Proofs.YtecfdemglbfnoaaW.PrintMore
attribute [local go_sem] max2_int min2_int max_two min_two max_three min_three max_four min_four   -- for this text's walks alone
set_option linter.unusedVariables false
set_option linter.unusedSimpArgs false
end Go.Proofs.Ytecfdemglbfnoaa.PT
end
section
namespace Go.Proofs.Ytecfdemglbfnoaa.PT
open Go.RowKit Go.Proofs.YtecfdemglbfnoaaW.PrintWords Go.Proofs.YtecfdemglbfnoaaW.PrintLast Go.Proofs.YtecfdemglbfnoaaW.PrintMore
attribute [local go_sem] max2_int min2_int max_two min_two max_three min_three max_four min_four   -- for this text's walks alone
set_option linter.unusedVariables false
set_option linter.unusedSimpArgs false
def semiring_MinPlus_Same.f  (a1 : Int) (a2 : Int) : Option (Bool) := (semiring_cost.f a1).bind fun t139 => ((semiring_cost.f a2).bind fun t140 => (some (t139 == t140)))
end Go.Proofs.Ytecfdemglbfnoaa.PT
end
section
namespace Go.Proofs.Ytecfdemglbfnoaa.PT
open Go.RowKit Go.Proofs.YtecfdemglbfnoaaW.PrintWords Go.Proofs.YtecfdemglbfnoaaW.PrintLast Go.Proofs.YtecfdemglbfnoaaW.PrintMore
attribute [local go_sem] max2_int min2_int max_two min_two max_three min_three max_four min_four   -- for this text's walks alone
set_option linter.unusedVariables false
set_option linter.unusedSimpArgs false
end Go.Proofs.Ytecfdemglbfnoaa.PT
end
section
namespace Go.Proofs.Ytecfdemglbfnoaa.PT
open Go.RowKit Go.Proofs.YtecfdemglbfnoaaW.PrintWords Go.Proofs.YtecfdemglbfnoaaW.PrintLast Go.Proofs.YtecfdemglbfnoaaW.PrintMore
attribute [local go_sem] max2_int min2_int max_two min_two max_three min_three max_four min_four   -- for this text's walks alone
set_option linter.unusedVariables false
set_option linter.unusedSimpArgs false
end Go.Proofs.Ytecfdemglbfnoaa.PT
end
section
namespace Go.Proofs.Ytecfdemglbfnoaa.PT
open Go.RowKit Go.Proofs.YtecfdemglbfnoaaW.PrintWords Go.Proofs.YtecfdemglbfnoaaW.PrintLast Go.Proofs.YtecfdemglbfnoaaW.PrintMore
attribute [local go_sem] max2_int min2_int max_two min_two max_three min_three max_four min_four   -- for this text's walks alone
set_option linter.unusedVariables false
set_option linter.unusedSimpArgs false
end Go.Proofs.Ytecfdemglbfnoaa.PT
end
section
namespace Go.Proofs.Ytecfdemglbfnoaa.PT
open Go.RowKit Go.Proofs.YtecfdemglbfnoaaW.PrintWords Go.Proofs.YtecfdemglbfnoaaW.PrintLast Go.Proofs.YtecfdemglbfnoaaW.PrintMore
attribute [local go_sem] max2_int min2_int max_two min_two max_three min_three max_four min_four   -- for this text's walks alone
set_option linter.unusedVariables false
set_option linter.unusedSimpArgs false
end Go.Proofs.Ytecfdemglbfnoaa.PT
end
section
namespace Go.Proofs.Ytecfdemglbfnoaa.PT
open Go.RowKit Go.Proofs.YtecfdemglbfnoaaW.PrintWords Go.Proofs.YtecfdemglbfnoaaW.PrintLast Go.Proofs.YtecfdemglbfnoaaW.PrintMore
attribute [local go_sem] max2_int min2_int max_two min_two max_three min_three max_four min_four   -- for this text's walks alone
set_option linter.unusedVariables false
set_option linter.unusedSimpArgs false
end Go.Proofs.Ytecfdemglbfnoaa.PT
end
section
namespace Go.Proofs.Ytecfdemglbfnoaa.PT
open Go.RowKit Go.Proofs.YtecfdemglbfnoaaW.PrintWords Go.Proofs.YtecfdemglbfnoaaW.PrintLast Go.Proofs.YtecfdemglbfnoaaW.PrintMore
attribute [local go_sem] max2_int min2_int max_two min_two max_three min_three max_four min_four   -- for this text's walks alone
set_option linter.unusedVariables false
set_option linter.unusedSimpArgs false
end Go.Proofs.Ytecfdemglbfnoaa.PT
end
section
namespace Go.Proofs.Ytecfdemglbfnoaa.Pure
open Go.RowKit Go.Proofs.Ytecfdemglbfnoaa.PT Go.Proofs.YtecfdemglbfnoaaW.PrintWords Go.Proofs.YtecfdemglbfnoaaW.PrintLast Go.Proofs.YtecfdemglbfnoaaW.PrintMore
def cst (a : Int) : Int := if a < 0 then 0 else if 4611686018427387904 < a then 4611686018427387904 else a
def csum (a b : Int) : Int := if 4611686018427387904 < cst a + cst b then 4611686018427387904 else cst a + cst b
theorem cst_bd (a : Int) : 0 ≤ cst a ∧ cst a ≤ 4611686018427387904 := by unfold cst; omega
theorem cost_f (a : Int) : semiring_cost.f a = some (cst a) := by
  unfold semiring_cost.f mn mx cst; congr 1; omega
theorem capped_f {a b : Int} (ha : 0 ≤ a) (ha' : a ≤ 4611686018427387904) (hb : 0 ≤ b) (hb' : b ≤ 4611686018427387904) :
    semiring_capped.f a b = some (if 4611686018427387904 < a + b then 4611686018427387904 else a + b) := by
  unfold semiring_capped.f wrap64
  by_cases h : 4611686018427387904 < a + b
  · rw [if_pos (by omega), if_pos h]
  · rw [if_neg (by omega), if_neg h]; congr 1; omega
theorem Mul_f (a b : Int) : semiring_MinPlus_Mul.f a b = some (csum a b) := by
  have := cst_bd a; have := cst_bd b
  simp only [semiring_MinPlus_Mul.f, cost_f, Option.bind_some]
  rw [capped_f (by omega) (by omega) (by omega) (by omega)]; rfl
theorem Same_f (a b : Int) : semiring_MinPlus_Same.f a b = some (cst a == cst b) := by
  simp [semiring_MinPlus_Same.f, cost_f]
end Go.Proofs.Ytecfdemglbfnoaa.Pure
end
section
namespace Go.Proofs.Ytecfdemglbfnoaa.PT
open Go.RowKit Go.Proofs.YtecfdemglbfnoaaW.PrintWords Go.Proofs.YtecfdemglbfnoaaW.PrintLast Go.Proofs.YtecfdemglbfnoaaW.PrintMore
attribute [local go_sem] max2_int min2_int max_two min_two max_three min_three max_four min_four   -- for this text's walks alone
set_option linter.unusedVariables false
set_option linter.unusedSimpArgs false
end Go.Proofs.Ytecfdemglbfnoaa.PT
end
section
namespace Go.Proofs.Ytecfdemglbfnoaa.PT
open Go.RowKit Go.Proofs.YtecfdemglbfnoaaW.PrintWords Go.Proofs.YtecfdemglbfnoaaW.PrintLast Go.Proofs.YtecfdemglbfnoaaW.PrintMore
attribute [local go_sem] max2_int min2_int max_two min_two max_three min_three max_four min_four   -- for this text's walks alone
set_option linter.unusedVariables false
set_option linter.unusedSimpArgs false
end Go.Proofs.Ytecfdemglbfnoaa.PT
end
section
namespace Go.Proofs.Ytecfdemglbfnoaa.PT
open Go.RowKit Go.Proofs.YtecfdemglbfnoaaW.PrintWords Go.Proofs.YtecfdemglbfnoaaW.PrintLast Go.Proofs.YtecfdemglbfnoaaW.PrintMore
attribute [local go_sem] max2_int min2_int max_two min_two max_three min_three max_four min_four   -- for this text's walks alone
set_option linter.unusedVariables false
set_option linter.unusedSimpArgs false
end Go.Proofs.Ytecfdemglbfnoaa.PT
end
section
namespace Go.Proofs.Ytecfdemglbfnoaa.PT
open Go.RowKit Go.Proofs.YtecfdemglbfnoaaW.PrintWords Go.Proofs.YtecfdemglbfnoaaW.PrintLast Go.Proofs.YtecfdemglbfnoaaW.PrintMore
attribute [local go_sem] max2_int min2_int max_two min_two max_three min_three max_four min_four   -- for this text's walks alone
set_option linter.unusedVariables false
set_option linter.unusedSimpArgs false
end Go.Proofs.Ytecfdemglbfnoaa.PT
end
section
namespace Go.Proofs.Ytecfdemglbfnoaa.PT
open Go.RowKit Go.Proofs.YtecfdemglbfnoaaW.PrintWords Go.Proofs.YtecfdemglbfnoaaW.PrintLast Go.Proofs.YtecfdemglbfnoaaW.PrintMore
attribute [local go_sem] max2_int min2_int max_two min_two max_three min_three max_four min_four   -- for this text's walks alone
set_option linter.unusedVariables false
set_option linter.unusedSimpArgs false
end Go.Proofs.Ytecfdemglbfnoaa.PT
end
section
namespace Go.Proofs.Ytecfdemglbfnoaa.PT
open Go.RowKit Go.Proofs.YtecfdemglbfnoaaW.PrintWords Go.Proofs.YtecfdemglbfnoaaW.PrintLast Go.Proofs.YtecfdemglbfnoaaW.PrintMore
attribute [local go_sem] max2_int min2_int max_two min_two max_three min_three max_four min_four   -- for this text's walks alone
set_option linter.unusedVariables false
set_option linter.unusedSimpArgs false
end Go.Proofs.Ytecfdemglbfnoaa.PT
end
section
namespace Go.Proofs.Ytecfdemglbfnoaa.PT
open Go.RowKit Go.Proofs.YtecfdemglbfnoaaW.PrintWords Go.Proofs.YtecfdemglbfnoaaW.PrintLast Go.Proofs.YtecfdemglbfnoaaW.PrintMore
attribute [local go_sem] max2_int min2_int max_two min_two max_three min_three max_four min_four   -- for this text's walks alone
set_option linter.unusedVariables false
set_option linter.unusedSimpArgs false
end Go.Proofs.Ytecfdemglbfnoaa.PT
end
section
namespace Go.Proofs.Ytecfdemglbfnoaa.Num
open Go.RowKit Go.Proofs.Ytecfdemglbfnoaa.PT Go.Proofs.YtecfdemglbfnoaaW.PrintWords Go.Proofs.YtecfdemglbfnoaaW.PrintLast Go.Proofs.YtecfdemglbfnoaaW.PrintMore
theorem Ev_succ {α : Type} {g : Nat → Option α} {r : α} (h : Ev (fun k => g (k + 1)) r) : Ev g r := Ev.step (fun _ => rfl) h
end Go.Proofs.Ytecfdemglbfnoaa.Num
end
section
namespace Go.Proofs.Ytecfdemglbfnoaa.Num
open Go.RowKit Go.Proofs.Ytecfdemglbfnoaa.PT Go.Proofs.YtecfdemglbfnoaaW.PrintWords Go.Proofs.YtecfdemglbfnoaaW.PrintLast Go.Proofs.YtecfdemglbfnoaaW.PrintMore
theorem bits_or_comm (x y : Int) : Go.bits .or .u64 x y = Go.bits .or .u64 y x := by
  unfold Go.bits
  simp [BitVec.or_comm]
theorem padn_of_mod {z : List Int} (uz : U z) {K m : Nat} (hz : z.length = K) (h : valn z = m % pw K) : z = padn K m := by
  have h1 := padn_valn uz
  rw [hz, h] at h1
  rw [← h1]
  have e := Nat.mod_add_div m (pw K)
  conv => rhs; rw [← e]
  rw [padn_mod]
theorem stepat_f {u v : List Int} (uu : U u) (uv : U v) (h2 : 2 ≤ v.length) (hn : 2147483648 ≤ rd v ((v.length - 1 : Nat) : Int)) (hL : u.length ≤ 1000002) (j : Nat) (hj : j + v.length + 1 ≤ u.length) (hlt : valn (u.drop (j + 1)) < valn v) :
    Ev (fun k => stepat k u (j : Int) v (v.length : Int)) (((valn (u.drop j) / valn v : Nat) : Int), sp u j (padn (v.length + 1) (valn (u.drop j) % valn v))) := by
  obtain ⟨h3, h4⟩ := win_val uu uv j hj hlt
  have h5 := step_f (u := (u.drop j).take (v.length + 1)) (v := v) (U_take (U_drop uu j) _) uv (win_len u j (v.length + 1) (by omega)) h2 (by omega) hn (by rw [h3]; exact h4)
  rw [h3] at h5
  refine Ev.congr (f := fun k => (nat_step.f k ((u.drop j).take (v.length + 1)) v).bind fun r => some (r.1, sp u j r.2)) (fun k => ?_) (Ev.bind h5 (Ev.now _))
  unfold stepat
  rw [if_pos ⟨by omega, rfl, by rw [Int.toNat_natCast]; omega, by omega⟩, Int.toNat_natCast]
theorem long_l1 {u q : List Int} (uu : U u) (n K : Nat) (hn : n ≤ 31) (hk : K + 1 ≤ u.length) (hu : u.length ≤ 1000002) (d : Nat) : ∀ (i : Nat) (z : List Int), i + d = K → z.length = K → U z → valn (z.take i) = (valn u / 2 ^ n) % pw i →
    Ev (fun k => nat_longw.l1 k q z (n : Int) u (K : Int) (i : Int)) (q, padn K (valn u / 2 ^ n)) := by
  induction d with
  | zero =>
    intro i z hi hz uz hv
    obtain rfl : i = K := by omega
    rw [List.take_of_length_le (by omega)] at hv
    rw [← padn_of_mod uz hz hv]
    refine Ev.step (f := fun _ => some (q, z)) (fun k => ?_) (Ev.now _)
    simp only [nat_longw.l1]
    rw [if_neg (by omega)]
  | succ d ih =>
    intro i z hi hz uz hv
    obtain ⟨x, ex, hx⟩ := rd_nat uu (i : Int)
    obtain ⟨y, ey, hy⟩ := rd_nat uu ((i + 1 : Nat) : Int)
    have hl := limb_shr uu n hn i
    rw [ex, ey, Int.toNat_natCast, Int.toNat_natCast] at hl
    have et : shr .u64 (Go.bits .or .u64 (IntKind.u64.wrap (rd u (i : Int))) (IntKind.u64.wrap (IntKind.u64.wrap (rd u ((i + 1 : Nat) : Int)) * 4294967296))) (n : Int) % 4294967296 = (((valn u / 2 ^ n / pw i % 4294967296 : Nat)) : Int) := by
      have e : (y : Int) * 4294967296 = ((y * 4294967296 : Nat) : Int) := by simp
      rw [ex, ey, u64 (x := (x : Int)) (by omega) (by omega), u64 (x := (y : Int)) (by omega) (by omega), e, u64 (x := ((y * 4294967296 : Nat) : Int)) (by omega) (by omega), bits_or_comm, or64 32 _ _ (by simp) (by omega) (by omega) (by omega)]
      unfold shr
      have hm : min ((n : Int)).toNat IntKind.u64.bits = n := by
        rw [Int.toNat_natCast]; exact Nat.min_eq_left (by show n ≤ 64; omega)
      rw [hm, hl, Nat.add_comm (y * 4294967296), Nat.mul_comm y, Int.natCast_emod, Int.natCast_ediv, Int.natCast_pow]; rfl
    have hb : valn u / 2 ^ n / pw i % 4294967296 < 4294967296 := Nat.mod_lt _ (by decide)
    generalize hd : valn u / 2 ^ n / pw i % 4294967296 = D at et hb
    have step := ih (i + 1) (z.set i (D : Int)) (by omega) (by rw [List.length_set]; exact hz) (U_set uz (by omega) _) (by
      rw [valn_set_take z i _ (by omega), Int.toNat_natCast, hv, mod_pw_succ, hd])
    refine Ev.step (fun k => ?_) step
    simp only [nat_longw.l1]
    rw [up i (by omega), if_pos (by omega), if_pos (by omega), if_pos (by omega), if_pos (by omega), if_pos (by omega), if_pos (by omega), if_pos (by omega), et, Int.toNat_natCast]
theorem long_l0 {v : List Int} (uv : U v) (h2 : 2 ≤ v.length) (hn : 2147483648 ≤ rd v ((v.length - 1 : Nat) : Int)) (n : Nat) (hn31 : n ≤ 31) (S L : Nat) (hL : v.length + 1 ≤ L) (hL' : L ≤ 1000002) : ∀ (j : Nat) (q u : List Int), u.length = L → U u → q.length = L - v.length → U q → j ≤ L - v.length →
    valn (u.drop j) < valn v → valn (u.take j) + pw j * valn (u.drop j) + valn v * pw j * valn (q.drop j) = S →
    Ev (fun k => nat_longw.l0 k q (n : Int) v u (v.length : Int) ((j : Int) - 1)) (padn (L - v.length) (S / valn v), padn v.length (S % valn v / 2 ^ n)) := by
  intro j
  induction j with
  | zero =>
    intro q u hu uu hq uq _ hlt hS
    rw [List.take_zero, List.drop_zero, List.drop_zero, pw_zero, valn_nil, Nat.mul_one, Nat.one_mul, Nat.zero_add] at hS
    rw [List.drop_zero] at hlt
    have hv0 : 0 < valn v := by omega
    have h3 := quo_of (u := S) (v := valn v) (q := valn q) (by rw [← hS, Nat.mul_comm]; omega) (by rw [← hS, Nat.mul_comm]; omega)
    have h4 : S % valn v = valn u := by rw [h3.2, ← hS, Nat.mul_comm (valn v)]; omega
    have hqp : padn (L - v.length) (S / valn v) = q := by rw [h3.1, ← hq]; exact padn_valn uq
    rw [hqp, h4]
    have h5 := long_l1 (q := q) uu n v.length hn31 (by omega) (by omega) v.length 0 (List.replicate v.length 0) (by omega) (by simp) (U_replicate _) (by rw [List.take_zero, valn_nil, pw_zero, Nat.mod_one])
    refine Ev.step (fun k => ?_) h5
    simp only [nat_longw.l0]
    rw [if_neg (by omega), if_pos (by omega), Int.toNat_natCast, if_pos (by omega), Option.bind_some, List.length_replicate]; rfl
  | succ j ih =>
    intro q u hu uu hq uq hj hlt hS
    have hj1 : j + v.length + 1 ≤ u.length := by omega
    obtain ⟨h3, h4⟩ := win_val uu uv j hj1 hlt
    obtain ⟨a1, a2, a3, a4⟩ := win_after uu uv j hj1 hlt
    have hst := stepat_f uu uv h2 hn (by omega) j hj1 hlt
    have hv0 : 0 < valn v := by omega
    have hqb : valn (u.drop j) / valn v < 4294967296 := (Nat.div_lt_iff_lt_mul hv0).mpr h4
    have e0 : valn u = valn (u.take j) + pw j * valn (u.drop j) := valn_splitD u j
    have e1 : valn u = valn (u.take (j + 1)) + pw (j + 1) * valn (u.drop (j + 1)) := valn_splitD u (j + 1)
    rw [← e1, e0, pw_succ] at hS
    have hinv := long_inv hS
    have uq' : U (q.set j ((valn (u.drop j) / valn v : Nat) : Int)) := U_set uq ⟨Int.natCast_nonneg _, by omega⟩ _
    have hqd : valn ((q.set j ((valn (u.drop j) / valn v : Nat) : Int)).drop j) = valn (u.drop j) / valn v + 4294967296 * valn (q.drop (j + 1)) := by
      rw [valn_drop_rd, rd_set_eq _ _ _ (by omega), Int.toNat_natCast, List.drop_set_of_lt (by omega)]
    have htk : (sp u j (padn (v.length + 1) (valn (u.drop j) % valn v))).take j = u.take j := sp_take _ _ _ (by rw [padn_len]; omega)
    have step := ih (q.set j ((valn (u.drop j) / valn v : Nat) : Int)) (sp u j (padn (v.length + 1) (valn (u.drop j) % valn v))) (by rw [a4]; exact hu) a3 (by rw [List.length_set]; exact hq) uq' (by omega) (by rw [a1]; exact Nat.mod_lt _ hv0) (by
      rw [htk, a1, hqd]; exact hinv)
    refine Ev_succ ?_
    have ej : ((j + 1 : Nat) : Int) - 1 = (j : Int) := by omega
    simp only [nat_longw.l0, ej]
    refine Ev.congr (fun k => ?_) (Ev.bind (f := fun k r => nat_longw.l0 k (q.set j r.1) (n : Int) v r.2 (v.length : Int) ((j : Int) - 1)) hst step)
    rw [if_pos (by omega)]
    congr 1
    funext r
    rw [if_pos (by omega), if_pos (by omega), w64 (by omega) (by omega), Int.toNat_natCast]
theorem lz_top {n : Nat} (h0 : n ≠ 0) (h : n < 4294967296) : (n + 1) * 2 ^ (32 - sz n) ≤ 4294967296 := by
  have hb : sz n ≤ 32 := sz_le (b := 32) h
  have h3 := (sz_spec h0).2
  have e2 : (4294967296 : Nat) = 2 ^ sz n * 2 ^ (32 - sz n) := by rw [← Nat.pow_add, show sz n + (32 - sz n) = 32 from by omega]
  conv => rhs; rw [e2]
  exact Nat.mul_le_mul_right _ h3
theorem top_val {b : List Int} {M t : Nat} (hM : b.length = M + 1) (et : rd b (M : Int) = (t : Int)) : valn b = valn (b.take M) + pw M * t := by
  have a1 := valn_splitD b M
  have a2 := valn_drop_rd b M
  have z0 : b.drop (M + 1) = [] := List.drop_eq_nil_of_le (by omega)
  rw [z0, valn_nil, et, Int.toNat_natCast, Nat.mul_zero, Nat.add_zero] at a2
  rw [a1, a2]
theorem norm_up {x p t c B : Nat} (h1 : x < p) (h : (t + 1) * c ≤ B) (hc : 0 < c) : (x + p * t) * c < p * B := by
  have h2 : (x + p * t + 1) * c ≤ p * (t + 1) * c := Nat.mul_le_mul_right _ (by rw [Nat.mul_add, Nat.mul_one]; omega)
  have h3 : p * (t + 1) * c ≤ p * B := by rw [Nat.mul_assoc]; exact Nat.mul_le_mul_left _ h
  rw [Nat.add_mul _ 1, Nat.one_mul] at h2
  exact Nat.lt_of_lt_of_le (Nat.lt_add_of_pos_right hc) (Nat.le_trans h2 h3)
theorem norm_low {x p t c H : Nat} (h : H ≤ t * c) : p * H ≤ (x + p * t) * c := by
  rw [Nat.add_mul, Nat.mul_assoc]
  exact Nat.le_trans (Nat.mul_le_mul_left _ h) (Nat.le_add_left _ _)
theorem lb_len_eq {V M : Nat} (h1 : V < pw (M + 1)) (h2 : pw M ≤ V) : (lb V).length = M + 1 := by
  have h3 := lb_len_le h1
  have h4 := lt_pow_len V
  by_cases c : (lb V).length = M + 1
  · exact c
  · exact absurd (Nat.lt_of_lt_of_le h4 (Nat.le_trans (pw_mono (show (lb V).length ≤ M from by omega)) h2)) (Nat.lt_irrefl _)
theorem lb_top {V M H : Nat} (h2 : pw M * H ≤ V) (hl : (lb V).length = M + 1) : (H : Int) ≤ rd (lb V) (M : Int) := by
  obtain ⟨x, ex, hx⟩ := rd_nat (U_lb V) (M : Int)
  have a1 := top_val hl ex
  rw [valn_lb] at a1
  have a3 := take_lt' (U_lb V) M
  rw [ex]
  by_cases c : H ≤ x
  · omega
  · exfalso
    have h3 : pw M * (x + 1) ≤ pw M * H := Nat.mul_le_mul_left _ (by omega)
    rw [Nat.mul_add, Nat.mul_one] at h3
    generalize pw M * x = y at *
    generalize pw M * H = z at *
    omega
/-- The divisor, shifted so that its last limb is at least half the base. -/
theorem norm_div {b : List Int} (ub : U b) {M t : Nat} (hM : b.length = M + 1) (et : rd b (M : Int) = (t : Int)) (ht : t < 4294967296) (ht0 : t ≠ 0) :
    valn b * 2 ^ (32 - sz t) < pw (M + 1) ∧ (lb (valn b * 2 ^ (32 - sz t))).length = M + 1 ∧ 2147483648 ≤ rd (lb (valn b * 2 ^ (32 - sz t))) (M : Int) := by
  obtain ⟨z1, _, _⟩ := lz_shift ht0 ht
  have z4 := lz_top ht0 ht
  have tb := take_lt' ub M
  have sb := top_val hM et
  have v1 : valn b * 2 ^ (32 - sz t) < pw (M + 1) := by rw [sb, pw_succ]; exact norm_up tb z4 (Nat.two_pow_pos _)
  have v2 : pw M * 2147483648 ≤ valn b * 2 ^ (32 - sz t) := by rw [sb]; exact norm_low z1
  have v3 : pw M ≤ valn b * 2 ^ (32 - sz t) := Nat.le_trans (Nat.le_mul_of_pos_right _ (by decide)) v2
  have vl := lb_len_eq v1 v3
  exact ⟨v1, vl, lb_top v2 vl⟩
theorem den_low {b : List Int} {M t : Nat} (hM : b.length = M + 1) (et : rd b (M : Int) = (t : Int)) (ht0 : t ≠ 0) : pw M ≤ valn b := by
  rw [top_val hM et]
  exact Nat.le_trans (Nat.le_mul_of_pos_right _ (Nat.pos_of_ne_zero ht0)) (Nat.le_add_left _ _)
theorem num_high {a : List Int} (ua : U a) {B M J c : Nat} (hJ : a.length = M + J) (hB : pw M ≤ B) (hc : 0 < c) : valn a * c < B * c * pw J := by
  have va := valn_lt ua
  rw [hJ, pw_add] at va
  have h1 : valn a < B * pw J := Nat.lt_of_lt_of_le va (Nat.mul_le_mul_right _ hB)
  have h2 := Nat.mul_lt_mul_of_pos_right h1 hc
  rwa [Nat.mul_assoc, Nat.mul_comm (pw J), ← Nat.mul_assoc] at h2
theorem drop_lt {u : List Int} {J V : Nat} (h : valn u < V * pw J) : valn (u.drop J) < V := by
  have h1 := valn_splitD u J
  by_cases c : valn (u.drop J) < V
  · exact c
  · exfalso
    have h2 : V * pw J ≤ valn (u.drop J) * pw J := Nat.mul_le_mul_right _ (by omega)
    rw [Nat.mul_comm (valn _)] at h2
    generalize V * pw J = x at *
    generalize pw J * valn (u.drop J) = y at *
    omega
theorem longw_f {a b : List Int} (ua : U a) (ub : U b) (h2 : 2 ≤ b.length) (hba : b.length ≤ a.length) (htop : rd b ((b.length - 1 : Nat) : Int) ≠ 0) (ha : a.length ≤ 1000000) :
    Ev (fun k => nat_longw.f k a b) (padn (a.length + 1 - b.length) (valn a / valn b), padn b.length (valn a % valn b)) := by
  obtain ⟨M, hM⟩ : ∃ M, b.length = M + 1 := ⟨b.length - 1, by omega⟩
  rw [hM, Nat.add_sub_cancel] at htop
  obtain ⟨t, et, ht⟩ := rd_nat ub (M : Int)
  have ht0 : t ≠ 0 := by intro h; apply htop; rw [et, h]; rfl
  have z3 := (lz_shift ht0 ht).2.2
  obtain ⟨v1, vl, vt⟩ := norm_div ub hM et ht ht0
  have hb0 := den_low hM et ht0
  obtain ⟨J, hJ⟩ : ∃ J, a.length = M + J := ⟨a.length - M, by omega⟩
  have hlz := LeadingZeros32_f t ht
  obtain ⟨n, hn⟩ : ∃ n, 32 - sz t = n := ⟨_, rfl⟩
  rw [hn] at z3 v1 vl vt hlz
  have hc := Nat.two_pow_pos n
  have hcB : 2 ^ n < 4294967296 := Nat.lt_of_le_of_lt (Nat.pow_le_pow_right (by decide) z3) (by decide : 2 ^ 31 < 4294967296)
  have s2 := num_high ua hJ hb0 hc
  have s1 : valn a * 2 ^ n < pw (a.length + 1) := by rw [pw_succ]; exact Nat.mul_lt_mul'' (valn_lt ua) hcB
  have e1 : valn a * 2 ^ n / (valn b * 2 ^ n) = valn a / valn b := Nat.mul_div_mul_right _ _ hc
  have e2 : valn a * 2 ^ n % (valn b * 2 ^ n) / 2 ^ n = valn a % valn b := by rw [Nat.mul_mod_mul_right]; exact Nat.mul_div_cancel _ hc
  have hsh1 := shift_f ub n z3 (by omega)
  have hsh2 := shift_f ua n z3 (by omega)
  obtain ⟨V, hV⟩ : ∃ V, valn b * 2 ^ n = V := ⟨_, rfl⟩
  obtain ⟨S, hS⟩ : ∃ S, valn a * 2 ^ n = S := ⟨_, rfl⟩
  rw [hV] at v1 vl vt s2 e1 e2 hsh1
  rw [hS] at s1 s2 e1 e2 hsh2
  have hso := short_f (l := padn (b.length + 1) V) (U_padn _ _) (by rw [padn_len]; omega)
  rw [valn_padn_lt (Nat.lt_of_lt_of_le v1 (pw_mono (by omega)))] at hso
  have u0 : valn ((padn (a.length + 1) S).drop J) < V := drop_lt (by rw [valn_padn_lt s1]; exact s2)
  have main := long_l0 (v := lb V) (U_lb V) (by rw [vl, ← hM]; exact h2) (by rw [vl, Nat.add_sub_cancel]; exact vt) n z3 S (a.length + 1) (by omega) (by omega) J (List.replicate J 0) (padn (a.length + 1) S) (padn_len _ _) (U_padn _ _) (by rw [List.length_replicate]; omega) (U_replicate _) (by omega) (by rw [valn_lb]; exact u0) (by
    rw [show (List.replicate J (0 : Int)).drop J = [] from List.drop_eq_nil_of_le (by rw [List.length_replicate]; exact Nat.le_refl _), valn_nil, Nat.mul_zero, Nat.add_zero, ← valn_splitD, valn_padn_lt s1])
  rw [valn_lb, e1, e2, vl] at main
  rw [hM] at hsh1 hso ⊢
  have eJ : ((a.length + 1 : Nat) : Int) - ((M + 1 : Nat) : Int) = (J : Int) := by omega
  have c1 : (0 : Int) ≤ (M : Int) ∧ (M : Int) < ((M + 1 : Nat) : Int) ∧ (0 : Int) ≤ (J : Int) ∧ J ≤ 70368744177664 ∧ M < 9223372036854775807 := by omega
  have ws : wrap64 (((M + 1 : Nat) : Int) - 1) = (M : Int) ∧ wrap64 (J : Int) = (J : Int) ∧ wrap64 ((J : Int) - 1) = (J : Int) - 1 := ⟨dn M c1.2.2.2.2, w64 (by omega) (by omega), w64 (by omega) (by omega)⟩
  refine Ev.congr (f := fun k => (nat_shift.f k b (n : Int)).bind fun t139 => (nat_short.f k t139).bind fun t142 => (nat_shift.f k a (n : Int)).bind fun t145 =>
    (if 0 ≤ (wrap64 ((t145.length : Int) - (t142.length : Int))) then (if (wrap64 ((t145.length : Int) - (t142.length : Int)) : Int).toNat ≤ 70368744177664 then (nat_longw.l0 k (List.replicate (wrap64 ((t145.length : Int) - (t142.length : Int)) : Int).toNat 0) (n : Int) t142 t145 (t142.length : Int) (wrap64 ((wrap64 ((t145.length : Int) - (t142.length : Int))) - 1))) else (none)) else (none)))
    (fun k => ?_) (Ev.bind hsh1 (Ev.bind hso (Ev.bind hsh2 (Ev.congr (fun k => ?_) main))))
  · unfold nat_longw.f
    rw [hM, ws.1, if_pos c1.1, if_pos c1.2.1, et, hlz, Option.bind_some]
  · rw [padn_len, vl, eJ, ws.2.1, ws.2.2, if_pos c1.2.2.1, Int.toNat_natCast, if_pos c1.2.2.2.1]
end Go.Proofs.Ytecfdemglbfnoaa.Num
end
section
namespace Go.Proofs.Ytecfdemglbfnoaa.PT
open Go.RowKit Go.Proofs.Ytecfdemglbfnoaa.Num Go.Proofs.YtecfdemglbfnoaaW.PrintWords
def nat_long.f (l0 l1 : List Int) : Option (List Int × List Int) :=
  if 2 ≤ l1.length ∧ l1.length ≤ l0.length ∧ l1.getLastD 0 ≠ 0 ∧ (∀ x ∈ l0, 0 ≤ x ∧ x < 4294967296) ∧ (∀ x ∈ l1, 0 ≤ x ∧ x < 4294967296) ∧ l0.length ≤ 1000000 then
    some (padn (l0.length + 1 - l1.length) (valn l0 / valn l1), padn l1.length (valn l0 % valn l1)) else none
theorem rd_getLastD (l : List Int) : rd l ((l.length - 1 : Nat) : Int) = l.getLastD 0 := by
  unfold rd
  rw [Int.toNat_natCast, List.getLastD_eq_getLast?, List.getLast?_eq_getElem?, List.getD_eq_getElem?_getD]
theorem nat_long.calls (A0 : Option Addr) (c0 : Nat) (l0 : List Int) (A1 : Option Addr) (c1 : Nat) (l1 : List Int) (r1 : List Int) (r2 : List Int) (w : World) (hr0 : Kd.C (Kd.int .u32) w A0 l0.length l0) (hc0 : l0.length ≤ c0) (hr1 : Kd.C (Kd.int .u32) w A1 l1.length l1) (hc1 : l1.length ≤ c1) (h : nat_long.f l0 l1 = some (r1, r2)) :
    Calls Try.prog 187 #[.slice A0 l0.length c0, .slice A1 l1.length c1] w fun e w' => ∃ v0_ v1_ : Value, e = .returned (.tuple #[v0_, v1_]) ∧ Kd.R (Kd.int .u32) 48 w' w.heap.size (fun k_ => some k_ ≠ (v1_ : Value).ownBlock) v0_ r1 ∧ Kd.R (Kd.int .u32) 48 w' w.heap.size (fun k_ => some k_ ≠ (v0_ : Value).ownBlock) v1_ r2 ∧ Below w.heap.size w w' := by
  unfold nat_long.f at h
  split at h
  case isTrue c =>
    obtain ⟨h2, hba, hd, ua, ub, ha⟩ := c
    obtain ⟨k, hk⟩ := (longw_f (a := l0) (b := l1) ua ub h2 hba (by rw [rd_getLastD l1]; exact hd) ha).rounds
    exact nat_longw.calls k A0 c0 l0 A1 c1 l1 r1 r2 w hr0 hc0 hr1 hc1 (hk.trans h)
  case isFalse => exact absurd h (by simp)
end Go.Proofs.Ytecfdemglbfnoaa.PT
end
section
namespace Go.Proofs.Ytecfdemglbfnoaa.PT
open Go.RowKit Go.Proofs.YtecfdemglbfnoaaW.PrintWords Go.Proofs.YtecfdemglbfnoaaW.PrintLast Go.Proofs.YtecfdemglbfnoaaW.PrintMore
attribute [local go_sem] max2_int min2_int max_two min_two max_three min_three max_four min_four   -- for this text's walks alone
set_option linter.unusedVariables false
set_option linter.unusedSimpArgs false
def nat_DivMod.f (k : Nat) (l0 : List Int) (l1 : List Int) : Option (List Int × List Int × Int) := (nat_short.f k l0).bind fun t966 => ((nat_short.f k l1).bind fun t969 => (if (t969.length : Int) = 0 then (some (([] : List Int), ([] : List Int), 7)) else ((nat_Cmp.f k t966 t969).bind fun t972 => (if t972 < 0 then ((nat_Trim.f k t966).bind fun t973 => (some (([] : List Int), t973, 0))) else (if (t969.length : Int) = 1 then (if 0 < (t969.length : Int) then ((nat_digit.f k t966 (rd t969 0)).bind fun bt977 => ((nat_Of.f k (IntKind.u64.wrap (bt977.2))).bind fun t981 => (some (bt977.1, t981, 0)))) else (none)) else ((nat_long.f t966 t969).bind fun bt984 => ((nat_Trim.f k bt984.1).bind fun t990 => ((nat_Trim.f k bt984.2).bind fun t993 => (some (t990, t993, 0))))))))))
set_option maxHeartbeats 8000000 in
set_option maxRecDepth 100000 in
theorem nat_DivMod.calls (k : Nat) (P0_ : Nat → Prop) (A0 : Option Addr) (c0 : Nat) (l0 : List Int) (P1_ : Nat → Prop) (A1 : Option Addr) (c1 : Nat) (l1 : List Int) (r1 : List Int) (r2 : List Int) (r3 : Int) (w : World) (hs0 : Kd.V (Kd.int .u32) 48 w w.heap.size (fun k_ => P0_ k_) (.slice A0 l0.length c0) l0) (hs1 : Kd.V (Kd.int .u32) 48 w w.heap.size (fun k_ => P1_ k_) (.slice A1 l1.length c1) l1) (h : nat_DivMod.f k l0 l1 = some (r1, r2, r3)) :
 Calls Try.prog 167 #[.slice A0 l0.length c0, .slice A1 l1.length c1] w fun e w' => ∃ v0_ v1_ : Value, e = .returned (.tuple #[v0_, v1_, .int .i64 r3]) ∧ Kd.V (Kd.int .u32) 48 w' w.heap.size (fun k_ => ((P0_ k_ ∨ P1_ k_) ∨ w.heap.size ≤ k_)) v0_ r1 ∧ Kd.V (Kd.int .u32) 48 w' w.heap.size (fun k_ => ((P0_ k_ ∨ P1_ k_) ∨ w.heap.size ≤ k_)) v1_ r2 ∧ Below w.heap.size w w' := by
 have HO0 := Aside0.mk (show Kd.V (Kd.int .u32) 48 w w.heap.size (fun k_ => ((P0_ k_ ∨ P1_ k_) ∨ w.heap.size ≤ k_)) (.slice A0 l0.length c0) l0 from Kd.V_mono hs0 (fun k_ hk => .inl (.inl hk)))
 have HO1 := Aside0.mk (show Kd.V (Kd.int .u32) 48 w w.heap.size (fun k_ => ((P0_ k_ ∨ P1_ k_) ∨ w.heap.size ≤ k_)) (.slice A1 l1.length c1) l1 from Kd.V_mono hs1 (fun k_ hk => .inl (.inr hk)))
 have HB := Aside0.mk (Below.refl w.heap.size w)
 have H : ((nat_short.f k l0).bind fun t966 => ((nat_short.f k l1).bind fun t969 => (if (t969.length : Int) = 0 then (some (([] : List Int), ([] : List Int), 7)) else ((nat_Cmp.f k t966 t969).bind fun t972 => (if t972 < 0 then ((nat_Trim.f k t966).bind fun t973 => (some (([] : List Int), t973, 0))) else (if (t969.length : Int) = 1 then (if 0 < (t969.length : Int) then ((nat_digit.f k t966 (rd t969 0)).bind fun bt977 => ((nat_Of.f k (IntKind.u64.wrap (bt977.2))).bind fun t981 => (some (bt977.1, t981, 0)))) else (none)) else ((nat_long.f t966 t969).bind fun bt984 => ((nat_Trim.f k bt984.1).bind fun t990 => ((nat_Trim.f k bt984.2).bind fun t993 => (some (t990, t993, 0))))))))))) = some (r1, r2, r3) := h
 clear h
 replace H := Option.bind_eq_some_iff.mp H
 obtain ⟨t966, A30, H⟩ := H
 replace H : ((nat_short.f k l1).bind fun t969 => (if (t969.length : Int) = 0 then (some (([] : List Int), ([] : List Int), 7)) else ((nat_Cmp.f k t966 t969).bind fun t972 => (if t972 < 0 then ((nat_Trim.f k t966).bind fun t973 => (some (([] : List Int), t973, 0))) else (if (t969.length : Int) = 1 then (if 0 < (t969.length : Int) then ((nat_digit.f k t966 (rd t969 0)).bind fun bt977 => ((nat_Of.f k (IntKind.u64.wrap (bt977.2))).bind fun t981 => (some (bt977.1, t981, 0)))) else (none)) else ((nat_long.f t966 t969).bind fun bt984 => ((nat_Trim.f k bt984.1).bind fun t990 => ((nat_Trim.f k bt984.2).bind fun t993 => (some (t990, t993, 0)))))))))) = some (r1, r2, r3) := H
 have A3 := Aside0.mk A30
 clear A30
 replace H := Option.bind_eq_some_iff.mp H
 obtain ⟨t969, A40, H⟩ := H
 replace H : (if (t969.length : Int) = 0 then (some (([] : List Int), ([] : List Int), 7)) else ((nat_Cmp.f k t966 t969).bind fun t972 => (if t972 < 0 then ((nat_Trim.f k t966).bind fun t973 => (some (([] : List Int), t973, 0))) else (if (t969.length : Int) = 1 then (if 0 < (t969.length : Int) then ((nat_digit.f k t966 (rd t969 0)).bind fun bt977 => ((nat_Of.f k (IntKind.u64.wrap (bt977.2))).bind fun t981 => (some (bt977.1, t981, 0)))) else (none)) else ((nat_long.f t966 t969).bind fun bt984 => ((nat_Trim.f k bt984.1).bind fun t990 => ((nat_Trim.f k bt984.2).bind fun t993 => (some (t990, t993, 0))))))))) = some (r1, r2, r3) := H
 have A4 := Aside0.mk A40
 clear A40
 by_cases c5 : (t969.length : Int) = 0
 ·
  rw [if_pos c5] at H
  have c5b0 : ((t969.length : Int) == 0) = true := beq_iff_eq.mpr c5
  have c5b1 : ((t969.length : Int) != 0) = false := bne_eq_false_iff_eq.mpr c5
  clear c5
  simp only [Option.some.injEq, Prod.mk.injEq] at H
  obtain ⟨rfl, rfl, rfl⟩ := H
  go_enter Try.func167, Try.ntmps167
  go_wp2_with (first | ((with_reducible refine gate_callee (f := 179) rfl ?_); refine goesL_ (some 12) rfl rfl Try.func179 (by kernel_rfl) rfl #[.slice A0 l0.length c0] rfl lu ?_; (with_reducible refine (nat_short.calls k (fun k_ => ((P0_ k_ ∨ P1_ k_) ∨ w.heap.size ≤ k_)) _ _ l0 t966 _ ?side1 A3.out).mono ?_); (case side1 => exact HO0.out); rintro e w6 ⟨v967, rfl, ho0, hb⟩; refine ⟨_, rfl, ?_⟩; replace HO0 := Aside0.mk (Kd.V_below (vu HO0.out) hb); replace HO1 := Aside0.mk (Kd.V_below (vu HO1.out) hb); have HO968 := Aside0.mk (Kd.V_lower (Kd.V_mono (ok' := fun k_ => ((P0_ k_ ∨ P1_ k_) ∨ w.heap.size ≤ k_)) ho0 (fun k_ hk_ => Or.elim hk_ (fun hs_ => hs_) (fun hn_ => (.inr (Nat.le_trans (below_size (bu HB.out)) hn_))))) (below_size (bu HB.out))); replace HB := Aside0.mk (below_step (bu HB.out) hb); (try clear hb); (try clear hb2); (try clear hk); (try clear hi); (try clear ho0)) | ((with_reducible refine gate_callee (f := 179) rfl ?_); refine goesL_ (some 14) rfl rfl Try.func179 (by kernel_rfl) rfl #[.slice A1 l1.length c1] rfl lu ?_; (with_reducible refine (nat_short.calls k (fun k_ => ((P0_ k_ ∨ P1_ k_) ∨ w.heap.size ≤ k_)) _ _ l1 t969 _ ?side1 A4.out).mono ?_); (case side1 => exact HO1.out); rintro e w7 ⟨v970, rfl, ho0, hb⟩; refine ⟨_, rfl, ?_⟩; replace HO0 := Aside0.mk (Kd.V_below (vu HO0.out) hb); replace HO1 := Aside0.mk (Kd.V_below (vu HO1.out) hb); replace HO968 := Aside0.mk (Kd.V_below (vu HO968.out) hb); have HO971 := Aside0.mk (Kd.V_lower (Kd.V_mono (ok' := fun k_ => ((P0_ k_ ∨ P1_ k_) ∨ w.heap.size ≤ k_)) ho0 (fun k_ hk_ => Or.elim hk_ (fun hs_ => hs_) (fun hn_ => (.inr (Nat.le_trans (below_size (bu HB.out)) hn_))))) (below_size (bu HB.out))); replace HB := Aside0.mk (below_step (bu HB.out) hb); (try clear hb); (try clear hb2); (try clear hk); (try clear hi); (try clear ho0); obtain ⟨Ao8, co8, eo8⟩ := Kd.V_slice HO971.out; subst eo8))
  go_ret3
  exact ⟨_, _, by first | rfl | (simp [errW_none, errW_some] <;> rfl) | (simp [*, errW_none, errW_some] <;> rfl), Kd.V_nil _ _ _ _ _, Kd.V_nil _ _ _ _ _, by repeat (first | (with_reducible first | exact HB.out | apply below_alloc | apply pw_below_drewN | apply below_drew1) | exact HB.out)⟩
 ·
  rw [if_neg c5] at H
  have c5b0 : ((t969.length : Int) == 0) = false := beq_eq_false_iff_ne.mpr c5
  have c5b1 : ((t969.length : Int) != 0) = true := bne_iff_ne.mpr c5
  have c5b2 : ¬ (t969 = []) := fun h_ => c5 (by rw [h_]; rfl)
  replace H := Option.bind_eq_some_iff.mp H
  obtain ⟨t972, A90, H⟩ := H
  replace H : (if t972 < 0 then ((nat_Trim.f k t966).bind fun t973 => (some (([] : List Int), t973, 0))) else (if (t969.length : Int) = 1 then (if 0 < (t969.length : Int) then ((nat_digit.f k t966 (rd t969 0)).bind fun bt977 => ((nat_Of.f k (IntKind.u64.wrap (bt977.2))).bind fun t981 => (some (bt977.1, t981, 0)))) else (none)) else ((nat_long.f t966 t969).bind fun bt984 => ((nat_Trim.f k bt984.1).bind fun t990 => ((nat_Trim.f k bt984.2).bind fun t993 => (some (t990, t993, 0))))))) = some (r1, r2, r3) := H
  have A9 := Aside0.mk A90
  clear A90
  by_cases c10 : t972 < 0
  ·
   rw [if_pos c10] at H
   have c10b0 : decide (t972 < 0) = true := decide_eq_true c10
   clear c10
   replace H := Option.bind_eq_some_iff.mp H
   obtain ⟨t973, A110, H⟩ := H
   replace H : (some (([] : List Int), t973, 0)) = some (r1, r2, r3) := H
   have A11 := Aside0.mk A110
   clear A110
   simp only [Option.some.injEq, Prod.mk.injEq] at H
   obtain ⟨rfl, rfl, rfl⟩ := H
   go_enter Try.func167, Try.ntmps167
   go_wp2_with (first | ((with_reducible refine gate_callee (f := 179) rfl ?_); refine goesL_ (some 12) rfl rfl Try.func179 (by kernel_rfl) rfl #[.slice A0 l0.length c0] rfl lu ?_; (with_reducible refine (nat_short.calls k (fun k_ => ((P0_ k_ ∨ P1_ k_) ∨ w.heap.size ≤ k_)) _ _ l0 t966 _ ?side1 A3.out).mono ?_); (case side1 => exact HO0.out); rintro e w12 ⟨v967, rfl, ho0, hb⟩; refine ⟨_, rfl, ?_⟩; replace HO0 := Aside0.mk (Kd.V_below (vu HO0.out) hb); replace HO1 := Aside0.mk (Kd.V_below (vu HO1.out) hb); have HO968 := Aside0.mk (Kd.V_lower (Kd.V_mono (ok' := fun k_ => ((P0_ k_ ∨ P1_ k_) ∨ w.heap.size ≤ k_)) ho0 (fun k_ hk_ => Or.elim hk_ (fun hs_ => hs_) (fun hn_ => (.inr (Nat.le_trans (below_size (bu HB.out)) hn_))))) (below_size (bu HB.out))); replace HB := Aside0.mk (below_step (bu HB.out) hb); (try clear hb); (try clear hb2); (try clear hk); (try clear hi); (try clear ho0)) | ((with_reducible refine gate_callee (f := 179) rfl ?_); refine goesL_ (some 14) rfl rfl Try.func179 (by kernel_rfl) rfl #[.slice A1 l1.length c1] rfl lu ?_; (with_reducible refine (nat_short.calls k (fun k_ => ((P0_ k_ ∨ P1_ k_) ∨ w.heap.size ≤ k_)) _ _ l1 t969 _ ?side1 A4.out).mono ?_); (case side1 => exact HO1.out); rintro e w13 ⟨v970, rfl, ho0, hb⟩; refine ⟨_, rfl, ?_⟩; replace HO0 := Aside0.mk (Kd.V_below (vu HO0.out) hb); replace HO1 := Aside0.mk (Kd.V_below (vu HO1.out) hb); replace HO968 := Aside0.mk (Kd.V_below (vu HO968.out) hb); have HO971 := Aside0.mk (Kd.V_lower (Kd.V_mono (ok' := fun k_ => ((P0_ k_ ∨ P1_ k_) ∨ w.heap.size ≤ k_)) ho0 (fun k_ hk_ => Or.elim hk_ (fun hs_ => hs_) (fun hn_ => (.inr (Nat.le_trans (below_size (bu HB.out)) hn_))))) (below_size (bu HB.out))); replace HB := Aside0.mk (below_step (bu HB.out) hb); (try clear hb); (try clear hb2); (try clear hk); (try clear hi); (try clear ho0); obtain ⟨Ao14, co14, eo14⟩ := Kd.V_slice HO971.out; subst eo14; obtain ⟨Ao15, co15, eo15⟩ := Kd.V_slice HO968.out; subst eo15) | ((with_reducible refine gate_callee (f := 146) rfl ?_); refine goesL_ (some 22) rfl rfl Try.func146 (by kernel_rfl) rfl #[.slice Ao15 t966.length co15, .slice Ao14 t969.length co14] rfl lu ?_; (with_reducible refine (nat_Cmp.calls k _ _ t966 _ _ t969 t972 _ ?side1 ?side2 ?side3 ?side4 A9.out).mono ?_); (case side1 => repeat (first | exact (Kd.V_reads' HO968.out).2.2 | (with_reducible refine Kd.C_alloc ?_ _) | (with_reducible refine Kd.C_drewN ?_ _) | (with_reducible refine Kd.C_drew ?_))); (case side2 => exact (Kd.V_reads' HO968.out).2.1); (case side3 => repeat (first | exact (Kd.V_reads' HO971.out).2.2 | (with_reducible refine Kd.C_alloc ?_ _) | (with_reducible refine Kd.C_drewN ?_ _) | (with_reducible refine Kd.C_drew ?_))); (case side4 => exact (Kd.V_reads' HO971.out).2.1); rintro e w16 ⟨rfl, hb⟩; refine ⟨_, rfl, ?_⟩; replace HO0 := Aside0.mk (Kd.V_below (vu HO0.out) hb); replace HO1 := Aside0.mk (Kd.V_below (vu HO1.out) hb); replace HO968 := Aside0.mk (Kd.V_below (vu HO968.out) hb); replace HO971 := Aside0.mk (Kd.V_below (vu HO971.out) hb); replace HB := Aside0.mk (below_step (bu HB.out) hb); (try clear hb); (try clear hb2); (try clear hk); (try clear hi)) | ((with_reducible refine gate_callee (f := 177) rfl ?_); refine goesL_ (some 25) rfl rfl Try.func177 (by kernel_rfl) rfl #[.slice Ao15 t966.length co15] rfl lu ?_; (with_reducible refine (nat_Trim.calls k _ _ t966 t973 _ ?side1 ?side2 A11.out).mono ?_); (case side1 => repeat (first | exact (Kd.V_reads' HO968.out).2.2 | (with_reducible refine Kd.C_alloc ?_ _) | (with_reducible refine Kd.C_drewN ?_ _) | (with_reducible refine Kd.C_drew ?_))); (case side2 => exact (Kd.V_reads' HO968.out).2.1); rintro e w17 ⟨v974, rfl, ho0, hb⟩; refine ⟨_, rfl, ?_⟩; replace ho0 := R_V_base rfl ho0; replace HO0 := Aside0.mk (Kd.V_below (vu HO0.out) hb); replace HO1 := Aside0.mk (Kd.V_below (vu HO1.out) hb); replace HO968 := Aside0.mk (Kd.V_below (vu HO968.out) hb); replace HO971 := Aside0.mk (Kd.V_below (vu HO971.out) hb); have HO975 := Aside0.mk (Kd.V_lower (Kd.V_mono (ok' := fun k_ => ((P0_ k_ ∨ P1_ k_) ∨ w.heap.size ≤ k_)) ho0 (fun k_ hk_ => (.inr (Nat.le_trans (below_size (bu HB.out)) hk_)))) (below_size (bu HB.out))); replace HB := Aside0.mk (below_step (bu HB.out) hb); (try clear hb); (try clear hb2); (try clear hk); (try clear hi); (try clear ho0)))
   go_ret3
   exact ⟨_, _, by first | rfl | (simp [errW_none, errW_some] <;> rfl) | (simp [*, errW_none, errW_some] <;> rfl), Kd.V_nil _ _ _ _ _, by (with_reducible repeat (first | apply Kd.V_alloc | apply Kd.V_drewN | apply Kd.V_drew)); exact HO975.out, by repeat (first | (with_reducible first | exact HB.out | apply below_alloc | apply pw_below_drewN | apply below_drew1) | exact HB.out)⟩
  ·
   rw [if_neg c10] at H
   have c10b0 : decide (t972 < 0) = false := decide_eq_false c10
   clear c10
   by_cases c18 : (t969.length : Int) = 1
   ·
    rw [if_pos c18] at H
    have c18b0 : ((t969.length : Int) == 1) = true := beq_iff_eq.mpr c18
    have c18b1 : ((t969.length : Int) != 1) = false := bne_eq_false_iff_eq.mpr c18
    clear c18
    by_cases c19 : 0 < (t969.length : Int)
    ·
     rw [if_pos c19] at H
     have c19b0 : decide (0 < (t969.length : Int)) = true := decide_eq_true c19
     have c19b1 : decide (0 < t969.length) = true := decide_eq_true (by omega)
     clear c19
     replace H := Option.bind_eq_some_iff.mp H
     obtain ⟨⟨t977, t980⟩, A200, H⟩ := H
     replace H : ((nat_Of.f k (IntKind.u64.wrap (t980))).bind fun t981 => (some (t977, t981, 0))) = some (r1, r2, r3) := H
     have A20 := Aside0.mk A200
     clear A200
     replace H := Option.bind_eq_some_iff.mp H
     obtain ⟨t981, A210, H⟩ := H
     replace H : (some (t977, t981, 0)) = some (r1, r2, r3) := H
     have A21 := Aside0.mk A210
     clear A210
     simp only [Option.some.injEq, Prod.mk.injEq] at H
     obtain ⟨rfl, rfl, rfl⟩ := H
     go_enter Try.func167, Try.ntmps167
     go_wp2_with (first | ((with_reducible refine gate_callee (f := 179) rfl ?_); refine goesL_ (some 12) rfl rfl Try.func179 (by kernel_rfl) rfl #[.slice A0 l0.length c0] rfl lu ?_; (with_reducible refine (nat_short.calls k (fun k_ => ((P0_ k_ ∨ P1_ k_) ∨ w.heap.size ≤ k_)) _ _ l0 t966 _ ?side1 A3.out).mono ?_); (case side1 => exact HO0.out); rintro e w22 ⟨v967, rfl, ho0, hb⟩; refine ⟨_, rfl, ?_⟩; replace HO0 := Aside0.mk (Kd.V_below (vu HO0.out) hb); replace HO1 := Aside0.mk (Kd.V_below (vu HO1.out) hb); have HO968 := Aside0.mk (Kd.V_lower (Kd.V_mono (ok' := fun k_ => ((P0_ k_ ∨ P1_ k_) ∨ w.heap.size ≤ k_)) ho0 (fun k_ hk_ => Or.elim hk_ (fun hs_ => hs_) (fun hn_ => (.inr (Nat.le_trans (below_size (bu HB.out)) hn_))))) (below_size (bu HB.out))); replace HB := Aside0.mk (below_step (bu HB.out) hb); (try clear hb); (try clear hb2); (try clear hk); (try clear hi); (try clear ho0)) | ((with_reducible refine gate_callee (f := 179) rfl ?_); refine goesL_ (some 14) rfl rfl Try.func179 (by kernel_rfl) rfl #[.slice A1 l1.length c1] rfl lu ?_; (with_reducible refine (nat_short.calls k (fun k_ => ((P0_ k_ ∨ P1_ k_) ∨ w.heap.size ≤ k_)) _ _ l1 t969 _ ?side1 A4.out).mono ?_); (case side1 => exact HO1.out); rintro e w23 ⟨v970, rfl, ho0, hb⟩; refine ⟨_, rfl, ?_⟩; replace HO0 := Aside0.mk (Kd.V_below (vu HO0.out) hb); replace HO1 := Aside0.mk (Kd.V_below (vu HO1.out) hb); replace HO968 := Aside0.mk (Kd.V_below (vu HO968.out) hb); have HO971 := Aside0.mk (Kd.V_lower (Kd.V_mono (ok' := fun k_ => ((P0_ k_ ∨ P1_ k_) ∨ w.heap.size ≤ k_)) ho0 (fun k_ hk_ => Or.elim hk_ (fun hs_ => hs_) (fun hn_ => (.inr (Nat.le_trans (below_size (bu HB.out)) hn_))))) (below_size (bu HB.out))); replace HB := Aside0.mk (below_step (bu HB.out) hb); (try clear hb); (try clear hb2); (try clear hk); (try clear hi); (try clear ho0); obtain ⟨Ao24, co24, eo24⟩ := Kd.V_slice HO971.out; subst eo24; obtain ⟨Ao25, co25, eo25⟩ := Kd.V_slice HO968.out; subst eo25) | ((with_reducible refine gate_callee (f := 146) rfl ?_); refine goesL_ (some 22) rfl rfl Try.func146 (by kernel_rfl) rfl #[.slice Ao25 t966.length co25, .slice Ao24 t969.length co24] rfl lu ?_; (with_reducible refine (nat_Cmp.calls k _ _ t966 _ _ t969 t972 _ ?side1 ?side2 ?side3 ?side4 A9.out).mono ?_); (case side1 => repeat (first | exact (Kd.V_reads' HO968.out).2.2 | (with_reducible refine Kd.C_alloc ?_ _) | (with_reducible refine Kd.C_drewN ?_ _) | (with_reducible refine Kd.C_drew ?_))); (case side2 => exact (Kd.V_reads' HO968.out).2.1); (case side3 => repeat (first | exact (Kd.V_reads' HO971.out).2.2 | (with_reducible refine Kd.C_alloc ?_ _) | (with_reducible refine Kd.C_drewN ?_ _) | (with_reducible refine Kd.C_drew ?_))); (case side4 => exact (Kd.V_reads' HO971.out).2.1); rintro e w26 ⟨rfl, hb⟩; refine ⟨_, rfl, ?_⟩; replace HO0 := Aside0.mk (Kd.V_below (vu HO0.out) hb); replace HO1 := Aside0.mk (Kd.V_below (vu HO1.out) hb); replace HO968 := Aside0.mk (Kd.V_below (vu HO968.out) hb); replace HO971 := Aside0.mk (Kd.V_below (vu HO971.out) hb); replace HB := Aside0.mk (below_step (bu HB.out) hb); (try clear hb); (try clear hb2); (try clear hk); (try clear hi); have p976 : 0 ≤ (0 : Int) := (by omega); have q976 : 0 < (t969.length : Int) := of_decide_eq_true (by first | (with_reducible assumption) | assumption); obtain ⟨ad976, e976, hx976_0⟩ := Kd.at_int (Kd.V_reads' HO971.out).2.2 0 p976 q976; cases e976; have qi976 : (0 < t969.length) = True := eq_true (by omega); (try rw [show ((0 : Int)).toNat = 0 from rfl] at hx976_0); (try rw [Addr.add_zero'] at hx976_0); replace p976 := eq_true p976; replace q976 := eq_true q976) | ((with_reducible refine gate_callee (f := 186) rfl ?_); refine goesL_ (some 35) rfl rfl Try.func186 (by kernel_rfl) rfl #[.slice Ao25 t966.length co25, .int .u32 (rd t969 0)] rfl lu ?_; (with_reducible refine (nat_digit.calls k _ _ t966 (rd t969 0) t977 t980 _ ?side1 ?side2 A20.out).mono ?_); (case side1 => repeat (first | exact (Kd.V_reads' HO968.out).2.2 | (with_reducible refine Kd.C_alloc ?_ _) | (with_reducible refine Kd.C_drewN ?_ _) | (with_reducible refine Kd.C_drew ?_))); (case side2 => exact (Kd.V_reads' HO968.out).2.1); rintro e w27 ⟨v978, rfl, ho0, hb⟩; refine ⟨_, rfl, ?_⟩; replace HO0 := Aside0.mk (Kd.V_below (vu HO0.out) hb); replace HO1 := Aside0.mk (Kd.V_below (vu HO1.out) hb); replace HO968 := Aside0.mk (Kd.V_below (vu HO968.out) hb); replace HO971 := Aside0.mk (Kd.V_below (vu HO971.out) hb); have HO979 := Aside0.mk (Kd.V_lower (Kd.V_mono (ok' := fun k_ => ((P0_ k_ ∨ P1_ k_) ∨ w.heap.size ≤ k_)) ho0 (fun k_ hk_ => (.inr (Nat.le_trans (below_size (bu HB.out)) hk_)))) (below_size (bu HB.out))); replace HB := Aside0.mk (below_step (bu HB.out) hb); (try clear hb); (try clear hb2); (try clear hk); (try clear hi); (try clear ho0)) | ((with_reducible refine gate_callee (f := 141) rfl ?_); refine goesL_ (some 41) rfl rfl Try.func141 (by kernel_rfl) rfl #[.int .u64 (IntKind.u64.wrap (t980))] rfl lu ?_; (with_reducible refine (nat_Of.calls k (IntKind.u64.wrap (t980)) t981 _ A21.out).mono ?_); rintro e w28 ⟨v982, rfl, ho0, hb⟩; refine ⟨_, rfl, ?_⟩; replace ho0 := R_V_base rfl ho0; replace HO0 := Aside0.mk (Kd.V_below (vu HO0.out) hb); replace HO1 := Aside0.mk (Kd.V_below (vu HO1.out) hb); replace HO968 := Aside0.mk (Kd.V_below (vu HO968.out) hb); replace HO971 := Aside0.mk (Kd.V_below (vu HO971.out) hb); replace HO979 := Aside0.mk (Kd.V_below (vu HO979.out) hb); have HO983 := Aside0.mk (Kd.V_lower (Kd.V_mono (ok' := fun k_ => ((P0_ k_ ∨ P1_ k_) ∨ w.heap.size ≤ k_)) ho0 (fun k_ hk_ => (.inr (Nat.le_trans (below_size (bu HB.out)) hk_)))) (below_size (bu HB.out))); replace HB := Aside0.mk (below_step (bu HB.out) hb); (try clear hb); (try clear hb2); (try clear hk); (try clear hi); (try clear ho0)))
     go_ret3
     exact ⟨_, _, by first | rfl | (simp [errW_none, errW_some] <;> rfl) | (simp [*, errW_none, errW_some] <;> rfl), by (with_reducible repeat (first | apply Kd.V_alloc | apply Kd.V_drewN | apply Kd.V_drew)); exact HO979.out, by (with_reducible repeat (first | apply Kd.V_alloc | apply Kd.V_drewN | apply Kd.V_drew)); exact HO983.out, by repeat (first | (with_reducible first | exact HB.out | apply below_alloc | apply pw_below_drewN | apply below_drew1) | exact HB.out)⟩
    ·
     rw [if_neg c19] at H
     exact absurd H (by simp)
   ·
    rw [if_neg c18] at H
    have c18b0 : ((t969.length : Int) == 1) = false := beq_eq_false_iff_ne.mpr c18
    have c18b1 : ((t969.length : Int) != 1) = true := bne_iff_ne.mpr c18
    replace H := Option.bind_eq_some_iff.mp H
    obtain ⟨⟨t984, t987⟩, A290, H⟩ := H
    replace H : ((nat_Trim.f k t984).bind fun t990 => ((nat_Trim.f k t987).bind fun t993 => (some (t990, t993, 0)))) = some (r1, r2, r3) := H
    have A29 := Aside0.mk A290
    clear A290
    replace H := Option.bind_eq_some_iff.mp H
    obtain ⟨t990, A300, H⟩ := H
    replace H : ((nat_Trim.f k t987).bind fun t993 => (some (t990, t993, 0))) = some (r1, r2, r3) := H
    have A30 := Aside0.mk A300
    clear A300
    replace H := Option.bind_eq_some_iff.mp H
    obtain ⟨t993, A310, H⟩ := H
    replace H : (some (t990, t993, 0)) = some (r1, r2, r3) := H
    have A31 := Aside0.mk A310
    clear A310
    simp only [Option.some.injEq, Prod.mk.injEq] at H
    obtain ⟨rfl, rfl, rfl⟩ := H
    go_enter Try.func167, Try.ntmps167
    go_wp2_with (first | ((with_reducible refine gate_callee (f := 179) rfl ?_); refine goesL_ (some 12) rfl rfl Try.func179 (by kernel_rfl) rfl #[.slice A0 l0.length c0] rfl lu ?_; (with_reducible refine (nat_short.calls k (fun k_ => ((P0_ k_ ∨ P1_ k_) ∨ w.heap.size ≤ k_)) _ _ l0 t966 _ ?side1 A3.out).mono ?_); (case side1 => exact HO0.out); rintro e w32 ⟨v967, rfl, ho0, hb⟩; refine ⟨_, rfl, ?_⟩; replace HO0 := Aside0.mk (Kd.V_below (vu HO0.out) hb); replace HO1 := Aside0.mk (Kd.V_below (vu HO1.out) hb); have HO968 := Aside0.mk (Kd.V_lower (Kd.V_mono (ok' := fun k_ => ((P0_ k_ ∨ P1_ k_) ∨ w.heap.size ≤ k_)) ho0 (fun k_ hk_ => Or.elim hk_ (fun hs_ => hs_) (fun hn_ => (.inr (Nat.le_trans (below_size (bu HB.out)) hn_))))) (below_size (bu HB.out))); replace HB := Aside0.mk (below_step (bu HB.out) hb); (try clear hb); (try clear hb2); (try clear hk); (try clear hi); (try clear ho0)) | ((with_reducible refine gate_callee (f := 179) rfl ?_); refine goesL_ (some 14) rfl rfl Try.func179 (by kernel_rfl) rfl #[.slice A1 l1.length c1] rfl lu ?_; (with_reducible refine (nat_short.calls k (fun k_ => ((P0_ k_ ∨ P1_ k_) ∨ w.heap.size ≤ k_)) _ _ l1 t969 _ ?side1 A4.out).mono ?_); (case side1 => exact HO1.out); rintro e w33 ⟨v970, rfl, ho0, hb⟩; refine ⟨_, rfl, ?_⟩; replace HO0 := Aside0.mk (Kd.V_below (vu HO0.out) hb); replace HO1 := Aside0.mk (Kd.V_below (vu HO1.out) hb); replace HO968 := Aside0.mk (Kd.V_below (vu HO968.out) hb); have HO971 := Aside0.mk (Kd.V_lower (Kd.V_mono (ok' := fun k_ => ((P0_ k_ ∨ P1_ k_) ∨ w.heap.size ≤ k_)) ho0 (fun k_ hk_ => Or.elim hk_ (fun hs_ => hs_) (fun hn_ => (.inr (Nat.le_trans (below_size (bu HB.out)) hn_))))) (below_size (bu HB.out))); replace HB := Aside0.mk (below_step (bu HB.out) hb); (try clear hb); (try clear hb2); (try clear hk); (try clear hi); (try clear ho0); obtain ⟨Ao34, co34, eo34⟩ := Kd.V_slice HO971.out; subst eo34; obtain ⟨Ao35, co35, eo35⟩ := Kd.V_slice HO968.out; subst eo35) | ((with_reducible refine gate_callee (f := 146) rfl ?_); refine goesL_ (some 22) rfl rfl Try.func146 (by kernel_rfl) rfl #[.slice Ao35 t966.length co35, .slice Ao34 t969.length co34] rfl lu ?_; (with_reducible refine (nat_Cmp.calls k _ _ t966 _ _ t969 t972 _ ?side1 ?side2 ?side3 ?side4 A9.out).mono ?_); (case side1 => repeat (first | exact (Kd.V_reads' HO968.out).2.2 | (with_reducible refine Kd.C_alloc ?_ _) | (with_reducible refine Kd.C_drewN ?_ _) | (with_reducible refine Kd.C_drew ?_))); (case side2 => exact (Kd.V_reads' HO968.out).2.1); (case side3 => repeat (first | exact (Kd.V_reads' HO971.out).2.2 | (with_reducible refine Kd.C_alloc ?_ _) | (with_reducible refine Kd.C_drewN ?_ _) | (with_reducible refine Kd.C_drew ?_))); (case side4 => exact (Kd.V_reads' HO971.out).2.1); rintro e w36 ⟨rfl, hb⟩; refine ⟨_, rfl, ?_⟩; replace HO0 := Aside0.mk (Kd.V_below (vu HO0.out) hb); replace HO1 := Aside0.mk (Kd.V_below (vu HO1.out) hb); replace HO968 := Aside0.mk (Kd.V_below (vu HO968.out) hb); replace HO971 := Aside0.mk (Kd.V_below (vu HO971.out) hb); replace HB := Aside0.mk (below_step (bu HB.out) hb); (try clear hb); (try clear hb2); (try clear hk); (try clear hi)) | ((with_reducible refine gate_callee (f := 187) rfl ?_); refine goesL_ (some 45) rfl rfl Try.func187 (by kernel_rfl) rfl #[.slice Ao35 t966.length co35, .slice Ao34 t969.length co34] rfl lu ?_; (with_reducible refine (nat_long.calls _ _ t966 _ _ t969 t984 t987 _ ?side1 ?side2 ?side3 ?side4 A29.out).mono ?_); (case side1 => repeat (first | exact (Kd.V_reads' HO968.out).2.2 | (with_reducible refine Kd.C_alloc ?_ _) | (with_reducible refine Kd.C_drewN ?_ _) | (with_reducible refine Kd.C_drew ?_))); (case side2 => exact (Kd.V_reads' HO968.out).2.1); (case side3 => repeat (first | exact (Kd.V_reads' HO971.out).2.2 | (with_reducible refine Kd.C_alloc ?_ _) | (with_reducible refine Kd.C_drewN ?_ _) | (with_reducible refine Kd.C_drew ?_))); (case side4 => exact (Kd.V_reads' HO971.out).2.1); rintro e w37 ⟨v985, v988, rfl, ho0, ho1, hb⟩; refine ⟨_, rfl, ?_⟩; replace ho0 := R_V_base rfl ho0; replace ho1 := R_V_base rfl ho1; replace HO0 := Aside0.mk (Kd.V_below (vu HO0.out) hb); replace HO1 := Aside0.mk (Kd.V_below (vu HO1.out) hb); replace HO968 := Aside0.mk (Kd.V_below (vu HO968.out) hb); replace HO971 := Aside0.mk (Kd.V_below (vu HO971.out) hb); have HO986 := Aside0.mk (Kd.V_lower (Kd.V_mono (ok' := fun k_ => ((P0_ k_ ∨ P1_ k_) ∨ w.heap.size ≤ k_)) ho0 (fun k_ hk_ => (.inr (Nat.le_trans (below_size (bu HB.out)) hk_)))) (below_size (bu HB.out))); have HO989 := Aside0.mk (Kd.V_lower (Kd.V_mono (ok' := fun k_ => ((P0_ k_ ∨ P1_ k_) ∨ w.heap.size ≤ k_)) ho1 (fun k_ hk_ => (.inr (Nat.le_trans (below_size (bu HB.out)) hk_)))) (below_size (bu HB.out))); replace HB := Aside0.mk (below_step (bu HB.out) hb); (try clear hb); (try clear hb2); (try clear hk); (try clear hi); (try clear ho0); (try clear ho1); obtain ⟨Ao38, co38, eo38⟩ := Kd.V_slice HO986.out; subst eo38) | ((with_reducible refine gate_callee (f := 177) rfl ?_); refine goesL_ (some 49) rfl rfl Try.func177 (by kernel_rfl) rfl #[.slice Ao38 t984.length co38] rfl lu ?_; (with_reducible refine (nat_Trim.calls k _ _ t984 t990 _ ?side1 ?side2 A30.out).mono ?_); (case side1 => repeat (first | exact (Kd.V_reads' HO986.out).2.2 | (with_reducible refine Kd.C_alloc ?_ _) | (with_reducible refine Kd.C_drewN ?_ _) | (with_reducible refine Kd.C_drew ?_))); (case side2 => exact (Kd.V_reads' HO986.out).2.1); rintro e w39 ⟨v991, rfl, ho0, hb⟩; refine ⟨_, rfl, ?_⟩; replace ho0 := R_V_base rfl ho0; replace HO0 := Aside0.mk (Kd.V_below (vu HO0.out) hb); replace HO1 := Aside0.mk (Kd.V_below (vu HO1.out) hb); replace HO968 := Aside0.mk (Kd.V_below (vu HO968.out) hb); replace HO971 := Aside0.mk (Kd.V_below (vu HO971.out) hb); replace HO986 := Aside0.mk (Kd.V_below (vu HO986.out) hb); replace HO989 := Aside0.mk (Kd.V_below (vu HO989.out) hb); have HO992 := Aside0.mk (Kd.V_lower (Kd.V_mono (ok' := fun k_ => ((P0_ k_ ∨ P1_ k_) ∨ w.heap.size ≤ k_)) ho0 (fun k_ hk_ => (.inr (Nat.le_trans (below_size (bu HB.out)) hk_)))) (below_size (bu HB.out))); replace HB := Aside0.mk (below_step (bu HB.out) hb); (try clear hb); (try clear hb2); (try clear hk); (try clear hi); (try clear ho0); obtain ⟨Ao40, co40, eo40⟩ := Kd.V_slice HO989.out; subst eo40) | ((with_reducible refine gate_callee (f := 177) rfl ?_); refine goesL_ (some 51) rfl rfl Try.func177 (by kernel_rfl) rfl #[.slice Ao40 t987.length co40] rfl lu ?_; (with_reducible refine (nat_Trim.calls k _ _ t987 t993 _ ?side1 ?side2 A31.out).mono ?_); (case side1 => repeat (first | exact (Kd.V_reads' HO989.out).2.2 | (with_reducible refine Kd.C_alloc ?_ _) | (with_reducible refine Kd.C_drewN ?_ _) | (with_reducible refine Kd.C_drew ?_))); (case side2 => exact (Kd.V_reads' HO989.out).2.1); rintro e w41 ⟨v994, rfl, ho0, hb⟩; refine ⟨_, rfl, ?_⟩; replace ho0 := R_V_base rfl ho0; replace HO0 := Aside0.mk (Kd.V_below (vu HO0.out) hb); replace HO1 := Aside0.mk (Kd.V_below (vu HO1.out) hb); replace HO968 := Aside0.mk (Kd.V_below (vu HO968.out) hb); replace HO971 := Aside0.mk (Kd.V_below (vu HO971.out) hb); replace HO986 := Aside0.mk (Kd.V_below (vu HO986.out) hb); replace HO989 := Aside0.mk (Kd.V_below (vu HO989.out) hb); replace HO992 := Aside0.mk (Kd.V_below (vu HO992.out) hb); have HO995 := Aside0.mk (Kd.V_lower (Kd.V_mono (ok' := fun k_ => ((P0_ k_ ∨ P1_ k_) ∨ w.heap.size ≤ k_)) ho0 (fun k_ hk_ => (.inr (Nat.le_trans (below_size (bu HB.out)) hk_)))) (below_size (bu HB.out))); replace HB := Aside0.mk (below_step (bu HB.out) hb); (try clear hb); (try clear hb2); (try clear hk); (try clear hi); (try clear ho0)))
    go_ret3
    exact ⟨_, _, by first | rfl | (simp [errW_none, errW_some] <;> rfl) | (simp [*, errW_none, errW_some] <;> rfl), by (with_reducible repeat (first | apply Kd.V_alloc | apply Kd.V_drewN | apply Kd.V_drew)); exact HO992.out, by (with_reducible repeat (first | apply Kd.V_alloc | apply Kd.V_drewN | apply Kd.V_drew)); exact HO995.out, by repeat (first | (with_reducible first | exact HB.out | apply below_alloc | apply pw_below_drewN | apply below_drew1) | exact HB.out)⟩
end Go.Proofs.Ytecfdemglbfnoaa.PT
end
section
namespace Go.Proofs.Ytecfdemglbfnoaa.PT
open Go.RowKit Go.Proofs.YtecfdemglbfnoaaW.PrintWords Go.Proofs.YtecfdemglbfnoaaW.PrintLast Go.Proofs.YtecfdemglbfnoaaW.PrintMore
attribute [local go_sem] max2_int min2_int max_two min_two max_three min_three max_four min_four   -- for this text's walks alone
set_option linter.unusedVariables false
set_option linter.unusedSimpArgs false
def nat_Gcd.l0 : Nat → List Int → List Int → Option (List Int)
 | 0, _, _ => none
 | k + 1, x0, x1 => if (x1.length : Int) > 0 then ((nat_DivMod.f k x0 x1).bind fun bt1002 => (nat_Gcd.l0 k x1 bt1002.2.1)) else ((nat_Trim.f k x0).bind fun t1009 => (some t1009))
def nat_Gcd.f (k : Nat) (l0 : List Int) (l1 : List Int) : Option (List Int) := (nat_short.f k l0).bind fun t996 => ((nat_short.f k l1).bind fun t999 => (nat_Gcd.l0 k t996 t999))
set_option maxHeartbeats 8000000 in
set_option maxRecDepth 100000 in
theorem nat_Gcd.calls (k : Nat) (A0 : Option Addr) (c0 : Nat) (l0 : List Int) (A1 : Option Addr) (c1 : Nat) (l1 : List Int) (r : List Int) (w : World) (hr0 : Kd.C (Kd.int .u32) w A0 l0.length l0) (hc0 : l0.length ≤ c0) (hr1 : Kd.C (Kd.int .u32) w A1 l1.length l1) (hc1 : l1.length ≤ c1) (h : nat_Gcd.f k l0 l1 = some r) :
 Calls Try.prog 182 #[.slice A0 l0.length c0, .slice A1 l1.length c1] w fun e w' => ∃ v0_ : Value, e = .returned (v0_) ∧ Kd.R (Kd.int .u32) 48 w' w.heap.size (fun _ => True) v0_ r ∧ Below w.heap.size w w' := by
 have HR0 := Aside0.mk hr0
 have HC0 := Aside0.mk hc0
 clear hr0 hc0
 have HR1 := Aside0.mk hr1
 have HC1 := Aside0.mk hc1
 clear hr1 hc1
 have HB := Aside0.mk (Below.refl w.heap.size w)
 have H : ((nat_short.f k l0).bind fun t996 => ((nat_short.f k l1).bind fun t999 => (nat_Gcd.l0 k t996 t999))) = some r := h
 clear h
 replace H := Option.bind_eq_some_iff.mp H
 obtain ⟨t996, A30, H⟩ := H
 replace H : ((nat_short.f k l1).bind fun t999 => (nat_Gcd.l0 k t996 t999)) = some r := H
 have A3 := Aside0.mk A30
 clear A30
 replace H := Option.bind_eq_some_iff.mp H
 obtain ⟨t999, A40, H⟩ := H
 replace H : (nat_Gcd.l0 k t996 t999) = some r := H
 have A4 := Aside0.mk A40
 clear A40
 have H' := Aside0.mk H
 clear H
 go_enter Try.func182, Try.ntmps182
 go_wp2_with (first | ((with_reducible refine gate_callee (f := 179) rfl ?_); refine goesL_ (some 9) rfl rfl Try.func179 (by kernel_rfl) rfl #[.slice A0 l0.length c0] rfl lu ?_; (with_reducible refine (nat_short.calls k (fun k_ => k_ < w.heap.size) _ _ l0 t996 _ ?side1 A3.out).mono ?_); (case side1 => exact Kd.V_mk HC0.out (Kd.F_below (Kd.C_F (Kd.heap_int .u32) HR0.out) (bu HB.out))); rintro e w5 ⟨v997, rfl, ho0, hb⟩; refine ⟨_, rfl, ?_⟩; have HO998 := Aside0.mk (Kd.V_lower (Kd.V_mono (ok' := fun k_ => True) ho0 (fun k_ hk_ => trivial)) (below_size (bu HB.out))); replace HB := Aside0.mk (below_step (bu HB.out) hb); (try clear hb); (try clear hb2); (try clear hk); (try clear hi); (try clear ho0)) | ((with_reducible refine gate_callee (f := 179) rfl ?_); refine goesL_ (some 11) rfl rfl Try.func179 (by kernel_rfl) rfl #[.slice A1 l1.length c1] rfl lu ?_; (with_reducible refine (nat_short.calls k (fun k_ => k_ < w.heap.size) _ _ l1 t999 _ ?side1 A4.out).mono ?_); (case side1 => exact Kd.V_mk HC1.out (Kd.F_below (Kd.C_F (Kd.heap_int .u32) HR1.out) (bu HB.out))); rintro e w6 ⟨v1000, rfl, ho0, hb⟩; refine ⟨_, rfl, ?_⟩; replace HO998 := Aside0.mk (Kd.V_below (vu HO998.out) hb); have HO1001 := Aside0.mk (Kd.V_lower (Kd.V_mono (ok' := fun k_ => True) ho0 (fun k_ hk_ => trivial)) (below_size (bu HB.out))); replace HB := Aside0.mk (below_step (bu HB.out) hb); (try clear hb); (try clear hb2); (try clear hk); (try clear hi); (try clear ho0)))
 go_loopg [0, 1] k (fun kq v0 v1 w' => ∃ (x0_1 : List Int) (x1_1 : List Int), Aside0 (nat_Gcd.l0 kq x0_1 x1_1 = some r) ∧ Aside0 (kq ≤ k) ∧ Aside0 (Kd.V (Kd.int .u32) 48 w' w.heap.size (fun _ => True) v0 x0_1) ∧ Aside0 (Kd.V (Kd.int .u32) 48 w' w.heap.size (fun _ => True) v1 x1_1) ∧ Aside0 (Below w.heap.size w w'))
 case atStart => exact ⟨(t996), (t999), H', ⟨Nat.le_refl _⟩, ⟨by (with_reducible repeat (first | apply Kd.V_alloc | apply Kd.V_drewN | apply Kd.V_drew)); exact HO998.out⟩, ⟨by (with_reducible repeat (first | apply Kd.V_alloc | apply Kd.V_drewN | apply Kd.V_drew)); exact HO1001.out⟩, ⟨by repeat (first | (with_reducible first | exact HB.out | apply below_alloc | apply pw_below_drewN | apply below_drew1) | exact HB.out)⟩⟩
 case round =>
  clear H'
  try clear c1
  try clear p2
  obtain ⟨x0_1, x1_1, HA, HK1, HO_0, HO_1, HB⟩ := hrel
  cases gk with
  | zero => exact absurd HA.out (by simp [nat_Gcd.l0])
  | succ k1 =>
   have H := HA.out
   clear HA
   simp only [nat_Gcd.l0] at H
   by_cases c7 : (x1_1.length : Int) > 0
   ·
    rw [if_pos c7] at H
    have c7b0 : decide (0 < (x1_1.length : Int)) = true := decide_eq_true c7
    have c7b1 : decide (0 < x1_1.length) = true := decide_eq_true (by omega)
    clear c7
    replace H := Option.bind_eq_some_iff.mp H
    obtain ⟨⟨t1002, t1005, t1008⟩, A80, H⟩ := H
    replace H : (nat_Gcd.l0 k1 x1_1 t1005) = some r := H
    have A8 := Aside0.mk A80
    clear A80
    have H' := Aside0.mk H
    clear H
    obtain ⟨Ao9, co9, eo9⟩ := Kd.V_slice HO_1.out
    subst eo9
    obtain ⟨Ao10, co10, eo10⟩ := Kd.V_slice HO_0.out
    subst eo10
    go_wp2_with (first | ((with_reducible refine gate_callee (f := 167) rfl ?_); refine goesL_ (some 18) rfl rfl Try.func167 (by kernel_rfl) rfl #[.slice Ao10 x0_1.length co10, .slice Ao9 x1_1.length co9] rfl lu ?_; (with_reducible refine (nat_DivMod.calls k1 (fun k_ => True) _ _ x0_1 (fun k_ => True) _ _ x1_1 t1002 t1005 t1008 _ ?side1 ?side2 A8.out).mono ?_); (case side1 => exact HO_0.out); (case side2 => exact HO_1.out); rintro e w11 ⟨v1003, v1006, rfl, ho0, ho1, hb⟩; refine ⟨_, rfl, ?_⟩; replace HO_0 := Aside0.mk (Kd.V_below (vu HO_0.out) hb); replace HO_1 := Aside0.mk (Kd.V_below (vu HO_1.out) hb); have HO1004 := Aside0.mk (Kd.V_lower (Kd.V_mono (ok' := fun k_ => True) ho0 (fun k_ hk_ => trivial)) (below_size (bu HB.out))); have HO1007 := Aside0.mk (Kd.V_lower (Kd.V_mono (ok' := fun k_ => True) ho1 (fun k_ hk_ => trivial)) (below_size (bu HB.out))); replace HB := Aside0.mk (below_step (bu HB.out) hb); (try clear hb); (try clear hb2); (try clear hk); (try clear hi); (try clear ho0); (try clear ho1)))
    go_roundg k1
    case measure => have := HK1.out; omega
    case rel => exact ⟨(x1_1), (t1005), H', ⟨by have := HK1.out; omega⟩, ⟨by (with_reducible repeat (first | apply Kd.V_alloc | apply Kd.V_drewN | apply Kd.V_drew)); exact HO_1.out⟩, ⟨by (with_reducible repeat (first | apply Kd.V_alloc | apply Kd.V_drewN | apply Kd.V_drew)); exact HO1007.out⟩, ⟨by repeat (first | (with_reducible first | exact HB.out | apply below_alloc | apply pw_below_drewN | apply below_drew1) | exact HB.out)⟩⟩
   ·
    rw [if_neg c7] at H
    have c7b0 : decide (0 < (x1_1.length : Int)) = false := decide_eq_false c7
    have c7b1 : decide (0 < x1_1.length) = false := decide_eq_false (by omega)
    clear c7
    replace H := Option.bind_eq_some_iff.mp H
    obtain ⟨t1009, A120, H⟩ := H
    replace H : (some t1009) = some r := H
    have A12 := Aside0.mk A120
    clear A120
    obtain rfl := Option.some.inj H
    obtain ⟨Ao13, co13, eo13⟩ := Kd.V_slice HO_1.out
    subst eo13
    obtain ⟨Ao14, co14, eo14⟩ := Kd.V_slice HO_0.out
    subst eo14
    go_wp2_with (first | ((with_reducible refine gate_callee (f := 177) rfl ?_); refine goesL_ (some 25) rfl rfl Try.func177 (by kernel_rfl) rfl #[.slice Ao14 x0_1.length co14] rfl lu ?_; (with_reducible refine (nat_Trim.calls k1 _ _ x0_1 t1009 _ ?side1 ?side2 A12.out).mono ?_); (case side1 => repeat (first | exact (Kd.V_reads' HO_0.out).2.2 | (with_reducible refine Kd.C_alloc ?_ _) | (with_reducible refine Kd.C_drewN ?_ _) | (with_reducible refine Kd.C_drew ?_))); (case side2 => exact (Kd.V_reads' HO_0.out).2.1); rintro e w15 ⟨v1010, rfl, ho0, hb⟩; refine ⟨_, rfl, ?_⟩; replace HO_0 := Aside0.mk (Kd.V_elder' (vu HO_0.out) (Kd.R_base ho0) hb); replace HO_1 := Aside0.mk (Kd.V_elder' (vu HO_1.out) (Kd.R_base ho0) hb); have HO1011 := Aside0.mk (Kd.R_lower ho0 (below_size (bu HB.out))); replace HB := Aside0.mk (below_step (bu HB.out) hb); (try clear hb); (try clear hb2); (try clear hk); (try clear hi); (try clear ho0)))
    go_ret
    exact ⟨_, by first | rfl | (simp [errW_none, errW_some] <;> rfl) | (simp [*, errW_none, errW_some] <;> rfl), by (with_reducible repeat (first | apply Kd.R_alloc | apply Kd.R_drewN | apply Kd.R_drew)); exact HO1011.out, by repeat (first | (with_reducible first | exact HB.out | apply below_alloc | apply pw_below_drewN | apply below_drew1) | exact HB.out)⟩
end Go.Proofs.Ytecfdemglbfnoaa.PT
end
