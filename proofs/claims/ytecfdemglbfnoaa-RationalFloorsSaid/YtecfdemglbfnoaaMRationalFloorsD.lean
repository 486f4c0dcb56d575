/- Walks and plain facts for the law RationalFloors, several texts in one: each theorem says what it shows; no condition beyond those that it names. -/
import Derived.Test.YtecfdemglbfnoaaMRationalFloorsC
section
namespace Go.Proofs.Ytecfdemglbfnoaa.PT
open Go.RowKit Go.Proofs.YtecfdemglbfnoaaW.PrintWords Go.Proofs.YtecfdemglbfnoaaW.PrintLast Go.Proofs.YtecfdemglbfnoaaW.PrintMore
attribute [local go_sem] max2_int min2_int max_two min_two max_three min_three max_four min_four   -- for this text's walks alone
set_option linter.unusedVariables false
set_option linter.unusedSimpArgs false
set_option maxHeartbeats 8000000 in
set_option maxRecDepth 100000 in
theorem nat_step.calls (k : Nat) (P0_ : Nat → Prop) (g o N cap co11 : Nat) (zs : List Int) (l0 : List Int) (A1 : Option Addr) (c1 : Nat) (l1 : List Int) (r1 : Int) (r2 : List Int) (w0 w : World) (hB : Below w0.heap.size w0 w) (ho0 : Wn g o N cap l0.length zs w w0.heap.size P0_ l0) (hco : l0.length ≤ co11) (hr1 : ∀ W_, Kept w W_ (fun k_ => P0_ k_) → Kd.C (Kd.int .u32) W_ A1 l1.length l1) (hc1 : l1.length ≤ c1) (h : nat_step.f k l0 l1 = some (r1, r2)) :
 Calls Try.prog 190 #[.slice (some ⟨g, o, none⟩) l0.length co11, .slice A1 l1.length c1] w fun e w' => e = .returned (.int .u32 r1) ∧ Wn g o N cap l0.length zs w' w0.heap.size (fun k_ => (P0_ k_ ∨ w.heap.size ≤ k_)) r2 ∧ Below w0.heap.size w0 w' ∧ Kept w w' (fun k_ => P0_ k_) := by
 have cv := Aside0.mk (show Wn g o N cap l0.length zs w w0.heap.size (fun k_ => (P0_ k_ ∨ w.heap.size ≤ k_)) l0 from Wn_mono ho0 (fun k_ hk => (.inl hk)))
 have bF := Aside0.mk hr1
 have cD := Aside0.mk hc1
 clear hr1 hc1
 have HK := Aside0.mk (Kept.refl w (fun k_ => P0_ k_))
 have HW0 := Aside0.mk hB.size
 have HB := Aside0.mk hB
 clear hB
 have H : (if 0 ≤ (l1.length : Int) then (if (l1.length : Int) < (l0.length : Int) then (if 0 ≤ (wrap64 ((l1.length : Int) - 1)) then (if (wrap64 ((l1.length : Int) - 1)) < (l0.length : Int) then (if (wrap64 ((l1.length : Int) - 1)) < (l1.length : Int) then (if (IntKind.u64.wrap (rd l1 (wrap64 ((l1.length : Int) - 1)))) = 0 then (none) else (nat_step.l0 k l0 l1 (l1.length : Int) (IntKind.u64.wrap (Int.tdiv (Go.bits .or .u64 (IntKind.u64.wrap ((IntKind.u64.wrap (rd l0 (l1.length : Int))) * 4294967296)) (IntKind.u64.wrap (rd l0 (wrap64 ((l1.length : Int) - 1))))) (IntKind.u64.wrap (rd l1 (wrap64 ((l1.length : Int) - 1)))))) (Int.tmod (Go.bits .or .u64 (IntKind.u64.wrap ((IntKind.u64.wrap (rd l0 (l1.length : Int))) * 4294967296)) (IntKind.u64.wrap (rd l0 (wrap64 ((l1.length : Int) - 1))))) (IntKind.u64.wrap (rd l1 (wrap64 ((l1.length : Int) - 1))))))) else (none)) else (none)) else (none)) else (none)) else (none)) = some (r1, r2) := h
 clear h
 by_cases c3 : 0 ≤ (l1.length : Int)
 ·
  rw [if_pos c3] at H
  have bo : decide (0 ≤ (l1.length : Int)) = true := decide_eq_true c3
  have bp : decide (0 ≤ l1.length) = true := decide_eq_true (by omega)
  clear c3
  by_cases c4 : (l1.length : Int) < (l0.length : Int)
  ·
   rw [if_pos c4] at H
   have bq : decide ((l1.length : Int) < (l0.length : Int)) = true := decide_eq_true c4
   have br : decide (l1.length < l0.length) = true := decide_eq_true (Int.ofNat_lt.mp c4)
   clear c4
   obtain ⟨ji5, hji5⟩ : ∃ j_ : Int, (wrap64 ((l1.length : Int) - 1)) = j_ := ⟨_, rfl⟩
   replace H : (if 0 ≤ (ji5) then (if (ji5) < (l0.length : Int) then (if (ji5) < (l1.length : Int) then (if (IntKind.u64.wrap (rd l1 (ji5))) = 0 then (none) else (nat_step.l0 k l0 l1 (l1.length : Int) (IntKind.u64.wrap (Int.tdiv (Go.bits .or .u64 (IntKind.u64.wrap ((IntKind.u64.wrap (rd l0 (l1.length : Int))) * 4294967296)) (IntKind.u64.wrap (rd l0 (ji5)))) (IntKind.u64.wrap (rd l1 (ji5))))) (Int.tmod (Go.bits .or .u64 (IntKind.u64.wrap ((IntKind.u64.wrap (rd l0 (l1.length : Int))) * 4294967296)) (IntKind.u64.wrap (rd l0 (ji5)))) (IntKind.u64.wrap (rd l1 (ji5)))))) else (none)) else (none)) else (none)) = some (r1, r2) := by first | (rw [hji5] at H; exact H) | (simp only [hji5] at H ⊢; exact H)
   have hji5w : (IntKind.i64.wrap ((l1.length : Int) - 1)) = ji5 := (i64_w _).trans hji5
   by_cases c6 : 0 ≤ (ji5)
   ·
    rw [if_pos c6] at H
    have bs : decide (0 ≤ (ji5)) = true := decide_eq_true c6
    clear c6
    by_cases c7 : (ji5) < (l0.length : Int)
    ·
     rw [if_pos c7] at H
     have bv : decide ((ji5) < (l0.length : Int)) = true := decide_eq_true c7
     clear c7
     by_cases c8 : (ji5) < (l1.length : Int)
     ·
      rw [if_pos c8] at H
      have bw : decide ((ji5) < (l1.length : Int)) = true := decide_eq_true c8
      clear c8
      by_cases c9 : (IntKind.u64.wrap (rd l1 (ji5))) = 0
      ·
       rw [if_pos c9] at H
       exact absurd H (by simp)
      ·
       rw [if_neg c9] at H
       have bx : ((IntKind.u64.wrap (rd l1 (ji5))) == 0) = false := beq_eq_false_iff_ne.mpr c9
       have bz : ((IntKind.u64.wrap (rd l1 (ji5))) != 0) = true := bne_iff_ne.mpr c9
       have bN := Aside0.mk H
       clear H
       have p948 : 0 ≤ ((l1.length : Int) : Int) := of_decide_eq_true (by first | (with_reducible assumption) | assumption)
       have q948 : (l1.length : Int) < (l0.length : Int) := of_decide_eq_true (by first | (with_reducible assumption) | assumption)
       have ao := (Wn_cell cv.out (l1.length : Int) p948 q948).1
       (try simp only [Go.IntWalk.toNatUp] at ao)
       replace p948 := eq_true p948
       replace q948 := eq_true q948
       have p949 : 0 ≤ ((ji5) : Int) := of_decide_eq_true (by first | (with_reducible assumption) | assumption)
       have q949 : (ji5) < (l0.length : Int) := of_decide_eq_true (by first | (with_reducible assumption) | assumption)
       have aq := (Wn_cell cv.out (ji5) p949 q949).1
       replace p949 := eq_true p949
       replace q949 := eq_true q949
       have p950 : 0 ≤ ((ji5) : Int) := of_decide_eq_true (by first | (with_reducible assumption) | assumption)
       have q950 : (ji5) < (l1.length : Int) := of_decide_eq_true (by first | (with_reducible assumption) | assumption)
       obtain ⟨ad950, e950, aC⟩ := Kd.at_int (Kd.C_kept_now bF.out HK.out) (ji5) p950 q950
       cases e950
       replace p950 := eq_true p950
       replace q950 := eq_true q950
       have p951 : 0 ≤ ((ji5) : Int) := of_decide_eq_true (by first | (with_reducible assumption) | assumption)
       have q951 : (ji5) < (l1.length : Int) := of_decide_eq_true (by first | (with_reducible assumption) | assumption)
       obtain ⟨ad951, e951, aD⟩ := Kd.at_int (Kd.C_kept_now bF.out HK.out) (ji5) p951 q951
       obtain rfl : ad950 = ad951 := (by injection e951)
       replace p951 := eq_true p951
       replace q951 := eq_true q951
       go_enter Try.func190, Try.ntmps190
       go_upto_block 0 with (fail)
       repeat (go_quiet (fail); go_upto_block 0 with (fail))
       go_cut [7] (fun v7 wc => ∃ (kq : Nat) (ai : Int), v7 = .int .u64 ai ∧ Aside0 (nat_step.j1 kq l0 l1 (l1.length : Int) ai = some (r1, r2)) ∧ Aside0 (kq ≤ k) ∧ Aside0 (Wn g o N cap l0.length zs wc w0.heap.size (fun k_ => (P0_ k_ ∨ w.heap.size ≤ k_)) l0) ∧ Aside0 (Kept w wc (fun k_ => P0_ k_)) ∧ Aside0 (Below w0.heap.size w0 wc))
       case first =>
        have H := bN.out
        clear bN
        have H' := Aside0.mk H
        clear H
        go_wp2
        repeat (go_quiet (fail); try go_wp2)
        go_loopg [7, 8] k (fun kq v7 v8 w' => ∃ (an : Int) (ap : Int), v7 = .int .u64 an ∧ v8 = .int .u64 ap ∧ Aside0 (nat_step.l0 kq l0 l1 (l1.length : Int) an ap = some (r1, r2)) ∧ Aside0 (kq ≤ k) ∧ Aside0 (Wn g o N cap l0.length zs w' w0.heap.size (fun k_ => (P0_ k_ ∨ w.heap.size ≤ k_)) l0) ∧ Aside0 (Kept w w' (fun k_ => P0_ k_)) ∧ Aside0 (Below w0.heap.size w0 w'))
        case atStart => exact ⟨(IntKind.u64.wrap (Int.tdiv (Go.bits .or .u64 (IntKind.u64.wrap ((IntKind.u64.wrap (rd l0 (l1.length : Int))) * 4294967296)) (IntKind.u64.wrap (rd l0 (ji5)))) (IntKind.u64.wrap (rd l1 (ji5))))), (Int.tmod (Go.bits .or .u64 (IntKind.u64.wrap ((IntKind.u64.wrap (rd l0 (l1.length : Int))) * 4294967296)) (IntKind.u64.wrap (rd l0 (ji5)))) (IntKind.u64.wrap (rd l1 (ji5)))), (by first | rfl | (simp; done) | (simp only [← hji5] <;> (first | rfl | simp)) | (simp [*]; done)), (by first | rfl | (simp; done) | (simp only [← hji5] <;> (first | rfl | simp)) | (simp [*]; done)), H', ⟨Nat.le_refl _⟩, ⟨by (with_reducible repeat (first | apply Wn_alloc | apply Wn_drewN | apply Wn_drew)); exact cv.out⟩, ⟨by repeat (first | (with_reducible first | exact HK.out | apply Kept.alloc | apply Kept.drewN | apply Kept.drew) | exact HK.out)⟩, ⟨by repeat (first | (with_reducible first | exact HB.out | apply below_alloc | apply pw_below_drewN | apply below_drew1) | exact HB.out)⟩⟩
        case round =>
         clear H'
         try clear c1
         try clear p2
         try clear c3
         try clear bo
         try clear bp
         try clear c4
         try clear bq
         try clear br
         try clear c6
         try clear bs
         try clear p6
         try clear c7
         try clear bv
         try clear c8
         try clear bw
         try clear c9
         try clear bx
         try clear bz
         try clear p9
         try clear q9
         try clear hx9
         try clear ao
         try clear aq
         try clear aC
         try clear aD
         try clear p948
         try clear p949
         try clear p950
         try clear p951
         try clear q948
         try clear q949
         try clear q950
         try clear q951
         obtain ⟨an, ap, rfl, rfl, HA, HK1, aa, HK, HB⟩ := hrel
         cases gk with
         | zero => exact absurd HA.out (by simp [nat_step.l0])
         | succ k1 =>
          have H := HA.out
          clear HA
          simp only [nat_step.l0] at H
          by_cases bA : ap < 4294967296
          ·
           rw [if_pos bA] at H
           have aw : decide (ap < 4294967296) = true := decide_eq_true bA
           clear bA
           (first | rw [aw] | rw [c12b1] | (simp only [i64_w, i32_w]; rw [aw]) | skip)
           by_cases bB : an ≥ 4294967296
           ·
            rw [if_pos bB] at H
            have aX : decide (4294967296 ≤ an) = true := decide_eq_true bB
            clear bB
            obtain ⟨ji14, hji14⟩ : ∃ j_ : Int, (wrap64 ((l1.length : Int) - 1)) = j_ := ⟨_, rfl⟩
            replace H : (if 0 ≤ (ji14) then (if (ji14) < (l1.length : Int) then (nat_step.l0 k1 l0 l1 (l1.length : Int) (IntKind.u64.wrap (an - 1)) (IntKind.u64.wrap (ap + (IntKind.u64.wrap (rd l1 (ji14)))))) else (none)) else (none)) = some (r1, r2) := by first | (rw [hji14] at H; exact H) | (simp only [hji14] at H ⊢; exact H)
            have hji14w : (IntKind.i64.wrap ((l1.length : Int) - 1)) = ji14 := (i64_w _).trans hji14
            have hz14 : ji5 = ji14 := hji5.symm.trans hji14
            subst hz14
            by_cases bO : 0 ≤ (ji5)
            ·
             rw [if_pos bO] at H
             have a3 : decide (0 ≤ (ji5)) = true := decide_eq_true bO
             clear bO
             by_cases bP : (ji5) < (l1.length : Int)
             ·
              rw [if_pos bP] at H
              have a4 : decide ((ji5) < (l1.length : Int)) = true := decide_eq_true bP
              clear bP
              have H' := Aside0.mk H
              clear H
              have p952 : 0 ≤ ((ji5) : Int) := of_decide_eq_true (by first | (with_reducible assumption) | assumption)
              have q952 : (ji5) < (l1.length : Int) := of_decide_eq_true (by first | (with_reducible assumption) | assumption)
              obtain ⟨ad952, e952, aJ⟩ := Kd.at_int (Kd.C_kept_now bF.out HK.out) (ji5) p952 q952
              obtain rfl : ad950 = ad952 := (by injection e952)
              replace p952 := eq_true p952
              replace q952 := eq_true q952
              go_wp2
              repeat (go_quiet (fail); try go_wp2)
              go_roundg k1
              case measure => have := HK1.out; omega
              case rel => exact ⟨(IntKind.u64.wrap (an - 1)), (IntKind.u64.wrap (ap + (IntKind.u64.wrap (rd l1 (ji5))))), (by first | rfl | (simp; done) | (simp [*]; done)), (by first | rfl | (simp; done) | (simp only [← hji14] <;> (first | rfl | simp)) | (simp [*]; done)), H', ⟨by have := HK1.out; omega⟩, ⟨by (with_reducible repeat (first | apply Wn_alloc | apply Wn_drewN | apply Wn_drew)); exact aa.out⟩, ⟨by repeat (first | (with_reducible first | exact HK.out | apply Kept.alloc | apply Kept.drewN | apply Kept.drew) | exact HK.out)⟩, ⟨by repeat (first | (with_reducible first | exact HB.out | apply below_alloc | apply pw_below_drewN | apply below_drew1) | exact HB.out)⟩⟩
             ·
              rw [if_neg bP] at H
              exact absurd H (by simp)
            ·
             rw [if_neg bO] at H
             exact absurd H (by simp)
           ·
            rw [if_neg bB] at H
            have aX : decide (4294967296 ≤ an) = false := decide_eq_false bB
            clear bB
            obtain ⟨ji17, hji17⟩ : ∃ j_ : Int, (wrap64 ((l1.length : Int) - 2)) = j_ := ⟨_, rfl⟩
            replace H : (if 0 ≤ (ji17) then (if (ji17) < (l1.length : Int) then (if (ji17) < (l0.length : Int) then (if (IntKind.u64.wrap (an * (IntKind.u64.wrap (rd l1 (ji17))))) > (Go.bits .or .u64 (IntKind.u64.wrap (ap * 4294967296)) (IntKind.u64.wrap (rd l0 (ji17)))) then (if 0 ≤ (wrap64 ((l1.length : Int) - 1)) then (if (wrap64 ((l1.length : Int) - 1)) < (l1.length : Int) then (nat_step.l0 k1 l0 l1 (l1.length : Int) (IntKind.u64.wrap (an - 1)) (IntKind.u64.wrap (ap + (IntKind.u64.wrap (rd l1 (wrap64 ((l1.length : Int) - 1))))))) else (none)) else (none)) else (nat_step.j1 k1 l0 l1 (l1.length : Int) an)) else (none)) else (none)) else (none)) = some (r1, r2) := by first | (rw [hji17] at H; exact H) | (simp only [hji17] at H ⊢; exact H)
            have hji17w : (IntKind.i64.wrap ((l1.length : Int) - 2)) = ji17 := (i64_w _).trans hji17
            by_cases bQ : 0 ≤ (ji17)
            ·
             rw [if_pos bQ] at H
             have a5 : decide (0 ≤ (ji17)) = true := decide_eq_true bQ
             clear bQ
             by_cases bR : (ji17) < (l1.length : Int)
             ·
              rw [if_pos bR] at H
              have a6 : decide ((ji17) < (l1.length : Int)) = true := decide_eq_true bR
              clear bR
              by_cases bS : (ji17) < (l0.length : Int)
              ·
               rw [if_pos bS] at H
               have a7 : decide ((ji17) < (l0.length : Int)) = true := decide_eq_true bS
               clear bS
               by_cases bC : (IntKind.u64.wrap (an * (IntKind.u64.wrap (rd l1 (ji17))))) > (Go.bits .or .u64 (IntKind.u64.wrap (ap * 4294967296)) (IntKind.u64.wrap (rd l0 (ji17))))
               ·
                rw [if_pos bC] at H
                have aY : decide ((Go.bits .or .u64 (IntKind.u64.wrap (ap * 4294967296)) (IntKind.u64.wrap (rd l0 (ji17)))) < (IntKind.u64.wrap (an * (IntKind.u64.wrap (rd l1 (ji17)))))) = true := decide_eq_true bC
                clear bC
                obtain ⟨ji22, hji22⟩ : ∃ j_ : Int, (wrap64 ((l1.length : Int) - 1)) = j_ := ⟨_, rfl⟩
                replace H : (if 0 ≤ (ji22) then (if (ji22) < (l1.length : Int) then (nat_step.l0 k1 l0 l1 (l1.length : Int) (IntKind.u64.wrap (an - 1)) (IntKind.u64.wrap (ap + (IntKind.u64.wrap (rd l1 (ji22)))))) else (none)) else (none)) = some (r1, r2) := by first | (rw [hji22] at H; exact H) | (simp only [hji22] at H ⊢; exact H)
                have hji22w : (IntKind.i64.wrap ((l1.length : Int) - 1)) = ji22 := (i64_w _).trans hji22
                have hz22 : ji5 = ji22 := hji5.symm.trans hji22
                subst hz22
                by_cases bT : 0 ≤ (ji5)
                ·
                 rw [if_pos bT] at H
                 have a8 : decide (0 ≤ (ji5)) = true := decide_eq_true bT
                 clear bT
                 by_cases bU : (ji5) < (l1.length : Int)
                 ·
                  rw [if_pos bU] at H
                  have a9 : decide ((ji5) < (l1.length : Int)) = true := decide_eq_true bU
                  clear bU
                  have H' := Aside0.mk H
                  clear H
                  have p953 : 0 ≤ ((ji17) : Int) := of_decide_eq_true (by first | (with_reducible assumption) | assumption)
                  have q953 : (ji17) < (l1.length : Int) := of_decide_eq_true (by first | (with_reducible assumption) | assumption)
                  obtain ⟨ad953, e953, aE⟩ := Kd.at_int (Kd.C_kept_now bF.out HK.out) (ji17) p953 q953
                  obtain rfl : ad950 = ad953 := (by injection e953)
                  replace p953 := eq_true p953
                  replace q953 := eq_true q953
                  have p954 : 0 ≤ ((ji17) : Int) := of_decide_eq_true (by first | (with_reducible assumption) | assumption)
                  have q954 : (ji17) < (l0.length : Int) := of_decide_eq_true (by first | (with_reducible assumption) | assumption)
                  have au := (Wn_cell aa.out (ji17) p954 q954).1
                  replace p954 := eq_true p954
                  replace q954 := eq_true q954
                  have p955 : 0 ≤ ((ji5) : Int) := of_decide_eq_true (by first | (with_reducible assumption) | assumption)
                  have q955 : (ji5) < (l1.length : Int) := of_decide_eq_true (by first | (with_reducible assumption) | assumption)
                  obtain ⟨ad955, e955, aK⟩ := Kd.at_int (Kd.C_kept_now bF.out HK.out) (ji5) p955 q955
                  obtain rfl : ad950 = ad955 := (by injection e955)
                  replace p955 := eq_true p955
                  replace q955 := eq_true q955
                  go_wp2
                  repeat (go_quiet (fail); try go_wp2)
                  go_roundg k1
                  case measure => have := HK1.out; omega
                  case rel => exact ⟨(IntKind.u64.wrap (an - 1)), (IntKind.u64.wrap (ap + (IntKind.u64.wrap (rd l1 (ji5))))), (by first | rfl | (simp; done) | (simp [*]; done)), (by first | rfl | (simp; done) | (simp only [← hji22] <;> (first | rfl | simp)) | (simp [*]; done)), H', ⟨by have := HK1.out; omega⟩, ⟨by (with_reducible repeat (first | apply Wn_alloc | apply Wn_drewN | apply Wn_drew)); exact aa.out⟩, ⟨by repeat (first | (with_reducible first | exact HK.out | apply Kept.alloc | apply Kept.drewN | apply Kept.drew) | exact HK.out)⟩, ⟨by repeat (first | (with_reducible first | exact HB.out | apply below_alloc | apply pw_below_drewN | apply below_drew1) | exact HB.out)⟩⟩
                 ·
                  rw [if_neg bU] at H
                  exact absurd H (by simp)
                ·
                 rw [if_neg bT] at H
                 exact absurd H (by simp)
               ·
                rw [if_neg bC] at H
                have aY : decide ((Go.bits .or .u64 (IntKind.u64.wrap (ap * 4294967296)) (IntKind.u64.wrap (rd l0 (ji17)))) < (IntKind.u64.wrap (an * (IntKind.u64.wrap (rd l1 (ji17)))))) = false := decide_eq_false bC
                clear bC
                have H' := Aside0.mk H
                clear H
                have p953 : 0 ≤ ((ji17) : Int) := of_decide_eq_true (by first | (with_reducible assumption) | assumption)
                have q953 : (ji17) < (l1.length : Int) := of_decide_eq_true (by first | (with_reducible assumption) | assumption)
                obtain ⟨ad953, e953, aE⟩ := Kd.at_int (Kd.C_kept_now bF.out HK.out) (ji17) p953 q953
                obtain rfl : ad950 = ad953 := (by injection e953)
                replace p953 := eq_true p953
                replace q953 := eq_true q953
                have p954 : 0 ≤ ((ji17) : Int) := of_decide_eq_true (by first | (with_reducible assumption) | assumption)
                have q954 : (ji17) < (l0.length : Int) := of_decide_eq_true (by first | (with_reducible assumption) | assumption)
                have au := (Wn_cell aa.out (ji17) p954 q954).1
                replace p954 := eq_true p954
                replace q954 := eq_true q954
                go_wp2
                repeat (go_quiet (fail); try go_wp2)
                go_meet
                case rel => exact ⟨_, (an), (by first | rfl | (simp; done) | (simp [*]; done)), H', ⟨by have := HK1.out; first | omega | exact Nat.le_refl _⟩, ⟨by (with_reducible repeat (first | apply Wn_alloc | apply Wn_drewN | apply Wn_drew)); exact aa.out⟩, ⟨by repeat (first | (with_reducible first | exact HK.out | apply Kept.alloc | apply Kept.drewN | apply Kept.drew) | exact HK.out)⟩, ⟨by repeat (first | (with_reducible first | exact HB.out | apply below_alloc | apply pw_below_drewN | apply below_drew1) | exact HB.out)⟩⟩
              ·
               rw [if_neg bS] at H
               exact absurd H (by simp)
             ·
              rw [if_neg bR] at H
              exact absurd H (by simp)
            ·
             rw [if_neg bQ] at H
             exact absurd H (by simp)
          ·
           rw [if_neg bA] at H
           have aw : decide (ap < 4294967296) = false := decide_eq_false bA
           clear bA
           (first | rw [aw] | rw [c12b1] | (simp only [i64_w, i32_w]; rw [aw]) | skip)
           have H' := Aside0.mk H
           clear H
           go_wp2
           repeat (go_quiet (fail); try go_wp2)
           go_meet
           case rel => exact ⟨_, (an), (by first | rfl | (simp; done) | (simp [*]; done)), H', ⟨by have := HK1.out; first | omega | exact Nat.le_refl _⟩, ⟨by (with_reducible repeat (first | apply Wn_alloc | apply Wn_drewN | apply Wn_drew)); exact aa.out⟩, ⟨by repeat (first | (with_reducible first | exact HK.out | apply Kept.alloc | apply Kept.drewN | apply Kept.drew) | exact HK.out)⟩, ⟨by repeat (first | (with_reducible first | exact HB.out | apply below_alloc | apply pw_below_drewN | apply below_drew1) | exact HB.out)⟩⟩
       case rest =>
        clear bN
        try clear c1
        try clear c2
        try clear p2
        try clear c3
        try clear bo
        try clear bp
        try clear c4
        try clear bq
        try clear br
        try clear c6
        try clear bs
        try clear p6
        try clear c7
        try clear bv
        try clear c8
        try clear bw
        try clear c9
        try clear bx
        try clear bz
        try clear p9
        try clear q9
        try clear hx9
        try clear bA
        try clear aw
        try clear c12b1
        try clear bB
        try clear aX
        try clear bO
        try clear a3
        try clear bP
        try clear a4
        try clear bQ
        try clear a5
        try clear bR
        try clear a6
        try clear bS
        try clear a7
        try clear bC
        try clear aY
        try clear bT
        try clear a8
        try clear bU
        try clear a9
        try clear ao
        try clear aq
        try clear aC
        try clear aD
        try clear aJ
        try clear aE
        try clear au
        try clear aK
        try clear p2
        try clear p6
        try clear p9
        try clear p948
        try clear p949
        try clear p950
        try clear p951
        try clear p952
        try clear p953
        try clear p954
        try clear p955
        try clear q9
        try clear q948
        try clear q949
        try clear q950
        try clear q951
        try clear q952
        try clear q953
        try clear q954
        try clear q955
        obtain ⟨kq, ai, rfl, HA, HJ9, aa, HK, HB⟩ := hcut
        cases kq with
        | zero => exact absurd HA.out (by simp [nat_step.j1])
        | succ kj9 =>
         have H := HA.out
         clear HA
         simp only [nat_step.j1] at H
         have H' := Aside0.mk H
         clear H
         go_wp2
         repeat (go_quiet (fail); try go_wp2)
         go_loopg [9, 10, 86] kj9 (fun kq v9 cw cC w' => ∃ (ad : List Int) (ag : Int) (ae : Int) (ac : Int), v9 = .int .u64 ag ∧ cw = .int .u64 ae ∧ cC = .int .i64 ac ∧ Aside0 (nat_step.l1 kq ad l1 (l1.length : Int) ai ag ae (l1.length : Int) ac = some (r1, r2)) ∧ Aside0 (kq ≤ kj9) ∧ Aside0 (Wn g o N cap l0.length zs w' w0.heap.size (fun k_ => (P0_ k_ ∨ w.heap.size ≤ k_)) ad) ∧ Aside0 (Kept w w' (fun k_ => P0_ k_)) ∧ Aside0 (Below w0.heap.size w0 w'))
         case atStart => exact ⟨(l0), (0), (0), (0), (by first | rfl | (simp; done) | (simp [*]; done)), (by first | rfl | (simp; done) | (simp [*]; done)), (by first | rfl | (simp; done) | (simp [*]; done)), H', ⟨Nat.le_refl _⟩, ⟨by (with_reducible repeat (first | apply Wn_alloc | apply Wn_drewN | apply Wn_drew)); exact aa.out⟩, ⟨by repeat (first | (with_reducible first | exact HK.out | apply Kept.alloc | apply Kept.drewN | apply Kept.drew) | exact HK.out)⟩, ⟨by repeat (first | (with_reducible first | exact HB.out | apply below_alloc | apply pw_below_drewN | apply below_drew1) | exact HB.out)⟩⟩
         case round =>
          clear H'
          try clear c1
          try clear c2
          try clear p2
          try clear c3
          try clear bo
          try clear bp
          try clear c4
          try clear bq
          try clear br
          try clear c6
          try clear bs
          try clear p6
          try clear c7
          try clear bv
          try clear c8
          try clear bw
          try clear c9
          try clear bx
          try clear bz
          try clear p9
          try clear q9
          try clear hx9
          try clear bA
          try clear aw
          try clear c12b1
          try clear bB
          try clear aX
          try clear bO
          try clear a3
          try clear bP
          try clear a4
          try clear bQ
          try clear a5
          try clear bR
          try clear a6
          try clear bS
          try clear a7
          try clear bC
          try clear aY
          try clear bT
          try clear a8
          try clear bU
          try clear a9
          try clear ao
          try clear aq
          try clear aC
          try clear aD
          try clear aJ
          try clear aE
          try clear au
          try clear aK
          try clear p2
          try clear p6
          try clear p9
          try clear p948
          try clear p949
          try clear p950
          try clear p951
          try clear p952
          try clear p953
          try clear p954
          try clear p955
          try clear q9
          try clear q948
          try clear q949
          try clear q950
          try clear q951
          try clear q952
          try clear q953
          try clear q954
          try clear q955
          obtain ⟨ad, ag, ae, ac, rfl, rfl, rfl, HA, HK2, aa, HK, HB⟩ := hrel
          have hl0_2 := aa.out.1.symm
          rw [hl0_2] at aa
          (try simp only [hl0_2])
          cases gk with
          | zero => exact absurd HA.out (by simp [nat_step.l1])
          | succ k2 =>
           have H := HA.out
           clear HA
           simp only [nat_step.l1] at H
           by_cases bV : ac < (l1.length : Int)
           ·
            rw [if_pos bV] at H
            have aZ : decide (ac < (l1.length : Int)) = true := decide_eq_true bV
            clear bV
            (try (have aS := aZ; simp only [hl0_2] at aS))
            by_cases cd : 0 ≤ ac
            ·
             rw [if_pos cd] at H
             have ce : decide (0 ≤ ac) = true := decide_eq_true cd
             clear cd
             by_cases cf : ac < (l1.length : Int)
             ·
              rw [if_pos cf] at H
              have bG : decide (ac < (l1.length : Int)) = true := decide_eq_true cf
              clear cf
              (try (have bW := bG; simp only [hl0_2] at bW))
              by_cases cg : ac < (ad.length : Int)
              ·
               rw [if_pos cg] at H
               have bH : decide (ac < (ad.length : Int)) = true := decide_eq_true cg
               clear cg
               (try (have bX := bH; simp only [hl0_2] at bX))
               obtain ⟨ba, aO⟩ : ∃ y_ : List Int, y_ = (ad.set (ac : Int).toNat ((IntKind.u64.wrap ((IntKind.u64.wrap ((IntKind.u64.wrap (rd ad ac)) - ((IntKind.u64.wrap ((IntKind.u64.wrap (ai * (IntKind.u64.wrap (rd l1 ac)))) + ae)) % 4294967296))) - ag)) % 4294967296)) := ⟨_, rfl⟩
               replace H : (nat_step.l1 k2 ba l1 (l1.length : Int) ai ((IntKind.u64.wrap ((IntKind.u64.wrap ((IntKind.u64.wrap (rd ad ac)) - ((IntKind.u64.wrap ((IntKind.u64.wrap (ai * (IntKind.u64.wrap (rd l1 ac)))) + ae)) % 4294967296))) - ag)) / 9223372036854775808) ((IntKind.u64.wrap ((IntKind.u64.wrap (ai * (IntKind.u64.wrap (rd l1 ac)))) + ae)) / 4294967296) (l1.length : Int) (wrap64 (ac + 1))) = some (r1, r2) := by first | (rw [aO]; with_reducible exact H) | (have H2_ := (Option.bind_some _ _).symm.trans H; rw [aO]; with_reducible exact H2_) | (have H2_ := (Option.bind_some _ _).symm.trans H; with_reducible exact H2_) | with_reducible exact H | (rw [aO]; exact H) | exact H
               have bb := Aside0.mk aO
               clear aO
               have H' := Aside0.mk H
               clear H
               have p956 : 0 ≤ (ac : Int) := of_decide_eq_true (by first | (with_reducible assumption) | assumption)
               have q956 : ac < (l1.length : Int) := of_decide_eq_true (by first | (with_reducible assumption) | assumption)
               obtain ⟨ad956, e956, bD⟩ := Kd.at_int (Kd.C_kept_now bF.out HK.out) ac p956 q956
               obtain rfl : ad950 = ad956 := (by injection e956)
               replace p956 := eq_true p956
               replace q956 := eq_true q956
               have p957 : 0 ≤ (ac : Int) := of_decide_eq_true (by first | (with_reducible assumption) | assumption)
               have q957 : ac < (ad.length : Int) := of_decide_eq_true (by first | (with_reducible assumption) | assumption)
               have a0 := (Wn_cell aa.out ac p957 q957).1
               replace p957 := eq_true p957
               replace q957 := eq_true q957
               have p29 : 0 ≤ (ac : Int) := of_decide_eq_true (by first | (with_reducible assumption) | assumption)
               have q29 : (ac : Int) < ((ad.length : Int) : Int) := of_decide_eq_true (by first | (with_reducible assumption) | assumption)
               have GB29 := Aside0.mk (Wn_base aa.out)
               have HMgo29 := Aside0.mk (Wn_ok aa.out g rfl)
               (first | simp only [add_off] at ao | skip)
               (first | simp only [add_off] at aq | skip)
               (first | simp only [add_off] at au | skip)
               (first | simp only [add_off] at a0 | skip)
               obtain ⟨bY, cx⟩ := Wn_cell aa.out (ac : Int) p29 q29
               replace p29 := eq_true p29
               replace q29 := eq_true q29
               obtain ⟨bd, hz30_⟩ := Wn_cell aa.out (ac : Int) (of_decide_eq_true (by first | (with_reducible assumption) | assumption)) (of_decide_eq_true (by first | (with_reducible assumption) | assumption))
               have ax := Wn_put aa.out (ac : Int) (of_decide_eq_true (by first | (with_reducible assumption) | assumption)) (of_decide_eq_true (by first | (with_reducible assumption) | assumption)) ((IntKind.u64.wrap ((IntKind.u64.wrap ((IntKind.u64.wrap (rd ad ac)) - ((IntKind.u64.wrap ((IntKind.u64.wrap (ai * (IntKind.u64.wrap (rd l1 ac)))) + ae)) % 4294967296))) - ag)) % 4294967296)
               go_wp2_with (first | ((with_reducible refine gate_store (t := 48) (p := 115) rfl ?_); (try (rw [drewN_self wr]; generalize hq_ : World.drewN wr _ = wr; have aj := Aside0.mk (Wn_at hq_ aa.out); have ak := Aside0.mk (kept_at hq_ HK.out); have al := Aside0.mk (below_at hq_ HB.out); clear hq_ aa HK HB; have aa := aj; have HK := ak; have HB := al; clear aj ak al; (try (obtain ⟨bd, hz30_⟩ := Wn_cell aa.out (ac : Int) (of_decide_eq_true (by first | (with_reducible assumption) | assumption)) (of_decide_eq_true (by first | (with_reducible assumption) | assumption)))); (try (have ax := Wn_put aa.out (ac : Int) (of_decide_eq_true (by first | (with_reducible assumption) | assumption)) (of_decide_eq_true (by first | (with_reducible assumption) | assumption)) ((IntKind.u64.wrap ((IntKind.u64.wrap ((IntKind.u64.wrap (rd ad ac)) - ((IntKind.u64.wrap ((IntKind.u64.wrap (ai * (IntKind.u64.wrap (rd l1 ac)))) + ae)) % 4294967296))) - ag)) % 4294967296))))); refine store_event (t := 48) (p := 115) (v := ?vo_w31) (w1 := (wr.setCell ⟨g, o + (ac : Int).toNat, none⟩ (.int .u32 ((IntKind.u64.wrap ((IntKind.u64.wrap ((IntKind.u64.wrap (rd ad ac)) - ((IntKind.u64.wrap ((IntKind.u64.wrap (ai * (IntKind.u64.wrap (rd l1 ac)))) + ae)) % 4294967296))) - ag)) % 4294967296)))) ?hg ?ho ?hn ?hr ?_; (case ho => rfl); (case hg => rfl); (case hn => rfl); (case hr => first | (go_simp; done) | (go_simp; rfl)); intro be hw; have hg : wr.grownBy be (some g) := (by rw [hw]; exact ax.2); have hp_ : Wn g o N cap ad.length zs be w0.heap.size (fun k_ => (P0_ k_ ∨ w.heap.size ≤ k_)) ba := (by rw [hw, bb.out]; exact ax.1); clear ax; replace HB := Aside0.mk ((by rw [hw]; exact below_set (HB.out) GB29.out : Below w0.heap.size w0 be)); replace HK := Aside0.mk (Kept.of_grown (S := (fun k_ => P0_ k_)) hg (by repeat (first | (with_reducible first | exact HK.out | apply Kept.alloc | apply Kept.drewN | apply Kept.drew) | exact HK.out)) (fun k_ e_ => (Wn_ok aa.out k_ e_))); replace aa := Aside0.mk (hp_); clear hg hw hp_))
               repeat (go_quiet (first | ((with_reducible refine gate_store (t := 48) (p := 115) rfl ?_); (try (rw [drewN_self wr]; generalize hq_ : World.drewN wr _ = wr; have aj := Aside0.mk (Wn_at hq_ aa.out); have ak := Aside0.mk (kept_at hq_ HK.out); have al := Aside0.mk (below_at hq_ HB.out); clear hq_ aa HK HB; have aa := aj; have HK := ak; have HB := al; clear aj ak al; (try (obtain ⟨bd, hz30_⟩ := Wn_cell aa.out (ac : Int) (of_decide_eq_true (by first | (with_reducible assumption) | assumption)) (of_decide_eq_true (by first | (with_reducible assumption) | assumption)))); (try (have ax := Wn_put aa.out (ac : Int) (of_decide_eq_true (by first | (with_reducible assumption) | assumption)) (of_decide_eq_true (by first | (with_reducible assumption) | assumption)) ((IntKind.u64.wrap ((IntKind.u64.wrap ((IntKind.u64.wrap (rd ad ac)) - ((IntKind.u64.wrap ((IntKind.u64.wrap (ai * (IntKind.u64.wrap (rd l1 ac)))) + ae)) % 4294967296))) - ag)) % 4294967296))))); refine store_event (t := 48) (p := 115) (v := ?vo_w31) (w1 := (wr.setCell ⟨g, o + (ac : Int).toNat, none⟩ (.int .u32 ((IntKind.u64.wrap ((IntKind.u64.wrap ((IntKind.u64.wrap (rd ad ac)) - ((IntKind.u64.wrap ((IntKind.u64.wrap (ai * (IntKind.u64.wrap (rd l1 ac)))) + ae)) % 4294967296))) - ag)) % 4294967296)))) ?hg ?ho ?hn ?hr ?_; (case ho => rfl); (case hg => rfl); (case hn => rfl); (case hr => first | (go_simp; done) | (go_simp; rfl)); intro be hw; have hg : wr.grownBy be (some g) := (by rw [hw]; exact ax.2); have hp_ : Wn g o N cap ad.length zs be w0.heap.size (fun k_ => (P0_ k_ ∨ w.heap.size ≤ k_)) ba := (by rw [hw, bb.out]; exact ax.1); clear ax; replace HB := Aside0.mk ((by rw [hw]; exact below_set (HB.out) GB29.out : Below w0.heap.size w0 be)); replace HK := Aside0.mk (Kept.of_grown (S := (fun k_ => P0_ k_)) hg (by repeat (first | (with_reducible first | exact HK.out | apply Kept.alloc | apply Kept.drewN | apply Kept.drew) | exact HK.out)) (fun k_ e_ => (Wn_ok aa.out k_ e_))); replace aa := Aside0.mk (hp_); clear hg hw hp_)); try go_wp2_with (first | ((with_reducible refine gate_store (t := 48) (p := 115) rfl ?_); (try (rw [drewN_self wr]; generalize hq_ : World.drewN wr _ = wr; have aj := Aside0.mk (Wn_at hq_ aa.out); have ak := Aside0.mk (kept_at hq_ HK.out); have al := Aside0.mk (below_at hq_ HB.out); clear hq_ aa HK HB; have aa := aj; have HK := ak; have HB := al; clear aj ak al; (try (obtain ⟨bd, hz30_⟩ := Wn_cell aa.out (ac : Int) (of_decide_eq_true (by first | (with_reducible assumption) | assumption)) (of_decide_eq_true (by first | (with_reducible assumption) | assumption)))); (try (have ax := Wn_put aa.out (ac : Int) (of_decide_eq_true (by first | (with_reducible assumption) | assumption)) (of_decide_eq_true (by first | (with_reducible assumption) | assumption)) ((IntKind.u64.wrap ((IntKind.u64.wrap ((IntKind.u64.wrap (rd ad ac)) - ((IntKind.u64.wrap ((IntKind.u64.wrap (ai * (IntKind.u64.wrap (rd l1 ac)))) + ae)) % 4294967296))) - ag)) % 4294967296))))); refine store_event (t := 48) (p := 115) (v := ?vo_w31) (w1 := (wr.setCell ⟨g, o + (ac : Int).toNat, none⟩ (.int .u32 ((IntKind.u64.wrap ((IntKind.u64.wrap ((IntKind.u64.wrap (rd ad ac)) - ((IntKind.u64.wrap ((IntKind.u64.wrap (ai * (IntKind.u64.wrap (rd l1 ac)))) + ae)) % 4294967296))) - ag)) % 4294967296)))) ?hg ?ho ?hn ?hr ?_; (case ho => rfl); (case hg => rfl); (case hn => rfl); (case hr => first | (go_simp; done) | (go_simp; rfl)); intro be hw; have hg : wr.grownBy be (some g) := (by rw [hw]; exact ax.2); have hp_ : Wn g o N cap ad.length zs be w0.heap.size (fun k_ => (P0_ k_ ∨ w.heap.size ≤ k_)) ba := (by rw [hw, bb.out]; exact ax.1); clear ax; replace HB := Aside0.mk ((by rw [hw]; exact below_set (HB.out) GB29.out : Below w0.heap.size w0 be)); replace HK := Aside0.mk (Kept.of_grown (S := (fun k_ => P0_ k_)) hg (by repeat (first | (with_reducible first | exact HK.out | apply Kept.alloc | apply Kept.drewN | apply Kept.drew) | exact HK.out)) (fun k_ e_ => (Wn_ok aa.out k_ e_))); replace aa := Aside0.mk (hp_); clear hg hw hp_)))
               (try simp only [← hl0_2])
               go_roundg k2
               case measure => have := HJ9.out; have := HK2.out; omega
               case rel => exact ⟨(ba), ((IntKind.u64.wrap ((IntKind.u64.wrap ((IntKind.u64.wrap (rd ad ac)) - ((IntKind.u64.wrap ((IntKind.u64.wrap (ai * (IntKind.u64.wrap (rd l1 ac)))) + ae)) % 4294967296))) - ag)) / 9223372036854775808), ((IntKind.u64.wrap ((IntKind.u64.wrap (ai * (IntKind.u64.wrap (rd l1 ac)))) + ae)) / 4294967296), (wrap64 (ac + 1)), (by first | rfl | (simp; done) | (simp [*]; done)), (by first | rfl | (simp; done) | (simp [*]; done)), (by first | rfl | (simp; done) | (simp [*]; done)), H', ⟨by have := HJ9.out; have := HK2.out; omega⟩, ⟨by (try simp only [hl0_2]); (with_reducible repeat (first | apply Wn_alloc | apply Wn_drewN | apply Wn_drew)); exact aa.out⟩, ⟨by repeat (first | (with_reducible first | exact HK.out | apply Kept.alloc | apply Kept.drewN | apply Kept.drew) | exact HK.out)⟩, ⟨by repeat (first | (with_reducible first | exact HB.out | apply below_alloc | apply pw_below_drewN | apply below_drew1) | exact HB.out)⟩⟩
              ·
               rw [if_neg cg] at H
               exact absurd H (by simp)
             ·
              rw [if_neg cf] at H
              exact absurd H (by simp)
            ·
             rw [if_neg cd] at H
             exact absurd H (by simp)
           ·
            rw [if_neg bV] at H
            have aZ : decide (ac < (l1.length : Int)) = false := decide_eq_false bV
            clear bV
            (try (have aS := aZ; simp only [hl0_2] at aS))
            by_cases ch : 0 ≤ (l1.length : Int)
            ·
             rw [if_pos ch] at H
             have bI : decide (0 ≤ (l1.length : Int)) = true := decide_eq_true ch
             have bJ : decide (0 ≤ l1.length) = true := decide_eq_true (by omega)
             clear ch
             (try (have bZ := bI; simp only [hl0_2] at bZ))
             (try (have b0 := bJ; simp only [hl0_2] at b0))
             by_cases cb : (l1.length : Int) < (ad.length : Int)
             ·
              rw [if_pos cb] at H
              have bK : decide ((l1.length : Int) < (ad.length : Int)) = true := decide_eq_true cb
              have bL : decide (l1.length < ad.length) = true := decide_eq_true (Int.ofNat_lt.mp cb)
              clear cb
              (try (have b1 := bK; simp only [hl0_2] at b1))
              (try (have b2 := bL; simp only [hl0_2] at b2))
              obtain ⟨aL, aP⟩ : ∃ y_ : List Int, y_ = (ad.set ((l1.length : Int) : Int).toNat ((IntKind.u64.wrap ((IntKind.u64.wrap ((IntKind.u64.wrap (rd ad (l1.length : Int))) - ae)) - ag)) % 4294967296)) := ⟨_, rfl⟩
              replace H : (if ((IntKind.u64.wrap ((IntKind.u64.wrap ((IntKind.u64.wrap (rd ad (l1.length : Int))) - ae)) - ag)) / 9223372036854775808) = 0 then (some ((ai) % 4294967296, aL)) else (nat_step.l2 k2 aL l1 (l1.length : Int) ai 0 (l1.length : Int) 0)) = some (r1, r2) := by first | (rw [aP]; with_reducible exact H) | (have H2_ := (Option.bind_some _ _).symm.trans H; rw [aP]; with_reducible exact H2_) | (have H2_ := (Option.bind_some _ _).symm.trans H; with_reducible exact H2_) | with_reducible exact H | (rw [aP]; exact H) | exact H
              have aI := Aside0.mk aP
              clear aP
              by_cases bM : ((IntKind.u64.wrap ((IntKind.u64.wrap ((IntKind.u64.wrap (rd ad (l1.length : Int))) - ae)) - ag)) / 9223372036854775808) = 0
              ·
               rw [if_pos bM] at H
               have a1 : (((IntKind.u64.wrap ((IntKind.u64.wrap ((IntKind.u64.wrap (rd ad (l1.length : Int))) - ae)) - ag)) / 9223372036854775808) == 0) = true := beq_iff_eq.mpr bM
               have a2 : (((IntKind.u64.wrap ((IntKind.u64.wrap ((IntKind.u64.wrap (rd ad (l1.length : Int))) - ae)) - ag)) / 9223372036854775808) != 0) = false := bne_eq_false_iff_eq.mpr bM
               clear bM
               (try (have aT := a1; simp only [hl0_2] at aT))
               (try (have aU := a2; simp only [hl0_2] at aU))
               simp only [Option.some.injEq, Prod.mk.injEq] at H
               obtain ⟨rfl, rfl⟩ := H
               have p959 : 0 ≤ ((l1.length : Int) : Int) := of_decide_eq_true (by first | (with_reducible assumption) | assumption)
               have q959 : (l1.length : Int) < (ad.length : Int) := of_decide_eq_true (by first | (with_reducible assumption) | assumption)
               have am := (Wn_cell aa.out (l1.length : Int) p959 q959).1
               (try simp only [Go.IntWalk.toNatUp] at am)
               (try simp only [hl0_2] at p959)
               (try simp only [hl0_2] at q959)
               (try simp only [hl0_2] at am)
               replace p959 := eq_true p959
               replace q959 := eq_true q959
               have p34 : 0 ≤ ((l1.length : Int) : Int) := of_decide_eq_true (by first | (with_reducible assumption) | assumption)
               have q34 : ((l1.length : Int) : Int) < ((ad.length : Int) : Int) := of_decide_eq_true (by first | (with_reducible assumption) | assumption)
               have GB34 := Aside0.mk (Wn_base aa.out)
               have HMgo34 := Aside0.mk (Wn_ok aa.out g rfl)
               (first | simp only [add_off] at am | skip)
               obtain ⟨aM, aV⟩ := Wn_cell aa.out ((l1.length : Int) : Int) p34 q34
               (try simp only [Go.IntWalk.toNatUp] at aM aV)
               replace p34 := eq_true p34
               replace q34 := eq_true q34
               obtain ⟨aF, hz36_⟩ := Wn_cell aa.out ((l1.length : Int) : Int) (of_decide_eq_true (by first | (with_reducible assumption) | assumption)) (of_decide_eq_true (by first | (with_reducible assumption) | assumption))
               (try simp only [Go.IntWalk.toNatUp] at aF hz36_)
               have ay := Wn_put aa.out ((l1.length : Int) : Int) (of_decide_eq_true (by first | (with_reducible assumption) | assumption)) (of_decide_eq_true (by first | (with_reducible assumption) | assumption)) ((IntKind.u64.wrap ((IntKind.u64.wrap ((IntKind.u64.wrap (rd ad (l1.length : Int))) - ae)) - ag)) % 4294967296)
               go_wp2_with (first | ((with_reducible refine gate_store (t := 48) (p := 132) rfl ?_); (try (rw [drewN_self wr]; generalize hq_ : World.drewN wr _ = wr; have aj := Aside0.mk (Wn_at hq_ aa.out); have ak := Aside0.mk (kept_at hq_ HK.out); have al := Aside0.mk (below_at hq_ HB.out); clear hq_ aa HK HB; have aa := aj; have HK := ak; have HB := al; clear aj ak al; (try (obtain ⟨aF, hz36_⟩ := Wn_cell aa.out ((l1.length : Int) : Int) (of_decide_eq_true (by first | (with_reducible assumption) | assumption)) (of_decide_eq_true (by first | (with_reducible assumption) | assumption)))); (try (try simp only [Go.IntWalk.toNatUp] at aF hz36_)); (try (have ay := Wn_put aa.out ((l1.length : Int) : Int) (of_decide_eq_true (by first | (with_reducible assumption) | assumption)) (of_decide_eq_true (by first | (with_reducible assumption) | assumption)) ((IntKind.u64.wrap ((IntKind.u64.wrap ((IntKind.u64.wrap (rd ad (l1.length : Int))) - ae)) - ag)) % 4294967296))))); refine store_event (t := 48) (p := 132) (v := ?vo_w37) (w1 := (wr.setCell ⟨g, o + ((l1.length : Int) : Int).toNat, none⟩ (.int .u32 ((IntKind.u64.wrap ((IntKind.u64.wrap ((IntKind.u64.wrap (rd ad (l1.length : Int))) - ae)) - ag)) % 4294967296)))) ?hg ?ho ?hn ?hr ?_; (case ho => rfl); (case hg => rfl); (case hn => rfl); (case hr => first | (go_simp; done) | (go_simp; rfl)); intro bf hw; have hg : wr.grownBy bf (some g) := (by rw [hw]; exact ay.2); have hp_ : Wn g o N cap ad.length zs bf w0.heap.size (fun k_ => (P0_ k_ ∨ w.heap.size ≤ k_)) aL := (by rw [hw, aI.out]; exact ay.1); clear ay; replace HB := Aside0.mk ((by rw [hw]; exact below_set (HB.out) GB34.out : Below w0.heap.size w0 bf)); replace HK := Aside0.mk (Kept.of_grown (S := (fun k_ => P0_ k_)) hg (by repeat (first | (with_reducible first | exact HK.out | apply Kept.alloc | apply Kept.drewN | apply Kept.drew) | exact HK.out)) (fun k_ e_ => (Wn_ok aa.out k_ e_))); replace aa := Aside0.mk (hp_); clear hg hw hp_))
               repeat (go_quiet (first | ((with_reducible refine gate_store (t := 48) (p := 132) rfl ?_); (try (rw [drewN_self wr]; generalize hq_ : World.drewN wr _ = wr; have aj := Aside0.mk (Wn_at hq_ aa.out); have ak := Aside0.mk (kept_at hq_ HK.out); have al := Aside0.mk (below_at hq_ HB.out); clear hq_ aa HK HB; have aa := aj; have HK := ak; have HB := al; clear aj ak al; (try (obtain ⟨aF, hz36_⟩ := Wn_cell aa.out ((l1.length : Int) : Int) (of_decide_eq_true (by first | (with_reducible assumption) | assumption)) (of_decide_eq_true (by first | (with_reducible assumption) | assumption)))); (try (try simp only [Go.IntWalk.toNatUp] at aF hz36_)); (try (have ay := Wn_put aa.out ((l1.length : Int) : Int) (of_decide_eq_true (by first | (with_reducible assumption) | assumption)) (of_decide_eq_true (by first | (with_reducible assumption) | assumption)) ((IntKind.u64.wrap ((IntKind.u64.wrap ((IntKind.u64.wrap (rd ad (l1.length : Int))) - ae)) - ag)) % 4294967296))))); refine store_event (t := 48) (p := 132) (v := ?vo_w37) (w1 := (wr.setCell ⟨g, o + ((l1.length : Int) : Int).toNat, none⟩ (.int .u32 ((IntKind.u64.wrap ((IntKind.u64.wrap ((IntKind.u64.wrap (rd ad (l1.length : Int))) - ae)) - ag)) % 4294967296)))) ?hg ?ho ?hn ?hr ?_; (case ho => rfl); (case hg => rfl); (case hn => rfl); (case hr => first | (go_simp; done) | (go_simp; rfl)); intro bf hw; have hg : wr.grownBy bf (some g) := (by rw [hw]; exact ay.2); have hp_ : Wn g o N cap ad.length zs bf w0.heap.size (fun k_ => (P0_ k_ ∨ w.heap.size ≤ k_)) aL := (by rw [hw, aI.out]; exact ay.1); clear ay; replace HB := Aside0.mk ((by rw [hw]; exact below_set (HB.out) GB34.out : Below w0.heap.size w0 bf)); replace HK := Aside0.mk (Kept.of_grown (S := (fun k_ => P0_ k_)) hg (by repeat (first | (with_reducible first | exact HK.out | apply Kept.alloc | apply Kept.drewN | apply Kept.drew) | exact HK.out)) (fun k_ e_ => (Wn_ok aa.out k_ e_))); replace aa := Aside0.mk (hp_); clear hg hw hp_)); try go_wp2_with (first | ((with_reducible refine gate_store (t := 48) (p := 132) rfl ?_); (try (rw [drewN_self wr]; generalize hq_ : World.drewN wr _ = wr; have aj := Aside0.mk (Wn_at hq_ aa.out); have ak := Aside0.mk (kept_at hq_ HK.out); have al := Aside0.mk (below_at hq_ HB.out); clear hq_ aa HK HB; have aa := aj; have HK := ak; have HB := al; clear aj ak al; (try (obtain ⟨aF, hz36_⟩ := Wn_cell aa.out ((l1.length : Int) : Int) (of_decide_eq_true (by first | (with_reducible assumption) | assumption)) (of_decide_eq_true (by first | (with_reducible assumption) | assumption)))); (try (try simp only [Go.IntWalk.toNatUp] at aF hz36_)); (try (have ay := Wn_put aa.out ((l1.length : Int) : Int) (of_decide_eq_true (by first | (with_reducible assumption) | assumption)) (of_decide_eq_true (by first | (with_reducible assumption) | assumption)) ((IntKind.u64.wrap ((IntKind.u64.wrap ((IntKind.u64.wrap (rd ad (l1.length : Int))) - ae)) - ag)) % 4294967296))))); refine store_event (t := 48) (p := 132) (v := ?vo_w37) (w1 := (wr.setCell ⟨g, o + ((l1.length : Int) : Int).toNat, none⟩ (.int .u32 ((IntKind.u64.wrap ((IntKind.u64.wrap ((IntKind.u64.wrap (rd ad (l1.length : Int))) - ae)) - ag)) % 4294967296)))) ?hg ?ho ?hn ?hr ?_; (case ho => rfl); (case hg => rfl); (case hn => rfl); (case hr => first | (go_simp; done) | (go_simp; rfl)); intro bf hw; have hg : wr.grownBy bf (some g) := (by rw [hw]; exact ay.2); have hp_ : Wn g o N cap ad.length zs bf w0.heap.size (fun k_ => (P0_ k_ ∨ w.heap.size ≤ k_)) aL := (by rw [hw, aI.out]; exact ay.1); clear ay; replace HB := Aside0.mk ((by rw [hw]; exact below_set (HB.out) GB34.out : Below w0.heap.size w0 bf)); replace HK := Aside0.mk (Kept.of_grown (S := (fun k_ => P0_ k_)) hg (by repeat (first | (with_reducible first | exact HK.out | apply Kept.alloc | apply Kept.drewN | apply Kept.drew) | exact HK.out)) (fun k_ e_ => (Wn_ok aa.out k_ e_))); replace aa := Aside0.mk (hp_); clear hg hw hp_)))
               go_ret
               exact ⟨by first | rfl | (simp [errW_none, errW_some] <;> rfl) | (simp only [← hji5]; first | rfl | (simp [errW_none, errW_some] <;> rfl)) | (simp [*, errW_none, errW_some] <;> rfl), (by first | exact (by (with_reducible repeat (first | apply Wn_alloc | apply Wn_drewN | apply Wn_drew)); exact aa.out) | (simp only [hl0_2]; exact (by (with_reducible repeat (first | apply Wn_alloc | apply Wn_drewN | apply Wn_drew)); exact aa.out))), by repeat (first | (with_reducible first | exact HB.out | apply below_alloc | apply pw_below_drewN | apply below_drew1) | exact HB.out), by repeat (first | (with_reducible first | exact HK.out | apply Kept.alloc | apply Kept.drewN | apply Kept.drew) | exact HK.out)⟩
              ·
               rw [if_neg bM] at H
               have a1 : (((IntKind.u64.wrap ((IntKind.u64.wrap ((IntKind.u64.wrap (rd ad (l1.length : Int))) - ae)) - ag)) / 9223372036854775808) == 0) = false := beq_eq_false_iff_ne.mpr bM
               have a2 : (((IntKind.u64.wrap ((IntKind.u64.wrap ((IntKind.u64.wrap (rd ad (l1.length : Int))) - ae)) - ag)) / 9223372036854775808) != 0) = true := bne_iff_ne.mpr bM
               (try (have aT := a1; simp only [hl0_2] at aT))
               (try (have aU := a2; simp only [hl0_2] at aU))
               have H' := Aside0.mk H
               clear H
               have p959 : 0 ≤ ((l1.length : Int) : Int) := of_decide_eq_true (by first | (with_reducible assumption) | assumption)
               have q959 : (l1.length : Int) < (ad.length : Int) := of_decide_eq_true (by first | (with_reducible assumption) | assumption)
               have am := (Wn_cell aa.out (l1.length : Int) p959 q959).1
               (try simp only [Go.IntWalk.toNatUp] at am)
               (try simp only [hl0_2] at p959)
               (try simp only [hl0_2] at q959)
               (try simp only [hl0_2] at am)
               replace p959 := eq_true p959
               replace q959 := eq_true q959
               have p34 : 0 ≤ ((l1.length : Int) : Int) := of_decide_eq_true (by first | (with_reducible assumption) | assumption)
               have q34 : ((l1.length : Int) : Int) < ((ad.length : Int) : Int) := of_decide_eq_true (by first | (with_reducible assumption) | assumption)
               have GB34 := Aside0.mk (Wn_base aa.out)
               have HMgo34 := Aside0.mk (Wn_ok aa.out g rfl)
               (first | simp only [add_off] at am | skip)
               obtain ⟨aM, aV⟩ := Wn_cell aa.out ((l1.length : Int) : Int) p34 q34
               (try simp only [Go.IntWalk.toNatUp] at aM aV)
               replace p34 := eq_true p34
               replace q34 := eq_true q34
               obtain ⟨aG, hz38_⟩ := Wn_cell aa.out ((l1.length : Int) : Int) (of_decide_eq_true (by first | (with_reducible assumption) | assumption)) (of_decide_eq_true (by first | (with_reducible assumption) | assumption))
               (try simp only [Go.IntWalk.toNatUp] at aG hz38_)
               have az := Wn_put aa.out ((l1.length : Int) : Int) (of_decide_eq_true (by first | (with_reducible assumption) | assumption)) (of_decide_eq_true (by first | (with_reducible assumption) | assumption)) ((IntKind.u64.wrap ((IntKind.u64.wrap ((IntKind.u64.wrap (rd ad (l1.length : Int))) - ae)) - ag)) % 4294967296)
               go_wp2_with (first | ((with_reducible refine gate_store (t := 48) (p := 132) rfl ?_); (try (rw [drewN_self wr]; generalize hq_ : World.drewN wr _ = wr; have aj := Aside0.mk (Wn_at hq_ aa.out); have ak := Aside0.mk (kept_at hq_ HK.out); have al := Aside0.mk (below_at hq_ HB.out); clear hq_ aa HK HB; have aa := aj; have HK := ak; have HB := al; clear aj ak al; (try (obtain ⟨aG, hz38_⟩ := Wn_cell aa.out ((l1.length : Int) : Int) (of_decide_eq_true (by first | (with_reducible assumption) | assumption)) (of_decide_eq_true (by first | (with_reducible assumption) | assumption)))); (try (try simp only [Go.IntWalk.toNatUp] at aG hz38_)); (try (have az := Wn_put aa.out ((l1.length : Int) : Int) (of_decide_eq_true (by first | (with_reducible assumption) | assumption)) (of_decide_eq_true (by first | (with_reducible assumption) | assumption)) ((IntKind.u64.wrap ((IntKind.u64.wrap ((IntKind.u64.wrap (rd ad (l1.length : Int))) - ae)) - ag)) % 4294967296))))); refine store_event (t := 48) (p := 132) (v := ?vo_w39) (w1 := (wr.setCell ⟨g, o + ((l1.length : Int) : Int).toNat, none⟩ (.int .u32 ((IntKind.u64.wrap ((IntKind.u64.wrap ((IntKind.u64.wrap (rd ad (l1.length : Int))) - ae)) - ag)) % 4294967296)))) ?hg ?ho ?hn ?hr ?_; (case ho => rfl); (case hg => rfl); (case hn => rfl); (case hr => first | (go_simp; done) | (go_simp; rfl)); intro bg hw; have hg : wr.grownBy bg (some g) := (by rw [hw]; exact az.2); have hp_ : Wn g o N cap ad.length zs bg w0.heap.size (fun k_ => (P0_ k_ ∨ w.heap.size ≤ k_)) aL := (by rw [hw, aI.out]; exact az.1); clear az; replace HB := Aside0.mk ((by rw [hw]; exact below_set (HB.out) GB34.out : Below w0.heap.size w0 bg)); replace HK := Aside0.mk (Kept.of_grown (S := (fun k_ => P0_ k_)) hg (by repeat (first | (with_reducible first | exact HK.out | apply Kept.alloc | apply Kept.drewN | apply Kept.drew) | exact HK.out)) (fun k_ e_ => (Wn_ok aa.out k_ e_))); replace aa := Aside0.mk (hp_); clear hg hw hp_))
               repeat (go_quiet (first | ((with_reducible refine gate_store (t := 48) (p := 132) rfl ?_); (try (rw [drewN_self wr]; generalize hq_ : World.drewN wr _ = wr; have aj := Aside0.mk (Wn_at hq_ aa.out); have ak := Aside0.mk (kept_at hq_ HK.out); have al := Aside0.mk (below_at hq_ HB.out); clear hq_ aa HK HB; have aa := aj; have HK := ak; have HB := al; clear aj ak al; (try (obtain ⟨aG, hz38_⟩ := Wn_cell aa.out ((l1.length : Int) : Int) (of_decide_eq_true (by first | (with_reducible assumption) | assumption)) (of_decide_eq_true (by first | (with_reducible assumption) | assumption)))); (try (try simp only [Go.IntWalk.toNatUp] at aG hz38_)); (try (have az := Wn_put aa.out ((l1.length : Int) : Int) (of_decide_eq_true (by first | (with_reducible assumption) | assumption)) (of_decide_eq_true (by first | (with_reducible assumption) | assumption)) ((IntKind.u64.wrap ((IntKind.u64.wrap ((IntKind.u64.wrap (rd ad (l1.length : Int))) - ae)) - ag)) % 4294967296))))); refine store_event (t := 48) (p := 132) (v := ?vo_w39) (w1 := (wr.setCell ⟨g, o + ((l1.length : Int) : Int).toNat, none⟩ (.int .u32 ((IntKind.u64.wrap ((IntKind.u64.wrap ((IntKind.u64.wrap (rd ad (l1.length : Int))) - ae)) - ag)) % 4294967296)))) ?hg ?ho ?hn ?hr ?_; (case ho => rfl); (case hg => rfl); (case hn => rfl); (case hr => first | (go_simp; done) | (go_simp; rfl)); intro bg hw; have hg : wr.grownBy bg (some g) := (by rw [hw]; exact az.2); have hp_ : Wn g o N cap ad.length zs bg w0.heap.size (fun k_ => (P0_ k_ ∨ w.heap.size ≤ k_)) aL := (by rw [hw, aI.out]; exact az.1); clear az; replace HB := Aside0.mk ((by rw [hw]; exact below_set (HB.out) GB34.out : Below w0.heap.size w0 bg)); replace HK := Aside0.mk (Kept.of_grown (S := (fun k_ => P0_ k_)) hg (by repeat (first | (with_reducible first | exact HK.out | apply Kept.alloc | apply Kept.drewN | apply Kept.drew) | exact HK.out)) (fun k_ e_ => (Wn_ok aa.out k_ e_))); replace aa := Aside0.mk (hp_); clear hg hw hp_)); try go_wp2_with (first | ((with_reducible refine gate_store (t := 48) (p := 132) rfl ?_); (try (rw [drewN_self wr]; generalize hq_ : World.drewN wr _ = wr; have aj := Aside0.mk (Wn_at hq_ aa.out); have ak := Aside0.mk (kept_at hq_ HK.out); have al := Aside0.mk (below_at hq_ HB.out); clear hq_ aa HK HB; have aa := aj; have HK := ak; have HB := al; clear aj ak al; (try (obtain ⟨aG, hz38_⟩ := Wn_cell aa.out ((l1.length : Int) : Int) (of_decide_eq_true (by first | (with_reducible assumption) | assumption)) (of_decide_eq_true (by first | (with_reducible assumption) | assumption)))); (try (try simp only [Go.IntWalk.toNatUp] at aG hz38_)); (try (have az := Wn_put aa.out ((l1.length : Int) : Int) (of_decide_eq_true (by first | (with_reducible assumption) | assumption)) (of_decide_eq_true (by first | (with_reducible assumption) | assumption)) ((IntKind.u64.wrap ((IntKind.u64.wrap ((IntKind.u64.wrap (rd ad (l1.length : Int))) - ae)) - ag)) % 4294967296))))); refine store_event (t := 48) (p := 132) (v := ?vo_w39) (w1 := (wr.setCell ⟨g, o + ((l1.length : Int) : Int).toNat, none⟩ (.int .u32 ((IntKind.u64.wrap ((IntKind.u64.wrap ((IntKind.u64.wrap (rd ad (l1.length : Int))) - ae)) - ag)) % 4294967296)))) ?hg ?ho ?hn ?hr ?_; (case ho => rfl); (case hg => rfl); (case hn => rfl); (case hr => first | (go_simp; done) | (go_simp; rfl)); intro bg hw; have hg : wr.grownBy bg (some g) := (by rw [hw]; exact az.2); have hp_ : Wn g o N cap ad.length zs bg w0.heap.size (fun k_ => (P0_ k_ ∨ w.heap.size ≤ k_)) aL := (by rw [hw, aI.out]; exact az.1); clear az; replace HB := Aside0.mk ((by rw [hw]; exact below_set (HB.out) GB34.out : Below w0.heap.size w0 bg)); replace HK := Aside0.mk (Kept.of_grown (S := (fun k_ => P0_ k_)) hg (by repeat (first | (with_reducible first | exact HK.out | apply Kept.alloc | apply Kept.drewN | apply Kept.drew) | exact HK.out)) (fun k_ e_ => (Wn_ok aa.out k_ e_))); replace aa := Aside0.mk (hp_); clear hg hw hp_)))
               go_loopg [10, 140] k2 (fun kq cw cy w' => ∃ (af : List Int) (ah : Int) (ab : Int), cw = .int .u64 ah ∧ cy = .int .i64 ab ∧ Aside0 (nat_step.l2 kq af l1 (l1.length : Int) ai ah (l1.length : Int) ab = some (r1, r2)) ∧ Aside0 (kq ≤ k2) ∧ Aside0 (Wn g o N cap ad.length zs w' w0.heap.size (fun k_ => (P0_ k_ ∨ w.heap.size ≤ k_)) af) ∧ Aside0 (Kept w w' (fun k_ => P0_ k_)) ∧ Aside0 (Below w0.heap.size w0 w'))
               case atStart => exact ⟨(aL), (0), (0), (by first | rfl | (simp; done) | (simp [*]; done)), (by first | rfl | (simp; done) | (simp [*]; done)), H', ⟨Nat.le_refl _⟩, ⟨by (try simp only [hl0_2]); (with_reducible repeat (first | apply Wn_alloc | apply Wn_drewN | apply Wn_drew)); exact aa.out⟩, ⟨by repeat (first | (with_reducible first | exact HK.out | apply Kept.alloc | apply Kept.drewN | apply Kept.drew) | exact HK.out)⟩, ⟨by repeat (first | (with_reducible first | exact HB.out | apply below_alloc | apply pw_below_drewN | apply below_drew1) | exact HB.out)⟩⟩
               case round =>
                clear H'
                try clear c1
                try clear c2
                try clear p2
                try clear q2
                try clear hx2
                try clear hf2
                try clear c3
                try clear bo
                try clear bp
                try clear p3
                try clear q3
                try clear hx3
                try clear hf3
                try clear c4
                try clear bq
                try clear br
                try clear c6
                try clear bs
                try clear p6
                try clear c7
                try clear bv
                try clear c8
                try clear bw
                try clear c9
                try clear bx
                try clear bz
                try clear p9
                try clear q9
                try clear hx9
                try clear bA
                try clear aw
                try clear c12b1
                try clear bB
                try clear aX
                try clear bO
                try clear a3
                try clear bP
                try clear a4
                try clear bQ
                try clear a5
                try clear bR
                try clear a6
                try clear bS
                try clear a7
                try clear bC
                try clear aY
                try clear bT
                try clear a8
                try clear bU
                try clear a9
                try clear bV
                try clear aZ
                try clear cd
                try clear ce
                try clear cf
                try clear bG
                try clear cg
                try clear bH
                try clear p29
                try clear q29
                try clear hx29
                try clear hf29
                try clear ch
                try clear bI
                try clear bJ
                try clear cb
                try clear bK
                try clear bL
                try clear p34
                try clear q34
                try clear hx34
                try clear hf34
                try clear bM
                try clear a1
                try clear a2
                try clear bY
                try clear aM
                try clear ao
                try clear aq
                try clear aC
                try clear aD
                try clear aJ
                try clear aE
                try clear au
                try clear aK
                try clear bD
                try clear a0
                try clear am
                try clear p2
                try clear p29
                try clear p34
                try clear p6
                try clear p9
                try clear p948
                try clear p949
                try clear p950
                try clear p951
                try clear p952
                try clear p953
                try clear p954
                try clear p955
                try clear p956
                try clear p957
                try clear p959
                try clear q29
                try clear q34
                try clear q9
                try clear q948
                try clear q949
                try clear q950
                try clear q951
                try clear q952
                try clear q953
                try clear q954
                try clear q955
                try clear q956
                try clear q957
                try clear q959
                obtain ⟨af, ah, ab, rfl, rfl, HA, HK3, aa, HK, HB⟩ := hrel
                have hl0_3 := aa.out.1.symm
                rw [hl0_3] at aa
                (try simp only [hl0_3])
                cases gk with
                | zero => exact absurd HA.out (by simp [nat_step.l2])
                | succ k3 =>
                 have H := HA.out
                 clear HA
                 simp only [nat_step.l2] at H
                 by_cases cc : ab < (l1.length : Int)
                 ·
                  rw [if_pos cc] at H
                  have bh : decide (ab < (l1.length : Int)) = true := decide_eq_true cc
                  clear cc
                  (try (have aW := bh; simp only [hl0_2, hl0_3] at aW))
                  by_cases cp : 0 ≤ ab
                  ·
                   rw [if_pos cp] at H
                   have cB : decide (0 ≤ ab) = true := decide_eq_true cp
                   clear cp
                   by_cases cq : ab < (af.length : Int)
                   ·
                    rw [if_pos cq] at H
                    have ci : decide (ab < (af.length : Int)) = true := decide_eq_true cq
                    clear cq
                    (try (have b3 := ci; simp only [hl0_2, hl0_3] at b3))
                    by_cases cr : ab < (l1.length : Int)
                    ·
                     rw [if_pos cr] at H
                     have cj : decide (ab < (l1.length : Int)) = true := decide_eq_true cr
                     clear cr
                     (try (have b4 := cj; simp only [hl0_2, hl0_3] at b4))
                     obtain ⟨bi, aQ⟩ : ∃ y_ : List Int, y_ = (af.set (ab : Int).toNat ((IntKind.u64.wrap ((IntKind.u64.wrap ((IntKind.u64.wrap (rd af ab)) + (IntKind.u64.wrap (rd l1 ab)))) + ah)) % 4294967296)) := ⟨_, rfl⟩
                     replace H : (nat_step.l2 k3 bi l1 (l1.length : Int) ai ((IntKind.u64.wrap ((IntKind.u64.wrap ((IntKind.u64.wrap (rd af ab)) + (IntKind.u64.wrap (rd l1 ab)))) + ah)) / 4294967296) (l1.length : Int) (wrap64 (ab + 1))) = some (r1, r2) := by first | (rw [aQ]; with_reducible exact H) | (have H2_ := (Option.bind_some _ _).symm.trans H; rw [aQ]; with_reducible exact H2_) | (have H2_ := (Option.bind_some _ _).symm.trans H; with_reducible exact H2_) | with_reducible exact H | (rw [aQ]; exact H) | exact H
                     have bj := Aside0.mk aQ
                     clear aQ
                     have H' := Aside0.mk H
                     clear H
                     have p961 : 0 ≤ (ab : Int) := of_decide_eq_true (by first | (with_reducible assumption) | assumption)
                     have q961 : ab < (af.length : Int) := of_decide_eq_true (by first | (with_reducible assumption) | assumption)
                     have aN := (Wn_cell aa.out ab p961 q961).1
                     (first | simp only [add_off] at aN | simp only [add_at] at aN | simp only [Addr.add, Nat.zero_add] at aN | skip)
                     replace p961 := eq_true p961
                     replace q961 := eq_true q961
                     have p962 : 0 ≤ (ab : Int) := of_decide_eq_true (by first | (with_reducible assumption) | assumption)
                     have q962 : ab < (l1.length : Int) := of_decide_eq_true (by first | (with_reducible assumption) | assumption)
                     obtain ⟨ad962, e962, cs⟩ := Kd.at_int (Kd.C_kept_now bF.out HK.out) ab p962 q962
                     obtain rfl : ad950 = ad962 := (by injection e962)
                     replace p962 := eq_true p962
                     replace q962 := eq_true q962
                     have p44 : 0 ≤ (ab : Int) := of_decide_eq_true (by first | (with_reducible assumption) | assumption)
                     have q44 : (ab : Int) < ((af.length : Int) : Int) := of_decide_eq_true (by first | (with_reducible assumption) | assumption)
                     obtain ⟨cz, cA⟩ := Wn_cell aa.out (ab : Int) p44 q44
                     replace p44 := eq_true p44
                     replace q44 := eq_true q44
                     obtain ⟨bk, hz45_⟩ := Wn_cell aa.out (ab : Int) (of_decide_eq_true (by first | (with_reducible assumption) | assumption)) (of_decide_eq_true (by first | (with_reducible assumption) | assumption))
                     have aA := Wn_put aa.out (ab : Int) (of_decide_eq_true (by first | (with_reducible assumption) | assumption)) (of_decide_eq_true (by first | (with_reducible assumption) | assumption)) ((IntKind.u64.wrap ((IntKind.u64.wrap ((IntKind.u64.wrap (rd af ab)) + (IntKind.u64.wrap (rd l1 ab)))) + ah)) % 4294967296)
                     go_wp2_with (first | ((with_reducible refine gate_store (t := 48) (p := 160) rfl ?_); (try (rw [drewN_self wr]; generalize hq_ : World.drewN wr _ = wr; have aj := Aside0.mk (Wn_at hq_ aa.out); have ak := Aside0.mk (kept_at hq_ HK.out); have al := Aside0.mk (below_at hq_ HB.out); clear hq_ aa HK HB; have aa := aj; have HK := ak; have HB := al; clear aj ak al; (try (obtain ⟨bk, hz45_⟩ := Wn_cell aa.out (ab : Int) (of_decide_eq_true (by first | (with_reducible assumption) | assumption)) (of_decide_eq_true (by first | (with_reducible assumption) | assumption)))); (try (have aA := Wn_put aa.out (ab : Int) (of_decide_eq_true (by first | (with_reducible assumption) | assumption)) (of_decide_eq_true (by first | (with_reducible assumption) | assumption)) ((IntKind.u64.wrap ((IntKind.u64.wrap ((IntKind.u64.wrap (rd af ab)) + (IntKind.u64.wrap (rd l1 ab)))) + ah)) % 4294967296))))); refine store_event (t := 48) (p := 160) (v := ?vo_w46) (w1 := (wr.setCell ⟨g, o + (ab : Int).toNat, none⟩ (.int .u32 ((IntKind.u64.wrap ((IntKind.u64.wrap ((IntKind.u64.wrap (rd af ab)) + (IntKind.u64.wrap (rd l1 ab)))) + ah)) % 4294967296)))) ?hg ?ho ?hn ?hr ?_; (case ho => rfl); (case hg => rfl); (case hn => rfl); (case hr => first | (go_simp; done) | (go_simp; rfl)); intro bl hw; have hg : wr.grownBy bl (some g) := (by rw [hw]; exact aA.2); have hp_ : Wn g o N cap af.length zs bl w0.heap.size (fun k_ => (P0_ k_ ∨ w.heap.size ≤ k_)) bi := (by rw [hw, bj.out]; exact aA.1); clear aA; replace HB := Aside0.mk ((by rw [hw]; exact below_set (HB.out) GB34.out : Below w0.heap.size w0 bl)); replace HK := Aside0.mk (Kept.of_grown (S := (fun k_ => P0_ k_)) hg (by repeat (first | (with_reducible first | exact HK.out | apply Kept.alloc | apply Kept.drewN | apply Kept.drew) | exact HK.out)) (fun k_ e_ => (Wn_ok aa.out k_ e_))); replace aa := Aside0.mk (hp_); clear hg hw hp_))
                     repeat (go_quiet (first | ((with_reducible refine gate_store (t := 48) (p := 160) rfl ?_); (try (rw [drewN_self wr]; generalize hq_ : World.drewN wr _ = wr; have aj := Aside0.mk (Wn_at hq_ aa.out); have ak := Aside0.mk (kept_at hq_ HK.out); have al := Aside0.mk (below_at hq_ HB.out); clear hq_ aa HK HB; have aa := aj; have HK := ak; have HB := al; clear aj ak al; (try (obtain ⟨bk, hz45_⟩ := Wn_cell aa.out (ab : Int) (of_decide_eq_true (by first | (with_reducible assumption) | assumption)) (of_decide_eq_true (by first | (with_reducible assumption) | assumption)))); (try (have aA := Wn_put aa.out (ab : Int) (of_decide_eq_true (by first | (with_reducible assumption) | assumption)) (of_decide_eq_true (by first | (with_reducible assumption) | assumption)) ((IntKind.u64.wrap ((IntKind.u64.wrap ((IntKind.u64.wrap (rd af ab)) + (IntKind.u64.wrap (rd l1 ab)))) + ah)) % 4294967296))))); refine store_event (t := 48) (p := 160) (v := ?vo_w46) (w1 := (wr.setCell ⟨g, o + (ab : Int).toNat, none⟩ (.int .u32 ((IntKind.u64.wrap ((IntKind.u64.wrap ((IntKind.u64.wrap (rd af ab)) + (IntKind.u64.wrap (rd l1 ab)))) + ah)) % 4294967296)))) ?hg ?ho ?hn ?hr ?_; (case ho => rfl); (case hg => rfl); (case hn => rfl); (case hr => first | (go_simp; done) | (go_simp; rfl)); intro bl hw; have hg : wr.grownBy bl (some g) := (by rw [hw]; exact aA.2); have hp_ : Wn g o N cap af.length zs bl w0.heap.size (fun k_ => (P0_ k_ ∨ w.heap.size ≤ k_)) bi := (by rw [hw, bj.out]; exact aA.1); clear aA; replace HB := Aside0.mk ((by rw [hw]; exact below_set (HB.out) GB34.out : Below w0.heap.size w0 bl)); replace HK := Aside0.mk (Kept.of_grown (S := (fun k_ => P0_ k_)) hg (by repeat (first | (with_reducible first | exact HK.out | apply Kept.alloc | apply Kept.drewN | apply Kept.drew) | exact HK.out)) (fun k_ e_ => (Wn_ok aa.out k_ e_))); replace aa := Aside0.mk (hp_); clear hg hw hp_)); try go_wp2_with (first | ((with_reducible refine gate_store (t := 48) (p := 160) rfl ?_); (try (rw [drewN_self wr]; generalize hq_ : World.drewN wr _ = wr; have aj := Aside0.mk (Wn_at hq_ aa.out); have ak := Aside0.mk (kept_at hq_ HK.out); have al := Aside0.mk (below_at hq_ HB.out); clear hq_ aa HK HB; have aa := aj; have HK := ak; have HB := al; clear aj ak al; (try (obtain ⟨bk, hz45_⟩ := Wn_cell aa.out (ab : Int) (of_decide_eq_true (by first | (with_reducible assumption) | assumption)) (of_decide_eq_true (by first | (with_reducible assumption) | assumption)))); (try (have aA := Wn_put aa.out (ab : Int) (of_decide_eq_true (by first | (with_reducible assumption) | assumption)) (of_decide_eq_true (by first | (with_reducible assumption) | assumption)) ((IntKind.u64.wrap ((IntKind.u64.wrap ((IntKind.u64.wrap (rd af ab)) + (IntKind.u64.wrap (rd l1 ab)))) + ah)) % 4294967296))))); refine store_event (t := 48) (p := 160) (v := ?vo_w46) (w1 := (wr.setCell ⟨g, o + (ab : Int).toNat, none⟩ (.int .u32 ((IntKind.u64.wrap ((IntKind.u64.wrap ((IntKind.u64.wrap (rd af ab)) + (IntKind.u64.wrap (rd l1 ab)))) + ah)) % 4294967296)))) ?hg ?ho ?hn ?hr ?_; (case ho => rfl); (case hg => rfl); (case hn => rfl); (case hr => first | (go_simp; done) | (go_simp; rfl)); intro bl hw; have hg : wr.grownBy bl (some g) := (by rw [hw]; exact aA.2); have hp_ : Wn g o N cap af.length zs bl w0.heap.size (fun k_ => (P0_ k_ ∨ w.heap.size ≤ k_)) bi := (by rw [hw, bj.out]; exact aA.1); clear aA; replace HB := Aside0.mk ((by rw [hw]; exact below_set (HB.out) GB34.out : Below w0.heap.size w0 bl)); replace HK := Aside0.mk (Kept.of_grown (S := (fun k_ => P0_ k_)) hg (by repeat (first | (with_reducible first | exact HK.out | apply Kept.alloc | apply Kept.drewN | apply Kept.drew) | exact HK.out)) (fun k_ e_ => (Wn_ok aa.out k_ e_))); replace aa := Aside0.mk (hp_); clear hg hw hp_)))
                     (try simp only [← hl0_3])
                     go_roundg k3
                     case measure => have := HJ9.out; have := HK2.out; have := HK3.out; omega
                     case rel => exact ⟨(bi), ((IntKind.u64.wrap ((IntKind.u64.wrap ((IntKind.u64.wrap (rd af ab)) + (IntKind.u64.wrap (rd l1 ab)))) + ah)) / 4294967296), (wrap64 (ab + 1)), (by first | rfl | (simp; done) | (simp [*]; done)), (by first | rfl | (simp; done) | (simp [*]; done)), H', ⟨by have := HJ9.out; have := HK2.out; have := HK3.out; omega⟩, ⟨by (try simp only [hl0_2]); (try simp only [hl0_3]); (with_reducible repeat (first | apply Wn_alloc | apply Wn_drewN | apply Wn_drew)); exact aa.out⟩, ⟨by repeat (first | (with_reducible first | exact HK.out | apply Kept.alloc | apply Kept.drewN | apply Kept.drew) | exact HK.out)⟩, ⟨by repeat (first | (with_reducible first | exact HB.out | apply below_alloc | apply pw_below_drewN | apply below_drew1) | exact HB.out)⟩⟩
                    ·
                     rw [if_neg cr] at H
                     exact absurd H (by simp)
                   ·
                    rw [if_neg cq] at H
                    exact absurd H (by simp)
                  ·
                   rw [if_neg cp] at H
                   exact absurd H (by simp)
                 ·
                  rw [if_neg cc] at H
                  have bh : decide (ab < (l1.length : Int)) = false := decide_eq_false cc
                  clear cc
                  (try (have aW := bh; simp only [hl0_2, hl0_3] at aW))
                  by_cases ct : 0 ≤ (l1.length : Int)
                  ·
                   rw [if_pos ct] at H
                   have ck : decide (0 ≤ (l1.length : Int)) = true := decide_eq_true ct
                   have cl : decide (0 ≤ l1.length) = true := decide_eq_true (by omega)
                   clear ct
                   (try (have b5 := ck; simp only [hl0_2, hl0_3] at b5))
                   (try (have b6 := cl; simp only [hl0_2, hl0_3] at b6))
                   by_cases cm : (l1.length : Int) < (af.length : Int)
                   ·
                    rw [if_pos cm] at H
                    have cn : decide ((l1.length : Int) < (af.length : Int)) = true := decide_eq_true cm
                    have co : decide (l1.length < af.length) = true := decide_eq_true (Int.ofNat_lt.mp cm)
                    clear cm
                    (try (have b7 := cn; simp only [hl0_2, hl0_3] at b7))
                    (try (have b8 := co; simp only [hl0_2, hl0_3] at b8))
                    obtain ⟨bE, aR⟩ : ∃ y_ : List Int, y_ = (af.set ((l1.length : Int) : Int).toNat (((rd af (l1.length : Int)) + ((ah) % 4294967296)) % 4294967296)) := ⟨_, rfl⟩
                    replace H : (some ((IntKind.u64.wrap (ai - 1)) % 4294967296, bE)) = some (r1, r2) := by first | (rw [aR]; with_reducible exact H) | (have H2_ := (Option.bind_some _ _).symm.trans H; rw [aR]; with_reducible exact H2_) | (have H2_ := (Option.bind_some _ _).symm.trans H; with_reducible exact H2_) | with_reducible exact H | (rw [aR]; exact H) | exact H
                    have bm := Aside0.mk aR
                    clear aR
                    simp only [Option.some.injEq, Prod.mk.injEq] at H
                    obtain ⟨rfl, rfl⟩ := H
                    have p964 : 0 ≤ ((l1.length : Int) : Int) := of_decide_eq_true (by first | (with_reducible assumption) | assumption)
                    have q964 : (l1.length : Int) < (af.length : Int) := of_decide_eq_true (by first | (with_reducible assumption) | assumption)
                    have av := (Wn_cell aa.out (l1.length : Int) p964 q964).1
                    (first | simp only [add_off] at av | simp only [add_at] at av | simp only [Addr.add, Nat.zero_add] at av | skip)
                    (try simp only [Go.IntWalk.toNatUp] at av)
                    (try simp only [hl0_2, hl0_3] at p964)
                    (try simp only [hl0_2, hl0_3] at q964)
                    (try simp only [hl0_2, hl0_3] at av)
                    replace p964 := eq_true p964
                    replace q964 := eq_true q964
                    have p49 : 0 ≤ ((l1.length : Int) : Int) := of_decide_eq_true (by first | (with_reducible assumption) | assumption)
                    have q49 : ((l1.length : Int) : Int) < ((af.length : Int) : Int) := of_decide_eq_true (by first | (with_reducible assumption) | assumption)
                    obtain ⟨b9, ca⟩ := Wn_cell aa.out ((l1.length : Int) : Int) p49 q49
                    (try simp only [Go.IntWalk.toNatUp] at b9 ca)
                    replace p49 := eq_true p49
                    replace q49 := eq_true q49
                    obtain ⟨aH, hz50_⟩ := Wn_cell aa.out ((l1.length : Int) : Int) (of_decide_eq_true (by first | (with_reducible assumption) | assumption)) (of_decide_eq_true (by first | (with_reducible assumption) | assumption))
                    (try simp only [Go.IntWalk.toNatUp] at aH hz50_)
                    have aB := Wn_put aa.out ((l1.length : Int) : Int) (of_decide_eq_true (by first | (with_reducible assumption) | assumption)) (of_decide_eq_true (by first | (with_reducible assumption) | assumption)) (((rd af (l1.length : Int)) + ((ah) % 4294967296)) % 4294967296)
                    go_wp2_with (first | ((with_reducible refine gate_store (t := 48) (p := 171) rfl ?_); (try (rw [drewN_self wr]; generalize hq_ : World.drewN wr _ = wr; have aj := Aside0.mk (Wn_at hq_ aa.out); have ak := Aside0.mk (kept_at hq_ HK.out); have al := Aside0.mk (below_at hq_ HB.out); clear hq_ aa HK HB; have aa := aj; have HK := ak; have HB := al; clear aj ak al; (try (obtain ⟨aH, hz50_⟩ := Wn_cell aa.out ((l1.length : Int) : Int) (of_decide_eq_true (by first | (with_reducible assumption) | assumption)) (of_decide_eq_true (by first | (with_reducible assumption) | assumption)))); (try (try simp only [Go.IntWalk.toNatUp] at aH hz50_)); (try (have aB := Wn_put aa.out ((l1.length : Int) : Int) (of_decide_eq_true (by first | (with_reducible assumption) | assumption)) (of_decide_eq_true (by first | (with_reducible assumption) | assumption)) (((rd af (l1.length : Int)) + ((ah) % 4294967296)) % 4294967296))))); refine store_event (t := 48) (p := 171) (v := ?vo_w51) (w1 := (wr.setCell ⟨g, o + ((l1.length : Int) : Int).toNat, none⟩ (.int .u32 (((rd af (l1.length : Int)) + ((ah) % 4294967296)) % 4294967296)))) ?hg ?ho ?hn ?hr ?_; (case ho => rfl); (case hg => rfl); (case hn => rfl); (case hr => first | (go_simp; done) | (go_simp; rfl)); intro bn hw; have hg : wr.grownBy bn (some g) := (by rw [hw]; exact aB.2); have hp_ : Wn g o N cap af.length zs bn w0.heap.size (fun k_ => (P0_ k_ ∨ w.heap.size ≤ k_)) bE := (by rw [hw, bm.out]; exact aB.1); clear aB; replace HB := Aside0.mk ((by rw [hw]; exact below_set (HB.out) GB34.out : Below w0.heap.size w0 bn)); replace HK := Aside0.mk (Kept.of_grown (S := (fun k_ => P0_ k_)) hg (by repeat (first | (with_reducible first | exact HK.out | apply Kept.alloc | apply Kept.drewN | apply Kept.drew) | exact HK.out)) (fun k_ e_ => (Wn_ok aa.out k_ e_))); replace aa := Aside0.mk (hp_); clear hg hw hp_))
                    repeat (go_quiet (first | ((with_reducible refine gate_store (t := 48) (p := 171) rfl ?_); (try (rw [drewN_self wr]; generalize hq_ : World.drewN wr _ = wr; have aj := Aside0.mk (Wn_at hq_ aa.out); have ak := Aside0.mk (kept_at hq_ HK.out); have al := Aside0.mk (below_at hq_ HB.out); clear hq_ aa HK HB; have aa := aj; have HK := ak; have HB := al; clear aj ak al; (try (obtain ⟨aH, hz50_⟩ := Wn_cell aa.out ((l1.length : Int) : Int) (of_decide_eq_true (by first | (with_reducible assumption) | assumption)) (of_decide_eq_true (by first | (with_reducible assumption) | assumption)))); (try (try simp only [Go.IntWalk.toNatUp] at aH hz50_)); (try (have aB := Wn_put aa.out ((l1.length : Int) : Int) (of_decide_eq_true (by first | (with_reducible assumption) | assumption)) (of_decide_eq_true (by first | (with_reducible assumption) | assumption)) (((rd af (l1.length : Int)) + ((ah) % 4294967296)) % 4294967296))))); refine store_event (t := 48) (p := 171) (v := ?vo_w51) (w1 := (wr.setCell ⟨g, o + ((l1.length : Int) : Int).toNat, none⟩ (.int .u32 (((rd af (l1.length : Int)) + ((ah) % 4294967296)) % 4294967296)))) ?hg ?ho ?hn ?hr ?_; (case ho => rfl); (case hg => rfl); (case hn => rfl); (case hr => first | (go_simp; done) | (go_simp; rfl)); intro bn hw; have hg : wr.grownBy bn (some g) := (by rw [hw]; exact aB.2); have hp_ : Wn g o N cap af.length zs bn w0.heap.size (fun k_ => (P0_ k_ ∨ w.heap.size ≤ k_)) bE := (by rw [hw, bm.out]; exact aB.1); clear aB; replace HB := Aside0.mk ((by rw [hw]; exact below_set (HB.out) GB34.out : Below w0.heap.size w0 bn)); replace HK := Aside0.mk (Kept.of_grown (S := (fun k_ => P0_ k_)) hg (by repeat (first | (with_reducible first | exact HK.out | apply Kept.alloc | apply Kept.drewN | apply Kept.drew) | exact HK.out)) (fun k_ e_ => (Wn_ok aa.out k_ e_))); replace aa := Aside0.mk (hp_); clear hg hw hp_)); try go_wp2_with (first | ((with_reducible refine gate_store (t := 48) (p := 171) rfl ?_); (try (rw [drewN_self wr]; generalize hq_ : World.drewN wr _ = wr; have aj := Aside0.mk (Wn_at hq_ aa.out); have ak := Aside0.mk (kept_at hq_ HK.out); have al := Aside0.mk (below_at hq_ HB.out); clear hq_ aa HK HB; have aa := aj; have HK := ak; have HB := al; clear aj ak al; (try (obtain ⟨aH, hz50_⟩ := Wn_cell aa.out ((l1.length : Int) : Int) (of_decide_eq_true (by first | (with_reducible assumption) | assumption)) (of_decide_eq_true (by first | (with_reducible assumption) | assumption)))); (try (try simp only [Go.IntWalk.toNatUp] at aH hz50_)); (try (have aB := Wn_put aa.out ((l1.length : Int) : Int) (of_decide_eq_true (by first | (with_reducible assumption) | assumption)) (of_decide_eq_true (by first | (with_reducible assumption) | assumption)) (((rd af (l1.length : Int)) + ((ah) % 4294967296)) % 4294967296))))); refine store_event (t := 48) (p := 171) (v := ?vo_w51) (w1 := (wr.setCell ⟨g, o + ((l1.length : Int) : Int).toNat, none⟩ (.int .u32 (((rd af (l1.length : Int)) + ((ah) % 4294967296)) % 4294967296)))) ?hg ?ho ?hn ?hr ?_; (case ho => rfl); (case hg => rfl); (case hn => rfl); (case hr => first | (go_simp; done) | (go_simp; rfl)); intro bn hw; have hg : wr.grownBy bn (some g) := (by rw [hw]; exact aB.2); have hp_ : Wn g o N cap af.length zs bn w0.heap.size (fun k_ => (P0_ k_ ∨ w.heap.size ≤ k_)) bE := (by rw [hw, bm.out]; exact aB.1); clear aB; replace HB := Aside0.mk ((by rw [hw]; exact below_set (HB.out) GB34.out : Below w0.heap.size w0 bn)); replace HK := Aside0.mk (Kept.of_grown (S := (fun k_ => P0_ k_)) hg (by repeat (first | (with_reducible first | exact HK.out | apply Kept.alloc | apply Kept.drewN | apply Kept.drew) | exact HK.out)) (fun k_ e_ => (Wn_ok aa.out k_ e_))); replace aa := Aside0.mk (hp_); clear hg hw hp_)))
                    go_ret
                    exact ⟨by first | rfl | (simp [errW_none, errW_some] <;> rfl) | (simp only [← hji5]; first | rfl | (simp [errW_none, errW_some] <;> rfl)) | (simp [*, errW_none, errW_some] <;> rfl), (by first | exact (by (with_reducible repeat (first | apply Wn_alloc | apply Wn_drewN | apply Wn_drew)); exact aa.out) | (simp only [hl0_2, hl0_3]; exact (by (with_reducible repeat (first | apply Wn_alloc | apply Wn_drewN | apply Wn_drew)); exact aa.out))), by repeat (first | (with_reducible first | exact HB.out | apply below_alloc | apply pw_below_drewN | apply below_drew1) | exact HB.out), by repeat (first | (with_reducible first | exact HK.out | apply Kept.alloc | apply Kept.drewN | apply Kept.drew) | exact HK.out)⟩
                   ·
                    rw [if_neg cm] at H
                    exact absurd H (by simp)
                  ·
                   rw [if_neg ct] at H
                   exact absurd H (by simp)
             ·
              rw [if_neg cb] at H
              exact absurd H (by simp)
            ·
             rw [if_neg ch] at H
             exact absurd H (by simp)
     ·
      rw [if_neg c8] at H
      exact absurd H (by simp)
    ·
     rw [if_neg c7] at H
     exact absurd H (by simp)
   ·
    rw [if_neg c6] at H
    exact absurd H (by simp)
  ·
   rw [if_neg c4] at H
   exact absurd H (by simp)
 ·
  rw [if_neg c3] at H
  exact absurd H (by simp)
def stepat (k : Nat) (u : List Int) (j : Int) (v : List Int) (n : Int) : Option (Int × List Int) :=
 if 0 ≤ j ∧ n = v.length ∧ j.toNat + v.length + 1 ≤ u.length ∧ u.length ≤ 70368744177664 then (nat_step.f k ((u.drop j.toNat).take (v.length + 1)) v).bind fun r => some (r.1, sp u j.toNat r.2) else none
theorem stepat_parts {k : Nat} {u v u2 : List Int} {j n q : Int} (h : stepat k u j v n = some (q, u2)) :
 0 ≤ j ∧ n = v.length ∧ j.toNat + v.length + 1 ≤ u.length ∧ u.length ≤ 70368744177664 ∧ ∃ xs, nat_step.f k ((u.drop j.toNat).take (v.length + 1)) v = some (q, xs) ∧ u2 = sp u j.toNat xs := by
 unfold stepat at h
 split at h
 case isTrue c =>
  obtain ⟨r, hr, e⟩ := Option.bind_eq_some_iff.mp h
  obtain ⟨a, b⟩ := r
  injection e with e; injection e with e1 e2
  subst e1
  exact ⟨c.1, c.2.1, c.2.2.1, c.2.2.2, b, hr, e2.symm⟩
 case isFalse => exact absurd h (by simp)
theorem sp_self (u : List Int) (j n : Nat) (h : j + n ≤ u.length) : sp u j ((u.drop j).take n) = u := by
 have hl : ((u.drop j).take n).length = n := by rw [List.length_take, List.length_drop]; omega
 rw [sp, hl, ← List.drop_drop, List.append_assoc, List.take_append_drop, List.take_append_drop]
theorem win_len (u : List Int) (j n : Nat) (h : j + n ≤ u.length) : ((u.drop j).take n).length = n := by rw [List.length_take, List.length_drop]; omega
theorem Wn_of {w : World} {base g cap j n : Nat} {ok : Nat → Prop} {u : List Int} (h : Kd.R (Kd.int .u32) 48 w base ok (.slice (some ⟨g, 0, none⟩) u.length cap) u) (hl : j + n ≤ u.length) :
 Wn g j u.length cap ((u.drop j).take n).length u w base ok ((u.drop j).take n) :=
 ⟨rfl, by rw [win_len u j n hl]; exact hl, by rw [sp_self u j n hl]; exact h⟩
theorem cut_win {u v : List Int} {j js jt : Int} {g c : Nat} (h0 : 0 ≤ j) (hle : j.toNat + v.length + 1 ≤ u.length) (hb : u.length ≤ 70368744177664) (hc : u.length ≤ c) (e1 : wrap64 (j + (v.length : Int)) = js) (e2 : wrap64 (js + 1) = jt) :
 ∀ W : World, (Instr.slice 42 (.slice (some ⟨g, 0, none⟩) u.length c) (some (.int .i64 j)) (some (.int .i64 jt)) none).run Try.prog W = .ok (.slice (some ⟨g, j.toNat, none⟩) ((u.drop j.toNat).take (v.length + 1)).length (c - j.toNat)) W := by
 obtain ⟨J, rfl⟩ := Int.eq_ofNat_of_zero_le h0
 rw [Int.toNat_natCast] at hle ⊢
 have a1 : js = ((J + v.length : Nat) : Int) := by rw [← e1]; unfold wrap64; omega
 have a2 : jt = ((J + v.length + 1 : Nat) : Int) := by rw [← e2, a1]; unfold wrap64; omega
 subst a2
 obtain ⟨i0, hi0, _, hsz, _⟩ := info_parts info48
 have := cut_mid (P := Try.prog) 42 48 .i64 .i64 Try.underlying42 hi0 1 hsz (some ⟨g, 0, none⟩) u.length c (J : Int) ((J + v.length + 1 : Nat) : Int) (by omega) (by omega) (by omega) hc
 intro W
 have e := this W
 rw [Int.toNat_natCast, Int.toNat_natCast, if_neg (by omega)] at e
 rw [e, win_len u J (v.length + 1) (by omega)]
 have hA : (some (⟨g, 0, none⟩ : Addr)).map (·.add (J * 1)) = some ⟨g, J, none⟩ := by rw [Option.map_some, add_off, Nat.zero_add, Nat.mul_one]
 rw [hA, show J + v.length + 1 - J = v.length + 1 from by omega]
mutual
def nat_longw.l0 : Nat → List Int → Int → List Int → List Int → Int → Int → Option (List Int × List Int)
 | 0, _, _, _, _, _, _ => none
 | k + 1, x4, x6, x7, x8, x9, x10 => if x10 ≥ 0 then ((stepat k x8 x10 x7 x9).bind fun bt151 => (if 0 ≤ x10 then (if x10 < (x4.length : Int) then (nat_longw.l0 k (x4.set (x10 : Int).toNat bt151.1) x6 x7 bt151.2 x9 (wrap64 (x10 - 1))) else (none)) else (none))) else (if 0 ≤ x9 then (if (x9 : Int).toNat ≤ 70368744177664 then ((some (List.replicate (x9 : Int).toNat 0 : List Int)).bind fun y154 => (nat_longw.l1 k x4 y154 x6 x8 (y154.length : Int) 0)) else (none)) else (none))
def nat_longw.l1 : Nat → List Int → List Int → Int → List Int → Int → Int → Option (List Int × List Int)
 | 0, _, _, _, _, _, _ => none
 | k + 1, x4, x5, x6, x8, x57, x58 => if x58 < x57 then (if 0 ≤ x58 then (if x58 < (x8.length : Int) then (if 0 ≤ (wrap64 (x58 + 1)) then (if (wrap64 (x58 + 1)) < (x8.length : Int) then (if 0 ≤ x6 then (if x58 < (x5.length : Int) then (nat_longw.l1 k x4 (x5.set (x58 : Int).toNat ((shr .u64 (Go.bits .or .u64 (IntKind.u64.wrap (rd x8 x58)) (IntKind.u64.wrap ((IntKind.u64.wrap (rd x8 (wrap64 (x58 + 1)))) * 4294967296))) x6) % 4294967296)) x6 x8 x57 (wrap64 (x58 + 1))) else (none)) else (none)) else (none)) else (none)) else (none)) else (none)) else (some (x4, x5))
end
def nat_longw.f (k : Nat) (l0 : List Int) (l1 : List Int) : Option (List Int × List Int) := if 0 ≤ (wrap64 ((l1.length : Int) - 1)) then (if (wrap64 ((l1.length : Int) - 1)) < (l1.length : Int) then ((bits_LeadingZeros32.f (rd l1 (wrap64 ((l1.length : Int) - 1)))).bind fun t138 => ((nat_shift.f k l1 t138).bind fun t139 => ((nat_short.f k t139).bind fun t142 => ((nat_shift.f k l0 t138).bind fun t145 => (if 0 ≤ (wrap64 ((t145.length : Int) - (t142.length : Int))) then (if (wrap64 ((t145.length : Int) - (t142.length : Int)) : Int).toNat ≤ 70368744177664 then (nat_longw.l0 k (List.replicate (wrap64 ((t145.length : Int) - (t142.length : Int)) : Int).toNat 0) t138 t142 t145 (t142.length : Int) (wrap64 ((wrap64 ((t145.length : Int) - (t142.length : Int))) - 1))) else (none)) else (none)))))) else (none)) else (none)
def nat_longw.T14 : Bool × List (List Nat × List Nat) := (true, [([], []), ([], []), ([], []), ([], []), ([2, 3], [2, 3]), ([4], [4]), ([5], [5]), ([], []), ([], []), ([8], [8]), ([7, 9], [7, 9]), ([10], [10]), ([11], [11]), ([12], [12]), ([6, 13], [6, 13]), ([], []), ([14, 15], [14, 15]), ([16], [16]), ([0, 1, 0, 1, 2, 3, 4, 5, 6, 7, 8, 9, 10, 11, 12, 13, 14, 15, 16, 17], [0, 1]), ([18, 17, 0, 1, 2, 3, 4, 5, 6, 7, 8, 9, 10, 11, 12, 13, 14, 15, 16, 17], [17, 18])])
def nat_longw.B14 : List Nat := [0, 0, 0, 0, 12, 28, 60, 0, 0, 256, 896, 1920, 3968, 8064, 16380, 0, 65532, 131068, 262143, 524287]
theorem nat_longw.tab14 : rtab .any (opsOf Try.f187 14) = nat_longw.T14 := by kernel_rfl
theorem nat_longw.bits14 : waitsOk nat_longw.T14.2 nat_longw.B14 = true := by kernel_rfl
set_option maxHeartbeats 8000000 in
set_option maxRecDepth 100000 in
theorem nat_longw.calls (k : Nat) (A0 : Option Addr) (c0 : Nat) (l0 : List Int) (A1 : Option Addr) (c1 : Nat) (l1 : List Int) (r1 : List Int) (r2 : List Int) (w : World) (hr0 : Kd.C (Kd.int .u32) w A0 l0.length l0) (hc0 : l0.length ≤ c0) (hr1 : Kd.C (Kd.int .u32) w A1 l1.length l1) (hc1 : l1.length ≤ c1) (h : nat_longw.f k l0 l1 = some (r1, r2)) :
 Calls Try.prog 187 #[.slice A0 l0.length c0, .slice A1 l1.length c1] w fun e w' => ∃ v0_ v1_ : Value, e = .returned (.tuple #[v0_, v1_]) ∧ Kd.R (Kd.int .u32) 48 w' w.heap.size (fun k_ => some k_ ≠ (v1_ : Value).ownBlock) v0_ r1 ∧ Kd.R (Kd.int .u32) 48 w' w.heap.size (fun k_ => some k_ ≠ (v0_ : Value).ownBlock) v1_ r2 ∧ Below w.heap.size w w' := by
 have cd := Aside0.mk hr0
 have b0 := Aside0.mk hc0
 clear hr0 hc0
 have b1 := Aside0.mk hr1
 have b2 := Aside0.mk hc1
 clear hr1 hc1
 have HB := Aside0.mk (Below.refl w.heap.size w)
 have H : (if 0 ≤ (wrap64 ((l1.length : Int) - 1)) then (if (wrap64 ((l1.length : Int) - 1)) < (l1.length : Int) then ((bits_LeadingZeros32.f (rd l1 (wrap64 ((l1.length : Int) - 1)))).bind fun ad => ((nat_shift.f k l1 ad).bind fun av => ((nat_short.f k av).bind fun ae => ((nat_shift.f k l0 ad).bind fun ag => (if 0 ≤ (wrap64 ((ag.length : Int) - (ae.length : Int))) then (if (wrap64 ((ag.length : Int) - (ae.length : Int)) : Int).toNat ≤ 70368744177664 then (nat_longw.l0 k (List.replicate (wrap64 ((ag.length : Int) - (ae.length : Int)) : Int).toNat 0) ad ae ag (ae.length : Int) (wrap64 ((wrap64 ((ag.length : Int) - (ae.length : Int))) - 1))) else (none)) else (none)))))) else (none)) else (none)) = some (r1, r2) := h
 clear h
 obtain ⟨ji3, hji3⟩ : ∃ j_ : Int, (wrap64 ((l1.length : Int) - 1)) = j_ := ⟨_, rfl⟩
 replace H : (if 0 ≤ (ji3) then (if (ji3) < (l1.length : Int) then ((bits_LeadingZeros32.f (rd l1 (ji3))).bind fun ad => ((nat_shift.f k l1 ad).bind fun av => ((nat_short.f k av).bind fun ae => ((nat_shift.f k l0 ad).bind fun ag => (if 0 ≤ (wrap64 ((ag.length : Int) - (ae.length : Int))) then (if (wrap64 ((ag.length : Int) - (ae.length : Int)) : Int).toNat ≤ 70368744177664 then (nat_longw.l0 k (List.replicate (wrap64 ((ag.length : Int) - (ae.length : Int)) : Int).toNat 0) ad ae ag (ae.length : Int) (wrap64 ((wrap64 ((ag.length : Int) - (ae.length : Int))) - 1))) else (none)) else (none)))))) else (none)) else (none)) = some (r1, r2) := by first | (rw [hji3] at H; exact H) | (simp only [hji3] at H ⊢; exact H)
 have hji3w : (IntKind.i64.wrap ((l1.length : Int) - 1)) = ji3 := (i64_w _).trans hji3
 by_cases c4 : 0 ≤ (ji3)
 ·
  rw [if_pos c4] at H
  have bm : decide (0 ≤ (ji3)) = true := decide_eq_true c4
  clear c4
  by_cases c5 : (ji3) < (l1.length : Int)
  ·
   rw [if_pos c5] at H
   have bn : decide ((ji3) < (l1.length : Int)) = true := decide_eq_true c5
   clear c5
   replace H := Option.bind_eq_some_iff.mp H
   obtain ⟨ad, b3, H⟩ := H
   (try dsimp -simprocs only at H)
   have A6 := Aside0.mk b3
   clear b3
   replace H := Option.bind_eq_some_iff.mp H
   obtain ⟨av, b4, H⟩ := H
   (try dsimp -simprocs only at H)
   have A7 := Aside0.mk b4
   clear b4
   replace H := Option.bind_eq_some_iff.mp H
   obtain ⟨ae, b5, H⟩ := H
   (try dsimp -simprocs only at H)
   have A8 := Aside0.mk b5
   clear b5
   replace H := Option.bind_eq_some_iff.mp H
   obtain ⟨ag, b6, H⟩ := H
   (try dsimp -simprocs only at H)
   have A9 := Aside0.mk b6
   clear b6
   obtain ⟨ji10, hji10⟩ : ∃ j_ : Int, (wrap64 ((ag.length : Int) - (ae.length : Int))) = j_ := ⟨_, rfl⟩
   replace H : (if 0 ≤ (ji10) then (if (ji10 : Int).toNat ≤ 70368744177664 then (nat_longw.l0 k (List.replicate (ji10 : Int).toNat 0) ad ae ag (ae.length : Int) (wrap64 ((ji10) - 1))) else (none)) else (none)) = some (r1, r2) := by first | (rw [hji10] at H; exact H) | (simp only [hji10] at H ⊢; exact H)
   (try rw [hji10] at A6)
   (try rw [hji10] at A7)
   (try rw [hji10] at A8)
   (try rw [hji10] at A9)
   have hji10w : (IntKind.i64.wrap ((ag.length : Int) - (ae.length : Int))) = ji10 := (i64_w _).trans hji10
   by_cases aZ : 0 ≤ (ji10)
   ·
    rw [if_pos aZ] at H
    have aM := eq_true aZ
    have aN : decide (0 ≤ (ji10)) = true := decide_eq_true aZ
    clear aZ
    by_cases a0 : (ji10 : Int).toNat ≤ 70368744177664
    ·
     rw [if_pos a0] at H
     have aO := eq_true a0
     have aP : decide ((ji10 : Int).toNat ≤ 70368744177664) = true := decide_eq_true a0
     clear a0
     obtain ⟨bo, aw⟩ : ∃ y_ : List Int, y_ = (List.replicate (ji10 : Int).toNat 0) := ⟨_, rfl⟩
     replace H : (nat_longw.l0 k bo ad ae ag (ae.length : Int) (wrap64 ((ji10) - 1))) = some (r1, r2) := by first | (rw [aw]; with_reducible exact H) | (have H2_ := (Option.bind_some _ _).symm.trans H; rw [aw]; with_reducible exact H2_) | (have H2_ := (Option.bind_some _ _).symm.trans H; with_reducible exact H2_) | with_reducible exact H | (rw [aw]; exact H) | exact H
     have aQ := Aside0.mk aw
     clear aw
     have H' := Aside0.mk H
     clear H
     have p137 : 0 ≤ ((ji3) : Int) := of_decide_eq_true (by first | (with_reducible assumption) | assumption)
     have q137 : (ji3) < (l1.length : Int) := of_decide_eq_true (by first | (with_reducible assumption) | assumption)
     obtain ⟨ad137, e137, aE⟩ := Kd.at_int b1.out (ji3) p137 q137
     cases e137
     replace p137 := eq_true p137
     replace q137 := eq_true q137
     go_enter Try.func187, Try.ntmps187
     go_wp2_with (first | ((with_reducible refine gate_callee (f := 188) rfl ?_); refine goesL_ (some 18) rfl rfl Try.func188 (by kernel_rfl) rfl #[.int .u32 (rd l1 (ji3))] rfl (by (try simp only [List.map_toArray, List.map_cons, List.map_nil]); first | done | (simp only [hji3]; rfl) | rfl | (simp only [List.length_drop, List.length_take]; rfl)) ?_; (with_reducible refine (bits_LeadingZeros32.calls (rd l1 (ji3)) ad _ A6.out).mono ?_); rintro e w' ⟨rfl, ⟨nd, rfl⟩⟩; refine ⟨_, rfl, ?_⟩) | ((with_reducible refine gate_callee (f := 189) rfl ?_); refine goesL_ (some 21) rfl rfl Try.func189 (by kernel_rfl) rfl #[.slice (some ad137) l1.length c1, .int .i64 ad] rfl lu ?_; (with_reducible refine (nat_shift.calls k _ _ l1 ad av _ ?side1 ?side2 A7.out).mono ?_); (case side1 => repeat (first | exact b1.out | (with_reducible refine Kd.C_alloc ?_ _) | (with_reducible refine Kd.C_drewN ?_ _) | (with_reducible refine Kd.C_drew ?_))); (case side2 => first | exact b2.out | exact vz b2.out); rintro e cn ⟨ce, rfl, aK, hb⟩; refine ⟨_, rfl, ?_⟩; have ak := Aside0.mk (Kd.R_lower aK (below_size (bu HB.out))); replace HB := Aside0.mk (below_step (bu HB.out) hb); (try clear hb); (try clear hk); (try clear aK); obtain ⟨bp, bq, bT⟩ := Kd.R_slice ak.out; subst bT) | ((with_reducible refine gate_callee (f := 179) rfl ?_); refine goesL_ (some 22) rfl rfl Try.func179 (by kernel_rfl) rfl #[.slice bp av.length bq] rfl lu ?_; (with_reducible refine (nat_short.calls k (fun k_ => some k_ = (.slice bp av.length bq : Value).ownBlock) _ _ av ae _ ?side1 A8.out).mono ?_); (case side1 => exact Kd.R_V (Kd.R_tight rfl (ak.out))); rintro e co ⟨cf, rfl, aK, hb⟩; refine ⟨_, rfl, ?_⟩; replace ak := Aside0.mk (Kd.R_below (by (with_reducible repeat (first | apply Kd.R_alloc | apply Kd.R_drewN | apply Kd.R_drew)); exact ak.out) hb); have ap := Aside0.mk (Kd.V_lower (Kd.V_mono (ok' := fun k_ => True) aK (fun k_ hk_ => trivial)) (below_size (bu HB.out))); replace HB := Aside0.mk (below_step (bu HB.out) hb); (try clear hb); (try clear hk); (try clear aK)) | ((with_reducible refine gate_callee (f := 189) rfl ?_); refine goesL_ (some 25) rfl rfl Try.func189 (by kernel_rfl) rfl #[.slice A0 l0.length c0, .int .i64 ad] rfl lu ?_; (with_reducible refine (nat_shift.calls k _ _ l0 ad ag _ ?side1 ?side2 A9.out).mono ?_); (case side1 => repeat (first | exact (Kd.C_below cd.out HB.out) | (with_reducible refine Kd.C_alloc ?_ _) | (with_reducible refine Kd.C_drewN ?_ _) | (with_reducible refine Kd.C_drew ?_))); (case side2 => first | exact b0.out | exact vz b0.out); rintro e cp ⟨cg, rfl, aK, hb⟩; refine ⟨_, rfl, ?_⟩; replace ap := Aside0.mk (Kd.V_elder' (vu ap.out) (Kd.R_base aK) hb); have ax := Aside0.mk (Kd.R_lower (Kd.R_new' aK (Kd.R_lt (by (with_reducible repeat (first | apply Kd.R_alloc | apply Kd.R_drewN | apply Kd.R_drew)); exact ak.out))) (below_size (bu HB.out))); replace ak := Aside0.mk (Kd.R_elder' (by (with_reducible repeat (first | apply Kd.R_alloc | apply Kd.R_drewN | apply Kd.R_drew)); exact ak.out) (Kd.R_base aK) hb); replace HB := Aside0.mk (below_step (bu HB.out) hb); (try clear hb); (try clear hk); (try clear aK); obtain ⟨br, bs, bU⟩ := Kd.V_slice ap.out; subst bU; obtain ⟨aH, aj, bV⟩ := Kd.R_slice ax.out; subst bV) | ((with_reducible refine gate_dst (N := 32) rfl ?_); refine Kd.R_make (Kd.int .u32) _ 48 rfl (N := 32) rfl 42 _ _ rfl ji10 rfl rfl Try.underlying42 (.int .u32 0) 4 info48 rfl (by decide) (by omega) 0 (ok := fun _ => True) (okp := fun _ => True) rfl (fun _ hk => hk) trivial (of_decide_eq_true (by first | (with_reducible assumption) | assumption)) (Nat.le_trans (Nat.mul_le_mul_right _ (of_decide_eq_true (by first | (with_reducible assumption) | assumption) : ji10.toNat ≤ 70368744177664)) (by omega)) (Below.refl _ _) (Nat.le_refl _) ?_; intro aC cq ay hb hg_ hnew_; clear hg_ hnew_; (first | rw [← aQ.out] at ay | (simp only [Int.reduceToNat] at ay; rw [← aQ.out] at ay)); replace ap := Aside0.mk (Kd.V_elder' (vu ap.out) (Kd.R_base ay) hb); have bv := Aside0.mk (Kd.R_lower (Kd.R_new' (Kd.R_new' ay (Kd.R_lt (by (with_reducible repeat (first | apply Kd.R_alloc | apply Kd.R_drewN | apply Kd.R_drew)); exact ak.out))) (Kd.R_lt (by (with_reducible repeat (first | apply Kd.R_alloc | apply Kd.R_drewN | apply Kd.R_drew)); exact ax.out))) (below_size (bu HB.out))); replace ak := Aside0.mk (Kd.R_elder' (by (with_reducible repeat (first | apply Kd.R_alloc | apply Kd.R_drewN | apply Kd.R_drew)); exact ak.out) (Kd.R_base ay) hb); replace ax := Aside0.mk (Kd.R_elder' (by (with_reducible repeat (first | apply Kd.R_alloc | apply Kd.R_drewN | apply Kd.R_drew)); exact ax.out) (Kd.R_base ay) hb); replace HB := Aside0.mk (below_step (bu HB.out) hb); clear hb ay))
     go_loopg [10] k (fun kq ch w' => ∃ (ai : List Int) (al : List Int) (ac : List Int) (ab : Int), ch = .int .i64 ab ∧ Aside0 (nat_longw.l0 kq ai ad al ac (ae.length : Int) ab = some (r1, r2)) ∧ Aside0 (kq ≤ k) ∧ Aside0 (Kd.R (Kd.int .u32) 48 w' w.heap.size (fun k_ => some k_ ≠ ((.slice aH ag.length aj) : Value).ownBlock) aC ai) ∧ Aside0 (Kd.V (Kd.int .u32) 48 w' w.heap.size (fun k_ => some k_ ≠ (aC : Value).ownBlock ∧ some k_ ≠ ((.slice aH ag.length aj) : Value).ownBlock) (.slice br ae.length bs) al) ∧ Aside0 (Kd.R (Kd.int .u32) 48 w' w.heap.size (fun k_ => some k_ ≠ (aC : Value).ownBlock) (.slice aH ag.length aj) ac) ∧ Aside0 (Below w.heap.size w w'))
     case atStart => exact ⟨(bo), (ae), (ag), (wrap64 ((ji10) - 1)), (by first | rfl | (simp; done) | (simp only [← hji10] <;> (first | rfl | simp)) | (simp [*]; done)), H', ⟨Nat.le_refl _⟩, ⟨by (with_reducible repeat (first | apply Kd.R_alloc | apply Kd.R_drewN | apply Kd.R_drew)); exact Kd.R_mono bv.out (fun _ hk => hk.2)⟩, ⟨by exact vz ap.out⟩, ⟨by (with_reducible repeat (first | apply Kd.R_alloc | apply Kd.R_drewN | apply Kd.R_drew)); exact Kd.R_mono ax.out (fun _ hk => hk.2)⟩, ⟨by repeat (first | (with_reducible first | exact HB.out | apply below_alloc | apply pw_below_drewN | apply below_drew1) | exact HB.out)⟩⟩
     case round =>
      clear H'
      try clear c1
      try clear p1
      try clear q1
      try clear hx1
      try clear p2
      try clear c4
      try clear bm
      try clear c5
      try clear bn
      try clear p6
      try clear aZ
      try clear aM
      try clear aN
      try clear a0
      try clear aO
      try clear aP
      try clear p13
      try clear q13
      try clear hx13
      try clear c17
      try clear c18
      try clear aE
      try clear p137
      try clear q137
      obtain ⟨ai, al, ac, ab, rfl, HA, HK1, ah, an, af, HB⟩ := hrel
      have hl7_1 := (Kd.V_reads' an.out).1
      rw [hl7_1] at an
      (try simp only [hl7_1])
      (try simp only [hl7_1] at ah)
      (try simp only [hl7_1] at af)
      have hl8_1 := (Kd.R_reads' af.out).1
      rw [hl8_1] at af
      (try simp only [hl8_1])
      (try simp only [hl8_1] at ah)
      (try simp only [hl8_1] at an)
      cases gk with
      | zero => exact absurd HA.out (by simp [nat_longw.l0])
      | succ k1 =>
       have H := HA.out
       clear HA
       simp only [nat_longw.l0] at H
       by_cases a1 : ab ≥ 0
       ·
        rw [if_pos a1] at H
        have aR : decide (0 ≤ ab) = true := decide_eq_true a1
        clear a1
        replace H := Option.bind_eq_some_iff.mp H
        obtain ⟨⟨aL, bw⟩, bx, H⟩ := H
        (try dsimp -simprocs only at H)
        have ci := Aside0.mk bx
        clear bx
        by_cases bz : 0 ≤ ab
        ·
         rw [if_pos bz] at H
         have bA : decide (0 ≤ ab) = true := decide_eq_true bz
         clear bz
         by_cases bB : ab < (ai.length : Int)
         ·
          rw [if_pos bB] at H
          have aS : decide (ab < (ai.length : Int)) = true := decide_eq_true bB
          clear bB
          (try (have a2 := aS; simp only [hl7_1, hl8_1] at a2))
          obtain ⟨a3, az⟩ : ∃ y_ : List Int, y_ = (ai.set (ab : Int).toNat aL) := ⟨_, rfl⟩
          replace H : (nat_longw.l0 k1 a3 ad al bw (ae.length : Int) (wrap64 (ab - 1))) = some (r1, r2) := by first | (rw [az]; with_reducible exact H) | (have H2_ := (Option.bind_some _ _).symm.trans H; rw [az]; with_reducible exact H2_) | (have H2_ := (Option.bind_some _ _).symm.trans H; with_reducible exact H2_) | with_reducible exact H | (rw [az]; exact H) | exact H
          have bC := Aside0.mk az
          clear az
          have H' := Aside0.mk H
          clear H
          obtain ⟨hj18, cj, hle18_, hbig18, xs18, hst18_, hsp18_⟩ := stepat_parts ci.out
          obtain ⟨xw18, hxw18_⟩ : ∃ l_ : List Int, l_ = (ac.drop (ab : Int).toNat).take (al.length + 1) := ⟨_, rfl⟩
          rw [← hxw18_] at hst18_
          have hst18 := Aside0.mk hst18_
          have hsp18 := Aside0.mk hsp18_
          have hroom18 : ac.length ≤ aj := (Kd.R_reads' af.out).2.1
          obtain ⟨gz18, cz18, ez18, bW, gl18, cl18, HG18⟩ := Kd.R_form af.out (by omega)
          (first | cases ez18 | (injection ez18 with ea_ en_ ec_; (first | subst ea_ | (injection ea_ with ea_; subst ea_)); subst ec_; clear en_))
          clear bW gl18 cl18 HG18 hst18_ hsp18_
          have hle18 := Aside0.mk (show (ab : Int).toNat + (al.length + 1) ≤ ac.length from by omega)
          have hlc18 := Aside0.mk (show xw18.length ≤ aj - (ab : Int).toNat from by rw [hxw18_, win_len _ _ _ hle18.out]; omega)
          obtain ⟨js18, hjs18⟩ : ∃ j_ : Int, wrap64 (ab + (al.length : Int)) = j_ := ⟨_, rfl⟩
          have hjs18w : (IntKind.i64.wrap (ab + (al.length : Int))) = js18 := (i64_w _).trans hjs18
          obtain ⟨jt18, hjt18⟩ : ∃ j_ : Int, wrap64 (js18 + 1) = j_ := ⟨_, rfl⟩
          have hjt18w : (IntKind.i64.wrap (js18 + 1)) = jt18 := (i64_w _).trans hjt18
          have hcut18 := cut_win (g := gz18) (c := aj) hj18 hle18_ hbig18 hroom18 hjs18 hjt18
          rw [← hxw18_] at hcut18
          have hxw18 := Aside0.mk hxw18_
          clear hxw18_ hle18_ hbig18 hroom18
          go_wp2_with (first | ((with_reducible refine gate_callee (f := 190) rfl ?_); refine goesL_ (some 52) rfl rfl Try.func190 (by kernel_rfl) rfl #[.slice (some ⟨gz18, (ab : Int).toNat, none⟩) xw18.length (aj - (ab : Int).toNat), .slice br al.length bs] rfl lu ?_; (with_reducible refine (nat_step.calls k1 (fun k_ => some k_ = (.slice (some ⟨gz18, 0, none⟩) ac.length aj : Value).ownBlock) gz18 (ab : Int).toNat ac.length aj (aj - (ab : Int).toNat) ac xw18 _ _ al aL xs18 w _ ?side1 ?side2 ?sideC ?side3 ?side4 hst18.out).mono ?_); (case side1 => repeat (first | (with_reducible first | exact HB.out | apply below_alloc | apply pw_below_drewN | apply below_drew1) | exact HB.out)); (case side2 => rw [hxw18.out]; exact Wn_of (Kd.R_tight rfl af.out) hle18.out); (case sideC => exact hlc18.out); (case side3 => exact Kd.C_kept_ownV (an.out) (fun k_ hk_ hs_ => (hk_.2) hs_)); (case side4 => exact (Kd.V_reads' an.out).2.1); rintro e b7 ⟨rfl, bD, hb, hkp⟩; refine ⟨_, rfl, ?_⟩; replace bD := bD.2.2; rw [← hsp18.out] at bD; replace ah := Aside0.mk (Kd.R_mono (ok' := fun k_ => some k_ ≠ (.slice (some ⟨gz18, 0, none⟩) ac.length aj : Value).ownBlock) (Kd.R_keptB (ah.out) hkp (fun k_ hk_ hs_ => (hk_) hs_)) (fun k_ hk_ => hk_.1)); replace an := Aside0.mk (Kd.V_mono (ok' := fun k_ => some k_ ≠ (aC : Value).ownBlock ∧ some k_ ≠ (.slice (some ⟨gz18, 0, none⟩) ac.length aj : Value).ownBlock) (Kd.V_keptB (an.out) hkp (fun k_ hk_ hs_ => (hk_.2) hs_)) (fun k_ hk_ => ⟨hk_.1.1, hk_.1.2⟩)); replace af := Aside0.mk (Kd.R_reok rfl bD (fun k_ e_ => af.out.1 k_ e_)); replace HB := Aside0.mk (hb); (try clear hb); (try clear hkp); (try clear bD); have p25 : 0 ≤ (ab : Int) := of_decide_eq_true (by first | (with_reducible assumption) | assumption); have q25 : (ab : Int) < ((ai.length : Int) : Int) := of_decide_eq_true (by first | (with_reducible assumption) | assumption); obtain ⟨go25, aI, bE, bF, gl25, cl25, HG25⟩ := Kd.R_form ah.out (by omega); (first | cases bE | (injection bE with ea_ en_ ec_; (first | subst ea_ | (injection ea_ with ea_; subst ea_)); subst ec_; clear en_)); have GB25 := Aside0.mk bF; have GG25 := Aside0.mk HG25; clear bF gl25 HG25; obtain ⟨a4, bX⟩ := Kd.R_celln 0 ah.out (ab : Int) p25 q25; replace p25 := eq_true p25; replace q25 := eq_true q25; obtain ⟨b8, hz27_⟩ := Kd.R_celln 0 ah.out (ab : Int) (of_decide_eq_true (by first | (with_reducible assumption) | assumption)) (of_decide_eq_true (by first | (with_reducible assumption) | assumption)); have a5 := Kd.R_putg ah.out (ab : Int) aL) | ((with_reducible refine gate_store (t := 48) (p := 53) rfl ?_); refine store_event (t := 48) (p := 53) (v := ?vo_w28) (w1 := (b7.setCell ⟨go25, (ab : Int).toNat, none⟩ (.int .u32 aL))) ?hg ?ho ?hn ?hr ?_; (case ho => rfl); (case hg => rfl); (case hn => rfl); (case hr => first | (go_simp; done) | (go_simp; rfl)); intro bY hw; have hg : b7.grownBy bY (some go25) := (by rw [hw]; exact a5.2); have hp_ : Kd.R (Kd.int .u32) 48 bY w.heap.size (fun k_ => some k_ ≠ (.slice (some ⟨gz18, 0, none⟩) ac.length aj : Value).ownBlock) (.slice (some ⟨go25, 0, none⟩) ai.length aI) a3 := (by rw [hw, bC.out]; exact a5.1); clear a5; replace ah := Aside0.mk (hp_); replace an := Aside0.mk (Kd.V_afterv (v := (.slice (some ⟨go25, 0, none⟩) ai.length aI)) (v1 := (.slice (some ⟨go25, 0, none⟩) ai.length aI)) (ok := (fun k_ => some k_ ≠ (.slice (some ⟨gz18, 0, none⟩) ac.length aj : Value).ownBlock)) (by (with_reducible repeat (first | apply Kd.V_alloc | apply Kd.V_drewN | apply Kd.V_drew)); exact Kd.V_mono an.out (fun _ hk => ⟨hk.2, hk.1⟩)) hg (.inl rfl)); replace af := Aside0.mk (Kd.R_after (v := (.slice (some ⟨go25, 0, none⟩) ai.length aI)) (v1 := (.slice (some ⟨go25, 0, none⟩) ai.length aI)) (ok := (fun _ => True)) (by (with_reducible repeat (first | apply Kd.R_alloc | apply Kd.R_drewN | apply Kd.R_drew)); exact Kd.R_mono af.out (fun _ hk => ⟨trivial, hk⟩)) hg (.inl rfl)); replace HB := Aside0.mk ((by rw [hw]; exact below_set (HB.out) GB25.out : Below w.heap.size w bY)); clear hg hw hp_))
          (try simp only [← hl7_1, ← hl8_1])
          go_roundg k1
          case measure => have := HK1.out; omega
          case rel => exact ⟨(a3), (al), (bw), (wrap64 (ab - 1)), (by first | rfl | (simp; done) | (simp [*]; done)), H', ⟨by have := HK1.out; omega⟩, ⟨by (try simp only [hl7_1]); (try simp only [hl8_1]); (with_reducible repeat (first | apply Kd.R_alloc | apply Kd.R_drewN | apply Kd.R_drew)); exact ah.out⟩, ⟨by (try simp only [hl7_1]); (try simp only [hl8_1]); exact vz an.out⟩, ⟨by (try simp only [hl7_1]); (try simp only [hl8_1]); (with_reducible repeat (first | apply Kd.R_alloc | apply Kd.R_drewN | apply Kd.R_drew)); exact Kd.R_mono af.out (fun _ hk => hk.2)⟩, ⟨by repeat (first | (with_reducible first | exact HB.out | apply below_alloc | apply pw_below_drewN | apply below_drew1) | exact HB.out)⟩⟩
         ·
          rw [if_neg bB] at H
          exact absurd H (by simp)
        ·
         rw [if_neg bz] at H
         exact absurd H (by simp)
       ·
        rw [if_neg a1] at H
        have aR : decide (0 ≤ ab) = false := decide_eq_false a1
        clear a1
        by_cases bj : 0 ≤ (ae.length : Int)
        ·
         rw [if_pos bj] at H
         have aT := eq_true bj
         have aU : decide (0 ≤ (ae.length : Int)) = true := decide_eq_true bj
         clear bj
         (try (have a6 := aT; simp only [hl7_1, hl8_1] at a6))
         (try (have a7 := aU; simp only [hl7_1, hl8_1] at a7))
         by_cases bk : ((ae.length : Int) : Int).toNat ≤ 70368744177664
         ·
          rw [if_pos bk] at H
          have aV := eq_true bk
          have aW : decide (((ae.length : Int) : Int).toNat ≤ 70368744177664) = true := decide_eq_true bk
          clear bk
          (try (have a8 := aV; simp only [hl7_1, hl8_1] at a8))
          (try (have a9 := aW; simp only [hl7_1, hl8_1] at a9))
          obtain ⟨am, aA⟩ : ∃ y_ : List Int, y_ = (List.replicate ((ae.length : Int) : Int).toNat 0) := ⟨_, rfl⟩
          replace H : (nat_longw.l1 k1 ai am ad ac (am.length : Int) 0) = some (r1, r2) := by first | (rw [aA]; with_reducible exact H) | (have H2_ := (Option.bind_some _ _).symm.trans H; rw [aA]; with_reducible exact H2_) | (have H2_ := (Option.bind_some _ _).symm.trans H; with_reducible exact H2_) | with_reducible exact H | (rw [aA]; exact H) | exact H
          have aX := Aside0.mk aA
          clear aA
          have H' := Aside0.mk H
          clear H
          go_wp2_with (first | ((with_reducible refine gate_dst (N := 55) rfl ?_); refine Kd.R_make (Kd.int .u32) _ 48 rfl (N := 55) rfl 42 _ _ rfl (al.length : Int) rfl rfl Try.underlying42 (.int .u32 0) 4 info48 rfl (by decide) (by omega) 0 (ok := fun _ => True) (okp := fun _ => True) rfl (fun _ hk => hk) trivial (of_decide_eq_true (by first | (with_reducible assumption) | assumption)) (Nat.le_trans (Nat.mul_le_mul_right _ (of_decide_eq_true (by first | (with_reducible assumption) | assumption) : (al.length : Int).toNat ≤ 70368744177664)) (by omega)) (Below.refl _ _) (Nat.le_refl _) ?_; intro ck cr aq hb hg_ hnew_; clear hg_ hnew_; rw [← hl7_1] at aq; (first | rw [← aX.out] at aq | (simp only [Int.reduceToNat] at aq; rw [← aX.out] at aq)); replace an := Aside0.mk (Kd.V_elder' (vu an.out) (Kd.R_base aq) hb); have aY := Aside0.mk (Kd.R_lower (Kd.R_new' (Kd.R_new' aq (Kd.R_lt (by (with_reducible repeat (first | apply Kd.R_alloc | apply Kd.R_drewN | apply Kd.R_drew)); exact ah.out))) (Kd.R_lt (by (with_reducible repeat (first | apply Kd.R_alloc | apply Kd.R_drewN | apply Kd.R_drew)); exact af.out))) (below_size (bu HB.out))); replace ah := Aside0.mk (Kd.R_elder' (by (with_reducible repeat (first | apply Kd.R_alloc | apply Kd.R_drewN | apply Kd.R_drew)); exact ah.out) (Kd.R_base aq) hb); replace af := Aside0.mk (Kd.R_elder' (by (with_reducible repeat (first | apply Kd.R_alloc | apply Kd.R_drewN | apply Kd.R_drew)); exact af.out) (Kd.R_base aq) hb); replace HB := Aside0.mk (below_step (bu HB.out) hb); clear hb aq; obtain ⟨ba, bb, bZ⟩ := Kd.R_slice aY.out; subst bZ))
          go_loopg [58] k1 (fun kq cl w' => ∃ (ao : List Int) (aa : Int), cl = .int .i64 aa ∧ Aside0 (nat_longw.l1 kq ai ao ad ac (am.length : Int) aa = some (r1, r2)) ∧ Aside0 (kq ≤ k1) ∧ Aside0 (Kd.R (Kd.int .u32) 48 w' w.heap.size (fun k_ => some k_ ≠ ((.slice ba am.length bb) : Value).ownBlock ∧ some k_ ≠ ((.slice aH ac.length aj) : Value).ownBlock) aC ai) ∧ Aside0 (Kd.R (Kd.int .u32) 48 w' w.heap.size (fun k_ => some k_ ≠ (aC : Value).ownBlock ∧ some k_ ≠ ((.slice aH ac.length aj) : Value).ownBlock) (.slice ba am.length bb) ao) ∧ Aside0 (Kd.R (Kd.int .u32) 48 w' w.heap.size (fun k_ => some k_ ≠ (aC : Value).ownBlock ∧ some k_ ≠ ((.slice ba am.length bb) : Value).ownBlock) (.slice aH ac.length aj) ac) ∧ Aside0 (Below w.heap.size w w'))
          case atStart => exact ⟨(am), (0), (by first | rfl | (simp; done) | (simp [*]; done)), H', ⟨Nat.le_refl _⟩, ⟨by (try simp only [hl7_1]); (try simp only [hl8_1]); (with_reducible repeat (first | apply Kd.R_alloc | apply Kd.R_drewN | apply Kd.R_drew)); exact Kd.R_mono ah.out (fun _ hk => ⟨hk.2, hk.1⟩)⟩, ⟨by (try simp only [hl7_1]); (try simp only [hl8_1]); (with_reducible repeat (first | apply Kd.R_alloc | apply Kd.R_drewN | apply Kd.R_drew)); exact Kd.R_mono aY.out (fun _ hk => ⟨hk.1.2, hk.2⟩)⟩, ⟨by (try simp only [hl7_1]); (try simp only [hl8_1]); (with_reducible repeat (first | apply Kd.R_alloc | apply Kd.R_drewN | apply Kd.R_drew)); exact af.out⟩, ⟨by repeat (first | (with_reducible first | exact HB.out | apply below_alloc | apply pw_below_drewN | apply below_drew1) | exact HB.out)⟩⟩
          case round =>
           clear H'
           try clear c1
           try clear p1
           try clear q1
           try clear hx1
           try clear c2
           try clear p2
           try clear q2
           try clear hx2
           try clear hf2
           try clear c3
           try clear c4
           try clear bm
           try clear c5
           try clear bn
           try clear p6
           try clear aZ
           try clear aM
           try clear aN
           try clear a0
           try clear aO
           try clear aP
           try clear p13
           try clear q13
           try clear hx13
           try clear c17
           try clear c18
           try clear c19
           try clear a1
           try clear aR
           try clear bz
           try clear bA
           try clear bB
           try clear aS
           try clear p25
           try clear q25
           try clear hx25
           try clear hf25
           try clear bj
           try clear aT
           try clear aU
           try clear bk
           try clear aV
           try clear aW
           try clear aE
           try clear a4
           try clear p1
           try clear p13
           try clear p137
           try clear p2
           try clear p25
           try clear p6
           try clear q1
           try clear q13
           try clear q137
           try clear q25
           obtain ⟨ao, aa, rfl, HA, HK2, ah, au, af, HB⟩ := hrel
           have hl5_2 := (Kd.R_reads' au.out).1
           rw [hl5_2] at au
           (try simp only [hl5_2])
           (try simp only [hl5_2] at ah)
           (try simp only [hl5_2] at af)
           cases gk with
           | zero => exact absurd HA.out (by simp [nat_longw.l1])
           | succ k2 =>
            have H := HA.out
            clear HA
            simp only [nat_longw.l1] at H
            by_cases bl : aa < (am.length : Int)
            ·
             rw [if_pos bl] at H
             have aJ : decide (aa < (am.length : Int)) = true := decide_eq_true bl
             clear bl
             (try (have aD := aJ; simp only [hl7_1, hl8_1, hl5_2] at aD))
             by_cases bO : 0 ≤ aa
             ·
              rw [if_pos bO] at H
              have b9 : decide (0 ≤ aa) = true := decide_eq_true bO
              clear bO
              by_cases bP : aa < (ac.length : Int)
              ·
               rw [if_pos bP] at H
               have bG : decide (aa < (ac.length : Int)) = true := decide_eq_true bP
               clear bP
               (try (have bd := bG; simp only [hl7_1, hl8_1, hl5_2] at bd))
               obtain ⟨ji37, hji37⟩ : ∃ j_ : Int, (wrap64 (aa + 1)) = j_ := ⟨_, rfl⟩
               replace H : (if 0 ≤ (ji37) then (if (ji37) < (ac.length : Int) then (if 0 ≤ ad then (if aa < (ao.length : Int) then (nat_longw.l1 k2 ai (ao.set (aa : Int).toNat ((shr .u64 (Go.bits .or .u64 (IntKind.u64.wrap (rd ac aa)) (IntKind.u64.wrap ((IntKind.u64.wrap (rd ac (ji37))) * 4294967296))) ad) % 4294967296)) ad ac (am.length : Int) ji37) else (none)) else (none)) else (none)) else (none)) = some (r1, r2) := by first | (rw [hji37] at H; exact H) | (simp only [hji37] at H ⊢; exact H)
               have hji37w : (IntKind.i64.wrap (aa + 1)) = ji37 := (i64_w _).trans hji37
               by_cases bQ : 0 ≤ (ji37)
               ·
                rw [if_pos bQ] at H
                have ca : decide (0 ≤ (ji37)) = true := decide_eq_true bQ
                clear bQ
                by_cases bR : (ji37) < (ac.length : Int)
                ·
                 rw [if_pos bR] at H
                 have bH : decide ((ji37) < (ac.length : Int)) = true := decide_eq_true bR
                 clear bR
                 (try (have be := bH; simp only [hl7_1, hl8_1, hl5_2] at be))
                 by_cases bI : 0 ≤ ad
                 ·
                  rw [if_pos bI] at H
                  have cb := eq_true bI
                  have cc : decide (0 ≤ ad) = true := decide_eq_true bI
                  clear bI
                  obtain ⟨ji41, hji41⟩ : ∃ j_ : Int, (shr .u64 (Go.bits .or .u64 (IntKind.u64.wrap (rd ac aa)) (IntKind.u64.wrap ((IntKind.u64.wrap (rd ac (ji37))) * 4294967296))) ad) = j_ := ⟨_, rfl⟩
                  replace H : (if aa < (ao.length : Int) then (nat_longw.l1 k2 ai (ao.set (aa : Int).toNat ((ji41) % 4294967296)) ad ac (am.length : Int) ji37) else (none)) = some (r1, r2) := by first | (rw [hji41] at H; exact H) | (simp only [hji41] at H ⊢; exact H)
                  have hji41_ : ((Go.bits .or .u64 (IntKind.u64.wrap (rd ac aa)) (IntKind.u64.wrap ((IntKind.u64.wrap (rd ac (ji37))) * 4294967296))) / 2 ^ min ad.toNat 64) = ji41 := hji41
                  have hji41z : ad ≤ 64 → ((Go.bits .or .u64 (IntKind.u64.wrap (rd ac aa)) (IntKind.u64.wrap ((IntKind.u64.wrap (rd ac (ji37))) * 4294967296))) / 2 ^ ad.toNat) = ji41 := shr_small hji41
                  by_cases bS : aa < (ao.length : Int)
                  ·
                   rw [if_pos bS] at H
                   have bJ : decide (aa < (ao.length : Int)) = true := decide_eq_true bS
                   clear bS
                   (try (have bf := bJ; simp only [hl7_1, hl8_1, hl5_2] at bf))
                   obtain ⟨bK, aB⟩ : ∃ y_ : List Int, y_ = (ao.set (aa : Int).toNat ((ji41) % 4294967296)) := ⟨_, rfl⟩
                   replace H : (nat_longw.l1 k2 ai bK ad ac (am.length : Int) ji37) = some (r1, r2) := by first | (rw [aB]; with_reducible exact H) | (have H2_ := (Option.bind_some _ _).symm.trans H; rw [aB]; with_reducible exact H2_) | (have H2_ := (Option.bind_some _ _).symm.trans H; with_reducible exact H2_) | with_reducible exact H | (rw [aB]; exact H) | exact H
                   have bL := Aside0.mk aB
                   clear aB
                   have H' := Aside0.mk H
                   clear H
                   try go_wp2
                   replace ah := Aside0.mk (Kd.R_drew ah.out)
                   replace au := Aside0.mk (Kd.R_drew au.out)
                   replace af := Aside0.mk (Kd.R_drew af.out)
                   replace HB := Aside0.mk (below_drew1 HB.out)
                   have p157 : 0 ≤ (aa : Int) := of_decide_eq_true (by first | (with_reducible assumption) | assumption)
                   have q157 : aa < (ac.length : Int) := of_decide_eq_true (by first | (with_reducible assumption) | assumption)
                   obtain ⟨ad157, e157, aF⟩ := Kd.at_int (Kd.R_reads' af.out).2.2 aa p157 q157
                   cases e157
                   replace p157 := eq_true p157
                   replace q157 := eq_true q157
                   have p158 : 0 ≤ ((ji37) : Int) := of_decide_eq_true (by first | (with_reducible assumption) | assumption)
                   have q158 : (ji37) < (ac.length : Int) := of_decide_eq_true (by first | (with_reducible assumption) | assumption)
                   obtain ⟨ad158, e158, aG⟩ := Kd.at_int (Kd.R_reads' af.out).2.2 (ji37) p158 q158
                   obtain rfl : ad157 = ad158 := (by injection e158)
                   replace p158 := eq_true p158
                   replace q158 := eq_true q158
                   have p43 : 0 ≤ (aa : Int) := of_decide_eq_true (by first | (with_reducible assumption) | assumption)
                   have q43 : (aa : Int) < ((ao.length : Int) : Int) := of_decide_eq_true (by first | (with_reducible assumption) | assumption)
                   obtain ⟨go43, cm, bM, bN, gl43, cl43, HG43⟩ := Kd.R_form au.out (by omega)
                   (first | cases bM | (injection bM with ea_ en_ ec_; (first | subst ea_ | (injection ea_ with ea_; subst ea_)); subst ec_; clear en_))
                   have GB43 := Aside0.mk bN
                   have GG43 := Aside0.mk HG43
                   clear bN gl43 HG43
                   obtain ⟨bg, bh⟩ := Kd.R_celln 0 au.out (aa : Int) p43 q43
                   replace p43 := eq_true p43
                   replace q43 := eq_true q43
                   have bi := Kd.R_putn au.out (aa : Int) ((ji41) % 4294967296)
                   rw [← bL.out] at bi
                   have HQ45 := Aside0.mk bi
                   clear bi
                   refine start_ (n := 20) (S := fun w' => w'.cell? (ad157.add (aa).toNat) = some (.int .u32 (rd ac aa)) ∧ w'.cell? (ad157.add ((ji37)).toNat) = some (.int .u32 (rd ac (ji37)))) (ds := [19]) #[false, false, false, false, false, false, false, false, false, false, false, false, false, false, false, false, false, false, false, false] (by kernel_rfl) rfl rfl ⟨aF, aG⟩ (fun hHeld => ?_); refine with_tabW nat_longw.tab14 nat_longw.bits14 (fun HT_ HW_ => ?_)
                   generalize wr.drew = cs at ah au af HB GG43 HQ45 bh aF aG bg hHeld ⊢
                   refine pq 0 (some 61) #[true, false, false, false, false, false, false, false, false, false, false, false, false, false, false, false, false, false, false, false] HT_ ?_
                   refine pq 1 (some 62) #[true, true, false, false, false, false, false, false, false, false, false, false, false, false, false, false, false, false, false, false] HT_ ?_
                   refine pq 2 (some 63) #[true, true, true, false, false, false, false, false, false, false, false, false, false, false, false, false, false, false, false, false] HT_ ?_
                   refine pq 3 (some 64) #[true, true, true, true, false, false, false, false, false, false, false, false, false, false, false, false, false, false, false, false] HT_ ?_
                   refine pq 4 (some 65) #[true, true, true, true, true, false, false, false, false, false, false, false, false, false, false, false, false, false, false, false] HT_ ?_
                   refine pq 7 (some 68) #[true, true, true, true, true, false, false, true, false, false, false, false, false, false, false, false, false, false, false, false] HT_ ?_
                   refine pq 8 (some 69) #[true, true, true, true, true, false, false, true, true, false, false, false, false, false, false, false, false, false, false, false] HT_ ?_
                   refine pq 9 (some 70) #[true, true, true, true, true, false, false, true, true, true, false, false, false, false, false, false, false, false, false, false] HT_ ?_
                   refine pq 10 (some 71) #[true, true, true, true, true, false, false, true, true, true, true, false, false, false, false, false, false, false, false, false] HT_ ?_
                   refine pq 15 (some 76) #[true, true, true, true, true, false, false, true, true, true, true, false, false, false, false, true, false, false, false, false] HT_ ?_
                   refine tq 5 (some 66) #[true, true, true, true, true, true, false, true, true, true, true, false, false, false, false, true, false, false, false, false] HT_ HW_ hHeld ?_
                   refine pq 6 (some 67) #[true, true, true, true, true, true, true, true, true, true, true, false, false, false, false, true, false, false, false, false] HT_ ?_
                   refine tq 11 (some 72) #[true, true, true, true, true, true, true, true, true, true, true, true, false, false, false, true, false, false, false, false] HT_ HW_ hHeld ?_
                   refine pq 12 (some 73) #[true, true, true, true, true, true, true, true, true, true, true, true, true, false, false, true, false, false, false, false] HT_ ?_
                   refine pq 13 (some 74) #[true, true, true, true, true, true, true, true, true, true, true, true, true, true, false, true, false, false, false, false] HT_ ?_
                   refine pq 14 (some 75) #[true, true, true, true, true, true, true, true, true, true, true, true, true, true, true, true, false, false, false, false] HT_ ?_
                   refine pq 16 (some 77) #[true, true, true, true, true, true, true, true, true, true, true, true, true, true, true, true, true, false, false, false] HT_ ?_
                   refine pq 17 (some 78) #[true, true, true, true, true, true, true, true, true, true, true, true, true, true, true, true, true, true, false, false] HT_ ?_
                   refine pq 18 (some 79) #[true, true, true, true, true, true, true, true, true, true, true, true, true, true, true, true, true, true, true, false] HT_ ?_
                   refine last_ (i := 19) (N := none) #[true, true, true, true, true, true, true, true, true, true, true, true, true, true, true, true, true, true, true, true] rfl rfl (one_of HT_.out (by kernel_rfl)) (by decide) (fun K hK => ?_)
                   refine skip_ (w1 := ?_) (by rfl) rfl ?_ ?_
                   rotate_left
                   ·
                    go_simp
                    rfl
                   refine hK.out _ _ ?_
                   clear hK K
                   refine done_ (done_of HT_.out (by kernel_rfl)) ?_
                   try go_wp2
                   (try simp only [← hl5_2])
                   go_roundg k2
                   case measure => have := HK1.out; have := HK2.out; omega
                   case rel => exact ⟨(bK), (ji37), (by first | rfl | (simp; done) | (simp only [← hji37] <;> (first | rfl | simp)) | (simp [*]; done)), H', ⟨by have := HK1.out; have := HK2.out; omega⟩, ⟨by (try simp only [hl7_1]); (try simp only [hl8_1]); (try simp only [hl5_2]); (with_reducible repeat (first | apply Kd.R_alloc | apply Kd.R_drewN | apply Kd.R_drew)); exact Kd.R_mono (Kd.R_far (p := ⟨go43, (aa : Int).toNat, none⟩) (Kd.R_mono ah.out (fun k_ hk => (⟨hk, fun e_ => hk.1 (by rw [e_]; rfl)⟩ : _ ∧ k_ ≠ go43))) (fun _ hk => hk.2) (.int .u32 ((ji41) % 4294967296))) (fun _ hk => ⟨hk.1.1, hk.1.2⟩)⟩, ⟨by (try simp only [hl7_1]); (try simp only [hl8_1]); (try simp only [hl5_2]); (with_reducible repeat (first | apply Kd.R_alloc | apply Kd.R_drewN | apply Kd.R_drew)); exact HQ45.out⟩, ⟨by (try simp only [hl7_1]); (try simp only [hl8_1]); (try simp only [hl5_2]); (with_reducible repeat (first | apply Kd.R_alloc | apply Kd.R_drewN | apply Kd.R_drew)); exact Kd.R_mono (Kd.R_far (p := ⟨go43, (aa : Int).toNat, none⟩) (Kd.R_mono af.out (fun k_ hk => (⟨hk, fun e_ => hk.2 (by rw [e_]; rfl)⟩ : _ ∧ k_ ≠ go43))) (fun _ hk => hk.2) (.int .u32 ((ji41) % 4294967296))) (fun _ hk => ⟨hk.1.1, hk.1.2⟩)⟩, ⟨by repeat (first | (with_reducible first | exact HB.out | apply below_alloc | apply pw_below_drewN | apply below_drew1 | refine below_set ?_ GB43.out) | exact HB.out)⟩⟩
                  ·
                   rw [if_neg bS] at H
                   exact absurd H (by simp)
                 ·
                  rw [if_neg bI] at H
                  exact absurd H (by simp)
                ·
                 rw [if_neg bR] at H
                 exact absurd H (by simp)
               ·
                rw [if_neg bQ] at H
                exact absurd H (by simp)
              ·
               rw [if_neg bP] at H
               exact absurd H (by simp)
             ·
              rw [if_neg bO] at H
              exact absurd H (by simp)
            ·
             rw [if_neg bl] at H
             have aJ : decide (aa < (am.length : Int)) = false := decide_eq_false bl
             clear bl
             (try (have aD := aJ; simp only [hl7_1, hl8_1, hl5_2] at aD))
             simp only [Option.some.injEq, Prod.mk.injEq] at H
             obtain ⟨rfl, rfl⟩ := H
             go_wp2
             go_ret2
             exact ⟨_, _, by first | rfl | (simp [errW_none, errW_some] <;> rfl) | (simp only [← hji3, ← hji10]; first | rfl | (simp [errW_none, errW_some] <;> rfl)) | (simp [*, errW_none, errW_some] <;> rfl), by (with_reducible repeat (first | apply Kd.R_alloc | apply Kd.R_drewN | apply Kd.R_drew)); exact Kd.R_mono ah.out (fun _ hk => hk.1), by (with_reducible repeat (first | apply Kd.R_alloc | apply Kd.R_drewN | apply Kd.R_drew)); exact Kd.R_mono au.out (fun _ hk => hk.1), by repeat (first | (with_reducible first | exact HB.out | apply below_alloc | apply pw_below_drewN | apply below_drew1) | exact HB.out)⟩
         ·
          rw [if_neg bk] at H
          exact absurd H (by simp)
        ·
         rw [if_neg bj] at H
         exact absurd H (by simp)
    ·
     rw [if_neg a0] at H
     exact absurd H (by simp)
   ·
    rw [if_neg aZ] at H
    exact absurd H (by simp)
  ·
   rw [if_neg c5] at H
   exact absurd H (by simp)
 ·
  rw [if_neg c4] at H
  exact absurd H (by simp)
end Go.Proofs.Ytecfdemglbfnoaa.PT
end
section
namespace Go.Proofs.Ytecfdemglbfnoaa.Num
open Go.RowKit Go.Proofs.Ytecfdemglbfnoaa.PT Go.Proofs.YtecfdemglbfnoaaW.PrintWords Go.Proofs.YtecfdemglbfnoaaW.PrintLast Go.Proofs.YtecfdemglbfnoaaW.PrintMore
theorem rd_nat {l : List Int} (h : U l) (i : Int) : ∃ x : Nat, rd l i = (x : Int) ∧ x < 4294967296 := by
  have := U_rd h i
  exact ⟨(rd l i).toNat, by omega, by omega⟩
theorem guess_l0 {u v : List Int} {K : Nat} (hv : v.length = K + 2) (hu : u.length = K + 3) {A D top v1 v2 u2 p ul vl : Nat} {R : Int × List Int}
    (hA : A = (top * 4294967296 + u2) * p + ul) (hul : ul < p) (hD : D = (v1 * 4294967296 + v2) * p + vl) (hvl : vl < p) (ev1 : rd v ((K + 1 : Nat) : Int) = (v1 : Int)) (ev2 : rd v (K : Int) = (v2 : Int)) (eu2 : rd u (K : Int) = (u2 : Int))
    (b1 : v1 < 4294967296) (b2 : v2 < 4294967296) (b3 : u2 < 4294967296) (hn : 2147483648 ≤ v1) (hlt : A < 4294967296 * D) (htop : top < v1 * 4294967296 + 4294967296) (hs : K < 35184372088832)
    (hend : ∀ q : Nat, q ≤ 4294967295 → q * D < A + D → A < (q + 1) * D → Ev (fun k => nat_step.j1 k u v ((K + 2 : Nat) : Int) (q : Int)) R) :
    ∀ (q r : Nat), q * v1 + r = top → A < (q + 1) * D → q ≤ 4294967297 → Ev (fun k => nat_step.l0 k u v ((K + 2 : Nat) : Int) (q : Int) (r : Int)) R := by
  intro q
  induction q using Nat.strongRecOn with
  | ind q ih =>
    intro r hqr hq hq1
    have e1 : wrap64 (((K + 2 : Nat) : Int) - 1) = ((K + 1 : Nat) : Int) := by rw [w64 (by omega) (by omega)]; omega
    have e2 : wrap64 (((K + 2 : Nat) : Int) - 2) = (K : Int) := by rw [w64 (by omega) (by omega)]; omega
    have hr64 : r < 18446744073709551616 := by
      have : v1 * 4294967296 ≤ 4294967295 * 4294967296 := Nat.mul_le_mul_right _ (by omega)
      omega
    have again : A < q * D → r < 4294967296 → Ev (fun k => nat_step.l0 k u v ((K + 2 : Nat) : Int) (IntKind.u64.wrap ((q : Int) - 1)) (IntKind.u64.wrap ((r : Int) + IntKind.u64.wrap (v1 : Int)))) R := by
      intro h1 h2
      have hq0 : q ≠ 0 := by rintro rfl; simp at h1
      obtain ⟨q', rfl⟩ : ∃ q', q = q' + 1 := ⟨q - 1, by omega⟩
      have w1 : IntKind.u64.wrap (((q' + 1 : Nat) : Int) - 1) = (q' : Int) := by
        have : ((q' + 1 : Nat) : Int) - 1 = (q' : Int) := by omega
        rw [this]; exact u64 (by omega) (by omega)
      have w2 : IntKind.u64.wrap ((r : Int) + IntKind.u64.wrap (v1 : Int)) = ((r + v1 : Nat) : Int) := by
        rw [u64 (x := (v1 : Int)) (by omega) (by omega)]; exact u64 (by omega) (by omega)
      rw [w1, w2]
      exact ih q' (by omega) (r + v1) (by rw [Nat.add_mul] at hqr; omega) h1 (by omega)
    by_cases c1 : r < 4294967296
    · by_cases c2 : 4294967296 ≤ q
      · have h1 : A < q * D := Nat.lt_of_lt_of_le hlt (Nat.mul_le_mul_right _ c2)
        refine Ev.step (fun k => ?_) (again h1 c1)
        simp only [nat_step.l0, e1, e2]
        clear e1 e2
        rw [if_pos (by omega), if_pos (by omega), if_pos (by omega), if_pos (by omega), ev1]
      · have m1 : q * v2 ≤ 4294967295 * 4294967295 := Nat.mul_le_mul (by omega) (by omega)
        have w3 : IntKind.u64.wrap ((q : Int) * IntKind.u64.wrap (v2 : Int)) = ((q * v2 : Nat) : Int) := by
          rw [u64 (x := (v2 : Int)) (by omega) (by omega), ← Int.natCast_mul]; exact u64 (by omega) (by omega)
        have w4 : Go.bits .or .u64 (IntKind.u64.wrap ((r : Int) * 4294967296)) (IntKind.u64.wrap (u2 : Int)) = ((r * 4294967296 + u2 : Nat) : Int) := by
          have e : (r : Int) * 4294967296 = ((r * 4294967296 : Nat) : Int) := by simp
          rw [e, u64 (x := ((r * 4294967296 : Nat) : Int)) (by omega) (by omega), u64 (x := (u2 : Int)) (by omega) (by omega)]
          exact or64 32 _ _ (by simp) (by omega) (by omega) (by omega)
        by_cases c3 : r * 4294967296 + u2 < q * v2
        · have h1 : A < q * D := guess_down hA hul hD hqr c3
          refine Ev.step (fun k => ?_) (again h1 c1)
          simp only [nat_step.l0, e1, e2]
          clear e1 e2
          rw [if_pos (by omega), if_neg (by omega), if_pos (by omega), if_pos (by omega), if_pos (by omega), ev2, eu2, w3, w4, if_pos (by omega), if_pos (by omega), if_pos (by omega), ev1]
        · have h1 : q * D < A + D := guess_up hA hD hvl hqr (by omega) (by omega) (by omega)
          refine Ev.step (fun k => ?_) (hend q (by omega) h1 hq)
          simp only [nat_step.l0, e1, e2]
          clear e1 e2
          rw [if_pos (by omega), if_neg (by omega), if_pos (by omega), if_pos (by omega), if_pos (by omega), ev2, eu2, w3, w4, if_neg (by omega)]
    · have c2 : q ≤ 4294967295 := by
        by_cases c : 4294967296 ≤ q
        · have : 4294967296 * v1 ≤ q * v1 := Nat.mul_le_mul_right _ c
          omega
        · omega
      have m1 : q * v2 ≤ 4294967295 * 4294967295 := Nat.mul_le_mul (by omega) (by omega)
      have m2 : 4294967296 * 4294967296 ≤ r * 4294967296 := Nat.mul_le_mul_right _ (by omega)
      have h1 : q * D < A + D := guess_up hA hD hvl hqr (by omega) (by omega) (by omega)
      refine Ev.step (fun k => ?_) (hend q (by omega) h1 hq)
      simp only [nat_step.l0]
      rw [if_neg (by omega)]
theorem sub_val {T T' S0 Sv p q ui u' vi b c b' c' : Nat} (h : T + q * Sv = S0 + p * (b + c)) (hT : T' = T + p * u') (e : u' + q * vi + b + c = ui + 4294967296 * (b' + c')) :
    T' + q * (Sv + p * vi) = (S0 + p * ui) + p * 4294967296 * (b' + c') := by
  have h1 : p * (u' + q * vi + b + c) = p * (ui + 4294967296 * (b' + c')) := by rw [e]
  have h2 : q * (p * vi) = p * (q * vi) := Nat.mul_left_comm ..
  have h3 : p * 4294967296 * (b' + c') = p * (4294967296 * (b' + c')) := Nat.mul_assoc ..
  have h4 : p * (u' + q * vi + b + c) = p * u' + p * (q * vi) + p * (b + c) := by rw [Nat.add_assoc (u' + q * vi), Nat.mul_add, Nat.mul_add]
  rw [h3, Nat.mul_add q, h2, hT, Nat.add_assoc S0, ← Nat.mul_add p, ← h1, h4]
  omega
theorem u64_sub {x y b : Nat} (hx : x < 4294967296) (hy : y < 4294967296) (hb : b ≤ 1) :
    (b + y ≤ x → IntKind.u64.wrap (IntKind.u64.wrap ((x : Int) - (y : Int)) - (b : Int)) = ((x - y - b : Nat) : Int)) ∧
    (x < b + y → IntKind.u64.wrap (IntKind.u64.wrap ((x : Int) - (y : Int)) - (b : Int)) = ((18446744073709551616 + x - y - b : Nat) : Int)) := by
  have e : ∀ z : Int, IntKind.u64.wrap z = z % 18446744073709551616 := fun z => by simp [IntKind.wrap, IntKind.bits, IntKind.signed]
  rw [e, e]
  constructor <;> intro h <;> omega
theorem rd_drop {x u : List Int} {i : Nat} (h : x.drop i = u.drop i) (hi : i < x.length) (hu : i < u.length) : rd x (i : Int) = rd u (i : Int) ∧ x.drop (i + 1) = u.drop (i + 1) := by
  rw [drop_rd x i hi, drop_rd u i hu] at h
  injection h with h1 h2
  exact ⟨h1, h2⟩
theorem sub_l1 {u v : List Int} (uv : U v) (hu : u.length = v.length + 1) (hs : v.length < 35184372088832) (q : Nat) (hq : q ≤ 4294967295) {R : Int × List Int}
    (hend : ∀ (x : List Int) (b c : Nat), x.length = u.length → U x → b ≤ 1 → c < 4294967296 → rd x (v.length : Int) = rd u (v.length : Int) → valn (x.take v.length) + q * valn v = valn (u.take v.length) + pw v.length * (b + c) →
      Ev (fun k => nat_step.l1 k x v (v.length : Int) (q : Int) (b : Int) (c : Int) (v.length : Int) (v.length : Int)) R) (n : Nat) :
    ∀ (i : Nat) (x : List Int) (b c : Nat), i + n = v.length → x.length = u.length → U x → b ≤ 1 → c < 4294967296 → x.drop i = u.drop i → valn (x.take i) + q * valn (v.take i) = valn (u.take i) + pw i * (b + c) →
      Ev (fun k => nat_step.l1 k x v (v.length : Int) (q : Int) (b : Int) (c : Int) (v.length : Int) (i : Int)) R := by
  induction n with
  | zero =>
    intro i x b c hi hx ux hb hc hd hv
    obtain rfl : i = v.length := by omega
    rw [List.take_of_length_le (Nat.le_refl v.length)] at hv
    exact hend x b c hx ux hb hc (rd_drop hd (by omega) (by omega)).1 hv
  | succ n ih =>
    intro i x b c hi hx ux hb hc hd hv
    obtain ⟨vi, evi, hvi⟩ := rd_nat uv (i : Int)
    obtain ⟨xi, exi, hxi⟩ := rd_nat ux (i : Int)
    obtain ⟨hrd, hdr⟩ := rd_drop hd (by omega) (by omega)
    have m1 : q * vi ≤ 4294967295 * 4294967295 := Nat.mul_le_mul hq (by omega)
    obtain ⟨P, hP⟩ : ∃ P, q * vi + c = P := ⟨_, rfl⟩
    have w1 : IntKind.u64.wrap (IntKind.u64.wrap ((q : Int) * IntKind.u64.wrap (vi : Int)) + (c : Int)) = (P : Int) := by
      rw [u64 (x := (vi : Int)) (by omega) (by omega), ← Int.natCast_mul, u64 (x := ((q * vi : Nat) : Int)) (by omega) (by omega), ← Int.natCast_add, hP]; exact u64 (by omega) (by omega)
    have w2 : (P : Int) % 4294967296 = ((P % 4294967296 : Nat) : Int) := by omega
    have w3 : (P : Int) / 4294967296 = ((P / 4294967296 : Nat) : Int) := by omega
    have hsub := u64_sub (x := xi) (y := P % 4294967296) (b := b) hxi (by omega) hb
    obtain ⟨u', b', hu', hb', ed, eb, hval⟩ : ∃ u' b' : Nat, u' < 4294967296 ∧ b' ≤ 1 ∧ (IntKind.u64.wrap (IntKind.u64.wrap ((xi : Int) - ((P % 4294967296 : Nat) : Int)) - (b : Int))) % 4294967296 = (u' : Int) ∧
        (IntKind.u64.wrap (IntKind.u64.wrap ((xi : Int) - ((P % 4294967296 : Nat) : Int)) - (b : Int))) / 9223372036854775808 = (b' : Int) ∧ u' + P % 4294967296 + b = xi + 4294967296 * b' := by
      by_cases c1 : b + P % 4294967296 ≤ xi
      · rw [hsub.1 c1]; exact ⟨xi - P % 4294967296 - b, 0, by omega, by omega, by omega, by omega, by omega⟩
      · rw [hsub.2 (by omega)]; exact ⟨4294967296 + xi - P % 4294967296 - b, 1, by omega, by omega, by omega, by omega, by omega⟩
    clear hsub
    have step := ih (i + 1) (x.set i (u' : Int)) b' (P / 4294967296) (by omega) (by rw [List.length_set]; exact hx) (U_set ux (by omega) _) hb' (by omega) (by rw [List.drop_set_of_lt (by omega)]; exact hdr) (by
      rw [valn_set_take x i _ (by omega), valn_take_succ v, valn_take_succ u, pw_succ, Int.toNat_natCast, evi, Int.toNat_natCast, ← hrd, exi, Int.toNat_natCast]
      exact sub_val hv rfl (by omega))
    refine Ev.step (fun k => ?_) step
    simp only [nat_step.l1]
    rw [if_pos (by omega), if_pos (by omega), if_pos (by omega), if_pos (by omega), evi, exi, w1, w2, w3, u64 (x := (xi : Int)) (by omega) (by omega), ed, eb, up i (by omega), Int.toNat_natCast]
theorem add_l2 {y v : List Int} (uv : U v) (hy : y.length = v.length + 1) (hs : v.length < 35184372088832) (q : Nat) (hq : q ≤ 4294967295) (hq0 : 1 ≤ q) (n : Nat) :
    ∀ (i : Nat) (x : List Int) (c : Nat), i + n = v.length → x.length = y.length → U x → c ≤ 1 → x.drop i = y.drop i → valn (x.take i) + pw i * c = valn (y.take i) + valn (v.take i) →
      Ev (fun k => nat_step.l2 k x v (v.length : Int) (q : Int) (c : Int) (v.length : Int) (i : Int)) ((((q - 1 : Nat) : Int)), padn (v.length + 1) (valn y + valn v)) := by
  induction n with
  | zero =>
    intro i x c hi hx ux hc hd hv
    obtain rfl : i = v.length := by omega
    obtain ⟨hrd, hdr⟩ := rd_drop hd (by omega) (by omega)
    obtain ⟨xk, exk, hxk⟩ := rd_nat ux (v.length : Int)
    obtain ⟨t, ht⟩ : ∃ t, xk + c = t := ⟨_, rfl⟩
    have u1 : U (x.set v.length ((t % 4294967296 : Nat) : Int)) := U_set ux (by omega) _
    have key : valn (x.set v.length ((t % 4294967296 : Nat) : Int)) + pw (v.length + 1) * (t / 4294967296) = valn y + valn v := by
      have h1 := valn_set_take x v.length ((t % 4294967296 : Nat) : Int) (by omega)
      rw [List.take_of_length_le (by rw [List.length_set]; omega), Int.toNat_natCast] at h1
      have h2 := valn_take_succ y v.length
      rw [List.take_of_length_le (by omega), ← hrd, exk, Int.toNat_natCast] at h2
      rw [List.take_of_length_le (Nat.le_refl v.length)] at hv
      have h3 : pw v.length * (xk + c) = pw v.length * (t % 4294967296 + 4294967296 * (t / 4294967296)) := by rw [Nat.mod_add_div, ht]
      rw [Nat.mul_add, Nat.mul_add, ← Nat.mul_assoc] at h3
      rw [h1, pw_succ]
      omega
    have h2 := padn_valn u1
    have h4 : padn (v.length + 1) (valn y + valn v) = x.set v.length ((t % 4294967296 : Nat) : Int) := by
      rw [List.length_set, hx, hy] at h2
      rw [← h2, ← key]
      exact padn_mod _ _ _
    rw [h4]
    refine Ev.step (f := fun _ => some ((((q - 1 : Nat) : Int)), x.set v.length ((t % 4294967296 : Nat) : Int))) (fun k => ?_) (Ev.now _)
    have w1 : IntKind.u64.wrap ((q : Int) - 1) = ((q - 1 : Nat) : Int) := by
      have : (q : Int) - 1 = ((q - 1 : Nat) : Int) := by omega
      rw [this]; exact u64 (by omega) (by omega)
    have w2 : (((q - 1 : Nat) : Int)) % 4294967296 = ((q - 1 : Nat) : Int) := by omega
    have w3 : ((xk : Int) + (c : Int) % 4294967296) % 4294967296 = ((t % 4294967296 : Nat) : Int) := by omega
    simp only [nat_step.l2]
    rw [if_neg (by omega), if_pos (by omega), if_pos (by omega), exk, w1, w2, w3, Int.toNat_natCast]
  | succ n ih =>
    intro i x c hi hx ux hc hd hv
    obtain ⟨vi, evi, hvi⟩ := rd_nat uv (i : Int)
    obtain ⟨xi, exi, hxi⟩ := rd_nat ux (i : Int)
    obtain ⟨hrd, hdr⟩ := rd_drop hd (by omega) (by omega)
    obtain ⟨t, ht⟩ : ∃ t, xi + vi + c = t := ⟨_, rfl⟩
    have w1 : IntKind.u64.wrap (IntKind.u64.wrap (IntKind.u64.wrap (xi : Int) + IntKind.u64.wrap (vi : Int)) + (c : Int)) = (t : Int) := by
      rw [u64 (x := (xi : Int)) (by omega) (by omega), u64 (x := (vi : Int)) (by omega) (by omega), u64 (x := (xi : Int) + (vi : Int)) (by omega) (by omega), u64 (by omega) (by omega)]; omega
    have w2 : (t : Int) % 4294967296 = ((t % 4294967296 : Nat) : Int) := by omega
    have w3 : (t : Int) / 4294967296 = ((t / 4294967296 : Nat) : Int) := by omega
    have step := ih (i + 1) (x.set i ((t % 4294967296 : Nat) : Int)) (t / 4294967296) (by omega) (by rw [List.length_set]; exact hx) (U_set ux (by omega) _) (by omega) (by rw [List.drop_set_of_lt (by omega)]; exact hdr) (by
      rw [valn_set_take x i _ (by omega), valn_take_succ v, valn_take_succ y, pw_succ, Int.toNat_natCast, evi, Int.toNat_natCast, ← hrd, exi, Int.toNat_natCast]
      exact step_val hv (by omega))
    refine Ev.step (fun k => ?_) step
    simp only [nat_step.l2]
    rw [if_pos (by omega), if_pos (by omega), if_pos (by omega), if_pos (by omega), evi, exi, w1, w2, w3, up i (by omega), Int.toNat_natCast]
theorem step_j1 {u v : List Int} (uu : U u) (uv : U v) (hu : u.length = v.length + 1) (hs : v.length < 35184372088832) (q : Nat) (hq : q ≤ 4294967295)
    (h1 : q * valn v < valn u + valn v) (h2 : valn u < (q + 1) * valn v) :
    Ev (fun k => nat_step.j1 k u v (v.length : Int) (q : Int)) ((((valn u / valn v : Nat) : Int)), padn (v.length + 1) (valn u % valn v)) := by
  rw [Nat.add_mul, Nat.one_mul] at h2
  refine Ev.step (f := fun k => nat_step.l1 k u v (v.length : Int) (q : Int) ((0 : Nat) : Int) ((0 : Nat) : Int) (v.length : Int) ((0 : Nat) : Int)) (fun k => rfl) ?_
  refine sub_l1 uv hu hs q hq ?_ v.length 0 u 0 0 (by omega) rfl uu (by omega) (by omega) rfl (by simp [valn_nil])
  intro x b c hx ux hb hc hr hv
  obtain ⟨uk, euk, huk⟩ := rd_nat ux (v.length : Int)
  have hU := valn_take_succ u v.length
  rw [List.take_of_length_le (by omega), ← hr, euk, Int.toNat_natCast] at hU
  have hsub := u64_sub (x := uk) (y := c) (b := b) huk hc hb
  have wuk : IntKind.u64.wrap (uk : Int) = (uk : Int) := u64 (by omega) (by omega)
  by_cases c1 : b + c ≤ uk
  · have hd := hsub.1 c1
    clear hsub
    have uy : U (x.set v.length ((uk - c - b : Nat) : Int)) := U_set ux (by omega) _
    have ky := valn_set_take x v.length ((uk - c - b : Nat) : Int) (by omega)
    rw [List.take_of_length_le (by rw [List.length_set]; omega), Int.toNat_natCast] at ky
    have e3 : pw v.length * uk = pw v.length * (uk - c - b) + pw v.length * (b + c) := by rw [← Nat.mul_add]; congr 1; omega
    obtain ⟨hq1, hq2⟩ := quo_of (u := valn u) (v := valn v) (q := q) (by omega) (by omega)
    have h5 := padn_valn uy
    rw [List.length_set, hx, hu] at h5
    have h6 : valn (x.set v.length ((uk - c - b : Nat) : Int)) = valn u % valn v := by omega
    rw [h6] at h5
    rw [hq1, h5]
    refine Ev.step (f := fun _ => some ((q : Int), x.set v.length ((uk - c - b : Nat) : Int))) (fun k => ?_) (Ev.now _)
    simp only [nat_step.l1]
    have w2 : ((uk - c - b : Nat) : Int) % 4294967296 = ((uk - c - b : Nat) : Int) := by omega
    have w3 : ((uk - c - b : Nat) : Int) / 9223372036854775808 = 0 := by omega
    have w4 : (q : Int) % 4294967296 = (q : Int) := by omega
    rw [if_neg (by omega), if_pos (by omega), if_pos (by omega), euk, wuk, hd, w2, w3, w4, Option.bind_some, if_pos rfl, Int.toNat_natCast]
  · have hd := hsub.2 (by omega)
    clear hsub
    obtain ⟨dd, hdd⟩ : ∃ dd : Nat, 4294967296 + uk - c - b = dd := ⟨_, rfl⟩
    have hdl : dd < 4294967296 := by omega
    have uy : U (x.set v.length (dd : Int)) := U_set ux (by omega) _
    have ky := valn_set_take x v.length (dd : Int) (by omega)
    rw [List.take_of_length_le (by rw [List.length_set]; omega), Int.toNat_natCast] at ky
    have e3 : pw v.length * uk + pw v.length * 4294967296 = pw v.length * dd + pw v.length * (b + c) := by rw [← Nat.mul_add, ← Nat.mul_add]; congr 1; omega
    have hyl : (x.set v.length (dd : Int)).length = v.length + 1 := by rw [List.length_set]; omega
    have ylt := valn_lt uy
    rw [hyl, pw_succ] at ylt
    have hq0 : 1 ≤ q := by
      cases q with
      | zero => rw [Nat.zero_mul] at *; omega
      | succ q => omega
    have eqv : (q - 1) * valn v + valn v = q * valn v := by
      obtain ⟨q', rfl⟩ : ∃ q', q = q' + 1 := ⟨q - 1, by omega⟩
      rw [Nat.add_sub_cancel, Nat.add_mul, Nat.one_mul]
    obtain ⟨hq1, hq2⟩ := quo_of (u := valn u) (v := valn v) (q := q - 1) (by omega) (by omega)
    have h7 := add_l2 uv hyl hs q hq hq0 v.length 0 (x.set v.length (dd : Int)) 0 (by omega) rfl uy (by omega) rfl (by simp [valn_nil])
    have e8 : valn (x.set v.length (dd : Int)) + valn v = valn u % valn v + pw (v.length + 1) * 1 := by rw [pw_succ, Nat.mul_one]; omega
    rw [e8, padn_mod] at h7
    rw [hq1]
    refine Ev.step (fun k => ?_) h7
    simp only [nat_step.l1]
    have w2 : ((18446744073709551616 + uk - c - b : Nat) : Int) % 4294967296 = (dd : Int) := by omega
    have w3 : ((18446744073709551616 + uk - c - b : Nat) : Int) / 9223372036854775808 = 1 := by omega
    rw [if_neg (by omega), if_pos (by omega), if_pos (by omega), euk, wuk, hd, w2, w3, Option.bind_some, if_neg (by omega), Int.toNat_natCast]; rfl
theorem take_lt' {l : List Int} (h : U l) (n : Nat) : valn (l.take n) < pw n :=
  Nat.lt_of_lt_of_le (valn_lt (U_take h n)) (pw_mono (by rw [List.length_take]; omega))
theorem valn_splitD (l : List Int) (n : Nat) : valn l = valn (l.take n) + pw n * valn (l.drop n) := by
  by_cases h : n ≤ l.length
  · exact valn_take_drop l n h
  · rw [List.take_of_length_le (by omega), List.drop_eq_nil_of_le (by omega), valn_nil]; simp
theorem tdiv_cast (a b : Nat) : Int.tdiv (a : Int) (b : Int) = ((a / b : Nat) : Int) := rfl
theorem tmod_cast (a b : Nat) : Int.tmod (a : Int) (b : Int) = ((a % b : Nat) : Int) := rfl
theorem step_f {u v : List Int} (uu : U u) (uv : U v) (hu : u.length = v.length + 1) (h2 : 2 ≤ v.length) (hs : v.length < 35184372088832) (hn : 2147483648 ≤ rd v ((v.length - 1 : Nat) : Int)) (hlt : valn u < 4294967296 * valn v) :
    Ev (fun k => nat_step.f k u v) ((((valn u / valn v : Nat) : Int)), padn (v.length + 1) (valn u % valn v)) := by
  obtain ⟨K, hK⟩ : ∃ K, v.length = K + 2 := ⟨v.length - 2, by omega⟩
  obtain ⟨v1, ev1, b1⟩ := rd_nat uv ((K + 1 : Nat) : Int)
  obtain ⟨v2, ev2, b2⟩ := rd_nat uv ((K : Nat) : Int)
  obtain ⟨u0, eu0, b0⟩ := rd_nat uu ((K + 2 : Nat) : Int)
  obtain ⟨u1, eu1, b3⟩ := rd_nat uu ((K + 1 : Nat) : Int)
  obtain ⟨u2, eu2, b4⟩ := rd_nat uu ((K : Nat) : Int)
  have hn1 : 2147483648 ≤ v1 := by
    have e : v.length - 1 = K + 1 := by omega
    rw [e, ev1] at hn; omega
  have sv : valn v = (v1 * 4294967296 + v2) * pw K + valn (v.take K) := by
    have a1 := valn_splitD v K
    have a2 := valn_drop_rd v K
    have a3 := valn_drop_rd v (K + 1)
    have z3 : v.drop (K + 1 + 1) = [] := List.drop_eq_nil_of_le (by omega)
    rw [z3, valn_nil, ev1, Int.toNat_natCast] at a3
    rw [ev2, Int.toNat_natCast] at a2
    have a4 : valn (v.drop K) = v1 * 4294967296 + v2 := by omega
    rw [a1, a4, Nat.mul_comm (pw K)]; omega
  have su : valn u = ((u0 * 4294967296 + u1) * 4294967296 + u2) * pw K + valn (u.take K) := by
    have a1 := valn_splitD u K
    have a2 := valn_drop_rd u K
    have a3 := valn_drop_rd u (K + 1)
    have a5 := valn_drop_rd u (K + 2)
    have z5 : u.drop (K + 2 + 1) = [] := List.drop_eq_nil_of_le (by omega)
    rw [z5, valn_nil, eu0, Int.toNat_natCast] at a5
    have e51 : K + 1 + 1 = K + 2 := rfl
    rw [e51] at a3
    rw [eu1, Int.toNat_natCast] at a3
    rw [eu2, Int.toNat_natCast] at a2
    have a4 : valn (u.drop K) = (u0 * 4294967296 + u1) * 4294967296 + u2 := by omega
    rw [a1, a4, Nat.mul_comm (pw K)]; omega
  have tl := take_lt' uv K
  have tu := take_lt' uu K
  have hu0 : u0 ≤ v1 := by
    by_cases c : u0 ≤ v1
    · exact c
    · exfalso
      have m1 : (v1 + 1) * 18446744073709551616 * pw K ≤ u0 * 18446744073709551616 * pw K := Nat.mul_le_mul_right _ (Nat.mul_le_mul_right _ (by omega))
      have m2 : (v1 * 4294967296 + v2 + 1) * pw K ≤ (v1 + 1) * 4294967296 * pw K := Nat.mul_le_mul_right _ (by omega)
      have m3 : u0 * 18446744073709551616 * pw K ≤ ((u0 * 4294967296 + u1) * 4294967296 + u2) * pw K := Nat.mul_le_mul_right _ (by omega)
      have m4 : (v1 + 1) * 18446744073709551616 * pw K = 4294967296 * ((v1 + 1) * 4294967296 * pw K) := by
        have e64 : (18446744073709551616 : Nat) = 4294967296 * 4294967296 := rfl
        rw [e64]; ac_rfl
      rw [Nat.add_mul _ 1, Nat.one_mul] at m2
      omega
  obtain ⟨top, htop⟩ : ∃ top, u0 * 4294967296 + u1 = top := ⟨_, rfl⟩
  rw [htop] at su
  have hv1 : v1 ≠ 0 := by omega
  have wt : Go.bits .or .u64 (IntKind.u64.wrap (IntKind.u64.wrap (u0 : Int) * 4294967296)) (IntKind.u64.wrap (u1 : Int)) = (top : Int) := by
    have e : (u0 : Int) * 4294967296 = ((u0 * 4294967296 : Nat) : Int) := by simp
    rw [u64 (x := (u0 : Int)) (by omega) (by omega), e, u64 (x := ((u0 * 4294967296 : Nat) : Int)) (by omega) (by omega), u64 (x := (u1 : Int)) (by omega) (by omega), or64 32 _ _ (by simp) (by omega) (by omega) (by omega), htop]
  have htb : top < v1 * 4294967296 + 4294967296 := by
    have : u0 * 4294967296 ≤ v1 * 4294967296 := Nat.mul_le_mul_right _ hu0
    omega
  have hq0 : top / v1 ≤ 4294967297 := by
    rw [Nat.div_le_iff_le_mul_add_pred (by omega)]; omega
  have hql : valn u < (top / v1 + 1) * valn v := by
    have d1 := Nat.div_add_mod top v1
    have d2 := Nat.mod_lt top (by omega : 0 < v1)
    have d3 : top + 1 ≤ (top / v1 + 1) * v1 := by rw [Nat.add_mul, Nat.one_mul, Nat.mul_comm (top / v1)]; omega
    have d4 : (top + 1) * (4294967296 * pw K) ≤ (top / v1 + 1) * v1 * (4294967296 * pw K) := Nat.mul_le_mul_right _ d3
    have d5 : (top / v1 + 1) * v1 * (4294967296 * pw K) ≤ (top / v1 + 1) * valn v := by
      rw [Nat.mul_assoc]
      refine Nat.mul_le_mul_left _ ?_
      rw [sv, ← Nat.mul_assoc, Nat.add_mul]; omega
    have d6 : (top * 4294967296 + u2 + 1) * pw K ≤ (top + 1) * 4294967296 * pw K := Nat.mul_le_mul_right _ (by omega)
    rw [Nat.add_mul _ 1, Nat.one_mul] at d6
    rw [← Nat.mul_assoc] at d4
    omega
  have hj : ∀ q : Nat, q ≤ 4294967295 → q * valn v < valn u + valn v → valn u < (q + 1) * valn v → Ev (fun k => nat_step.j1 k u v ((K + 2 : Nat) : Int) (q : Int)) ((((valn u / valn v : Nat) : Int)), padn (v.length + 1) (valn u % valn v)) := by
    intro q a1 a2 a3
    have := step_j1 uu uv hu hs q a1 a2 a3
    rwa [hK] at this ⊢
  have go := guess_l0 hK (by omega) su tu sv tl ev1 ev2 eu2 b1 b2 b4 hn1 hlt htb (by omega) hj (top / v1) (top % v1) (by rw [Nat.mul_comm]; exact Nat.div_add_mod ..) hql hq0
  refine Ev.congr (fun k => ?_) go
  have e1 : wrap64 (((v.length : Nat) : Int) - 1) = ((K + 1 : Nat) : Int) := by rw [w64 (by omega) (by omega)]; omega
  have eK : ((v.length : Nat) : Int) = ((K + 2 : Nat) : Int) := by omega
  unfold nat_step.f
  rw [e1, eK]
  clear e1
  have wv : IntKind.u64.wrap (v1 : Int) = (v1 : Int) := u64 (by omega) (by omega)
  rw [if_pos (by omega), if_pos (by omega), if_pos (by omega), if_pos (by omega), if_pos (by omega), ev1, wv, if_neg (by omega), eu0, eu1, wt, tdiv_cast, tmod_cast]
  have wq : IntKind.u64.wrap ((top / v1 : Nat) : Int) = ((top / v1 : Nat) : Int) := by
    clear wv wt go hj hql
    generalize top / v1 = qq at hq0 ⊢
    exact u64 (by omega) (by omega)
  rw [wq]
theorem long_inv {T p X V Q S : Nat} (h : T + p * X + V * (p * 4294967296) * Q = S) : T + p * (X % V) + V * p * (X / V + 4294967296 * Q) = S := by
  have e : p * X = p * (X % V) + V * p * (X / V) := by
    have := Nat.div_add_mod X V
    conv => lhs; rw [← this, Nat.mul_add]
    rw [Nat.add_comm]; congr 1; ac_rfl
  have e2 : V * p * (X / V + 4294967296 * Q) = V * p * (X / V) + V * (p * 4294967296) * Q := by
    rw [Nat.mul_add]; congr 1; ac_rfl
  rw [← h, e, e2]; omega
theorem drop_take_at (u : List Int) (j n : Nat) : u.drop j = (u.drop j).take n ++ u.drop (j + n) := by
  rw [← List.drop_drop, List.take_append_drop]
theorem win_val {u v : List Int} (uu : U u) (uv : U v) (j : Nat) (hj : j + v.length + 1 ≤ u.length) (hlt : valn (u.drop (j + 1)) < valn v) :
    valn ((u.drop j).take (v.length + 1)) = valn (u.drop j) ∧ valn (u.drop j) < 4294967296 * valn v := by
  have h1 := valn_drop_rd u j
  have h2 := U_rd uu (j : Int)
  have h3 : valn (u.drop j) < 4294967296 * valn v := by omega
  have h4 := valn_lt uv
  have h5 : valn (u.drop j) = valn ((u.drop j).take (v.length + 1)) + pw (v.length + 1) * valn ((u.drop j).drop (v.length + 1)) := valn_splitD _ _
  refine ⟨?_, h3⟩
  rcases Nat.eq_zero_or_pos (valn ((u.drop j).drop (v.length + 1))) with h | h
  · rw [h] at h5; omega
  · exfalso
    have h6 : pw (v.length + 1) * 1 ≤ pw (v.length + 1) * valn ((u.drop j).drop (v.length + 1)) := Nat.mul_le_mul_left _ h
    rw [pw_succ] at h6 h5
    omega
theorem sp_take (u xs : List Int) (j : Nat) (h : j + xs.length ≤ u.length) : (sp u j xs).take j = u.take j := by
  have ht : (u.take j).length = j := by rw [List.length_take]; omega
  rw [sp, List.append_assoc, List.take_append_of_le_length (by omega), List.take_of_length_le (by omega)]
theorem sp_drop (u xs : List Int) (j : Nat) (h : j + xs.length ≤ u.length) : (sp u j xs).drop j = xs ++ u.drop (j + xs.length) := by
  have ht : (u.take j).length = j := by rw [List.length_take]; omega
  rw [sp, List.append_assoc, List.drop_append_of_le_length (by omega), List.drop_eq_nil_of_le (by omega), List.nil_append]
theorem U_sp {u xs : List Int} (hu : U u) (hx : U xs) (j : Nat) : U (sp u j xs) := U_append (U_append (U_take hu j) hx) (U_drop hu _)
theorem win_after {u v : List Int} (uu : U u) (uv : U v) (j : Nat) (hj : j + v.length + 1 ≤ u.length) (hlt : valn (u.drop (j + 1)) < valn v) :
    valn ((sp u j (padn (v.length + 1) (valn (u.drop j) % valn v))).drop j) = valn (u.drop j) % valn v ∧
    valn (sp u j (padn (v.length + 1) (valn (u.drop j) % valn v))) = valn (u.take j) + pw j * (valn (u.drop j) % valn v) ∧
    U (sp u j (padn (v.length + 1) (valn (u.drop j) % valn v))) ∧ (sp u j (padn (v.length + 1) (valn (u.drop j) % valn v))).length = u.length := by
  obtain ⟨h1, h2⟩ := win_val uu uv j hj hlt
  have hl : (padn (v.length + 1) (valn (u.drop j) % valn v)).length = v.length + 1 := padn_len ..
  have hv : 0 < valn v := by omega
  have hm : valn (u.drop j) % valn v < valn v := Nat.mod_lt _ hv
  have hvl := valn_lt uv
  have hz : valn (u.drop (j + (v.length + 1))) = 0 := by
    have h5 := drop_take_at u j (v.length + 1)
    have h6 := congrArg valn h5
    rw [valn_append, h1] at h6
    have hlen : ((u.drop j).take (v.length + 1)).length = v.length + 1 := by rw [List.length_take, List.length_drop]; omega
    rw [hlen] at h6
    rcases Nat.eq_zero_or_pos (valn (u.drop (j + (v.length + 1)))) with h | h
    · exact h
    · exfalso
      have := Nat.mul_le_mul_left (pw (v.length + 1)) h
      have := pw_pos (v.length + 1)
      omega
  have hd : valn ((sp u j (padn (v.length + 1) (valn (u.drop j) % valn v))).drop j) = valn (u.drop j) % valn v := by
    rw [sp_drop _ _ _ (by omega), valn_append, hl, hz, valn_padn_lt (by rw [pw_succ]; omega)]; omega
  refine ⟨hd, ?_, U_sp uu (U_padn _ _) j, sp_len (by omega)⟩
  rw [valn_splitD _ j, hd, sp_take _ _ _ (by omega)]
theorem limb_shr {u : List Int} (uu : U u) (n : Nat) (hn : n ≤ 31) (i : Nat) :
    valn u / 2 ^ n / pw i % 4294967296 = ((rd u (i : Int)).toNat + 4294967296 * (rd u ((i + 1 : Nat) : Int)).toNat) / 2 ^ n % 4294967296 := by
  have h1 := valn_splitD u i
  have h2 := take_lt' uu i
  have h3 := valn_drop_rd u i
  have h4 := valn_drop_rd u (i + 1)
  have hp : 0 < pw i := pw_pos i
  have h5 : valn u / pw i = valn (u.drop i) := by
    rw [h1, Nat.add_mul_div_left _ _ hp, Nat.div_eq_of_lt h2]; omega
  rw [Nat.div_div_eq_div_mul, Nat.mul_comm, ← Nat.div_div_eq_div_mul, h5, h3, h4]
  generalize (rd u (i : Int)).toNat = x
  generalize (rd u ((i + 1 : Nat) : Int)).toNat = y
  generalize valn (u.drop (i + 1 + 1)) = r
  have hd : (2 : Nat) ^ 32 = 2 ^ n * 2 ^ (32 - n) := by rw [← Nat.pow_add]; congr 1; omega
  have e : x + 4294967296 * (y + 4294967296 * r) = x + 4294967296 * y + 2 ^ n * (2 ^ (32 - n) * r * 4294967296) := by
    have : (4294967296 : Nat) * (4294967296 * r) = 2 ^ n * (2 ^ (32 - n) * r * 4294967296) := by
      have h32 : (4294967296 : Nat) = 2 ^ 32 := rfl
      calc (4294967296 : Nat) * (4294967296 * r) = 2 ^ 32 * r * 4294967296 := by rw [← h32]; ac_rfl
        _ = _ := by rw [hd]; ac_rfl
    omega
  rw [e, Nat.add_mul_div_left _ _ (Nat.two_pow_pos n), Nat.add_mul_mod_self_right]
theorem mod_pw_succ (m i : Nat) : m % pw (i + 1) = m % pw i + pw i * (m / pw i % 4294967296) := by rw [pw_succ, Nat.mod_mul]
end Go.Proofs.Ytecfdemglbfnoaa.Num
end
section
namespace Go.Proofs.Ytecfdemglbfnoaa.Pure
open Go.RowKit Go.Proofs.Ytecfdemglbfnoaa.PT Go.Proofs.YtecfdemglbfnoaaW.PrintWords Go.Proofs.YtecfdemglbfnoaaW.PrintLast Go.Proofs.YtecfdemglbfnoaaW.PrintMore
def cst (a : Int) : Int := if a < 0 then 0 else if 4611686018427387904 < a then 4611686018427387904 else a
def csum (a b : Int) : Int := if 4611686018427387904 < cst a + cst b then 4611686018427387904 else cst a + cst b
theorem cst_bd (a : Int) : 0 ≤ cst a ∧ cst a ≤ 4611686018427387904 := by unfold cst; omega
theorem cost_f (a : Int) : semiring_cost.f a = some (cst a) := by
  unfold semiring_cost.f mn mx cst; congr 1; omega
theorem capped_f {a b : Int} (ha : 0 ≤ a) (ha' : a ≤ 4611686018427387904) (hb : 0 ≤ b) (hb' : b ≤ 4611686018427387904) :
    semiring_capped.f a b = some (if 4611686018427387904 < a + b then 4611686018427387904 else a + b) := by
  unfold semiring_capped.f wrap64
  by_cases h : 4611686018427387904 < a + b
  · rw [if_pos (by omega), if_pos h]
  · rw [if_neg (by omega), if_neg h]; congr 1; omega
theorem Add_f (a b : Int) : semiring_MinPlus_Add.f a b = some (mn (cst a) (cst b)) := by
  simp [semiring_MinPlus_Add.f, cost_f]
theorem Mul_f (a b : Int) : semiring_MinPlus_Mul.f a b = some (csum a b) := by
  have := cst_bd a; have := cst_bd b
  simp only [semiring_MinPlus_Mul.f, cost_f, Option.bind_some]
  rw [capped_f (by omega) (by omega) (by omega) (by omega)]; rfl
theorem Same_f (a b : Int) : semiring_MinPlus_Same.f a b = some (cst a == cst b) := by
  simp [semiring_MinPlus_Same.f, cost_f]
end Go.Proofs.Ytecfdemglbfnoaa.Pure
end
section
namespace Go.Proofs.Ytecfdemglbfnoaa.Num
open Go.RowKit Go.Proofs.Ytecfdemglbfnoaa.PT Go.Proofs.YtecfdemglbfnoaaW.PrintWords Go.Proofs.YtecfdemglbfnoaaW.PrintLast Go.Proofs.YtecfdemglbfnoaaW.PrintMore
theorem Ev_succ {α : Type} {g : Nat → Option α} {r : α} (h : Ev (fun k => g (k + 1)) r) : Ev g r := Ev.step (fun _ => rfl) h
theorem bits_or_comm (x y : Int) : Go.bits .or .u64 x y = Go.bits .or .u64 y x := by
  unfold Go.bits
  simp [BitVec.or_comm]
theorem padn_of_mod {z : List Int} (uz : U z) {K m : Nat} (hz : z.length = K) (h : valn z = m % pw K) : z = padn K m := by
  have h1 := padn_valn uz
  rw [hz, h] at h1
  rw [← h1]
  have e := Nat.mod_add_div m (pw K)
  conv => rhs; rw [← e]
  rw [padn_mod]
theorem stepat_f {u v : List Int} (uu : U u) (uv : U v) (h2 : 2 ≤ v.length) (hn : 2147483648 ≤ rd v ((v.length - 1 : Nat) : Int)) (hL : u.length ≤ 1000002) (j : Nat) (hj : j + v.length + 1 ≤ u.length) (hlt : valn (u.drop (j + 1)) < valn v) :
    Ev (fun k => stepat k u (j : Int) v (v.length : Int)) (((valn (u.drop j) / valn v : Nat) : Int), sp u j (padn (v.length + 1) (valn (u.drop j) % valn v))) := by
  obtain ⟨h3, h4⟩ := win_val uu uv j hj hlt
  have h5 := step_f (u := (u.drop j).take (v.length + 1)) (v := v) (U_take (U_drop uu j) _) uv (win_len u j (v.length + 1) (by omega)) h2 (by omega) hn (by rw [h3]; exact h4)
  rw [h3] at h5
  refine Ev.congr (f := fun k => (nat_step.f k ((u.drop j).take (v.length + 1)) v).bind fun r => some (r.1, sp u j r.2)) (fun k => ?_) (Ev.bind h5 (Ev.now _))
  unfold stepat
  rw [if_pos ⟨by omega, rfl, by rw [Int.toNat_natCast]; omega, by omega⟩, Int.toNat_natCast]
theorem long_l1 {u q : List Int} (uu : U u) (n K : Nat) (hn : n ≤ 31) (hk : K + 1 ≤ u.length) (hu : u.length ≤ 1000002) (d : Nat) : ∀ (i : Nat) (z : List Int), i + d = K → z.length = K → U z → valn (z.take i) = (valn u / 2 ^ n) % pw i →
    Ev (fun k => nat_longw.l1 k q z (n : Int) u (K : Int) (i : Int)) (q, padn K (valn u / 2 ^ n)) := by
  induction d with
  | zero =>
    intro i z hi hz uz hv
    obtain rfl : i = K := by omega
    rw [List.take_of_length_le (by omega)] at hv
    rw [← padn_of_mod uz hz hv]
    refine Ev.step (f := fun _ => some (q, z)) (fun k => ?_) (Ev.now _)
    simp only [nat_longw.l1]
    rw [if_neg (by omega)]
  | succ d ih =>
    intro i z hi hz uz hv
    obtain ⟨x, ex, hx⟩ := rd_nat uu (i : Int)
    obtain ⟨y, ey, hy⟩ := rd_nat uu ((i + 1 : Nat) : Int)
    have hl := limb_shr uu n hn i
    rw [ex, ey, Int.toNat_natCast, Int.toNat_natCast] at hl
    have et : shr .u64 (Go.bits .or .u64 (IntKind.u64.wrap (rd u (i : Int))) (IntKind.u64.wrap (IntKind.u64.wrap (rd u ((i + 1 : Nat) : Int)) * 4294967296))) (n : Int) % 4294967296 = (((valn u / 2 ^ n / pw i % 4294967296 : Nat)) : Int) := by
      have e : (y : Int) * 4294967296 = ((y * 4294967296 : Nat) : Int) := by simp
      rw [ex, ey, u64 (x := (x : Int)) (by omega) (by omega), u64 (x := (y : Int)) (by omega) (by omega), e, u64 (x := ((y * 4294967296 : Nat) : Int)) (by omega) (by omega), bits_or_comm, or64 32 _ _ (by simp) (by omega) (by omega) (by omega)]
      unfold shr
      have hm : min ((n : Int)).toNat IntKind.u64.bits = n := by
        rw [Int.toNat_natCast]; exact Nat.min_eq_left (by show n ≤ 64; omega)
      rw [hm, hl, Nat.add_comm (y * 4294967296), Nat.mul_comm y, Int.natCast_emod, Int.natCast_ediv, Int.natCast_pow]; rfl
    have hb : valn u / 2 ^ n / pw i % 4294967296 < 4294967296 := Nat.mod_lt _ (by decide)
    generalize hd : valn u / 2 ^ n / pw i % 4294967296 = D at et hb
    have step := ih (i + 1) (z.set i (D : Int)) (by omega) (by rw [List.length_set]; exact hz) (U_set uz (by omega) _) (by
      rw [valn_set_take z i _ (by omega), Int.toNat_natCast, hv, mod_pw_succ, hd])
    refine Ev.step (fun k => ?_) step
    simp only [nat_longw.l1]
    rw [up i (by omega), if_pos (by omega), if_pos (by omega), if_pos (by omega), if_pos (by omega), if_pos (by omega), if_pos (by omega), if_pos (by omega), et, Int.toNat_natCast]
theorem long_l0 {v : List Int} (uv : U v) (h2 : 2 ≤ v.length) (hn : 2147483648 ≤ rd v ((v.length - 1 : Nat) : Int)) (n : Nat) (hn31 : n ≤ 31) (S L : Nat) (hL : v.length + 1 ≤ L) (hL' : L ≤ 1000002) : ∀ (j : Nat) (q u : List Int), u.length = L → U u → q.length = L - v.length → U q → j ≤ L - v.length →
    valn (u.drop j) < valn v → valn (u.take j) + pw j * valn (u.drop j) + valn v * pw j * valn (q.drop j) = S →
    Ev (fun k => nat_longw.l0 k q (n : Int) v u (v.length : Int) ((j : Int) - 1)) (padn (L - v.length) (S / valn v), padn v.length (S % valn v / 2 ^ n)) := by
  intro j
  induction j with
  | zero =>
    intro q u hu uu hq uq _ hlt hS
    rw [List.take_zero, List.drop_zero, List.drop_zero, pw_zero, valn_nil, Nat.mul_one, Nat.one_mul, Nat.zero_add] at hS
    rw [List.drop_zero] at hlt
    have hv0 : 0 < valn v := by omega
    have h3 := quo_of (u := S) (v := valn v) (q := valn q) (by rw [← hS, Nat.mul_comm]; omega) (by rw [← hS, Nat.mul_comm]; omega)
    have h4 : S % valn v = valn u := by rw [h3.2, ← hS, Nat.mul_comm (valn v)]; omega
    have hqp : padn (L - v.length) (S / valn v) = q := by rw [h3.1, ← hq]; exact padn_valn uq
    rw [hqp, h4]
    have h5 := long_l1 (q := q) uu n v.length hn31 (by omega) (by omega) v.length 0 (List.replicate v.length 0) (by omega) (by simp) (U_replicate _) (by rw [List.take_zero, valn_nil, pw_zero, Nat.mod_one])
    refine Ev.step (fun k => ?_) h5
    simp only [nat_longw.l0]
    rw [if_neg (by omega), if_pos (by omega), Int.toNat_natCast, if_pos (by omega), Option.bind_some, List.length_replicate]; rfl
  | succ j ih =>
    intro q u hu uu hq uq hj hlt hS
    have hj1 : j + v.length + 1 ≤ u.length := by omega
    obtain ⟨h3, h4⟩ := win_val uu uv j hj1 hlt
    obtain ⟨a1, a2, a3, a4⟩ := win_after uu uv j hj1 hlt
    have hst := stepat_f uu uv h2 hn (by omega) j hj1 hlt
    have hv0 : 0 < valn v := by omega
    have hqb : valn (u.drop j) / valn v < 4294967296 := (Nat.div_lt_iff_lt_mul hv0).mpr h4
    have e0 : valn u = valn (u.take j) + pw j * valn (u.drop j) := valn_splitD u j
    have e1 : valn u = valn (u.take (j + 1)) + pw (j + 1) * valn (u.drop (j + 1)) := valn_splitD u (j + 1)
    rw [← e1, e0, pw_succ] at hS
    have hinv := long_inv hS
    have uq' : U (q.set j ((valn (u.drop j) / valn v : Nat) : Int)) := U_set uq ⟨Int.natCast_nonneg _, by omega⟩ _
    have hqd : valn ((q.set j ((valn (u.drop j) / valn v : Nat) : Int)).drop j) = valn (u.drop j) / valn v + 4294967296 * valn (q.drop (j + 1)) := by
      rw [valn_drop_rd, rd_set_eq _ _ _ (by omega), Int.toNat_natCast, List.drop_set_of_lt (by omega)]
    have htk : (sp u j (padn (v.length + 1) (valn (u.drop j) % valn v))).take j = u.take j := sp_take _ _ _ (by rw [padn_len]; omega)
    have step := ih (q.set j ((valn (u.drop j) / valn v : Nat) : Int)) (sp u j (padn (v.length + 1) (valn (u.drop j) % valn v))) (by rw [a4]; exact hu) a3 (by rw [List.length_set]; exact hq) uq' (by omega) (by rw [a1]; exact Nat.mod_lt _ hv0) (by
      rw [htk, a1, hqd]; exact hinv)
    refine Ev_succ ?_
    have ej : ((j + 1 : Nat) : Int) - 1 = (j : Int) := by omega
    simp only [nat_longw.l0, ej]
    refine Ev.congr (fun k => ?_) (Ev.bind (f := fun k r => nat_longw.l0 k (q.set j r.1) (n : Int) v r.2 (v.length : Int) ((j : Int) - 1)) hst step)
    rw [if_pos (by omega)]
    congr 1
    funext r
    rw [if_pos (by omega), if_pos (by omega), w64 (by omega) (by omega), Int.toNat_natCast]
theorem lz_top {n : Nat} (h0 : n ≠ 0) (h : n < 4294967296) : (n + 1) * 2 ^ (32 - sz n) ≤ 4294967296 := by
  have hb : sz n ≤ 32 := sz_le (b := 32) h
  have h3 := (sz_spec h0).2
  have e2 : (4294967296 : Nat) = 2 ^ sz n * 2 ^ (32 - sz n) := by rw [← Nat.pow_add, show sz n + (32 - sz n) = 32 from by omega]
  conv => rhs; rw [e2]
  exact Nat.mul_le_mul_right _ h3
theorem top_val {b : List Int} {M t : Nat} (hM : b.length = M + 1) (et : rd b (M : Int) = (t : Int)) : valn b = valn (b.take M) + pw M * t := by
  have a1 := valn_splitD b M
  have a2 := valn_drop_rd b M
  have z0 : b.drop (M + 1) = [] := List.drop_eq_nil_of_le (by omega)
  rw [z0, valn_nil, et, Int.toNat_natCast, Nat.mul_zero, Nat.add_zero] at a2
  rw [a1, a2]
theorem norm_up {x p t c B : Nat} (h1 : x < p) (h : (t + 1) * c ≤ B) (hc : 0 < c) : (x + p * t) * c < p * B := by
  have h2 : (x + p * t + 1) * c ≤ p * (t + 1) * c := Nat.mul_le_mul_right _ (by rw [Nat.mul_add, Nat.mul_one]; omega)
  have h3 : p * (t + 1) * c ≤ p * B := by rw [Nat.mul_assoc]; exact Nat.mul_le_mul_left _ h
  rw [Nat.add_mul _ 1, Nat.one_mul] at h2
  exact Nat.lt_of_lt_of_le (Nat.lt_add_of_pos_right hc) (Nat.le_trans h2 h3)
theorem norm_low {x p t c H : Nat} (h : H ≤ t * c) : p * H ≤ (x + p * t) * c := by
  rw [Nat.add_mul, Nat.mul_assoc]
  exact Nat.le_trans (Nat.mul_le_mul_left _ h) (Nat.le_add_left _ _)
theorem lb_len_eq {V M : Nat} (h1 : V < pw (M + 1)) (h2 : pw M ≤ V) : (lb V).length = M + 1 := by
  have h3 := lb_len_le h1
  have h4 := lt_pow_len V
  by_cases c : (lb V).length = M + 1
  · exact c
  · exact absurd (Nat.lt_of_lt_of_le h4 (Nat.le_trans (pw_mono (show (lb V).length ≤ M from by omega)) h2)) (Nat.lt_irrefl _)
theorem lb_top {V M H : Nat} (h2 : pw M * H ≤ V) (hl : (lb V).length = M + 1) : (H : Int) ≤ rd (lb V) (M : Int) := by
  obtain ⟨x, ex, hx⟩ := rd_nat (U_lb V) (M : Int)
  have a1 := top_val hl ex
  rw [valn_lb] at a1
  have a3 := take_lt' (U_lb V) M
  rw [ex]
  by_cases c : H ≤ x
  · omega
  · exfalso
    have h3 : pw M * (x + 1) ≤ pw M * H := Nat.mul_le_mul_left _ (by omega)
    rw [Nat.mul_add, Nat.mul_one] at h3
    generalize pw M * x = y at *
    generalize pw M * H = z at *
    omega
theorem norm_div {b : List Int} (ub : U b) {M t : Nat} (hM : b.length = M + 1) (et : rd b (M : Int) = (t : Int)) (ht : t < 4294967296) (ht0 : t ≠ 0) :
    valn b * 2 ^ (32 - sz t) < pw (M + 1) ∧ (lb (valn b * 2 ^ (32 - sz t))).length = M + 1 ∧ 2147483648 ≤ rd (lb (valn b * 2 ^ (32 - sz t))) (M : Int) := by
  obtain ⟨z1, _, _⟩ := lz_shift ht0 ht
  have z4 := lz_top ht0 ht
  have tb := take_lt' ub M
  have sb := top_val hM et
  have v1 : valn b * 2 ^ (32 - sz t) < pw (M + 1) := by rw [sb, pw_succ]; exact norm_up tb z4 (Nat.two_pow_pos _)
  have v2 : pw M * 2147483648 ≤ valn b * 2 ^ (32 - sz t) := by rw [sb]; exact norm_low z1
  have v3 : pw M ≤ valn b * 2 ^ (32 - sz t) := Nat.le_trans (Nat.le_mul_of_pos_right _ (by decide)) v2
  have vl := lb_len_eq v1 v3
  exact ⟨v1, vl, lb_top v2 vl⟩
theorem den_low {b : List Int} {M t : Nat} (hM : b.length = M + 1) (et : rd b (M : Int) = (t : Int)) (ht0 : t ≠ 0) : pw M ≤ valn b := by
  rw [top_val hM et]
  exact Nat.le_trans (Nat.le_mul_of_pos_right _ (Nat.pos_of_ne_zero ht0)) (Nat.le_add_left _ _)
theorem num_high {a : List Int} (ua : U a) {B M J c : Nat} (hJ : a.length = M + J) (hB : pw M ≤ B) (hc : 0 < c) : valn a * c < B * c * pw J := by
  have va := valn_lt ua
  rw [hJ, pw_add] at va
  have h1 : valn a < B * pw J := Nat.lt_of_lt_of_le va (Nat.mul_le_mul_right _ hB)
  have h2 := Nat.mul_lt_mul_of_pos_right h1 hc
  rwa [Nat.mul_assoc, Nat.mul_comm (pw J), ← Nat.mul_assoc] at h2
theorem drop_lt {u : List Int} {J V : Nat} (h : valn u < V * pw J) : valn (u.drop J) < V := by
  have h1 := valn_splitD u J
  by_cases c : valn (u.drop J) < V
  · exact c
  · exfalso
    have h2 : V * pw J ≤ valn (u.drop J) * pw J := Nat.mul_le_mul_right _ (by omega)
    rw [Nat.mul_comm (valn _)] at h2
    generalize V * pw J = x at *
    generalize pw J * valn (u.drop J) = y at *
    omega
theorem longw_f {a b : List Int} (ua : U a) (ub : U b) (h2 : 2 ≤ b.length) (hba : b.length ≤ a.length) (htop : rd b ((b.length - 1 : Nat) : Int) ≠ 0) (ha : a.length ≤ 1000000) :
    Ev (fun k => nat_longw.f k a b) (padn (a.length + 1 - b.length) (valn a / valn b), padn b.length (valn a % valn b)) := by
  obtain ⟨M, hM⟩ : ∃ M, b.length = M + 1 := ⟨b.length - 1, by omega⟩
  rw [hM, Nat.add_sub_cancel] at htop
  obtain ⟨t, et, ht⟩ := rd_nat ub (M : Int)
  have ht0 : t ≠ 0 := by intro h; apply htop; rw [et, h]; rfl
  have z3 := (lz_shift ht0 ht).2.2
  obtain ⟨v1, vl, vt⟩ := norm_div ub hM et ht ht0
  have hb0 := den_low hM et ht0
  obtain ⟨J, hJ⟩ : ∃ J, a.length = M + J := ⟨a.length - M, by omega⟩
  have hlz := LeadingZeros32_f t ht
  obtain ⟨n, hn⟩ : ∃ n, 32 - sz t = n := ⟨_, rfl⟩
  rw [hn] at z3 v1 vl vt hlz
  have hc := Nat.two_pow_pos n
  have hcB : 2 ^ n < 4294967296 := Nat.lt_of_le_of_lt (Nat.pow_le_pow_right (by decide) z3) (by decide : 2 ^ 31 < 4294967296)
  have s2 := num_high ua hJ hb0 hc
  have s1 : valn a * 2 ^ n < pw (a.length + 1) := by rw [pw_succ]; exact Nat.mul_lt_mul'' (valn_lt ua) hcB
  have e1 : valn a * 2 ^ n / (valn b * 2 ^ n) = valn a / valn b := Nat.mul_div_mul_right _ _ hc
  have e2 : valn a * 2 ^ n % (valn b * 2 ^ n) / 2 ^ n = valn a % valn b := by rw [Nat.mul_mod_mul_right]; exact Nat.mul_div_cancel _ hc
  have hsh1 := shift_f ub n z3 (by omega)
  have hsh2 := shift_f ua n z3 (by omega)
  obtain ⟨V, hV⟩ : ∃ V, valn b * 2 ^ n = V := ⟨_, rfl⟩
  obtain ⟨S, hS⟩ : ∃ S, valn a * 2 ^ n = S := ⟨_, rfl⟩
  rw [hV] at v1 vl vt s2 e1 e2 hsh1
  rw [hS] at s1 s2 e1 e2 hsh2
  have hso := short_f (l := padn (b.length + 1) V) (U_padn _ _) (by rw [padn_len]; omega)
  rw [valn_padn_lt (Nat.lt_of_lt_of_le v1 (pw_mono (by omega)))] at hso
  have u0 : valn ((padn (a.length + 1) S).drop J) < V := drop_lt (by rw [valn_padn_lt s1]; exact s2)
  have main := long_l0 (v := lb V) (U_lb V) (by rw [vl, ← hM]; exact h2) (by rw [vl, Nat.add_sub_cancel]; exact vt) n z3 S (a.length + 1) (by omega) (by omega) J (List.replicate J 0) (padn (a.length + 1) S) (padn_len _ _) (U_padn _ _) (by rw [List.length_replicate]; omega) (U_replicate _) (by omega) (by rw [valn_lb]; exact u0) (by
    rw [show (List.replicate J (0 : Int)).drop J = [] from List.drop_eq_nil_of_le (by rw [List.length_replicate]; exact Nat.le_refl _), valn_nil, Nat.mul_zero, Nat.add_zero, ← valn_splitD, valn_padn_lt s1])
  rw [valn_lb, e1, e2, vl] at main
  rw [hM] at hsh1 hso ⊢
  have eJ : ((a.length + 1 : Nat) : Int) - ((M + 1 : Nat) : Int) = (J : Int) := by omega
  have c1 : (0 : Int) ≤ (M : Int) ∧ (M : Int) < ((M + 1 : Nat) : Int) ∧ (0 : Int) ≤ (J : Int) ∧ J ≤ 70368744177664 ∧ M < 9223372036854775807 := by omega
  have ws : wrap64 (((M + 1 : Nat) : Int) - 1) = (M : Int) ∧ wrap64 (J : Int) = (J : Int) ∧ wrap64 ((J : Int) - 1) = (J : Int) - 1 := ⟨dn M c1.2.2.2.2, w64 (by omega) (by omega), w64 (by omega) (by omega)⟩
  refine Ev.congr (f := fun k => (nat_shift.f k b (n : Int)).bind fun t139 => (nat_short.f k t139).bind fun t142 => (nat_shift.f k a (n : Int)).bind fun t145 =>
    (if 0 ≤ (wrap64 ((t145.length : Int) - (t142.length : Int))) then (if (wrap64 ((t145.length : Int) - (t142.length : Int)) : Int).toNat ≤ 70368744177664 then (nat_longw.l0 k (List.replicate (wrap64 ((t145.length : Int) - (t142.length : Int)) : Int).toNat 0) (n : Int) t142 t145 (t142.length : Int) (wrap64 ((wrap64 ((t145.length : Int) - (t142.length : Int))) - 1))) else (none)) else (none)))
    (fun k => ?_) (Ev.bind hsh1 (Ev.bind hso (Ev.bind hsh2 (Ev.congr (fun k => ?_) main))))
  · unfold nat_longw.f
    rw [hM, ws.1, if_pos c1.1, if_pos c1.2.1, et, hlz, Option.bind_some]
  · rw [padn_len, vl, eJ, ws.2.1, ws.2.2, if_pos c1.2.2.1, Int.toNat_natCast, if_pos c1.2.2.2.1]
end Go.Proofs.Ytecfdemglbfnoaa.Num
end
section
namespace Go.Proofs.Ytecfdemglbfnoaa.PT
open Go.RowKit Go.Proofs.Ytecfdemglbfnoaa.Num Go.Proofs.YtecfdemglbfnoaaW.PrintWords
def nat_long.f (l0 l1 : List Int) : Option (List Int × List Int) :=
  if 2 ≤ l1.length ∧ l1.length ≤ l0.length ∧ l1.getLastD 0 ≠ 0 ∧ (∀ x ∈ l0, 0 ≤ x ∧ x < 4294967296) ∧ (∀ x ∈ l1, 0 ≤ x ∧ x < 4294967296) ∧ l0.length ≤ 1000000 then
    some (padn (l0.length + 1 - l1.length) (valn l0 / valn l1), padn l1.length (valn l0 % valn l1)) else none
theorem rd_getLastD (l : List Int) : rd l ((l.length - 1 : Nat) : Int) = l.getLastD 0 := by
  unfold rd
  rw [Int.toNat_natCast, List.getLastD_eq_getLast?, List.getLast?_eq_getElem?, List.getD_eq_getElem?_getD]
theorem nat_long.calls (A0 : Option Addr) (c0 : Nat) (l0 : List Int) (A1 : Option Addr) (c1 : Nat) (l1 : List Int) (r1 : List Int) (r2 : List Int) (w : World) (hr0 : Kd.C (Kd.int .u32) w A0 l0.length l0) (hc0 : l0.length ≤ c0) (hr1 : Kd.C (Kd.int .u32) w A1 l1.length l1) (hc1 : l1.length ≤ c1) (h : nat_long.f l0 l1 = some (r1, r2)) :
    Calls Try.prog 187 #[.slice A0 l0.length c0, .slice A1 l1.length c1] w fun e w' => ∃ v0_ v1_ : Value, e = .returned (.tuple #[v0_, v1_]) ∧ Kd.R (Kd.int .u32) 48 w' w.heap.size (fun k_ => some k_ ≠ (v1_ : Value).ownBlock) v0_ r1 ∧ Kd.R (Kd.int .u32) 48 w' w.heap.size (fun k_ => some k_ ≠ (v0_ : Value).ownBlock) v1_ r2 ∧ Below w.heap.size w w' := by
  unfold nat_long.f at h
  split at h
  case isTrue c =>
    obtain ⟨h2, hba, hd, ua, ub, ha⟩ := c
    obtain ⟨k, hk⟩ := (longw_f (a := l0) (b := l1) ua ub h2 hba (by rw [rd_getLastD l1]; exact hd) ha).rounds
    exact nat_longw.calls k A0 c0 l0 A1 c1 l1 r1 r2 w hr0 hc0 hr1 hc1 (hk.trans h)
  case isFalse => exact absurd h (by simp)
end Go.Proofs.Ytecfdemglbfnoaa.PT
end
section
namespace Go.Proofs.Ytecfdemglbfnoaa.PT
open Go.RowKit Go.Proofs.YtecfdemglbfnoaaW.PrintWords Go.Proofs.YtecfdemglbfnoaaW.PrintLast Go.Proofs.YtecfdemglbfnoaaW.PrintMore
attribute [local go_sem] max2_int min2_int max_two min_two max_three min_three max_four min_four
set_option linter.unusedVariables false
set_option linter.unusedSimpArgs false
set_option maxHeartbeats 8000000
set_option maxRecDepth 100000
def nat_DivMod.f (k : Nat) (l0 : List Int) (l1 : List Int) : Option (List Int × List Int × Int) := (nat_short.f k l0).bind fun t966 => ((nat_short.f k l1).bind fun t969 => (if (t969.length : Int) = 0 then (some (([] : List Int), ([] : List Int), 7)) else ((nat_Cmp.f k t966 t969).bind fun t972 => (if t972 < 0 then ((nat_Trim.f k t966).bind fun t973 => (some (([] : List Int), t973, 0))) else (if (t969.length : Int) = 1 then (if 0 < (t969.length : Int) then ((nat_digit.f k t966 (rd t969 0)).bind fun bt977 => ((nat_Of.f k (IntKind.u64.wrap (bt977.2))).bind fun t981 => (some (bt977.1, t981, 0)))) else (none)) else ((nat_long.f t966 t969).bind fun bt984 => ((nat_Trim.f k bt984.1).bind fun t990 => ((nat_Trim.f k bt984.2).bind fun t993 => (some (t990, t993, 0))))))))))
theorem nat_DivMod.calls (k : Nat) (P0_ : Nat → Prop) (A0 : Option Addr) (c0 : Nat) (l0 : List Int) (P1_ : Nat → Prop) (A1 : Option Addr) (c1 : Nat) (l1 : List Int) (r1 : List Int) (r2 : List Int) (r3 : Int) (w : World) (hs0 : Kd.V (Kd.int .u32) 48 w w.heap.size (fun k_ => P0_ k_) (.slice A0 l0.length c0) l0) (hs1 : Kd.V (Kd.int .u32) 48 w w.heap.size (fun k_ => P1_ k_) (.slice A1 l1.length c1) l1) (h : nat_DivMod.f k l0 l1 = some (r1, r2, r3)) :
 Calls Try.prog 167 #[.slice A0 l0.length c0, .slice A1 l1.length c1] w fun e w' => ∃ v0_ v1_ : Value, e = .returned (.tuple #[v0_, v1_, .int .i64 r3]) ∧ Kd.V (Kd.int .u32) 48 w' w.heap.size (fun k_ => ((P0_ k_ ∨ P1_ k_) ∨ w.heap.size ≤ k_)) v0_ r1 ∧ Kd.V (Kd.int .u32) 48 w' w.heap.size (fun k_ => ((P0_ k_ ∨ P1_ k_) ∨ w.heap.size ≤ k_)) v1_ r2 ∧ Below w.heap.size w w' := by
 have af := am (show Kd.V (Kd.int .u32) 48 w w.heap.size (fun k_ => ((P0_ k_ ∨ P1_ k_) ∨ w.heap.size ≤ k_)) (.slice A0 l0.length c0) l0 from Kd.V_mono hs0 (fun k_ hk => .inl (.inl hk)))
 have ag := am (show Kd.V (Kd.int .u32) 48 w w.heap.size (fun k_ => ((P0_ k_ ∨ P1_ k_) ∨ w.heap.size ≤ k_)) (.slice A1 l1.length c1) l1 from Kd.V_mono hs1 (fun k_ hk => .inl (.inr hk)))
 have HB := am (Below.refl w.heap.size w)
 have H : ((nat_short.f k l0).bind fun ae => ((nat_short.f k l1).bind fun ac => (if (ac.length : Int) = 0 then (some (([] : List Int), ([] : List Int), 7)) else ((nat_Cmp.f k ae ac).bind fun aj => (if aj < 0 then ((nat_Trim.f k ae).bind fun aq => (some (([] : List Int), aq, 0))) else (if (ac.length : Int) = 1 then (if 0 < (ac.length : Int) then ((nat_digit.f k ae (rd ac 0)).bind fun ao => ((nat_Of.f k (IntKind.u64.wrap (ao.2))).bind fun au => (some (ao.1, au, 0)))) else (none)) else ((nat_long.f ae ac).bind fun ap => ((nat_Trim.f k ap.1).bind fun av => ((nat_Trim.f k ap.2).bind fun aw => (some (av, aw, 0))))))))))) = some (r1, r2, r3) := h
 clear h
 obtain ⟨ae, A3, H⟩ := bs H
 (try dsimp -simprocs only at H)
 obtain ⟨ac, A4, H⟩ := bs H
 (try dsimp -simprocs only at H)
 by_cases c5 : (ac.length : Int) = 0
 ·
  rw [if_pos c5] at H
  have aU : ((ac.length : Int) == 0) = true := beq_iff_eq.mpr c5
  have aV : ((ac.length : Int) != 0) = false := bne_eq_false_iff_eq.mpr c5
  clear c5
  simp only [Option.some.injEq, Prod.mk.injEq] at H
  obtain ⟨rfl, rfl, rfl⟩ := H
  go_enter Try.func167, Try.ntmps167
  go_wp2_with (first | ((with_reducible refine gate_callee (f := 179) rfl ?_); refine goesL_ (some 12) rfl rfl Try.func179 (by kernel_rfl) rfl #[.slice A0 l0.length c0] rfl lu ?_; (with_reducible refine (nat_short.calls k (fun k_ => ((P0_ k_ ∨ P1_ k_) ∨ w.heap.size ≤ k_)) _ _ l0 ae _ ?side1 A3.out).mono ?_); (case side1 => exact vz af.out); rintro e w6 ⟨ax, rfl, ad, hb⟩; refine ⟨_, rfl, ?_⟩; replace af := kv af hb; replace ag := kv ag hb; have aa := ar w.heap.size (ok' := fun k_ => ((P0_ k_ ∨ P1_ k_) ∨ w.heap.size ≤ k_)) ad (fz HB); replace HB := be HB hb; (try clear hb); (try clear ad)) | ((with_reducible refine gate_callee (f := 179) rfl ?_); refine goesL_ (some 14) rfl rfl Try.func179 (by kernel_rfl) rfl #[.slice A1 l1.length c1] rfl lu ?_; (with_reducible refine (nat_short.calls k (fun k_ => ((P0_ k_ ∨ P1_ k_) ∨ w.heap.size ≤ k_)) _ _ l1 ac _ ?side1 A4.out).mono ?_); (case side1 => exact vz ag.out); rintro e w7 ⟨ay, rfl, ad, hb⟩; refine ⟨_, rfl, ?_⟩; replace af := kv af hb; replace ag := kv ag hb; replace aa := kv aa hb; have ab := ar w.heap.size (ok' := fun k_ => ((P0_ k_ ∨ P1_ k_) ∨ w.heap.size ≤ k_)) ad (fz HB); replace HB := be HB hb; (try clear hb); (try clear ad); obtain ⟨bA, bB, bh⟩ := Kd.V_slice ab.out; subst bh))
  go_ret3
  exact ⟨_, _, by first | rfl | (simp [errW_none, errW_some] <;> rfl) | (simp [*, errW_none, errW_some] <;> rfl), Kd.V_nil _ _ _ _ _, Kd.V_nil _ _ _ _ _, by repeat (first | (with_reducible first | exact HB.out | apply below_alloc | apply pw_below_drewN | apply below_drew1) | exact HB.out)⟩
 ·
  rw [if_neg c5] at H
  have aU : ((ac.length : Int) == 0) = false := beq_eq_false_iff_ne.mpr c5
  have aV : ((ac.length : Int) != 0) = true := bne_iff_ne.mpr c5
  have bi : ¬ (ac = []) := fun h_ => c5 (by rw [h_]; rfl)
  obtain ⟨aj, A9, H⟩ := bs H
  (try dsimp -simprocs only at H)
  by_cases aD : aj < 0
  ·
   rw [if_pos aD] at H
   have aE : decide (aj < 0) = true := decide_eq_true aD
   clear aD
   obtain ⟨aq, bj, H⟩ := bs H
   (try dsimp -simprocs only at H)
   simp only [Option.some.injEq, Prod.mk.injEq] at H
   obtain ⟨rfl, rfl, rfl⟩ := H
   go_enter Try.func167, Try.ntmps167
   go_wp2_with (first | ((with_reducible refine gate_callee (f := 179) rfl ?_); refine goesL_ (some 12) rfl rfl Try.func179 (by kernel_rfl) rfl #[.slice A0 l0.length c0] rfl lu ?_; (with_reducible refine (nat_short.calls k (fun k_ => ((P0_ k_ ∨ P1_ k_) ∨ w.heap.size ≤ k_)) _ _ l0 ae _ ?side1 A3.out).mono ?_); (case side1 => exact vz af.out); rintro e bC ⟨ax, rfl, ad, hb⟩; refine ⟨_, rfl, ?_⟩; replace af := kv af hb; replace ag := kv ag hb; have aa := ar w.heap.size (ok' := fun k_ => ((P0_ k_ ∨ P1_ k_) ∨ w.heap.size ≤ k_)) ad (fz HB); replace HB := be HB hb; (try clear hb); (try clear ad)) | ((with_reducible refine gate_callee (f := 179) rfl ?_); refine goesL_ (some 14) rfl rfl Try.func179 (by kernel_rfl) rfl #[.slice A1 l1.length c1] rfl lu ?_; (with_reducible refine (nat_short.calls k (fun k_ => ((P0_ k_ ∨ P1_ k_) ∨ w.heap.size ≤ k_)) _ _ l1 ac _ ?side1 A4.out).mono ?_); (case side1 => exact vz ag.out); rintro e bD ⟨ay, rfl, ad, hb⟩; refine ⟨_, rfl, ?_⟩; replace af := kv af hb; replace ag := kv ag hb; replace aa := kv aa hb; have ab := ar w.heap.size (ok' := fun k_ => ((P0_ k_ ∨ P1_ k_) ∨ w.heap.size ≤ k_)) ad (fz HB); replace HB := be HB hb; (try clear hb); (try clear ad); obtain ⟨aW, aX, aY⟩ := Kd.V_slice ab.out; subst aY; obtain ⟨aF, aG, aZ⟩ := Kd.V_slice aa.out; subst aZ) | ((with_reducible refine gate_callee (f := 146) rfl ?_); refine goesL_ (some 22) rfl rfl Try.func146 (by kernel_rfl) rfl #[.slice aF ae.length aG, .slice aW ac.length aX] rfl lu ?_; (with_reducible refine (nat_Cmp.calls k _ _ ae _ _ ac aj _ ?side1 ?side2 ?side3 ?side4 A9.out).mono ?_); (case side1 => exact cu (Kd.V_reads' aa.out).2.2); (case side2 => exact (Kd.V_reads' aa.out).2.1); (case side3 => exact cu (Kd.V_reads' ab.out).2.2); (case side4 => exact (Kd.V_reads' ab.out).2.1); rintro e bE ⟨rfl, hb⟩; refine ⟨_, rfl, ?_⟩; replace af := kv af hb; replace ag := kv ag hb; replace aa := kv aa hb; replace ab := kv ab hb; replace HB := be HB hb; (try clear hb)) | ((with_reducible refine gate_callee (f := 177) rfl ?_); refine goesL_ (some 25) rfl rfl Try.func177 (by kernel_rfl) rfl #[.slice aF ae.length aG] rfl lu ?_; (with_reducible refine (nat_Trim.calls k _ _ ae aq _ ?side1 ?side2 bj.out).mono ?_); (case side1 => exact cu (Kd.V_reads' aa.out).2.2); (case side2 => exact (Kd.V_reads' aa.out).2.1); rintro e bF ⟨bk, rfl, ad, hb⟩; refine ⟨_, rfl, ?_⟩; replace ad := R_V_base rfl ad; replace af := kv af hb; replace ag := kv ag hb; replace aa := kv aa hb; replace ab := kv ab hb; have aH := ar0 w.heap.size (ok' := fun k_ => ((P0_ k_ ∨ P1_ k_) ∨ w.heap.size ≤ k_)) ad (fz HB); replace HB := be HB hb; (try clear hb); (try clear ad)))
   go_ret3
   exact ⟨_, _, by first | rfl | (simp [errW_none, errW_some] <;> rfl) | (simp [*, errW_none, errW_some] <;> rfl), Kd.V_nil _ _ _ _ _, by (with_reducible repeat (first | apply Kd.V_alloc | apply Kd.V_drewN | apply Kd.V_drew)); exact aH.out, by repeat (first | (with_reducible first | exact HB.out | apply below_alloc | apply pw_below_drewN | apply below_drew1) | exact HB.out)⟩
  ·
   rw [if_neg aD] at H
   have aE : decide (aj < 0) = false := decide_eq_false aD
   clear aD
   by_cases az : (ac.length : Int) = 1
   ·
    rw [if_pos az] at H
    have aI : ((ac.length : Int) == 1) = true := beq_iff_eq.mpr az
    have aJ : ((ac.length : Int) != 1) = false := bne_eq_false_iff_eq.mpr az
    clear az
    by_cases aS : 0 < (ac.length : Int)
    ·
     rw [if_pos aS] at H
     have bf : decide (0 < (ac.length : Int)) = true := decide_eq_true aS
     have bg : decide (0 < ac.length) = true := decide_eq_true (by omega)
     clear aS
     obtain ⟨⟨a0, aA⟩, bl, H⟩ := bs H
     (try dsimp -simprocs only at H)
     obtain ⟨au, bm, H⟩ := bs H
     (try dsimp -simprocs only at H)
     simp only [Option.some.injEq, Prod.mk.injEq] at H
     obtain ⟨rfl, rfl, rfl⟩ := H
     go_enter Try.func167, Try.ntmps167
     go_wp2_with (first | ((with_reducible refine gate_callee (f := 179) rfl ?_); refine goesL_ (some 12) rfl rfl Try.func179 (by kernel_rfl) rfl #[.slice A0 l0.length c0] rfl lu ?_; (with_reducible refine (nat_short.calls k (fun k_ => ((P0_ k_ ∨ P1_ k_) ∨ w.heap.size ≤ k_)) _ _ l0 ae _ ?side1 A3.out).mono ?_); (case side1 => exact vz af.out); rintro e bG ⟨ax, rfl, ad, hb⟩; refine ⟨_, rfl, ?_⟩; replace af := kv af hb; replace ag := kv ag hb; have aa := ar w.heap.size (ok' := fun k_ => ((P0_ k_ ∨ P1_ k_) ∨ w.heap.size ≤ k_)) ad (fz HB); replace HB := be HB hb; (try clear hb); (try clear ad)) | ((with_reducible refine gate_callee (f := 179) rfl ?_); refine goesL_ (some 14) rfl rfl Try.func179 (by kernel_rfl) rfl #[.slice A1 l1.length c1] rfl lu ?_; (with_reducible refine (nat_short.calls k (fun k_ => ((P0_ k_ ∨ P1_ k_) ∨ w.heap.size ≤ k_)) _ _ l1 ac _ ?side1 A4.out).mono ?_); (case side1 => exact vz ag.out); rintro e bH ⟨ay, rfl, ad, hb⟩; refine ⟨_, rfl, ?_⟩; replace af := kv af hb; replace ag := kv ag hb; replace aa := kv aa hb; have ab := ar w.heap.size (ok' := fun k_ => ((P0_ k_ ∨ P1_ k_) ∨ w.heap.size ≤ k_)) ad (fz HB); replace HB := be HB hb; (try clear hb); (try clear ad); obtain ⟨a1, a2, a3⟩ := Kd.V_slice ab.out; subst a3; obtain ⟨aK, aL, a4⟩ := Kd.V_slice aa.out; subst a4) | ((with_reducible refine gate_callee (f := 146) rfl ?_); refine goesL_ (some 22) rfl rfl Try.func146 (by kernel_rfl) rfl #[.slice aK ae.length aL, .slice a1 ac.length a2] rfl lu ?_; (with_reducible refine (nat_Cmp.calls k _ _ ae _ _ ac aj _ ?side1 ?side2 ?side3 ?side4 A9.out).mono ?_); (case side1 => exact cu (Kd.V_reads' aa.out).2.2); (case side2 => exact (Kd.V_reads' aa.out).2.1); (case side3 => exact cu (Kd.V_reads' ab.out).2.2); (case side4 => exact (Kd.V_reads' ab.out).2.1); rintro e bI ⟨rfl, hb⟩; refine ⟨_, rfl, ?_⟩; replace af := kv af hb; replace ag := kv ag hb; replace aa := kv aa hb; replace ab := kv ab hb; replace HB := be HB hb; (try clear hb); have p976 : 0 ≤ (0 : Int) := (by omega); have q976 : 0 < (ac.length : Int) := of_decide_eq_true (by first | (with_reducible assumption) | assumption); obtain ⟨ad976, e976, ak⟩ := Kd.at_int (Kd.V_reads' ab.out).2.2 0 p976 q976; cases e976; have qi976 : (0 < ac.length) = True := eq_true (by omega); (try rw [show ((0 : Int)).toNat = 0 from rfl] at ak); (try rw [Addr.add_zero'] at ak); replace p976 := eq_true p976; replace q976 := eq_true q976) | ((with_reducible refine gate_callee (f := 186) rfl ?_); refine goesL_ (some 35) rfl rfl Try.func186 (by kernel_rfl) rfl #[.slice aK ae.length aL, .int .u32 (rd ac 0)] rfl lu ?_; (with_reducible refine (nat_digit.calls k _ _ ae (rd ac 0) a0 aA _ ?side1 ?side2 bl.out).mono ?_); (case side1 => exact cu (Kd.V_reads' aa.out).2.2); (case side2 => exact (Kd.V_reads' aa.out).2.1); rintro e bJ ⟨bn, rfl, ad, hb⟩; refine ⟨_, rfl, ?_⟩; replace af := kv af hb; replace ag := kv ag hb; replace aa := kv aa hb; replace ab := kv ab hb; have al := ar0 w.heap.size (ok' := fun k_ => ((P0_ k_ ∨ P1_ k_) ∨ w.heap.size ≤ k_)) ad (fz HB); replace HB := be HB hb; (try clear hb); (try clear ad)) | ((with_reducible refine gate_callee (f := 141) rfl ?_); refine goesL_ (some 41) rfl rfl Try.func141 (by kernel_rfl) rfl #[.int .u64 (IntKind.u64.wrap (aA))] rfl lu ?_; (with_reducible refine (nat_Of.calls k (IntKind.u64.wrap (aA)) au _ bm.out).mono ?_); rintro e bK ⟨bo, rfl, ad, hb⟩; refine ⟨_, rfl, ?_⟩; replace ad := R_V_base rfl ad; replace af := kv af hb; replace ag := kv ag hb; replace aa := kv aa hb; replace ab := kv ab hb; replace al := kv al hb; have aM := ar0 w.heap.size (ok' := fun k_ => ((P0_ k_ ∨ P1_ k_) ∨ w.heap.size ≤ k_)) ad (fz HB); replace HB := be HB hb; (try clear hb); (try clear ad)))
     go_ret3
     exact ⟨_, _, by first | rfl | (simp [errW_none, errW_some] <;> rfl) | (simp [*, errW_none, errW_some] <;> rfl), by (with_reducible repeat (first | apply Kd.V_alloc | apply Kd.V_drewN | apply Kd.V_drew)); exact al.out, by (with_reducible repeat (first | apply Kd.V_alloc | apply Kd.V_drewN | apply Kd.V_drew)); exact aM.out, by repeat (first | (with_reducible first | exact HB.out | apply below_alloc | apply pw_below_drewN | apply below_drew1) | exact HB.out)⟩
    ·
     rw [if_neg aS] at H
     exact absurd H (by simp)
   ·
    rw [if_neg az] at H
    have aI : ((ac.length : Int) == 1) = false := beq_eq_false_iff_ne.mpr az
    have aJ : ((ac.length : Int) != 1) = true := bne_iff_ne.mpr az
    obtain ⟨⟨aB, aC⟩, bp, H⟩ := bs H
    (try dsimp -simprocs only at H)
    obtain ⟨av, bq, H⟩ := bs H
    (try dsimp -simprocs only at H)
    obtain ⟨aw, br, H⟩ := bs H
    (try dsimp -simprocs only at H)
    simp only [Option.some.injEq, Prod.mk.injEq] at H
    obtain ⟨rfl, rfl, rfl⟩ := H
    go_enter Try.func167, Try.ntmps167
    go_wp2_with (first | ((with_reducible refine gate_callee (f := 179) rfl ?_); refine goesL_ (some 12) rfl rfl Try.func179 (by kernel_rfl) rfl #[.slice A0 l0.length c0] rfl lu ?_; (with_reducible refine (nat_short.calls k (fun k_ => ((P0_ k_ ∨ P1_ k_) ∨ w.heap.size ≤ k_)) _ _ l0 ae _ ?side1 A3.out).mono ?_); (case side1 => exact vz af.out); rintro e bL ⟨ax, rfl, ad, hb⟩; refine ⟨_, rfl, ?_⟩; replace af := kv af hb; replace ag := kv ag hb; have aa := ar w.heap.size (ok' := fun k_ => ((P0_ k_ ∨ P1_ k_) ∨ w.heap.size ≤ k_)) ad (fz HB); replace HB := be HB hb; (try clear hb); (try clear ad)) | ((with_reducible refine gate_callee (f := 179) rfl ?_); refine goesL_ (some 14) rfl rfl Try.func179 (by kernel_rfl) rfl #[.slice A1 l1.length c1] rfl lu ?_; (with_reducible refine (nat_short.calls k (fun k_ => ((P0_ k_ ∨ P1_ k_) ∨ w.heap.size ≤ k_)) _ _ l1 ac _ ?side1 A4.out).mono ?_); (case side1 => exact vz ag.out); rintro e bM ⟨ay, rfl, ad, hb⟩; refine ⟨_, rfl, ?_⟩; replace af := kv af hb; replace ag := kv ag hb; replace aa := kv aa hb; have ab := ar w.heap.size (ok' := fun k_ => ((P0_ k_ ∨ P1_ k_) ∨ w.heap.size ≤ k_)) ad (fz HB); replace HB := be HB hb; (try clear hb); (try clear ad); obtain ⟨aN, aO, a5⟩ := Kd.V_slice ab.out; subst a5; obtain ⟨aP, aQ, a6⟩ := Kd.V_slice aa.out; subst a6) | ((with_reducible refine gate_callee (f := 146) rfl ?_); refine goesL_ (some 22) rfl rfl Try.func146 (by kernel_rfl) rfl #[.slice aP ae.length aQ, .slice aN ac.length aO] rfl lu ?_; (with_reducible refine (nat_Cmp.calls k _ _ ae _ _ ac aj _ ?side1 ?side2 ?side3 ?side4 A9.out).mono ?_); (case side1 => exact cu (Kd.V_reads' aa.out).2.2); (case side2 => exact (Kd.V_reads' aa.out).2.1); (case side3 => exact cu (Kd.V_reads' ab.out).2.2); (case side4 => exact (Kd.V_reads' ab.out).2.1); rintro e bN ⟨rfl, hb⟩; refine ⟨_, rfl, ?_⟩; replace af := kv af hb; replace ag := kv ag hb; replace aa := kv aa hb; replace ab := kv ab hb; replace HB := be HB hb; (try clear hb)) | ((with_reducible refine gate_callee (f := 187) rfl ?_); refine goesL_ (some 45) rfl rfl Try.func187 (by kernel_rfl) rfl #[.slice aP ae.length aQ, .slice aN ac.length aO] rfl lu ?_; (with_reducible refine (nat_long.calls _ _ ae _ _ ac aB aC _ ?side1 ?side2 ?side3 ?side4 bp.out).mono ?_); (case side1 => exact cu (Kd.V_reads' aa.out).2.2); (case side2 => exact (Kd.V_reads' aa.out).2.1); (case side3 => exact cu (Kd.V_reads' ab.out).2.2); (case side4 => exact (Kd.V_reads' ab.out).2.1); rintro e bO ⟨bv, bw, rfl, ad, aT, hb⟩; refine ⟨_, rfl, ?_⟩; replace ad := R_V_base rfl ad; replace aT := R_V_base rfl aT; replace af := kv af hb; replace ag := kv ag hb; replace aa := kv aa hb; replace ab := kv ab hb; have ah := ar0 w.heap.size (ok' := fun k_ => ((P0_ k_ ∨ P1_ k_) ∨ w.heap.size ≤ k_)) ad (fz HB); have ai := ar0 w.heap.size (ok' := fun k_ => ((P0_ k_ ∨ P1_ k_) ∨ w.heap.size ≤ k_)) aT (fz HB); replace HB := be HB hb; (try clear hb); (try clear ad); (try clear aT); obtain ⟨a7, a8, a9⟩ := Kd.V_slice ah.out; subst a9) | ((with_reducible refine gate_callee (f := 177) rfl ?_); refine goesL_ (some 49) rfl rfl Try.func177 (by kernel_rfl) rfl #[.slice a7 aB.length a8] rfl lu ?_; (with_reducible refine (nat_Trim.calls k _ _ aB av _ ?side1 ?side2 bq.out).mono ?_); (case side1 => exact cu (Kd.V_reads' ah.out).2.2); (case side2 => exact (Kd.V_reads' ah.out).2.1); rintro e bP ⟨bx, rfl, ad, hb⟩; refine ⟨_, rfl, ?_⟩; replace ad := R_V_base rfl ad; replace af := kv af hb; replace ag := kv ag hb; replace aa := kv aa hb; replace ab := kv ab hb; replace ah := kv ah hb; replace ai := kv ai hb; have an := ar0 w.heap.size (ok' := fun k_ => ((P0_ k_ ∨ P1_ k_) ∨ w.heap.size ≤ k_)) ad (fz HB); replace HB := be HB hb; (try clear hb); (try clear ad); obtain ⟨ba, bb, bd⟩ := Kd.V_slice ai.out; subst bd) | ((with_reducible refine gate_callee (f := 177) rfl ?_); refine goesL_ (some 51) rfl rfl Try.func177 (by kernel_rfl) rfl #[.slice ba aC.length bb] rfl lu ?_; (with_reducible refine (nat_Trim.calls k _ _ aC aw _ ?side1 ?side2 br.out).mono ?_); (case side1 => exact cu (Kd.V_reads' ai.out).2.2); (case side2 => exact (Kd.V_reads' ai.out).2.1); rintro e bQ ⟨bz, rfl, ad, hb⟩; refine ⟨_, rfl, ?_⟩; replace ad := R_V_base rfl ad; replace af := kv af hb; replace ag := kv ag hb; replace aa := kv aa hb; replace ab := kv ab hb; replace ah := kv ah hb; replace ai := kv ai hb; replace an := kv an hb; have aR := ar0 w.heap.size (ok' := fun k_ => ((P0_ k_ ∨ P1_ k_) ∨ w.heap.size ≤ k_)) ad (fz HB); replace HB := be HB hb; (try clear hb); (try clear ad)))
    go_ret3
    exact ⟨_, _, by first | rfl | (simp [errW_none, errW_some] <;> rfl) | (simp [*, errW_none, errW_some] <;> rfl), by (with_reducible repeat (first | apply Kd.V_alloc | apply Kd.V_drewN | apply Kd.V_drew)); exact an.out, by (with_reducible repeat (first | apply Kd.V_alloc | apply Kd.V_drewN | apply Kd.V_drew)); exact aR.out, by repeat (first | (with_reducible first | exact HB.out | apply below_alloc | apply pw_below_drewN | apply below_drew1) | exact HB.out)⟩
def nat_Gcd.l0 : Nat → List Int → List Int → Option (List Int)
 | 0, _, _ => none
 | k + 1, x0, x1 => if (x1.length : Int) > 0 then ((nat_DivMod.f k x0 x1).bind fun bt1002 => (nat_Gcd.l0 k x1 bt1002.2.1)) else ((nat_Trim.f k x0).bind fun t1009 => (some t1009))
def nat_Gcd.f (k : Nat) (l0 : List Int) (l1 : List Int) : Option (List Int) := (nat_short.f k l0).bind fun t996 => ((nat_short.f k l1).bind fun t999 => (nat_Gcd.l0 k t996 t999))
theorem nat_Gcd.calls (k : Nat) (A0 : Option Addr) (c0 : Nat) (l0 : List Int) (A1 : Option Addr) (c1 : Nat) (l1 : List Int) (r : List Int) (w : World) (hr0 : Kd.C (Kd.int .u32) w A0 l0.length l0) (hc0 : l0.length ≤ c0) (hr1 : Kd.C (Kd.int .u32) w A1 l1.length l1) (hc1 : l1.length ≤ c1) (h : nat_Gcd.f k l0 l1 = some r) :
 Calls Try.prog 182 #[.slice A0 l0.length c0, .slice A1 l1.length c1] w fun e w' => ∃ v0_ : Value, e = .returned (v0_) ∧ Kd.R (Kd.int .u32) 48 w' w.heap.size (fun _ => True) v0_ r ∧ Below w.heap.size w w' := by
 have aI := am hr0
 have aJ := am hc0
 clear hr0 hc0
 have aK := am hr1
 have aL := am hc1
 clear hr1 hc1
 have HB := am (Below.refl w.heap.size w)
 have H : ((nat_short.f k l0).bind fun af => ((nat_short.f k l1).bind fun ag => (nat_Gcd.l0 k af ag))) = some r := h
 clear h
 obtain ⟨af, A3, H⟩ := bs H
 (try dsimp -simprocs only at H)
 obtain ⟨ag, A4, H⟩ := bs H
 replace H : (nat_Gcd.l0 k af ag) = some r := H
 have H' := am H
 clear H
 go_enter Try.func182, Try.ntmps182
 go_wp2_with (first | ((with_reducible refine gate_callee (f := 179) rfl ?_); refine goesL_ (some 9) rfl rfl Try.func179 (by kernel_rfl) rfl #[.slice A0 l0.length c0] rfl lu ?_; (with_reducible refine (nat_short.calls k (fun k_ => k_ < w.heap.size) _ _ l0 af _ ?side1 A3.out).mono ?_); (case side1 => exact Kd.V_mk aJ.out (Kd.F_below (Kd.C_F (Kd.heap_int .u32) aI.out) (bu HB.out))); rintro e w5 ⟨aM, rfl, ae, hb⟩; refine ⟨_, rfl, ?_⟩; have ah := am (Kd.V_lower (Kd.V_mono (ok' := fun k_ => True) ae (fun k_ hk_ => trivial)) (below_size (bu HB.out))); replace HB := be HB hb; (try clear hb); (try clear ae)) | ((with_reducible refine gate_callee (f := 179) rfl ?_); refine goesL_ (some 11) rfl rfl Try.func179 (by kernel_rfl) rfl #[.slice A1 l1.length c1] rfl lu ?_; (with_reducible refine (nat_short.calls k (fun k_ => k_ < w.heap.size) _ _ l1 ag _ ?side1 A4.out).mono ?_); (case side1 => exact Kd.V_mk aL.out (Kd.F_below (Kd.C_F (Kd.heap_int .u32) aK.out) (bu HB.out))); rintro e w6 ⟨aD, rfl, ae, hb⟩; refine ⟨_, rfl, ?_⟩; replace ah := kv ah hb; have ak := am (Kd.V_lower (Kd.V_mono (ok' := fun k_ => True) ae (fun k_ hk_ => trivial)) (below_size (bu HB.out))); replace HB := be HB hb; (try clear hb); (try clear ae)))
 go_loopg [0, 1] k (fun kq v0 v1 w' => ∃ (ad : List Int) (aa : List Int), Aside0 (nat_Gcd.l0 kq ad aa = some r) ∧ Aside0 (kq ≤ k) ∧ Aside0 (Kd.V (Kd.int .u32) 48 w' w.heap.size (fun _ => True) v0 ad) ∧ Aside0 (Kd.V (Kd.int .u32) 48 w' w.heap.size (fun _ => True) v1 aa) ∧ Aside0 (Below w.heap.size w w'))
 case atStart => exact ⟨(af), (ag), H', ⟨Nat.le_refl _⟩, ⟨by (with_reducible repeat (first | apply Kd.V_alloc | apply Kd.V_drewN | apply Kd.V_drew)); exact ah.out⟩, ⟨by (with_reducible repeat (first | apply Kd.V_alloc | apply Kd.V_drewN | apply Kd.V_drew)); exact ak.out⟩, ⟨by repeat (first | (with_reducible first | exact HB.out | apply below_alloc | apply pw_below_drewN | apply below_drew1) | exact HB.out)⟩⟩
 case round =>
  clear H'
  try clear c1
  try clear p2
  obtain ⟨ad, aa, HA, HK1, ab, ac, HB⟩ := hrel
  cases gk with
  | zero => exact absurd HA.out (by simp [nat_Gcd.l0])
  | succ k1 =>
   have H := HA.out
   clear HA
   simp only [nat_Gcd.l0] at H
   by_cases c7 : (aa.length : Int) > 0
   ·
    rw [if_pos c7] at H
    have aq : decide (0 < (aa.length : Int)) = true := decide_eq_true c7
    have au : decide (0 < aa.length) = true := decide_eq_true (by omega)
    clear c7
    obtain ⟨⟨ao, ai, ap⟩, A8, H⟩ := bs H
    replace H : (nat_Gcd.l0 k1 aa ai) = some r := H
    have H' := am H
    clear H
    obtain ⟨aN, aO, aP⟩ := Kd.V_slice ac.out
    subst aP
    obtain ⟨av, aw, ax⟩ := Kd.V_slice ab.out
    subst ax
    go_wp2_with (first | ((with_reducible refine gate_callee (f := 167) rfl ?_); refine goesL_ (some 18) rfl rfl Try.func167 (by kernel_rfl) rfl #[.slice av ad.length aw, .slice aN aa.length aO] rfl lu ?_; (with_reducible refine (nat_DivMod.calls k1 (fun k_ => True) _ _ ad (fun k_ => True) _ _ aa ao ai ap _ ?side1 ?side2 A8.out).mono ?_); (case side1 => exact vz ab.out); (case side2 => exact vz ac.out); rintro e aT ⟨aE, aF, rfl, ae, aG, hb⟩; refine ⟨_, rfl, ?_⟩; replace ab := kv ab hb; replace ac := kv ac hb; have ay := am (Kd.V_lower (Kd.V_mono (ok' := fun k_ => True) ae (fun k_ hk_ => trivial)) (below_size (bu HB.out))); have al := am (Kd.V_lower (Kd.V_mono (ok' := fun k_ => True) aG (fun k_ hk_ => trivial)) (below_size (bu HB.out))); replace HB := be HB hb; (try clear hb); (try clear ae); (try clear aG)))
    go_roundg k1
    case measure => have := HK1.out; omega
    case rel => exact ⟨(aa), (ai), H', ⟨by have := HK1.out; omega⟩, ⟨by (with_reducible repeat (first | apply Kd.V_alloc | apply Kd.V_drewN | apply Kd.V_drew)); exact ac.out⟩, ⟨by (with_reducible repeat (first | apply Kd.V_alloc | apply Kd.V_drewN | apply Kd.V_drew)); exact al.out⟩, ⟨by repeat (first | (with_reducible first | exact HB.out | apply below_alloc | apply pw_below_drewN | apply below_drew1) | exact HB.out)⟩⟩
   ·
    rw [if_neg c7] at H
    have aq : decide (0 < (aa.length : Int)) = false := decide_eq_false c7
    have au : decide (0 < aa.length) = false := decide_eq_false (by omega)
    clear c7
    obtain ⟨aj, aQ, H⟩ := bs H
    replace H : (some aj) = some r := H
    obtain rfl := Option.some.inj H
    obtain ⟨aR, aS, az⟩ := Kd.V_slice ac.out
    subst az
    obtain ⟨aA, aB, aC⟩ := Kd.V_slice ab.out
    subst aC
    go_wp2_with (first | ((with_reducible refine gate_callee (f := 177) rfl ?_); refine goesL_ (some 25) rfl rfl Try.func177 (by kernel_rfl) rfl #[.slice aA ad.length aB] rfl lu ?_; (with_reducible refine (nat_Trim.calls k1 _ _ ad aj _ ?side1 ?side2 aQ.out).mono ?_); (case side1 => exact cu (Kd.V_reads' ab.out).2.2); (case side2 => exact (Kd.V_reads' ab.out).2.1); rintro e aU ⟨aH, rfl, ae, hb⟩; refine ⟨_, rfl, ?_⟩; replace ab := am (Kd.V_elder' (vu ab.out) (Kd.R_base ae) hb); replace ac := am (Kd.V_elder' (vu ac.out) (Kd.R_base ae) hb); have an := am (Kd.R_lower ae (below_size (bu HB.out))); replace HB := be HB hb; (try clear hb); (try clear ae)))
    go_ret
    exact ⟨_, by first | rfl | (simp [errW_none, errW_some] <;> rfl) | (simp [*, errW_none, errW_some] <;> rfl), by (with_reducible repeat (first | apply Kd.R_alloc | apply Kd.R_drewN | apply Kd.R_drew)); exact an.out, by repeat (first | (with_reducible first | exact HB.out | apply below_alloc | apply pw_below_drewN | apply below_drew1) | exact HB.out)⟩
def rational_canonical.j0 : Nat → Bool → List Int → List Int → Bool → Option (Bool × List Int × List Int)
 | 0, _, _, _, _ => none
 | k + 1, x0, x1, x2, x15 => if x15 = true then ((rational_one.f).bind fun t1015 => (some (false, ([] : List Int), t1015))) else ((nat_Gcd.f k x1 x2).bind fun t1018 => ((nat_DivMod.f k x1 t1018).bind fun bt1021 => ((nat_DivMod.f k x2 t1018).bind fun bt1028 => (some (x0, bt1021.1, bt1028.1)))))
def rational_canonical.f (k : Nat) (a0 : Bool) (l1 : List Int) (l2 : List Int) : Option (Bool × List Int × List Int) := (nat_Bits.f k l1).bind fun t1013 => (if t1013 = 0 then (rational_canonical.j0 k a0 l1 l2 true) else ((nat_Bits.f k l2).bind fun t1014 => (rational_canonical.j0 k a0 l1 l2 (t1014 == 0))))
theorem rational_canonical.calls (k : Nat) (a0 : Bool) (P1_ : Nat → Prop) (A1 : Option Addr) (c1 : Nat) (l1 : List Int) (P2_ : Nat → Prop) (A2 : Option Addr) (c2 : Nat) (l2 : List Int) (r1 : Bool) (r2 : List Int) (r3 : List Int) (w : World) (hs1 : Kd.V (Kd.int .u32) 48 w w.heap.size (fun k_ => P1_ k_) (.slice A1 l1.length c1) l1) (hs2 : Kd.V (Kd.int .u32) 48 w w.heap.size (fun k_ => P2_ k_) (.slice A2 l2.length c2) l2) (h : rational_canonical.f k a0 l1 l2 = some (r1, r2, r3)) :
 Calls Try.prog 155 #[.bool a0, .slice A1 l1.length c1, .slice A2 l2.length c2] w fun e w' => ∃ v1_ v2_ : Value, e = .returned (.agg #[.bool r1, v1_, v2_]) ∧ Kd.V (Kd.int .u32) 48 w' w.heap.size (fun k_ => ((P1_ k_ ∨ P2_ k_) ∨ w.heap.size ≤ k_)) v1_ r2 ∧ Kd.V (Kd.int .u32) 48 w' w.heap.size (fun k_ => ((P1_ k_ ∨ P2_ k_) ∨ w.heap.size ≤ k_)) v2_ r3 ∧ Below w.heap.size w w' := by
 have bi := Try.underlying67
 have al := am (show Kd.V (Kd.int .u32) 48 w w.heap.size (fun k_ => ((P1_ k_ ∨ P2_ k_) ∨ w.heap.size ≤ k_)) (.slice A1 l1.length c1) l1 from Kd.V_mono hs1 (fun k_ hk => .inl (.inl hk)))
 have aq := am (show Kd.V (Kd.int .u32) 48 w w.heap.size (fun k_ => ((P1_ k_ ∨ P2_ k_) ∨ w.heap.size ≤ k_)) (.slice A2 l2.length c2) l2 from Kd.V_mono hs2 (fun k_ hk => .inl (.inr hk)))
 have HB := am (Below.refl w.heap.size w)
 have H : ((nat_Bits.f k l1).bind fun ae => (if ae = 0 then (rational_canonical.j0 k a0 l1 l2 true) else ((nat_Bits.f k l2).bind fun aj => (rational_canonical.j0 k a0 l1 l2 (aj == 0))))) = some (r1, r2, r3) := h
 clear h
 have aW := am H
 clear H
 go_enter Try.func155, Try.ntmps155
 go_upto_region 1 with (first | ((with_reducible refine gate_dst (N := 6) rfl ?_); refine box_event ?hg (N := 6) ?hd (cs := #[.bool false, .slice none 0 0, .slice none 0 0]) (t := 67) ?hr ?_; (case hd => rfl); (case hg => rfl); (case hr => first | (go_simp; done) | (go_simp; rfl)); intro ac hg w5 hbox hb; replace al := ke al hg hb; replace aq := ke aq hg hb; have aa := am (hbox); have aX := ng hg (bu HB.out); have ab := ng hg (bu HB.out); replace HB := be HB hb; clear hb hbox hg))
 (try simp only [Act.put, List.setIfInBounds_toArray, List.set_cons_zero, List.set_cons_succ])
 go_cut [15] (fun bj wc => ∃ (kq : Nat) (an : Bool), bj = .bool an ∧ Aside0 (rational_canonical.j0 kq a0 l1 l2 an = some (r1, r2, r3)) ∧ Aside0 (kq ≤ k) ∧ Aside0 (Kd.V (Kd.int .u32) 48 wc w.heap.size (fun k_ => ((P1_ k_ ∨ P2_ k_) ∨ w.heap.size ≤ k_) ∧ k_ ≠ ac) (.slice A1 l1.length c1) l1) ∧ Aside0 (Kd.V (Kd.int .u32) 48 wc w.heap.size (fun k_ => ((P1_ k_ ∨ P2_ k_) ∨ w.heap.size ≤ k_) ∧ k_ ≠ ac) (.slice A2 l2.length c2) l2) ∧ Aside0 (wc.heap[ac]? = some (.cells #[.bool false, (.slice none 0 0), (.slice none 0 0)] 67 (0, 0))) ∧ Aside0 (Below w.heap.size w wc))
 case first =>
  have H := aW.out
  clear aW
  obtain ⟨ae, A6, H⟩ := bs H
  (try dsimp -simprocs only at H)
  by_cases c7 : ae = 0
  ·
   rw [if_pos c7] at H
   have ap : (ae == 0) = true := beq_iff_eq.mpr c7
   have ax : (ae != 0) = false := bne_eq_false_iff_eq.mpr c7
   clear c7
   (first | rw [ap] | rw [ax] | (simp only [i64_w, i32_w]; rw [ap]) | skip)
   have H' := am H
   clear H
   go_wp2_with (first | ((with_reducible refine gate_callee (f := 154) rfl ?_); refine goesL_ (some 9) rfl rfl Try.func154 (by kernel_rfl) rfl #[.slice A1 l1.length c1] rfl lu ?_; (with_reducible refine (nat_Bits.calls k _ _ l1 ae _ ?side1 ?side2 A6.out).mono ?_); (case side1 => exact cu (Kd.V_reads' al.out).2.2); (case side2 => exact (Kd.V_reads' al.out).2.1); rintro e w8 ⟨rfl, hb⟩; refine ⟨_, rfl, ?_⟩; replace al := kv al hb; replace aq := kv aq hb; replace aa := kb aa hb; replace HB := be1 HB ab hb; (try clear hb)))
   go_meet
   case rel => exact ⟨_, (true), (by first | rfl | (simp; done) | (simp [*]; done)), H', ⟨by first | omega | exact Nat.le_refl _⟩, ⟨by (with_reducible repeat (first | apply Kd.V_alloc | apply Kd.V_drewN | apply Kd.V_drew)); exact al.out⟩, ⟨by (with_reducible repeat (first | apply Kd.V_alloc | apply Kd.V_drewN | apply Kd.V_drew)); exact aq.out⟩, ⟨by (with_reducible repeat (first | refine blk_drewN ?_ _ | refine blk_drew ?_ | refine blk_alloc ?_ _)); exact aa.out⟩, ⟨by repeat (first | (with_reducible first | exact HB.out | apply below_alloc | apply pw_below_drewN | apply below_drew1 | refine below_set ?_ ab.out) | exact HB.out)⟩⟩
  ·
   rw [if_neg c7] at H
   have ap : (ae == 0) = false := beq_eq_false_iff_ne.mpr c7
   have ax : (ae != 0) = true := bne_iff_ne.mpr c7
   (first | rw [ap] | rw [ax] | (simp only [i64_w, i32_w]; rw [ap]) | skip)
   obtain ⟨aj, A9, H⟩ := bs H
   (try dsimp -simprocs only at H)
   have H' := am H
   clear H
   go_wp2_with (first | ((with_reducible refine gate_callee (f := 154) rfl ?_); refine goesL_ (some 9) rfl rfl Try.func154 (by kernel_rfl) rfl #[.slice A1 l1.length c1] rfl lu ?_; (with_reducible refine (nat_Bits.calls k _ _ l1 ae _ ?side1 ?side2 A6.out).mono ?_); (case side1 => exact cu (Kd.V_reads' al.out).2.2); (case side2 => exact (Kd.V_reads' al.out).2.1); rintro e bo ⟨rfl, hb⟩; refine ⟨_, rfl, ?_⟩; replace al := kv al hb; replace aq := kv aq hb; replace aa := kb aa hb; replace HB := be1 HB ab hb; (try clear hb)) | (go_at_call 154; (with_reducible refine (nat_Bits.calls k _ _ l2 aj _ ?side1 ?side2 A9.out).mono ?_); (case side1 => exact cu (Kd.V_reads' aq.out).2.2); (case side2 => exact (Kd.V_reads' aq.out).2.1); rintro e bp ⟨rfl, hb⟩; replace al := kv al hb; replace aq := kv aq hb; replace aa := kb aa hb; replace HB := be1 HB ab hb; (try clear hb)))
   go_meet
   case rel => exact ⟨_, ((aj == 0)), (by first | rfl | (simp; done) | (simp [*]; done) | (cases aj <;> first | rfl | (simp; done))), H', ⟨by first | omega | exact Nat.le_refl _⟩, ⟨by (with_reducible repeat (first | apply Kd.V_alloc | apply Kd.V_drewN | apply Kd.V_drew)); exact al.out⟩, ⟨by (with_reducible repeat (first | apply Kd.V_alloc | apply Kd.V_drewN | apply Kd.V_drew)); exact aq.out⟩, ⟨by (with_reducible repeat (first | refine blk_drewN ?_ _ | refine blk_drew ?_ | refine blk_alloc ?_ _)); exact aa.out⟩, ⟨by repeat (first | (with_reducible first | exact HB.out | apply below_alloc | apply pw_below_drewN | apply below_drew1 | refine below_set ?_ ab.out) | exact HB.out)⟩⟩
 case rest =>
  clear aW
  try clear c1
  try clear c2
  try clear p2
  try clear c7
  try clear ap
  try clear ax
  obtain ⟨kq, an, rfl, HA, HJ3, ag, ah, aa, HB⟩ := hcut
  cases kq with
  | zero => exact absurd HA.out (by simp [rational_canonical.j0])
  | succ kj3 =>
   have H := HA.out
   clear HA
   simp only [rational_canonical.j0] at H
   by_cases aJ : an = true
   ·
    subst aJ
    have H1 : ((rational_one.f).bind fun ao => (some (false, ([] : List Int), ao))) = some (r1, r2, r3) := by rw [if_pos rfl] at H; exact H
    clear H
    have H := H1
    clear H1
    obtain ⟨ao, bk, H⟩ := bs H
    (try dsimp -simprocs only at H)
    simp only [Option.some.injEq, Prod.mk.injEq] at H
    obtain ⟨rfl, rfl, rfl⟩ := H
    go_wp2_with (first | ((with_reducible refine gate_callee (f := 161) rfl ?_); refine goesL_ (some 16) rfl rfl Try.func161 (by kernel_rfl) rfl #[] rfl lu ?_; (with_reducible refine (rational_one.calls  ao _ bk.out).mono ?_); rintro e bq ⟨ba, rfl, ak, hb⟩; refine ⟨_, rfl, ?_⟩; replace ak := R_V_base rfl ak; replace ag := kv ag hb; replace ah := kv ah hb; have au := ar0 w.heap.size (ok' := fun k_ => ((P1_ k_ ∨ P2_ k_) ∨ w.heap.size ≤ k_) ∧ k_ ≠ ac) ak (fa (fz1 HB ab) (fb aa)); replace aa := kb aa hb; replace HB := be1 HB ab hb; (try clear hb); (try clear ak); obtain ⟨aY, aZ, a1⟩ := Kd.V_slice au.out; subst a1; obtain ⟨aK, aL, aM, aN, aO, aP⟩ := bz aa))
    refine bodyPost_ret (results_cell_row rfl _ _ ac 67 #[.bool false, .slice none 0 0, .slice aY ao.length aZ] (0, 0) _ rfl (kp aa.out) Try.underlying67 rfl (by kernel_rfl)) rfl ?_
    exact ⟨_, _, by first | rfl | (simp [errW_none, errW_some] <;> rfl) | (simp [*, errW_none, errW_some] <;> rfl), Kd.V_nil _ _ _ _ _, by exact vf au.out, by repeat (first | (with_reducible first | exact HB.out | apply below_alloc | apply pw_below_drewN | apply below_drew1 | refine below_set ?_ ab.out) | exact HB.out)⟩
   ·
    replace aJ := Bool.eq_false_iff.mpr aJ
    subst aJ
    have H1 : ((nat_Gcd.f kj3 l1 l2).bind fun af => ((nat_DivMod.f kj3 l1 af).bind fun aA => ((nat_DivMod.f kj3 l2 af).bind fun aB => (some (a0, aA.1, aB.1))))) = some (r1, r2, r3) := by rw [if_neg (show ¬ (false = true) by decide)] at H; exact H
    clear H
    have H := H1
    clear H1
    obtain ⟨af, bl, H⟩ := bs H
    (try dsimp -simprocs only at H)
    obtain ⟨⟨ay, aC, aD⟩, bm, H⟩ := bs H
    (try dsimp -simprocs only at H)
    obtain ⟨⟨az, aE, aF⟩, bn, H⟩ := bs H
    (try dsimp -simprocs only at H)
    simp only [Option.some.injEq, Prod.mk.injEq] at H
    obtain ⟨rfl, rfl, rfl⟩ := H
    go_wp2_with (first | ((with_reducible refine gate_callee (f := 182) rfl ?_); refine goesL_ (some 20) rfl rfl Try.func182 (by kernel_rfl) rfl #[.slice A1 l1.length c1, .slice A2 l2.length c2] rfl lu ?_; (with_reducible refine (nat_Gcd.calls kj3 _ _ l1 _ _ l2 af _ ?side1 ?side2 ?side3 ?side4 bl.out).mono ?_); (case side1 => exact cu (Kd.V_reads' ag.out).2.2); (case side2 => exact (Kd.V_reads' ag.out).2.1); (case side3 => exact cu (Kd.V_reads' ah.out).2.2); (case side4 => exact (Kd.V_reads' ah.out).2.1); rintro e br ⟨bb, rfl, ak, hb⟩; refine ⟨_, rfl, ?_⟩; replace ak := R_V_base rfl ak; replace ag := kv ag hb; replace ah := kv ah hb; have ad := ar0 w.heap.size (ok' := fun k_ => ((P1_ k_ ∨ P2_ k_) ∨ w.heap.size ≤ k_) ∧ k_ ≠ ac) ak (fa (fz1 HB ab) (fb aa)); replace aa := kb aa hb; replace HB := be1 HB ab hb; (try clear hb); (try clear ak); obtain ⟨aG, aH, a2⟩ := Kd.V_slice ad.out; subst a2) | ((with_reducible refine gate_callee (f := 167) rfl ?_); refine goesL_ (some 24) rfl rfl Try.func167 (by kernel_rfl) rfl #[.slice A1 l1.length c1, .slice aG af.length aH] rfl lu ?_; (with_reducible refine (nat_DivMod.calls kj3 (fun k_ => (((P1_ k_ ∨ P2_ k_) ∨ w.heap.size ≤ k_) ∧ k_ ≠ ac)) _ _ l1 (fun k_ => (((P1_ k_ ∨ P2_ k_) ∨ w.heap.size ≤ k_) ∧ k_ ≠ ac)) _ _ af ay aC aD _ ?side1 ?side2 bm.out).mono ?_); (case side1 => exact vz ag.out); (case side2 => exact vz ad.out); rintro e bv ⟨bd, bf, rfl, ak, aI, hb⟩; refine ⟨_, rfl, ?_⟩; replace ag := kv ag hb; replace ah := kv ah hb; replace ad := kv ad hb; have ai := ar w.heap.size (ok' := fun k_ => ((P1_ k_ ∨ P2_ k_) ∨ w.heap.size ≤ k_) ∧ k_ ≠ ac) ak (fa (fz1 HB ab) (fb aa)); have av := ar w.heap.size (ok' := fun k_ => ((P1_ k_ ∨ P2_ k_) ∨ w.heap.size ≤ k_) ∧ k_ ≠ ac) aI (fa (fz1 HB ab) (fb aa)); replace aa := kb aa hb; replace HB := be1 HB ab hb; (try clear hb); (try clear ak); (try clear aI)) | ((with_reducible refine gate_callee (f := 167) rfl ?_); refine goesL_ (some 31) rfl rfl Try.func167 (by kernel_rfl) rfl #[.slice A2 l2.length c2, .slice aG af.length aH] rfl lu ?_; (with_reducible refine (nat_DivMod.calls kj3 (fun k_ => (((P1_ k_ ∨ P2_ k_) ∨ w.heap.size ≤ k_) ∧ k_ ≠ ac)) _ _ l2 (fun k_ => (((P1_ k_ ∨ P2_ k_) ∨ w.heap.size ≤ k_) ∧ k_ ≠ ac)) _ _ af az aE aF _ ?side1 ?side2 bn.out).mono ?_); (case side1 => exact vz ah.out); (case side2 => exact vz ad.out); rintro e bw ⟨bg, bh, rfl, ak, aI, hb⟩; refine ⟨_, rfl, ?_⟩; replace ag := kv ag hb; replace ah := kv ah hb; replace ad := kv ad hb; replace ai := kv ai hb; replace av := kv av hb; have aw := ar w.heap.size (ok' := fun k_ => ((P1_ k_ ∨ P2_ k_) ∨ w.heap.size ≤ k_) ∧ k_ ≠ ac) ak (fa (fz1 HB ab) (fb aa)); have a3 := ar w.heap.size (ok' := fun k_ => ((P1_ k_ ∨ P2_ k_) ∨ w.heap.size ≤ k_) ∧ k_ ≠ ac) aI (fa (fz1 HB ab) (fb aa)); replace aa := kb aa hb; replace HB := be1 HB ab hb; (try clear hb); (try clear ak); (try clear aI); obtain ⟨a4, a5, a6⟩ := Kd.V_slice aw.out; subst a6; obtain ⟨a7, a8, a9⟩ := Kd.V_slice ai.out; subst a9; obtain ⟨aQ, aR, aS, aT, aU, aV⟩ := bz aa))
    refine bodyPost_ret (results_cell_row rfl _ _ ac 67 #[.bool a0, .slice a7 ay.length a8, .slice a4 az.length a5] (0, 0) _ rfl (kp aa.out) Try.underlying67 rfl (by kernel_rfl)) rfl ?_
    exact ⟨_, _, by first | rfl | (simp [errW_none, errW_some] <;> rfl) | (simp [*, errW_none, errW_some] <;> rfl), by exact vf ai.out, by exact vf aw.out, by repeat (first | (with_reducible first | exact HB.out | apply below_alloc | apply pw_below_drewN | apply below_drew1 | refine below_set ?_ ab.out) | exact HB.out)⟩
def rational_Trim.f (k : Nat) (a0_0 : Bool) (l0_1 : List Int) (l0_2 : List Int) : Option (Bool × List Int × List Int) := (rational_canonical.f k a0_0 l0_1 l0_2).bind fun bt1256 => (some (bt1256.1, bt1256.2.1, bt1256.2.2))
theorem rational_Trim.calls (k : Nat) (a0_0 : Bool) (P0_1_ : Nat → Prop) (A0_1 : Option Addr) (c0_1 : Nat) (l0_1 : List Int) (P0_2_ : Nat → Prop) (A0_2 : Option Addr) (c0_2 : Nat) (l0_2 : List Int) (r1 : Bool) (r2 : List Int) (r3 : List Int) (w : World) (hs0_1 : Kd.V (Kd.int .u32) 48 w w.heap.size (fun k_ => P0_1_ k_) (.slice A0_1 l0_1.length c0_1) l0_1) (hs0_2 : Kd.V (Kd.int .u32) 48 w w.heap.size (fun k_ => P0_2_ k_) (.slice A0_2 l0_2.length c0_2) l0_2) (h : rational_Trim.f k a0_0 l0_1 l0_2 = some (r1, r2, r3)) :
 Calls Try.prog 87 #[.agg #[.bool a0_0, .slice A0_1 l0_1.length c0_1, .slice A0_2 l0_2.length c0_2]] w fun e w' => ∃ v1_ v2_ : Value, e = .returned (.agg #[.bool r1, v1_, v2_]) ∧ Kd.V (Kd.int .u32) 48 w' w.heap.size (fun k_ => ((P0_1_ k_ ∨ P0_2_ k_) ∨ w.heap.size ≤ k_)) v1_ r2 ∧ Kd.V (Kd.int .u32) 48 w' w.heap.size (fun k_ => ((P0_1_ k_ ∨ P0_2_ k_) ∨ w.heap.size ≤ k_)) v2_ r3 ∧ Below w.heap.size w w' := by
 have aP := Try.underlying67
 have ad := am (show Kd.V (Kd.int .u32) 48 w w.heap.size (fun k_ => ((P0_1_ k_ ∨ P0_2_ k_) ∨ w.heap.size ≤ k_)) (.slice A0_1 l0_1.length c0_1) l0_1 from Kd.V_mono hs0_1 (fun k_ hk => .inl (.inl hk)))
 have ae := am (show Kd.V (Kd.int .u32) 48 w w.heap.size (fun k_ => ((P0_1_ k_ ∨ P0_2_ k_) ∨ w.heap.size ≤ k_)) (.slice A0_2 l0_2.length c0_2) l0_2 from Kd.V_mono hs0_2 (fun k_ hk => .inl (.inr hk)))
 have HB := am (Below.refl w.heap.size w)
 have H : ((rational_canonical.f k a0_0 l0_1 l0_2).bind fun ak => (some (ak.1, ak.2.1, ak.2.2))) = some (r1, r2, r3) := h
 clear h
 obtain ⟨⟨ao, ap, aq⟩, A2, H⟩ := bs H
 (try dsimp -simprocs only at H)
 simp only [Option.some.injEq, Prod.mk.injEq] at H
 obtain ⟨rfl, rfl, rfl⟩ := H
 go_enter Try.func87, Try.ntmps87
 go_wp2_with (first | ((with_reducible refine gate_dst (N := 1) rfl ?_); refine box_event ?hg (N := 1) ?hd (cs := #[.bool a0_0, .slice A0_1 l0_1.length c0_1, .slice A0_2 l0_2.length c0_2]) (t := 67) ?hr ?_; (case hd => rfl); (case hg => rfl); (case hr => first | (go_simp; done) | (go_simp; rfl)); intro ag hg w3 hbox hb; replace ad := ke ad hg hb; replace ae := ke ae hg hb; have aa := am (hbox); have au := ng hg (bu HB.out); have ab := ng hg (bu HB.out); replace HB := be HB hb; clear hb hbox hg) | ((with_reducible refine gate_dst (N := 2) rfl ?_); refine box_event ?hg (N := 2) ?hd (cs := #[.bool false, .slice none 0 0, .slice none 0 0]) (t := 67) ?hr ?_; (case hd => rfl); (case hg => rfl); (case hr => first | (go_simp; done) | (go_simp; rfl)); intro af hg w4 hbox hb; replace ad := ke ad hg hb; replace ae := ke ae hg hb; have ac := am (hbox); have av := ng hg (bu1 HB.out ab.out); have ah := ng hg (bu1 HB.out ab.out); replace HB := be1 HB ab hb; have ai := nl hg aa; have aj := nr hg aa; replace aa := kb aa hb; clear hb hbox hg; have aQ := ai.out; have aR := aj.out; obtain ⟨aw, ax, ay, az, aA, aB⟩ := bz aa) | ((with_reducible refine gate_callee (f := 155) rfl ?_); refine goesL_ (some 9) rfl rfl Try.func155 (by kernel_rfl) rfl #[.bool a0_0, .slice A0_1 l0_1.length c0_1, .slice A0_2 l0_2.length c0_2] rfl lu ?_; (with_reducible refine (rational_canonical.calls k a0_0 (fun k_ => ((((P0_1_ k_ ∨ P0_2_ k_) ∨ w.heap.size ≤ k_) ∧ k_ ≠ ag) ∧ k_ ≠ af)) _ _ l0_1 (fun k_ => ((((P0_1_ k_ ∨ P0_2_ k_) ∨ w.heap.size ≤ k_) ∧ k_ ≠ ag) ∧ k_ ≠ af)) _ _ l0_2 ao ap aq _ ?side1 ?side2 A2.out).mono ?_); (case side1 => exact vz ad.out); (case side2 => exact vz ae.out); rintro e w7 ⟨aL, aM, rfl, aN, aO, hb⟩; refine ⟨_, rfl, ?_⟩; replace ad := kv ad hb; replace ae := kv ae hb; have al := ar w.heap.size (ok' := fun k_ => ((P0_1_ k_ ∨ P0_2_ k_) ∨ w.heap.size ≤ k_) ∧ k_ ≠ ag ∧ k_ ≠ af) aN (fa (fz2 HB ab ah) (fa (fb aa) (fb ac))); have an := ar w.heap.size (ok' := fun k_ => ((P0_1_ k_ ∨ P0_2_ k_) ∨ w.heap.size ≤ k_) ∧ k_ ≠ ag ∧ k_ ≠ af) aO (fa (fz2 HB ab ah) (fa (fb aa) (fb ac))); replace aa := kb aa hb; replace ac := kb ac hb; replace HB := be2 HB ab ah hb; (try clear hb); (try clear aN); (try clear aO); obtain ⟨aC, aD, aE, aF, aG, aH⟩ := bz ac; obtain ⟨aS, aT, aU⟩ := Kd.V_slice al.out; subst aU; obtain ⟨aI, aJ, aK⟩ := Kd.V_slice an.out; subst aK))
 refine bodyPost_ret (results_cell_row rfl _ _ af 67 #[.bool ao, .slice aS ap.length aT, .slice aI aq.length aJ] (0, 0) _ rfl (kp ac.out) Try.underlying67 rfl (by kernel_rfl)) rfl ?_
 exact ⟨_, _, by first | rfl | (simp [errW_none, errW_some] <;> rfl) | (simp [*, errW_none, errW_some] <;> rfl), by exact vf al.out, by exact vf an.out, by repeat (first | (with_reducible first | exact HB.out | apply below_alloc | apply pw_below_drewN | apply below_drew1 | refine below_set ?_ ab.out | refine below_set ?_ ah.out) | exact HB.out)⟩
end Go.Proofs.Ytecfdemglbfnoaa.PT
end
