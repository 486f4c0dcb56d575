/- Walks and plain facts for the law SemiringCounts, several texts in one: each says above its theorems what it shows; no condition beyond those that each theorem names. -/
import Derived.Test.YtecfdemglbfnoaaMSemiringCountsB
namespace Go.Proofs.Ytecfdemglbfnoaa.PT
open Go.RowKit Go.Proofs.YtecfdemglbfnoaaW.PrintWords Go.Proofs.YtecfdemglbfnoaaW.PrintLast Go.Proofs.YtecfdemglbfnoaaW.PrintMore
attribute [local go_sem] max2_int min2_int max_two min_two max_three min_three max_four min_four   -- for this text's walks alone
set_option linter.unusedVariables false
set_option linter.unusedSimpArgs false

/-! ### codewrightlaw46_SemiringCounts: function 7 -/
mutual
def codewrightlaw46_SemiringCounts.j0 : Nat → List Int → List Int → List Int → Bool → Option (Bool)
 | 0, _, _, _, _ => none
 | k + 1, x0, x1, x2, x27 => if x27 = true then (none) else ((semiring_Counting_Add.f k x0 x1).bind fun t413 => ((codewrightref01_Add.f k x0 x1).bind fun t416 => ((codewrightref01_Same.f k t413 t416).bind fun t419 => (if t419 = true then ((semiring_Counting_Mul.f k x0 x1).bind fun t420 => ((codewrightref01_Mul.f k x0 x1).bind fun t423 => ((codewrightref01_Same.f k t420 t423).bind fun t426 => (codewrightlaw46_SemiringCounts.j1 k x0 x1 x2 (!t426))))) else (codewrightlaw46_SemiringCounts.j1 k x0 x1 x2 true)))))
def codewrightlaw46_SemiringCounts.j1 : Nat → List Int → List Int → List Int → Bool → Option (Bool)
 | 0, _, _, _, _ => none
 | k + 1, x0, x1, x2, x47 => if x47 = true then (none) else ((semiring_Counting_Same.f k x0 x1).bind fun t427 => ((codewrightref01_Cmp.f k x0 x1).bind fun t428 => (if (t427 != (t428 == 0)) = true then (codewrightlaw46_SemiringCounts.j2 k x0 x1 x2 true) else ((semiring_Counting_Zero.f k).bind fun t429 => ((semiring_Counting_Add.f k x0 t429).bind fun t432 => ((semiring_Counting_Same.f k t432 x0).bind fun t435 => (if t435 = true then ((semiring_Counting_One.f k).bind fun t436 => ((semiring_Counting_Mul.f k x0 t436).bind fun t439 => ((semiring_Counting_Same.f k t439 x0).bind fun t442 => (codewrightlaw46_SemiringCounts.j2 k x0 x1 x2 (!t442))))) else (codewrightlaw46_SemiringCounts.j2 k x0 x1 x2 true))))))))
def codewrightlaw46_SemiringCounts.j2 : Nat → List Int → List Int → List Int → Bool → Option (Bool)
 | 0, _, _, _, _ => none
 | k + 1, x0, x1, x2, x78 => if x78 = true then (none) else ((semiring_Counting_Add.f k x1 x2).bind fun t443 => ((semiring_Counting_Mul.f k x0 t443).bind fun t446 => ((semiring_Counting_Mul.f k x0 x1).bind fun t449 => ((semiring_Counting_Mul.f k x0 x2).bind fun t452 => ((semiring_Counting_Add.f k t449 t452).bind fun t455 => ((codewrightref01_Same.f k t446 t455).bind fun t458 => (if t458 = true then ((semiring_Counting_Add.f k x1 x2).bind fun t459 => ((semiring_Counting_Add.f k x0 t459).bind fun t462 => ((semiring_Counting_Add.f k x0 x1).bind fun t465 => ((semiring_Counting_Add.f k t465 x2).bind fun t468 => ((codewrightref01_Same.f k t462 t468).bind fun t471 => (if t471 = true then ((semiring_Counting_Mul.f k x1 x2).bind fun t472 => ((semiring_Counting_Mul.f k x0 t472).bind fun t475 => ((semiring_Counting_Mul.f k x0 x1).bind fun t478 => ((semiring_Counting_Mul.f k t478 x2).bind fun t481 => ((codewrightref01_Same.f k t475 t481).bind fun t484 => (some t484)))))) else (none))))))) else (none))))))))
end
def codewrightlaw46_SemiringCounts.f (k : Nat) (l0 : List Int) (l1 : List Int) (l2 : List Int) : Option (Bool) := (codewrightlaw46_short.f k (([(([l0, l1, l2] : List (List Int)))] : List (List (List Int))))).bind fun t400 => (if t400 = true then ((semiring_Counting_Zero.f k).bind fun t402 => ((codewrightref01_Same.f k t402 ([] : List Int)).bind fun t405 => (if t405 = true then ((semiring_Counting_One.f k).bind fun t406 => ((codewrightref01_Same.f k t406 (([1] : List Int))).bind fun t412 => (codewrightlaw46_SemiringCounts.j0 k l0 l1 l2 (!t412)))) else (codewrightlaw46_SemiringCounts.j0 k l0 l1 l2 true)))) else ((codewrightlaw46_alive.f).bind fun t401 => (some t401)))
theorem codewrightlaw46_SemiringCounts.mono_l : ∀ k, (∀ y0 y1 y2 y3, LeO (codewrightlaw46_SemiringCounts.j0 k y0 y1 y2 y3) (codewrightlaw46_SemiringCounts.j0 (k + 1) y0 y1 y2 y3)) ∧ (∀ y0 y1 y2 y3, LeO (codewrightlaw46_SemiringCounts.j1 k y0 y1 y2 y3) (codewrightlaw46_SemiringCounts.j1 (k + 1) y0 y1 y2 y3)) ∧ (∀ y0 y1 y2 y3, LeO (codewrightlaw46_SemiringCounts.j2 k y0 y1 y2 y3) (codewrightlaw46_SemiringCounts.j2 (k + 1) y0 y1 y2 y3))
 | 0 => ⟨fun _ _ _ _ r h => by simp [codewrightlaw46_SemiringCounts.j0] at h, fun _ _ _ _ r h => by simp [codewrightlaw46_SemiringCounts.j1] at h, fun _ _ _ _ r h => by simp [codewrightlaw46_SemiringCounts.j2] at h⟩
 | k + 1 => by
  obtain ⟨ih0, ih1, ih2⟩ := codewrightlaw46_SemiringCounts.mono_l k
  refine ⟨?_, ?_, ?_⟩
  ·
   intro y0 y1 y2 y3
   unfold codewrightlaw46_SemiringCounts.j0
   repeat' first
   | (with_reducible exact ih0 _ _ _ _)
   | (with_reducible exact ih1 _ _ _ _)
   | (with_reducible exact ih2 _ _ _ _)
   | (with_reducible exact codewrightlaw46_short.mono _ _)
   | (with_reducible exact codewrightref01_Add.mono _ _ _)
   | (with_reducible exact codewrightref01_Cmp.mono _ _ _)
   | (with_reducible exact codewrightref01_Mul.mono _ _ _)
   | (with_reducible exact codewrightref01_Same.mono _ _ _)
   | (with_reducible exact semiring_Counting_Add.mono _ _ _)
   | (with_reducible exact semiring_Counting_Mul.mono _ _ _)
   | (with_reducible exact semiring_Counting_One.mono _)
   | (with_reducible exact semiring_Counting_Same.mono _ _ _)
   | (with_reducible exact semiring_Counting_Zero.mono _)
   | (with_reducible exact LeO.refl _)
   | (with_reducible exact LeO.none _)
   | (with_reducible refine LeO.ite ?_ ?_)
   | (with_reducible refine LeO.bind ?_ (fun _ => ?_))
   | exact ih0 _ _ _ _
   | exact ih1 _ _ _ _
   | exact ih2 _ _ _ _
   | exact codewrightlaw46_short.mono _ _
   | exact codewrightref01_Add.mono _ _ _
   | exact codewrightref01_Cmp.mono _ _ _
   | exact codewrightref01_Mul.mono _ _ _
   | exact codewrightref01_Same.mono _ _ _
   | exact semiring_Counting_Add.mono _ _ _
   | exact semiring_Counting_Mul.mono _ _ _
   | exact semiring_Counting_One.mono _
   | exact semiring_Counting_Same.mono _ _ _
   | exact semiring_Counting_Zero.mono _
   | exact LeO.none _
   | refine LeO.ite ?_ ?_
   | refine LeO.bind ?_ (fun _ => ?_)
  ·
   intro y0 y1 y2 y3
   unfold codewrightlaw46_SemiringCounts.j1
   repeat' first
   | (with_reducible exact ih0 _ _ _ _)
   | (with_reducible exact ih1 _ _ _ _)
   | (with_reducible exact ih2 _ _ _ _)
   | (with_reducible exact codewrightlaw46_short.mono _ _)
   | (with_reducible exact codewrightref01_Add.mono _ _ _)
   | (with_reducible exact codewrightref01_Cmp.mono _ _ _)
   | (with_reducible exact codewrightref01_Mul.mono _ _ _)
   | (with_reducible exact codewrightref01_Same.mono _ _ _)
   | (with_reducible exact semiring_Counting_Add.mono _ _ _)
   | (with_reducible exact semiring_Counting_Mul.mono _ _ _)
   | (with_reducible exact semiring_Counting_One.mono _)
   | (with_reducible exact semiring_Counting_Same.mono _ _ _)
   | (with_reducible exact semiring_Counting_Zero.mono _)
   | (with_reducible exact LeO.refl _)
   | (with_reducible exact LeO.none _)
   | (with_reducible refine LeO.ite ?_ ?_)
   | (with_reducible refine LeO.bind ?_ (fun _ => ?_))
   | exact ih0 _ _ _ _
   | exact ih1 _ _ _ _
   | exact ih2 _ _ _ _
   | exact codewrightlaw46_short.mono _ _
   | exact codewrightref01_Add.mono _ _ _
   | exact codewrightref01_Cmp.mono _ _ _
   | exact codewrightref01_Mul.mono _ _ _
   | exact codewrightref01_Same.mono _ _ _
   | exact semiring_Counting_Add.mono _ _ _
   | exact semiring_Counting_Mul.mono _ _ _
   | exact semiring_Counting_One.mono _
   | exact semiring_Counting_Same.mono _ _ _
   | exact semiring_Counting_Zero.mono _
   | exact LeO.none _
   | refine LeO.ite ?_ ?_
   | refine LeO.bind ?_ (fun _ => ?_)
  ·
   intro y0 y1 y2 y3
   unfold codewrightlaw46_SemiringCounts.j2
   repeat' first
   | (with_reducible exact ih0 _ _ _ _)
   | (with_reducible exact ih1 _ _ _ _)
   | (with_reducible exact ih2 _ _ _ _)
   | (with_reducible exact codewrightlaw46_short.mono _ _)
   | (with_reducible exact codewrightref01_Add.mono _ _ _)
   | (with_reducible exact codewrightref01_Cmp.mono _ _ _)
   | (with_reducible exact codewrightref01_Mul.mono _ _ _)
   | (with_reducible exact codewrightref01_Same.mono _ _ _)
   | (with_reducible exact semiring_Counting_Add.mono _ _ _)
   | (with_reducible exact semiring_Counting_Mul.mono _ _ _)
   | (with_reducible exact semiring_Counting_One.mono _)
   | (with_reducible exact semiring_Counting_Same.mono _ _ _)
   | (with_reducible exact semiring_Counting_Zero.mono _)
   | (with_reducible exact LeO.refl _)
   | (with_reducible exact LeO.none _)
   | (with_reducible refine LeO.ite ?_ ?_)
   | (with_reducible refine LeO.bind ?_ (fun _ => ?_))
   | exact ih0 _ _ _ _
   | exact ih1 _ _ _ _
   | exact ih2 _ _ _ _
   | exact codewrightlaw46_short.mono _ _
   | exact codewrightref01_Add.mono _ _ _
   | exact codewrightref01_Cmp.mono _ _ _
   | exact codewrightref01_Mul.mono _ _ _
   | exact codewrightref01_Same.mono _ _ _
   | exact semiring_Counting_Add.mono _ _ _
   | exact semiring_Counting_Mul.mono _ _ _
   | exact semiring_Counting_One.mono _
   | exact semiring_Counting_Same.mono _ _ _
   | exact semiring_Counting_Zero.mono _
   | exact LeO.none _
   | refine LeO.ite ?_ ?_
   | refine LeO.bind ?_ (fun _ => ?_)
theorem codewrightlaw46_SemiringCounts.mono : ∀ a0 a1 a2 k, LeO (codewrightlaw46_SemiringCounts.f k a0 a1 a2) (codewrightlaw46_SemiringCounts.f (k + 1) a0 a1 a2) := by
 intro a0 a1 a2 k
 obtain ⟨ih0, ih1, ih2⟩ := codewrightlaw46_SemiringCounts.mono_l k
 unfold codewrightlaw46_SemiringCounts.f
 repeat' first
  | (with_reducible exact ih0 _ _ _ _)
  | (with_reducible exact ih1 _ _ _ _)
  | (with_reducible exact ih2 _ _ _ _)
  | (with_reducible exact codewrightlaw46_short.mono _ _)
  | (with_reducible exact codewrightref01_Add.mono _ _ _)
  | (with_reducible exact codewrightref01_Cmp.mono _ _ _)
  | (with_reducible exact codewrightref01_Mul.mono _ _ _)
  | (with_reducible exact codewrightref01_Same.mono _ _ _)
  | (with_reducible exact semiring_Counting_Add.mono _ _ _)
  | (with_reducible exact semiring_Counting_Mul.mono _ _ _)
  | (with_reducible exact semiring_Counting_One.mono _)
  | (with_reducible exact semiring_Counting_Same.mono _ _ _)
  | (with_reducible exact semiring_Counting_Zero.mono _)
  | (with_reducible exact LeO.refl _)
  | (with_reducible exact LeO.none _)
  | (with_reducible refine LeO.ite ?_ ?_)
  | (with_reducible refine LeO.bind ?_ (fun _ => ?_))
  | exact ih0 _ _ _ _
  | exact ih1 _ _ _ _
  | exact ih2 _ _ _ _
  | exact codewrightlaw46_short.mono _ _
  | exact codewrightref01_Add.mono _ _ _
  | exact codewrightref01_Cmp.mono _ _ _
  | exact codewrightref01_Mul.mono _ _ _
  | exact codewrightref01_Same.mono _ _ _
  | exact semiring_Counting_Add.mono _ _ _
  | exact semiring_Counting_Mul.mono _ _ _
  | exact semiring_Counting_One.mono _
  | exact semiring_Counting_Same.mono _ _ _
  | exact semiring_Counting_Zero.mono _
  | exact LeO.none _
  | refine LeO.ite ?_ ?_
  | refine LeO.bind ?_ (fun _ => ?_)
def codewrightlaw46_SemiringCounts.T8 : Bool × List (List Nat × List Nat) := (true, [([], []), ([], []), ([], []), ([0, 1, 2], [0, 1, 2]), ([], []), ([], []), ([4, 5, 3], [4, 5]), ([6], [6]), ([3, 7], [3, 7]), ([8, 6], [8]), ([9], [9]), ([9], [9]), ([9], [9]), ([9], [9]), ([13, 9, 9], [9, 13]), ([11, 12, 14, 14, 9], [9, 11, 12, 14]), ([9], [9]), ([10, 15, 16, 15, 9], [9, 10, 15, 16]), ([17, 9], [9, 17]), ([9, 18], [9, 18]), ([19, 17], [19]), ([20], [20]), ([20], [20]), ([20], [20]), ([20], [20]), ([24, 20, 20], [20, 24]), ([22, 23, 25, 25, 20], [20, 22, 23, 25]), ([20], [20]), ([21, 26, 27, 26, 20], [20, 21, 26, 27]), ([28, 20], [20, 28]), ([20, 29], [20, 29])])
def codewrightlaw46_SemiringCounts.B8 : List Nat := [0, 0, 0, 7, 0, 0, 63, 127, 255, 511, 1023, 1023, 1023, 1023, 9215, 31743, 1023, 131071, 262143, 524287, 1048575, 2097151, 2097151, 2097151, 2097151, 18874367, 65011711, 2097151, 268435455, 536870911, 1073741823]
theorem codewrightlaw46_SemiringCounts.tab8 : rtab .any (opsOf Try.f7 8) = codewrightlaw46_SemiringCounts.T8 := by kernel_rfl
theorem codewrightlaw46_SemiringCounts.bits8 : waitsOk codewrightlaw46_SemiringCounts.T8.2 codewrightlaw46_SemiringCounts.B8 = true := by kernel_rfl
def codewrightlaw46_SemiringCounts.T10 : Bool × List (List Nat × List Nat) := (true, [([], []), ([], []), ([], []), ([], []), ([], []), ([2, 3, 4], [2, 3, 4]), ([0, 1, 5, 5], [0, 1, 5]), ([], []), ([], []), ([], []), ([], []), ([8, 9, 10, 6], [8, 9, 10]), ([], []), ([], []), ([], []), ([12, 13, 14, 11], [12, 13, 14]), ([7, 11, 15, 15], [7, 11, 15]), ([6, 16, 16], [6, 16]), ([17], [17])])
def codewrightlaw46_SemiringCounts.B10 : List Nat := [0, 0, 0, 0, 0, 28, 63, 0, 0, 0, 0, 1919, 0, 0, 0, 32639, 65535, 131071, 262143]
theorem codewrightlaw46_SemiringCounts.tab10 : rtab .any (opsOf Try.f7 10) = codewrightlaw46_SemiringCounts.T10 := by kernel_rfl
theorem codewrightlaw46_SemiringCounts.bits10 : waitsOk codewrightlaw46_SemiringCounts.T10.2 codewrightlaw46_SemiringCounts.B10 = true := by kernel_rfl
def codewrightlaw46_SemiringCounts.T12 : Bool × List (List Nat × List Nat) := (true, [([], []), ([], []), ([], []), ([], []), ([], []), ([2, 3, 4], [2, 3, 4]), ([0, 1, 5, 5], [0, 1, 5]), ([], []), ([], []), ([], []), ([], []), ([8, 9, 10, 6], [8, 9, 10]), ([], []), ([7, 11, 12, 11], [7, 11, 12]), ([6, 13, 13], [6, 13]), ([14, 14], [14]), ([15], [15]), ([15], [15]), ([15], [15]), ([15], [15]), ([15], [15]), ([18, 19, 20, 15, 15], [15, 18, 19, 20]), ([16, 17, 21, 21, 15], [15, 16, 17, 21]), ([15], [15]), ([15], [15]), ([15], [15]), ([15], [15]), ([24, 25, 26, 22, 15], [15, 24, 25, 26]), ([15], [15]), ([23, 27, 28, 27, 15], [15, 23, 27, 28]), ([22, 29, 29, 15], [15, 22, 29]), ([15, 30], [15, 30]), ([31, 30, 0, 1, 2, 3, 4, 5, 6, 7, 8, 9, 10, 11, 12, 13, 14, 15, 16, 17, 18, 19, 20, 21, 22, 23, 24, 25, 26, 27, 28, 29, 30, 31], [31])])
def codewrightlaw46_SemiringCounts.B12 : List Nat := [0, 0, 0, 0, 0, 28, 63, 0, 0, 0, 0, 1919, 0, 8191, 16383, 32767, 65535, 65535, 65535, 65535, 65535, 1900543, 4194303, 65535, 65535, 65535, 65535, 125829119, 65535, 536870911, 1073741823, 2147483647, 4294967295]
theorem codewrightlaw46_SemiringCounts.tab12 : rtab .any (opsOf Try.f7 12) = codewrightlaw46_SemiringCounts.T12 := by kernel_rfl
theorem codewrightlaw46_SemiringCounts.bits12 : waitsOk codewrightlaw46_SemiringCounts.T12.2 codewrightlaw46_SemiringCounts.B12 = true := by kernel_rfl
set_option maxHeartbeats 8000000 in
set_option maxRecDepth 100000 in
theorem codewrightlaw46_SemiringCounts.calls (k : Nat) (P0_ : Nat → Prop) (A0 : Option Addr) (c0 : Nat) (l0 : List Int) (P1_ : Nat → Prop) (A1 : Option Addr) (c1 : Nat) (l1 : List Int) (P2_ : Nat → Prop) (A2 : Option Addr) (c2 : Nat) (l2 : List Int) (r : Bool) (w : World) (hs0 : Kd.V (Kd.int .u32) 48 w w.heap.size (fun k_ => P0_ k_) (.slice A0 l0.length c0) l0) (hs1 : Kd.V (Kd.int .u32) 48 w w.heap.size (fun k_ => P1_ k_) (.slice A1 l1.length c1) l1) (hs2 : Kd.V (Kd.int .u32) 48 w w.heap.size (fun k_ => P2_ k_) (.slice A2 l2.length c2) l2) (h : codewrightlaw46_SemiringCounts.f k l0 l1 l2 = some r) :
 Calls Try.prog 7 #[.slice A0 l0.length c0, .slice A1 l1.length c1, .slice A2 l2.length c2] w fun e w' => e = .returned (.bool r) ∧ Below w.heap.size w w' := by
 have hu43 := Try.underlying43
 have HO0 := Aside0.mk (show Kd.V (Kd.int .u32) 48 w w.heap.size (fun k_ => ((P0_ k_ ∨ P1_ k_ ∨ P2_ k_) ∨ w.heap.size ≤ k_)) (.slice A0 l0.length c0) l0 from Kd.V_mono hs0 (fun k_ hk => .inl (.inl hk)))
 have HO1 := Aside0.mk (show Kd.V (Kd.int .u32) 48 w w.heap.size (fun k_ => ((P0_ k_ ∨ P1_ k_ ∨ P2_ k_) ∨ w.heap.size ≤ k_)) (.slice A1 l1.length c1) l1 from Kd.V_mono hs1 (fun k_ hk => .inl (.inr (.inl hk))))
 have HO2 := Aside0.mk (show Kd.V (Kd.int .u32) 48 w w.heap.size (fun k_ => ((P0_ k_ ∨ P1_ k_ ∨ P2_ k_) ∨ w.heap.size ≤ k_)) (.slice A2 l2.length c2) l2 from Kd.V_mono hs2 (fun k_ hk => .inl (.inr (.inr hk))))
 have HB := Aside0.mk (Below.refl w.heap.size w)
 have H : ((codewrightlaw46_short.f k (([(([l0, l1, l2] : List (List Int)))] : List (List (List Int))))).bind fun t400 => (if t400 = true then ((semiring_Counting_Zero.f k).bind fun t402 => ((codewrightref01_Same.f k t402 ([] : List Int)).bind fun t405 => (if t405 = true then ((semiring_Counting_One.f k).bind fun t406 => ((codewrightref01_Same.f k t406 (([1] : List Int))).bind fun t412 => (codewrightlaw46_SemiringCounts.j0 k l0 l1 l2 (!t412)))) else (codewrightlaw46_SemiringCounts.j0 k l0 l1 l2 true)))) else ((codewrightlaw46_alive.f).bind fun t401 => (some t401)))) = some r := h
 clear h
 obtain ⟨y394, hy394⟩ : ∃ y_ : List (List Int), y_ = (([l0, l1, l2] : List (List Int))) := ⟨_, rfl⟩
 replace H : ((codewrightlaw46_short.f k (([y394] : List (List (List Int))))).bind fun t400 => (if t400 = true then ((semiring_Counting_Zero.f k).bind fun t402 => ((codewrightref01_Same.f k t402 ([] : List Int)).bind fun t405 => (if t405 = true then ((semiring_Counting_One.f k).bind fun t406 => ((codewrightref01_Same.f k t406 (([1] : List Int))).bind fun t412 => (codewrightlaw46_SemiringCounts.j0 k l0 l1 l2 (!t412)))) else (codewrightlaw46_SemiringCounts.j0 k l0 l1 l2 true)))) else ((codewrightlaw46_alive.f).bind fun t401 => (some t401)))) = some r := by first | (rw [hy394]; with_reducible exact H) | (have H2_ := (Option.bind_some _ _).symm.trans H; rw [hy394]; with_reducible exact H2_) | (have H2_ := (Option.bind_some _ _).symm.trans H; with_reducible exact H2_) | with_reducible exact H | (rw [hy394]; exact H) | exact H
 have Ny394 := Aside0.mk hy394
 clear hy394
 obtain ⟨y397, hy397⟩ : ∃ y_ : List (List (List Int)), y_ = (([y394] : List (List (List Int)))) := ⟨_, rfl⟩
 replace H : ((codewrightlaw46_short.f k y397).bind fun t400 => (if t400 = true then ((semiring_Counting_Zero.f k).bind fun t402 => ((codewrightref01_Same.f k t402 ([] : List Int)).bind fun t405 => (if t405 = true then ((semiring_Counting_One.f k).bind fun t406 => ((codewrightref01_Same.f k t406 (([1] : List Int))).bind fun t412 => (codewrightlaw46_SemiringCounts.j0 k l0 l1 l2 (!t412)))) else (codewrightlaw46_SemiringCounts.j0 k l0 l1 l2 true)))) else ((codewrightlaw46_alive.f).bind fun t401 => (some t401)))) = some r := by first | (rw [hy397]; with_reducible exact H) | (have H2_ := (Option.bind_some _ _).symm.trans H; rw [hy397]; with_reducible exact H2_) | (have H2_ := (Option.bind_some _ _).symm.trans H; with_reducible exact H2_) | with_reducible exact H | (rw [hy397]; exact H) | exact H
 have Ny397 := Aside0.mk hy397
 clear hy397
 replace H := Option.bind_eq_some_iff.mp H
 obtain ⟨t400, A40, H⟩ := H
 replace H : (if t400 = true then ((semiring_Counting_Zero.f k).bind fun t402 => ((codewrightref01_Same.f k t402 ([] : List Int)).bind fun t405 => (if t405 = true then ((semiring_Counting_One.f k).bind fun t406 => ((codewrightref01_Same.f k t406 (([1] : List Int))).bind fun t412 => (codewrightlaw46_SemiringCounts.j0 k l0 l1 l2 (!t412)))) else (codewrightlaw46_SemiringCounts.j0 k l0 l1 l2 true)))) else ((codewrightlaw46_alive.f).bind fun t401 => (some t401))) = some r := H
 have A4 := Aside0.mk A40
 clear A40
 by_cases c5 : t400 = true
 ·
  subst c5
  have H1 : ((semiring_Counting_Zero.f k).bind fun t402 => ((codewrightref01_Same.f k t402 ([] : List Int)).bind fun t405 => (if t405 = true then ((semiring_Counting_One.f k).bind fun t406 => ((codewrightref01_Same.f k t406 (([1] : List Int))).bind fun t412 => (codewrightlaw46_SemiringCounts.j0 k l0 l1 l2 (!t412)))) else (codewrightlaw46_SemiringCounts.j0 k l0 l1 l2 true)))) = some r := by rw [if_pos rfl] at H; exact H
  clear H
  have H := H1
  clear H1
  have HC6 := Aside0.mk H
  clear H
  go_enter Try.func7, Try.ntmps7
  go_upto_region 4 with (first | ((with_reducible refine gate_dst (N := 7) rfl ?_); (try (refine gate_guard (by rfl) ?_; dsimp only)); refine box_event ?hg (N := 7) ?hd (cs := #[]) (t := 43) ?hr ?_; (case hd => rfl); (case hg => rfl); (case hr => first | (go_simp; done) | (go_simp; rfl)); intro gb393 hg w7 hbox hb; replace HO0 := Aside0.mk (Kd.V_below (Kd.V_elderB (vu HO0.out) gb393 (Nat.le_of_eq hg.symm)) hb); replace HO1 := Aside0.mk (Kd.V_below (Kd.V_elderB (vu HO1.out) gb393 (Nat.le_of_eq hg.symm)) hb); replace HO2 := Aside0.mk (Kd.V_below (Kd.V_elderB (vu HO2.out) gb393 (Nat.le_of_eq hg.symm)) hb); have BK393 := Aside0.mk (hbox); have GW393 := Aside0.mk ((by rw [hg]; exact (below_size (bu HB.out)) : w.heap.size ≤ gb393)); have GE393 := Aside0.mk ((by rw [hg]; exact (below_size (bu HB.out)) : w.heap.size ≤ gb393)); replace HB := Aside0.mk (below_step (bu HB.out) hb); clear hb hbox hg) | ((with_reducible refine gate_dst (N := 12) rfl ?_); (try (refine gate_guard (by rfl) ?_; dsimp only)); refine Kd.N_lit (Kd.slice 48 (Kd.int .u32)) _ 42 ?hg (N' := 12) ?hd (xs := ([l0, l1, l2] : List (List Int))) (inner := [.slice A0 l0.length c0, .slice A1 l1.length c1, .slice A2 l2.length c2]) (ok := (fun k_ => ((P0_ k_ ∨ P1_ k_ ∨ P2_ k_) ∨ w.heap.size ≤ k_) ∧ k_ ≠ gb393)) (okp := (fun k_ => ((P0_ k_ ∨ P1_ k_ ∨ P2_ k_) ∨ w.heap.size ≤ k_) ∧ k_ ≠ gb393)) ?hr ?hp (fun _ hk => hk) ((show ∀ k_, w7.heap.size ≤ k_ → (fun k_ => ((P0_ k_ ∨ P1_ k_ ∨ P2_ k_) ∨ w.heap.size ≤ k_) ∧ k_ ≠ gb393) k_ from fun k_ hk => ⟨(.inr (Nat.le_trans (below_size (bu1 HB.out GE393.out)) hk)), Kd.freshB (g := gb393) (o := .cells #[] 43 (0, 0)) (ku BK393.out) k_ hk⟩) _ (Nat.le_refl _)) (Below.refl _ _) (Nat.le_refl _) (by simp) ?_; (case hd => rfl); (case hg => rfl); (case hr => first | (go_simp; done) | (go_simp; rfl)); (case hp => exact (Reps.one (show Kd.FK (Kd.slice 48 (Kd.int .u32)) _ _ l0 [.slice A0 l0.length c0] from (Kd.FK_slice_mk (Kd.V_reads' (Kd.V_mono (ok' := (fun k_ => ((P0_ k_ ∨ P1_ k_ ∨ P2_ k_) ∨ w.heap.size ≤ k_) ∧ k_ ≠ gb393)) (HO0.out) (fun k_ hk => ⟨hk.1, hk.2⟩))).2.1 (Kd.V_F (Kd.V_mono (ok' := (fun k_ => ((P0_ k_ ∨ P1_ k_ ∨ P2_ k_) ∨ w.heap.size ≤ k_) ∧ k_ ≠ gb393)) (HO0.out) (fun k_ hk => ⟨hk.1, hk.2⟩))))) (Reps.one (show Kd.FK (Kd.slice 48 (Kd.int .u32)) _ _ l1 [.slice A1 l1.length c1] from (Kd.FK_slice_mk (Kd.V_reads' (Kd.V_mono (ok' := (fun k_ => ((P0_ k_ ∨ P1_ k_ ∨ P2_ k_) ∨ w.heap.size ≤ k_) ∧ k_ ≠ gb393)) (HO1.out) (fun k_ hk => ⟨hk.1, hk.2⟩))).2.1 (Kd.V_F (Kd.V_mono (ok' := (fun k_ => ((P0_ k_ ∨ P1_ k_ ∨ P2_ k_) ∨ w.heap.size ≤ k_) ∧ k_ ≠ gb393)) (HO1.out) (fun k_ hk => ⟨hk.1, hk.2⟩))))) (Reps.one (show Kd.FK (Kd.slice 48 (Kd.int .u32)) _ _ l2 [.slice A2 l2.length c2] from (Kd.FK_slice_mk (Kd.V_reads' (Kd.V_mono (ok' := (fun k_ => ((P0_ k_ ∨ P1_ k_ ∨ P2_ k_) ∨ w.heap.size ≤ k_) ∧ k_ ≠ gb393)) (HO2.out) (fun k_ hk => ⟨hk.1, hk.2⟩))).2.1 (Kd.V_F (Kd.V_mono (ok' := (fun k_ => ((P0_ k_ ∨ P1_ k_ ∨ P2_ k_) ∨ w.heap.size ≤ k_) ∧ k_ ≠ gb393)) (HO2.out) (fun k_ hk => ⟨hk.1, hk.2⟩))))) (Reps.none _ _))))); intro v395 w8 ho9 hb hg_ hnew_; clear hg_ hnew_; (first | rw [← Ny394.out] at ho9 | (simp only [Int.reduceToNat] at ho9; rw [← Ny394.out] at ho9)); replace HO0 := Aside0.mk (Kd.V_elder' (vu HO0.out) (Kd.N_base ho9) hb); replace HO1 := Aside0.mk (Kd.V_elder' (vu HO1.out) (Kd.N_base ho9) hb); replace HO2 := Aside0.mk (Kd.V_elder' (vu HO2.out) (Kd.N_base ho9) hb); have HO396 := Aside0.mk (Kd.N_lower ho9 (below_size (bu1 HB.out GE393.out))); replace BK393 := Aside0.mk (blk_below (g := gb393) (o := .cells #[] 43 (0, 0)) (ku BK393.out) hb); replace HB := Aside0.mk (below_step (bu1 HB.out GE393.out) hb); clear hb ho9; obtain ⟨Ao10, co10, eo10⟩ := Kd.N_slice HO396.out; subst eo10) | ((with_reducible refine gate_dst (N := 13) rfl ?_); (try (refine gate_guard (by rfl) ?_; dsimp only)); refine Kd.N_lit (Kd.slice 42 (Kd.slice 48 (Kd.int .u32))) _ 45 ?hg (N' := 13) ?hd (xs := ([y394] : List (List (List Int)))) (inner := [.slice Ao10 y394.length co10]) (ok := (fun k_ => ((P0_ k_ ∨ P1_ k_ ∨ P2_ k_) ∨ w.heap.size ≤ k_) ∧ k_ ≠ gb393)) (okp := (fun k_ => ((P0_ k_ ∨ P1_ k_ ∨ P2_ k_) ∨ w.heap.size ≤ k_) ∧ k_ ≠ gb393)) ?hr ?hp (fun _ hk => hk) ((show ∀ k_, w8.heap.size ≤ k_ → (fun k_ => ((P0_ k_ ∨ P1_ k_ ∨ P2_ k_) ∨ w.heap.size ≤ k_) ∧ k_ ≠ gb393) k_ from fun k_ hk => ⟨(.inr (Nat.le_trans (below_size (bu1 HB.out GE393.out)) hk)), Kd.freshB (g := gb393) (o := .cells #[] 43 (0, 0)) (ku BK393.out) k_ hk⟩) _ (Nat.le_refl _)) (Below.refl _ _) (Nat.le_refl _) (by simp) ?_; (case hd => rfl); (case hg => rfl); (case hr => first | (go_simp; done) | (go_simp; rfl)); (case hp => exact (Reps.one (show Kd.FK (Kd.slice 42 (Kd.slice 48 (Kd.int .u32))) _ _ y394 [.slice Ao10 y394.length co10] from (Kd.FK_slice_mk (Kd.N_reads' (Kd.N_mono (ok' := (fun k_ => ((P0_ k_ ∨ P1_ k_ ∨ P2_ k_) ∨ w.heap.size ≤ k_) ∧ k_ ≠ gb393)) (HO396.out) (fun k_ hk => ⟨hk.1, hk.2⟩))).2.1 (Kd.N_F (Kd.N_mono (ok' := (fun k_ => ((P0_ k_ ∨ P1_ k_ ∨ P2_ k_) ∨ w.heap.size ≤ k_) ∧ k_ ≠ gb393)) (HO396.out) (fun k_ hk => ⟨hk.1, hk.2⟩))))) (Reps.none _ _))); intro v398 w11 ho12 hb hg_ hnew_; clear hg_ hnew_; (first | rw [← Ny397.out] at ho12 | (simp only [Int.reduceToNat] at ho12; rw [← Ny397.out] at ho12)); replace HO0 := Aside0.mk (Kd.V_elder' (vu HO0.out) (Kd.N_base ho12) hb); replace HO1 := Aside0.mk (Kd.V_elder' (vu HO1.out) (Kd.N_base ho12) hb); replace HO2 := Aside0.mk (Kd.V_elder' (vu HO2.out) (Kd.N_base ho12) hb); have HO399 := Aside0.mk (Kd.N_lower ho12 (below_size (bu1 HB.out GE393.out))); replace BK393 := Aside0.mk (blk_below (g := gb393) (o := .cells #[] 43 (0, 0)) (ku BK393.out) hb); replace HB := Aside0.mk (below_step (bu1 HB.out GE393.out) hb); clear HO396 hb ho12; obtain ⟨Ao13, co13, eo13⟩ := Kd.N_slice HO399.out; subst eo13) | ((with_reducible refine gate_callee (f := 49) rfl ?_); refine goesL_ (some 14) rfl rfl Try.func49 (by kernel_rfl) rfl #[.slice Ao13 y397.length co13] rfl lu ?_; (with_reducible refine (codewrightlaw46_short.calls k _ _ y397 true _ ?side1 ?side2 A4.out).mono ?_); (case side1 => repeat (first | exact (Kd.N_reads' HO399.out).2.2 | (with_reducible refine Kd.C_alloc ?_ _) | (with_reducible refine Kd.C_drewN ?_ _) | (with_reducible refine Kd.C_drew ?_))); (case side2 => exact (Kd.N_reads' HO399.out).2.1); rintro e w' ⟨rfl, ⟨nd, rfl⟩⟩; refine ⟨_, rfl, ?_⟩))
  (try simp only [Act.put, List.setIfInBounds_toArray, List.set_cons_zero, List.set_cons_succ])
  go_cut [27] (fun v27 wc => ∃ (kq : Nat) (x27_5 : Bool), v27 = .bool x27_5 ∧ Aside0 (codewrightlaw46_SemiringCounts.j0 kq l0 l1 l2 x27_5 = some r) ∧ Aside0 (kq ≤ k) ∧ Aside0 (Kd.V (Kd.int .u32) 48 wc w.heap.size (fun k_ => ((P0_ k_ ∨ P1_ k_ ∨ P2_ k_) ∨ w.heap.size ≤ k_) ∧ k_ ≠ gb393) (.slice A0 l0.length c0) l0) ∧ Aside0 (Kd.V (Kd.int .u32) 48 wc w.heap.size (fun k_ => ((P0_ k_ ∨ P1_ k_ ∨ P2_ k_) ∨ w.heap.size ≤ k_) ∧ k_ ≠ gb393) (.slice A1 l1.length c1) l1) ∧ Aside0 (Kd.V (Kd.int .u32) 48 wc w.heap.size (fun k_ => ((P0_ k_ ∨ P1_ k_ ∨ P2_ k_) ∨ w.heap.size ≤ k_) ∧ k_ ≠ gb393) (.slice A2 l2.length c2) l2) ∧ Aside0 (wc.heap[gb393]? = some (.cells #[] 43 (0, 0))) ∧ Aside0 (Below w.heap.size w wc))
  case first =>
   have H := HC6.out
   clear HC6
   replace H := Option.bind_eq_some_iff.mp H
   obtain ⟨t402, A140, H⟩ := H
   replace H : ((codewrightref01_Same.f k t402 ([] : List Int)).bind fun t405 => (if t405 = true then ((semiring_Counting_One.f k).bind fun t406 => ((codewrightref01_Same.f k t406 (([1] : List Int))).bind fun t412 => (codewrightlaw46_SemiringCounts.j0 k l0 l1 l2 (!t412)))) else (codewrightlaw46_SemiringCounts.j0 k l0 l1 l2 true))) = some r := H
   have A14 := Aside0.mk A140
   clear A140
   replace H := Option.bind_eq_some_iff.mp H
   obtain ⟨t405, A150, H⟩ := H
   replace H : (if t405 = true then ((semiring_Counting_One.f k).bind fun t406 => ((codewrightref01_Same.f k t406 (([1] : List Int))).bind fun t412 => (codewrightlaw46_SemiringCounts.j0 k l0 l1 l2 (!t412)))) else (codewrightlaw46_SemiringCounts.j0 k l0 l1 l2 true)) = some r := H
   have A15 := Aside0.mk A150
   clear A150
   by_cases c16 : t405 = true
   ·
    subst c16
    have H1 : ((semiring_Counting_One.f k).bind fun t406 => ((codewrightref01_Same.f k t406 (([1] : List Int))).bind fun t412 => (codewrightlaw46_SemiringCounts.j0 k l0 l1 l2 (!t412)))) = some r := by rw [if_pos rfl] at H; exact H
    clear H
    have H := H1
    clear H1
    replace H := Option.bind_eq_some_iff.mp H
    obtain ⟨t406, A170, H⟩ := H
    replace H : ((codewrightref01_Same.f k t406 (([1] : List Int))).bind fun t412 => (codewrightlaw46_SemiringCounts.j0 k l0 l1 l2 (!t412))) = some r := H
    have A17 := Aside0.mk A170
    clear A170
    obtain ⟨y409, hy409⟩ : ∃ y_ : List Int, y_ = (([1] : List Int)) := ⟨_, rfl⟩
    replace H : ((codewrightref01_Same.f k t406 y409).bind fun t412 => (codewrightlaw46_SemiringCounts.j0 k l0 l1 l2 (!t412))) = some r := by first | (rw [hy409]; with_reducible exact H) | (have H2_ := (Option.bind_some _ _).symm.trans H; rw [hy409]; with_reducible exact H2_) | (have H2_ := (Option.bind_some _ _).symm.trans H; with_reducible exact H2_) | with_reducible exact H | (rw [hy409]; exact H) | exact H
    have Ny409 := Aside0.mk hy409
    clear hy409
    replace H := Option.bind_eq_some_iff.mp H
    obtain ⟨t412, A180, H⟩ := H
    replace H : (codewrightlaw46_SemiringCounts.j0 k l0 l1 l2 (!t412)) = some r := H
    have A18 := Aside0.mk A180
    clear A180
    have H' := Aside0.mk H
    clear H
    go_wp2_with (first | ((with_reducible refine gate_callee (f := 52) rfl ?_); refine goesL_ (some 18) rfl rfl Try.func52 (by kernel_rfl) rfl #[.agg #[]] rfl lu ?_; (with_reducible refine (semiring_Counting_Zero.calls k  t402 _ A14.out).mono ?_); rintro e w20 ⟨v403, rfl, ho0, hb⟩; refine ⟨_, rfl, ?_⟩; replace ho0 := R_V_base rfl ho0; replace HO0 := Aside0.mk (Kd.V_below (vu HO0.out) hb); replace HO1 := Aside0.mk (Kd.V_below (vu HO1.out) hb); replace HO2 := Aside0.mk (Kd.V_below (vu HO2.out) hb); have HO404 := Aside0.mk (Kd.V_lower (Kd.V_mono (ok' := fun k_ => ((P0_ k_ ∨ P1_ k_ ∨ P2_ k_) ∨ w.heap.size ≤ k_) ∧ some k_ ≠ (.slice Ao13 y397.length co13 : Value).ownBlock ∧ k_ ≠ gb393) ho0 (fun k_ hk_ => ⟨(.inr (Nat.le_trans (below_size (bu1 HB.out GE393.out)) hk_)), (Kd.fresh' (Kd.N_lt (nu HO399.out)) k_ hk_), (Kd.freshB (g := gb393) (o := .cells #[] 43 (0, 0)) (ku BK393.out) k_ hk_)⟩)) (below_size (bu1 HB.out GE393.out))); replace HO399 := Aside0.mk (Kd.N_below (nu HO399.out) hb); replace BK393 := Aside0.mk (blk_below (g := gb393) (o := .cells #[] 43 (0, 0)) (ku BK393.out) hb); replace HB := Aside0.mk (below_step (bu1 HB.out GE393.out) hb); (try clear hb); (try clear hb2); (try clear hk); (try clear hi); (try clear ho0); obtain ⟨Ao21, co21, eo21⟩ := Kd.V_slice HO404.out; subst eo21) | ((with_reducible refine gate_callee (f := 51) rfl ?_); refine goesL_ (some 19) rfl rfl Try.func51 (by kernel_rfl) rfl #[.slice Ao21 t402.length co21, .slice none 0 0] rfl lu ?_; (refine (codewrightref01_Same.calls k _ _ t402 _ _ ([] : List Int) true _ ?side1 ?side2 ?side3 ?side4 A15.out).mono ?_); (case side1 => repeat (first | exact (Kd.V_reads' HO404.out).2.2 | (with_reducible refine Kd.C_alloc ?_ _) | (with_reducible refine Kd.C_drewN ?_ _) | (with_reducible refine Kd.C_drew ?_))); (case side2 => exact (Kd.V_reads' HO404.out).2.1); (case side3 => exact Kd.C_nil _ _); (case side4 => exact Nat.le_refl _); rintro e w' ⟨rfl, ⟨nd, rfl⟩⟩; refine ⟨_, rfl, ?_⟩) | (go_at_call 53; (with_reducible refine (semiring_Counting_One.calls k  t406 _ A17.out).mono ?_); rintro e w23 ⟨v407, rfl, ho0, hb⟩; replace ho0 := R_V_base rfl ho0; replace HO0 := Aside0.mk (Kd.V_below (vu HO0.out) hb); replace HO1 := Aside0.mk (Kd.V_below (vu HO1.out) hb); replace HO2 := Aside0.mk (Kd.V_below (vu HO2.out) hb); replace HO404 := Aside0.mk (Kd.V_below (vu HO404.out) hb); have HO408 := Aside0.mk (Kd.V_lower (Kd.V_mono (ok' := fun k_ => ((P0_ k_ ∨ P1_ k_ ∨ P2_ k_) ∨ w.heap.size ≤ k_) ∧ some k_ ≠ (.slice Ao13 y397.length co13 : Value).ownBlock ∧ k_ ≠ gb393) ho0 (fun k_ hk_ => ⟨(.inr (Nat.le_trans (below_size (bu1 HB.out GE393.out)) hk_)), (Kd.fresh' (Kd.N_lt (nu HO399.out)) k_ hk_), (Kd.freshB (g := gb393) (o := .cells #[] 43 (0, 0)) (ku BK393.out) k_ hk_)⟩)) (below_size (bu1 HB.out GE393.out))); replace HO399 := Aside0.mk (Kd.N_below (nu HO399.out) hb); replace BK393 := Aside0.mk (blk_below (g := gb393) (o := .cells #[] 43 (0, 0)) (ku BK393.out) hb); replace HB := Aside0.mk (below_step (bu1 HB.out GE393.out) hb); (try clear hb); (try clear hb2); (try clear hk); (try clear hi); (try clear ho0)) | ((with_reducible refine gate_dst (N := 24) rfl ?_); (try (refine gate_guard (by rfl) ?_; dsimp only)); refine Kd.R_lit (Kd.int .u32) _ 48 ?hg (N := 24) ?hd (xs := ([1] : List Int)) (inner := [.int .u32 1]) (ok := fun _ => True) (okp := fun _ => True) ?hr ?hp (fun _ hk => hk) trivial (Below.refl _ _) (Nat.le_refl _) (by simp) ?_; (case hd => rfl); (case hg => rfl); (case hr => first | (go_simp; done) | (go_simp; rfl)); (case hp => exact (Reps.one (show Kd.M (Kd.int .u32) _ _ _ 1 [.int .u32 1] from rfl) (Reps.none _ _))); intro v410 w24 ho25 hb hg_ hnew_; clear hg_ hnew_; (first | rw [← Ny409.out] at ho25 | (simp only [Int.reduceToNat] at ho25; rw [← Ny409.out] at ho25)); replace HO0 := Aside0.mk (Kd.V_elder' (vu HO0.out) (Kd.R_base ho25) hb); replace HO1 := Aside0.mk (Kd.V_elder' (vu HO1.out) (Kd.R_base ho25) hb); replace HO2 := Aside0.mk (Kd.V_elder' (vu HO2.out) (Kd.R_base ho25) hb); replace HO399 := Aside0.mk (Kd.N_elder' (nu HO399.out) (Kd.R_base ho25) hb); replace HO404 := Aside0.mk (Kd.V_elder' (vu HO404.out) (Kd.R_base ho25) hb); replace HO408 := Aside0.mk (Kd.V_elder' (vu HO408.out) (Kd.R_base ho25) hb); have HO411 := Aside0.mk (Kd.R_lower (Kd.R_newM (M := fun k_ => (w.heap.size ≤ k_)) ho25 (below_size (bu1 HB.out GE393.out)) (fun k_ h_ => h_)) (below_size (bu1 HB.out GE393.out))); replace BK393 := Aside0.mk (blk_below (g := gb393) (o := .cells #[] 43 (0, 0)) (ku BK393.out) hb); replace HB := Aside0.mk (below_step (bu1 HB.out GE393.out) hb); clear hb ho25; obtain ⟨Ao26, co26, eo26⟩ := Kd.V_slice HO408.out; subst eo26; obtain ⟨Ao27, co27, eo27⟩ := Kd.R_slice HO411.out; subst eo27) | (go_at_call 51; (with_reducible refine (codewrightref01_Same.calls k _ _ t406 _ _ y409 t412 _ ?side1 ?side2 ?side3 ?side4 A18.out).mono ?_); (case side1 => repeat (first | exact (Kd.V_reads' HO408.out).2.2 | (with_reducible refine Kd.C_alloc ?_ _) | (with_reducible refine Kd.C_drewN ?_ _) | (with_reducible refine Kd.C_drew ?_))); (case side2 => exact (Kd.V_reads' HO408.out).2.1); (case side3 => repeat (first | exact (Kd.R_reads' HO411.out).2.2 | (with_reducible refine Kd.C_alloc ?_ _) | (with_reducible refine Kd.C_drewN ?_ _) | (with_reducible refine Kd.C_drew ?_))); (case side4 => exact (Kd.R_reads' HO411.out).2.1); rintro e w' ⟨rfl, ⟨nd, rfl⟩⟩))
    go_meet
    case rel => exact ⟨_, (!t412), (by first | rfl | (simp; done) | (simp [*]; done) | (cases t412 <;> first | rfl | (simp; done))), H', ⟨by first | omega | exact Nat.le_refl _⟩, ⟨by (with_reducible repeat (first | apply Kd.V_alloc | apply Kd.V_drewN | apply Kd.V_drew)); exact Kd.V_mono HO0.out (fun _ hk => ⟨hk.1.1.1.1, hk.1.1.1.2⟩)⟩, ⟨by (with_reducible repeat (first | apply Kd.V_alloc | apply Kd.V_drewN | apply Kd.V_drew)); exact Kd.V_mono HO1.out (fun _ hk => ⟨hk.1.1.1.1, hk.1.1.1.2⟩)⟩, ⟨by (with_reducible repeat (first | apply Kd.V_alloc | apply Kd.V_drewN | apply Kd.V_drew)); exact Kd.V_mono HO2.out (fun _ hk => ⟨hk.1.1.1.1, hk.1.1.1.2⟩)⟩, ⟨by (with_reducible repeat (first | refine blk_drewN ?_ _ | refine blk_drew ?_ | refine blk_alloc ?_ _)); exact BK393.out⟩, ⟨by repeat (first | (with_reducible first | exact HB.out | apply below_alloc | apply pw_below_drewN | apply below_drew1 | refine below_set ?_ GE393.out) | exact HB.out)⟩⟩
   ·
    replace c16 := Bool.eq_false_iff.mpr c16
    subst c16
    have H1 : (codewrightlaw46_SemiringCounts.j0 k l0 l1 l2 true) = some r := by rw [if_neg (show ¬ (false = true) by decide)] at H; exact H
    clear H
    have H := H1
    clear H1
    have H' := Aside0.mk H
    clear H
    go_wp2_with (first | ((with_reducible refine gate_callee (f := 52) rfl ?_); refine goesL_ (some 18) rfl rfl Try.func52 (by kernel_rfl) rfl #[.agg #[]] rfl lu ?_; (with_reducible refine (semiring_Counting_Zero.calls k  t402 _ A14.out).mono ?_); rintro e w29 ⟨v403, rfl, ho0, hb⟩; refine ⟨_, rfl, ?_⟩; replace ho0 := R_V_base rfl ho0; replace HO0 := Aside0.mk (Kd.V_below (vu HO0.out) hb); replace HO1 := Aside0.mk (Kd.V_below (vu HO1.out) hb); replace HO2 := Aside0.mk (Kd.V_below (vu HO2.out) hb); have HO404 := Aside0.mk (Kd.V_lower (Kd.V_mono (ok' := fun k_ => ((P0_ k_ ∨ P1_ k_ ∨ P2_ k_) ∨ w.heap.size ≤ k_) ∧ some k_ ≠ (.slice Ao13 y397.length co13 : Value).ownBlock ∧ k_ ≠ gb393) ho0 (fun k_ hk_ => ⟨(.inr (Nat.le_trans (below_size (bu1 HB.out GE393.out)) hk_)), (Kd.fresh' (Kd.N_lt (nu HO399.out)) k_ hk_), (Kd.freshB (g := gb393) (o := .cells #[] 43 (0, 0)) (ku BK393.out) k_ hk_)⟩)) (below_size (bu1 HB.out GE393.out))); replace HO399 := Aside0.mk (Kd.N_below (nu HO399.out) hb); replace BK393 := Aside0.mk (blk_below (g := gb393) (o := .cells #[] 43 (0, 0)) (ku BK393.out) hb); replace HB := Aside0.mk (below_step (bu1 HB.out GE393.out) hb); (try clear hb); (try clear hb2); (try clear hk); (try clear hi); (try clear ho0); obtain ⟨Ao30, co30, eo30⟩ := Kd.V_slice HO404.out; subst eo30) | ((with_reducible refine gate_callee (f := 51) rfl ?_); refine goesL_ (some 19) rfl rfl Try.func51 (by kernel_rfl) rfl #[.slice Ao30 t402.length co30, .slice none 0 0] rfl lu ?_; (refine (codewrightref01_Same.calls k _ _ t402 _ _ ([] : List Int) false _ ?side1 ?side2 ?side3 ?side4 A15.out).mono ?_); (case side1 => repeat (first | exact (Kd.V_reads' HO404.out).2.2 | (with_reducible refine Kd.C_alloc ?_ _) | (with_reducible refine Kd.C_drewN ?_ _) | (with_reducible refine Kd.C_drew ?_))); (case side2 => exact (Kd.V_reads' HO404.out).2.1); (case side3 => exact Kd.C_nil _ _); (case side4 => exact Nat.le_refl _); rintro e w' ⟨rfl, ⟨nd, rfl⟩⟩; refine ⟨_, rfl, ?_⟩))
    go_meet
    case rel => exact ⟨_, (true), (by first | rfl | (simp; done) | (simp [*]; done)), H', ⟨by first | omega | exact Nat.le_refl _⟩, ⟨by (with_reducible repeat (first | apply Kd.V_alloc | apply Kd.V_drewN | apply Kd.V_drew)); exact Kd.V_mono HO0.out (fun _ hk => ⟨hk.1.1.1, hk.1.1.2⟩)⟩, ⟨by (with_reducible repeat (first | apply Kd.V_alloc | apply Kd.V_drewN | apply Kd.V_drew)); exact Kd.V_mono HO1.out (fun _ hk => ⟨hk.1.1.1, hk.1.1.2⟩)⟩, ⟨by (with_reducible repeat (first | apply Kd.V_alloc | apply Kd.V_drewN | apply Kd.V_drew)); exact Kd.V_mono HO2.out (fun _ hk => ⟨hk.1.1.1, hk.1.1.2⟩)⟩, ⟨by (with_reducible repeat (first | refine blk_drewN ?_ _ | refine blk_drew ?_ | refine blk_alloc ?_ _)); exact BK393.out⟩, ⟨by repeat (first | (with_reducible first | exact HB.out | apply below_alloc | apply pw_below_drewN | apply below_drew1 | refine below_set ?_ GE393.out) | exact HB.out)⟩⟩
  case rest =>
   clear HC6
   try clear c1
   try clear c2
   try clear p2
   try clear c4
   try clear c5
   try clear c7
   try clear c16
   obtain ⟨kq, x27_5, rfl, HA, HJ5, HO_0, HO_1, HO_2, BK393, HB⟩ := hcut
   cases kq with
   | zero => exact absurd HA.out (by simp [codewrightlaw46_SemiringCounts.j0])
   | succ kj5 =>
    have H := HA.out
    clear HA
    simp only [codewrightlaw46_SemiringCounts.j0] at H
    by_cases c31 : x27_5 = true
    ·
     subst c31
     have H1 : (none) = some r := by rw [if_pos rfl] at H; exact H
     clear H
     have H := H1
     clear H1
     exact absurd H (by simp)
    ·
     replace c31 := Bool.eq_false_iff.mpr c31
     subst c31
     have H1 : ((semiring_Counting_Add.f kj5 l0 l1).bind fun t413 => ((codewrightref01_Add.f kj5 l0 l1).bind fun t416 => ((codewrightref01_Same.f kj5 t413 t416).bind fun t419 => (if t419 = true then ((semiring_Counting_Mul.f kj5 l0 l1).bind fun t420 => ((codewrightref01_Mul.f kj5 l0 l1).bind fun t423 => ((codewrightref01_Same.f kj5 t420 t423).bind fun t426 => (codewrightlaw46_SemiringCounts.j1 kj5 l0 l1 l2 (!t426))))) else (codewrightlaw46_SemiringCounts.j1 kj5 l0 l1 l2 true))))) = some r := by rw [if_neg (show ¬ (false = true) by decide)] at H; exact H
     clear H
     have H := H1
     clear H1
     have HC32 := Aside0.mk H
     clear H
     go_upto_region 6 with (fail)
     go_cut [47] (fun v47 wc => ∃ (kq : Nat) (x47_31 : Bool), v47 = .bool x47_31 ∧ Aside0 (codewrightlaw46_SemiringCounts.j1 kq l0 l1 l2 x47_31 = some r) ∧ Aside0 (kq ≤ kj5) ∧ Aside0 (Kd.V (Kd.int .u32) 48 wc w.heap.size (fun k_ => ((P0_ k_ ∨ P1_ k_ ∨ P2_ k_) ∨ w.heap.size ≤ k_) ∧ k_ ≠ gb393) (.slice A0 l0.length c0) l0) ∧ Aside0 (Kd.V (Kd.int .u32) 48 wc w.heap.size (fun k_ => ((P0_ k_ ∨ P1_ k_ ∨ P2_ k_) ∨ w.heap.size ≤ k_) ∧ k_ ≠ gb393) (.slice A1 l1.length c1) l1) ∧ Aside0 (Kd.V (Kd.int .u32) 48 wc w.heap.size (fun k_ => ((P0_ k_ ∨ P1_ k_ ∨ P2_ k_) ∨ w.heap.size ≤ k_) ∧ k_ ≠ gb393) (.slice A2 l2.length c2) l2) ∧ Aside0 (wc.heap[gb393]? = some (.cells #[] 43 (0, 0))) ∧ Aside0 (Below w.heap.size w wc))
     case first =>
      have H := HC32.out
      clear HC32
      replace H := Option.bind_eq_some_iff.mp H
      obtain ⟨t413, A330, H⟩ := H
      replace H : ((codewrightref01_Add.f kj5 l0 l1).bind fun t416 => ((codewrightref01_Same.f kj5 t413 t416).bind fun t419 => (if t419 = true then ((semiring_Counting_Mul.f kj5 l0 l1).bind fun t420 => ((codewrightref01_Mul.f kj5 l0 l1).bind fun t423 => ((codewrightref01_Same.f kj5 t420 t423).bind fun t426 => (codewrightlaw46_SemiringCounts.j1 kj5 l0 l1 l2 (!t426))))) else (codewrightlaw46_SemiringCounts.j1 kj5 l0 l1 l2 true)))) = some r := H
      have A33 := Aside0.mk A330
      clear A330
      replace H := Option.bind_eq_some_iff.mp H
      obtain ⟨t416, A340, H⟩ := H
      replace H : ((codewrightref01_Same.f kj5 t413 t416).bind fun t419 => (if t419 = true then ((semiring_Counting_Mul.f kj5 l0 l1).bind fun t420 => ((codewrightref01_Mul.f kj5 l0 l1).bind fun t423 => ((codewrightref01_Same.f kj5 t420 t423).bind fun t426 => (codewrightlaw46_SemiringCounts.j1 kj5 l0 l1 l2 (!t426))))) else (codewrightlaw46_SemiringCounts.j1 kj5 l0 l1 l2 true))) = some r := H
      have A34 := Aside0.mk A340
      clear A340
      replace H := Option.bind_eq_some_iff.mp H
      obtain ⟨t419, A350, H⟩ := H
      replace H : (if t419 = true then ((semiring_Counting_Mul.f kj5 l0 l1).bind fun t420 => ((codewrightref01_Mul.f kj5 l0 l1).bind fun t423 => ((codewrightref01_Same.f kj5 t420 t423).bind fun t426 => (codewrightlaw46_SemiringCounts.j1 kj5 l0 l1 l2 (!t426))))) else (codewrightlaw46_SemiringCounts.j1 kj5 l0 l1 l2 true)) = some r := H
      have A35 := Aside0.mk A350
      clear A350
      by_cases c36 : t419 = true
      ·
       subst c36
       have H1 : ((semiring_Counting_Mul.f kj5 l0 l1).bind fun t420 => ((codewrightref01_Mul.f kj5 l0 l1).bind fun t423 => ((codewrightref01_Same.f kj5 t420 t423).bind fun t426 => (codewrightlaw46_SemiringCounts.j1 kj5 l0 l1 l2 (!t426))))) = some r := by rw [if_pos rfl] at H; exact H
       clear H
       have H := H1
       clear H1
       replace H := Option.bind_eq_some_iff.mp H
       obtain ⟨t420, A370, H⟩ := H
       replace H : ((codewrightref01_Mul.f kj5 l0 l1).bind fun t423 => ((codewrightref01_Same.f kj5 t420 t423).bind fun t426 => (codewrightlaw46_SemiringCounts.j1 kj5 l0 l1 l2 (!t426)))) = some r := H
       have A37 := Aside0.mk A370
       clear A370
       replace H := Option.bind_eq_some_iff.mp H
       obtain ⟨t423, A380, H⟩ := H
       replace H : ((codewrightref01_Same.f kj5 t420 t423).bind fun t426 => (codewrightlaw46_SemiringCounts.j1 kj5 l0 l1 l2 (!t426))) = some r := H
       have A38 := Aside0.mk A380
       clear A380
       replace H := Option.bind_eq_some_iff.mp H
       obtain ⟨t426, A390, H⟩ := H
       replace H : (codewrightlaw46_SemiringCounts.j1 kj5 l0 l1 l2 (!t426)) = some r := H
       have A39 := Aside0.mk A390
       clear A390
       have H' := Aside0.mk H
       clear H
       go_wp2_with (first | ((with_reducible refine gate_callee (f := 54) rfl ?_); refine goesL_ (some 31) rfl rfl Try.func54 (by kernel_rfl) rfl #[.agg #[], .slice A0 l0.length c0, .slice A1 l1.length c1] rfl lu ?_; (with_reducible refine (semiring_Counting_Add.calls kj5  (fun k_ => (((P0_ k_ ∨ P1_ k_ ∨ P2_ k_) ∨ w.heap.size ≤ k_) ∧ k_ ≠ gb393)) _ _ l0 (fun k_ => (((P0_ k_ ∨ P1_ k_ ∨ P2_ k_) ∨ w.heap.size ≤ k_) ∧ k_ ≠ gb393)) _ _ l1 t413 _ ?side1 ?side2 A33.out).mono ?_); (case side1 => exact HO_0.out); (case side2 => exact HO_1.out); rintro e w41 ⟨v414, rfl, ho0, hb⟩; refine ⟨_, rfl, ?_⟩; replace HO_0 := Aside0.mk (Kd.V_below (vu HO_0.out) hb); replace HO_1 := Aside0.mk (Kd.V_below (vu HO_1.out) hb); replace HO_2 := Aside0.mk (Kd.V_below (vu HO_2.out) hb); have HO415 := Aside0.mk (Kd.V_lower (Kd.V_mono (ok' := fun k_ => ((P0_ k_ ∨ P1_ k_ ∨ P2_ k_) ∨ w.heap.size ≤ k_) ∧ k_ ≠ gb393) ho0 (fun k_ hk_ => ⟨Or.elim hk_ (fun hs_ => Or.elim hs_ (fun hs_ => hs_.1) (fun hs_ => hs_.1)) (fun hn_ => (.inr (Nat.le_trans (below_size (bu1 HB.out GE393.out)) hn_))), Or.elim hk_ (fun hs_ => Or.elim hs_ (fun hs_ => hs_.2) (fun hs_ => hs_.2)) (fun hn_ => (Kd.freshB (g := gb393) (o := .cells #[] 43 (0, 0)) (ku BK393.out) k_ hn_))⟩)) (below_size (bu1 HB.out GE393.out))); replace BK393 := Aside0.mk (blk_below (g := gb393) (o := .cells #[] 43 (0, 0)) (ku BK393.out) hb); replace HB := Aside0.mk (below_step (bu1 HB.out GE393.out) hb); (try clear hb); (try clear hb2); (try clear hk); (try clear hi); (try clear ho0)) | ((with_reducible refine gate_callee (f := 55) rfl ?_); refine goesL_ (some 34) rfl rfl Try.func55 (by kernel_rfl) rfl #[.slice A0 l0.length c0, .slice A1 l1.length c1] rfl lu ?_; (with_reducible refine (codewrightref01_Add.calls kj5 _ _ l0 _ _ l1 t416 _ ?side1 ?side2 ?side3 ?side4 A34.out).mono ?_); (case side1 => repeat (first | exact (Kd.V_reads' HO_0.out).2.2 | (with_reducible refine Kd.C_alloc ?_ _) | (with_reducible refine Kd.C_drewN ?_ _) | (with_reducible refine Kd.C_drew ?_))); (case side2 => exact (Kd.V_reads' HO_0.out).2.1); (case side3 => repeat (first | exact (Kd.V_reads' HO_1.out).2.2 | (with_reducible refine Kd.C_alloc ?_ _) | (with_reducible refine Kd.C_drewN ?_ _) | (with_reducible refine Kd.C_drew ?_))); (case side4 => exact (Kd.V_reads' HO_1.out).2.1); rintro e w42 ⟨v417, rfl, ho0, hb⟩; refine ⟨_, rfl, ?_⟩; replace ho0 := R_V_base rfl ho0; replace HO_0 := Aside0.mk (Kd.V_below (vu HO_0.out) hb); replace HO_1 := Aside0.mk (Kd.V_below (vu HO_1.out) hb); replace HO_2 := Aside0.mk (Kd.V_below (vu HO_2.out) hb); replace HO415 := Aside0.mk (Kd.V_below (vu HO415.out) hb); have HO418 := Aside0.mk (Kd.V_lower (Kd.V_mono (ok' := fun k_ => ((P0_ k_ ∨ P1_ k_ ∨ P2_ k_) ∨ w.heap.size ≤ k_) ∧ k_ ≠ gb393) ho0 (fun k_ hk_ => ⟨(.inr (Nat.le_trans (below_size (bu1 HB.out GE393.out)) hk_)), (Kd.freshB (g := gb393) (o := .cells #[] 43 (0, 0)) (ku BK393.out) k_ hk_)⟩)) (below_size (bu1 HB.out GE393.out))); replace BK393 := Aside0.mk (blk_below (g := gb393) (o := .cells #[] 43 (0, 0)) (ku BK393.out) hb); replace HB := Aside0.mk (below_step (bu1 HB.out GE393.out) hb); (try clear hb); (try clear hb2); (try clear hk); (try clear hi); (try clear ho0); obtain ⟨Ao43, co43, eo43⟩ := Kd.V_slice HO415.out; subst eo43; obtain ⟨Ao44, co44, eo44⟩ := Kd.V_slice HO418.out; subst eo44) | ((with_reducible refine gate_callee (f := 51) rfl ?_); refine goesL_ (some 35) rfl rfl Try.func51 (by kernel_rfl) rfl #[.slice Ao43 t413.length co43, .slice Ao44 t416.length co44] rfl lu ?_; (with_reducible refine (codewrightref01_Same.calls kj5 _ _ t413 _ _ t416 true _ ?side1 ?side2 ?side3 ?side4 A35.out).mono ?_); (case side1 => repeat (first | exact (Kd.V_reads' HO415.out).2.2 | (with_reducible refine Kd.C_alloc ?_ _) | (with_reducible refine Kd.C_drewN ?_ _) | (with_reducible refine Kd.C_drew ?_))); (case side2 => exact (Kd.V_reads' HO415.out).2.1); (case side3 => repeat (first | exact (Kd.V_reads' HO418.out).2.2 | (with_reducible refine Kd.C_alloc ?_ _) | (with_reducible refine Kd.C_drewN ?_ _) | (with_reducible refine Kd.C_drew ?_))); (case side4 => exact (Kd.V_reads' HO418.out).2.1); rintro e w' ⟨rfl, ⟨nd, rfl⟩⟩; refine ⟨_, rfl, ?_⟩) | (go_at_call 56; (with_reducible refine (semiring_Counting_Mul.calls kj5  (fun k_ => (((P0_ k_ ∨ P1_ k_ ∨ P2_ k_) ∨ w.heap.size ≤ k_) ∧ k_ ≠ gb393)) _ _ l0 (fun k_ => (((P0_ k_ ∨ P1_ k_ ∨ P2_ k_) ∨ w.heap.size ≤ k_) ∧ k_ ≠ gb393)) _ _ l1 t420 _ ?side1 ?side2 A37.out).mono ?_); (case side1 => exact HO_0.out); (case side2 => exact HO_1.out); rintro e w46 ⟨v421, rfl, ho0, hb⟩; replace HO_0 := Aside0.mk (Kd.V_below (vu HO_0.out) hb); replace HO_1 := Aside0.mk (Kd.V_below (vu HO_1.out) hb); replace HO_2 := Aside0.mk (Kd.V_below (vu HO_2.out) hb); replace HO415 := Aside0.mk (Kd.V_below (vu HO415.out) hb); replace HO418 := Aside0.mk (Kd.V_below (vu HO418.out) hb); have HO422 := Aside0.mk (Kd.V_lower (Kd.V_mono (ok' := fun k_ => ((P0_ k_ ∨ P1_ k_ ∨ P2_ k_) ∨ w.heap.size ≤ k_) ∧ k_ ≠ gb393) ho0 (fun k_ hk_ => ⟨Or.elim hk_ (fun hs_ => Or.elim hs_ (fun hs_ => hs_.1) (fun hs_ => hs_.1)) (fun hn_ => (.inr (Nat.le_trans (below_size (bu1 HB.out GE393.out)) hn_))), Or.elim hk_ (fun hs_ => Or.elim hs_ (fun hs_ => hs_.2) (fun hs_ => hs_.2)) (fun hn_ => (Kd.freshB (g := gb393) (o := .cells #[] 43 (0, 0)) (ku BK393.out) k_ hn_))⟩)) (below_size (bu1 HB.out GE393.out))); replace BK393 := Aside0.mk (blk_below (g := gb393) (o := .cells #[] 43 (0, 0)) (ku BK393.out) hb); replace HB := Aside0.mk (below_step (bu1 HB.out GE393.out) hb); (try clear hb); (try clear hb2); (try clear hk); (try clear hi); (try clear ho0)) | (go_at_call 57; (with_reducible refine (codewrightref01_Mul.calls kj5 _ _ l0 _ _ l1 t423 _ ?side1 ?side2 ?side3 ?side4 A38.out).mono ?_); (case side1 => repeat (first | exact (Kd.V_reads' HO_0.out).2.2 | (with_reducible refine Kd.C_alloc ?_ _) | (with_reducible refine Kd.C_drewN ?_ _) | (with_reducible refine Kd.C_drew ?_))); (case side2 => exact (Kd.V_reads' HO_0.out).2.1); (case side3 => repeat (first | exact (Kd.V_reads' HO_1.out).2.2 | (with_reducible refine Kd.C_alloc ?_ _) | (with_reducible refine Kd.C_drewN ?_ _) | (with_reducible refine Kd.C_drew ?_))); (case side4 => exact (Kd.V_reads' HO_1.out).2.1); rintro e w47 ⟨v424, rfl, ho0, hb⟩; replace ho0 := R_V_base rfl ho0; replace HO_0 := Aside0.mk (Kd.V_below (vu HO_0.out) hb); replace HO_1 := Aside0.mk (Kd.V_below (vu HO_1.out) hb); replace HO_2 := Aside0.mk (Kd.V_below (vu HO_2.out) hb); replace HO415 := Aside0.mk (Kd.V_below (vu HO415.out) hb); replace HO418 := Aside0.mk (Kd.V_below (vu HO418.out) hb); replace HO422 := Aside0.mk (Kd.V_below (vu HO422.out) hb); have HO425 := Aside0.mk (Kd.V_lower (Kd.V_mono (ok' := fun k_ => ((P0_ k_ ∨ P1_ k_ ∨ P2_ k_) ∨ w.heap.size ≤ k_) ∧ k_ ≠ gb393) ho0 (fun k_ hk_ => ⟨(.inr (Nat.le_trans (below_size (bu1 HB.out GE393.out)) hk_)), (Kd.freshB (g := gb393) (o := .cells #[] 43 (0, 0)) (ku BK393.out) k_ hk_)⟩)) (below_size (bu1 HB.out GE393.out))); replace BK393 := Aside0.mk (blk_below (g := gb393) (o := .cells #[] 43 (0, 0)) (ku BK393.out) hb); replace HB := Aside0.mk (below_step (bu1 HB.out GE393.out) hb); (try clear hb); (try clear hb2); (try clear hk); (try clear hi); (try clear ho0); obtain ⟨Ao48, co48, eo48⟩ := Kd.V_slice HO422.out; subst eo48; obtain ⟨Ao49, co49, eo49⟩ := Kd.V_slice HO425.out; subst eo49) | (go_at_call 51; (with_reducible refine (codewrightref01_Same.calls kj5 _ _ t420 _ _ t423 t426 _ ?side1 ?side2 ?side3 ?side4 A39.out).mono ?_); (case side1 => repeat (first | exact (Kd.V_reads' HO422.out).2.2 | (with_reducible refine Kd.C_alloc ?_ _) | (with_reducible refine Kd.C_drewN ?_ _) | (with_reducible refine Kd.C_drew ?_))); (case side2 => exact (Kd.V_reads' HO422.out).2.1); (case side3 => repeat (first | exact (Kd.V_reads' HO425.out).2.2 | (with_reducible refine Kd.C_alloc ?_ _) | (with_reducible refine Kd.C_drewN ?_ _) | (with_reducible refine Kd.C_drew ?_))); (case side4 => exact (Kd.V_reads' HO425.out).2.1); rintro e w' ⟨rfl, ⟨nd, rfl⟩⟩))
       go_meet
       case rel => exact ⟨_, (!t426), (by first | rfl | (simp; done) | (simp [*]; done) | (cases t426 <;> first | rfl | (simp; done))), H', ⟨by have := HJ5.out; first | omega | exact Nat.le_refl _⟩, ⟨by (with_reducible repeat (first | apply Kd.V_alloc | apply Kd.V_drewN | apply Kd.V_drew)); exact HO_0.out⟩, ⟨by (with_reducible repeat (first | apply Kd.V_alloc | apply Kd.V_drewN | apply Kd.V_drew)); exact HO_1.out⟩, ⟨by (with_reducible repeat (first | apply Kd.V_alloc | apply Kd.V_drewN | apply Kd.V_drew)); exact HO_2.out⟩, ⟨by (with_reducible repeat (first | refine blk_drewN ?_ _ | refine blk_drew ?_ | refine blk_alloc ?_ _)); exact BK393.out⟩, ⟨by repeat (first | (with_reducible first | exact HB.out | apply below_alloc | apply pw_below_drewN | apply below_drew1 | refine below_set ?_ GE393.out) | exact HB.out)⟩⟩
      ·
       replace c36 := Bool.eq_false_iff.mpr c36
       subst c36
       have H1 : (codewrightlaw46_SemiringCounts.j1 kj5 l0 l1 l2 true) = some r := by rw [if_neg (show ¬ (false = true) by decide)] at H; exact H
       clear H
       have H := H1
       clear H1
       have H' := Aside0.mk H
       clear H
       go_wp2_with (first | ((with_reducible refine gate_callee (f := 54) rfl ?_); refine goesL_ (some 31) rfl rfl Try.func54 (by kernel_rfl) rfl #[.agg #[], .slice A0 l0.length c0, .slice A1 l1.length c1] rfl lu ?_; (with_reducible refine (semiring_Counting_Add.calls kj5  (fun k_ => (((P0_ k_ ∨ P1_ k_ ∨ P2_ k_) ∨ w.heap.size ≤ k_) ∧ k_ ≠ gb393)) _ _ l0 (fun k_ => (((P0_ k_ ∨ P1_ k_ ∨ P2_ k_) ∨ w.heap.size ≤ k_) ∧ k_ ≠ gb393)) _ _ l1 t413 _ ?side1 ?side2 A33.out).mono ?_); (case side1 => exact HO_0.out); (case side2 => exact HO_1.out); rintro e w51 ⟨v414, rfl, ho0, hb⟩; refine ⟨_, rfl, ?_⟩; replace HO_0 := Aside0.mk (Kd.V_below (vu HO_0.out) hb); replace HO_1 := Aside0.mk (Kd.V_below (vu HO_1.out) hb); replace HO_2 := Aside0.mk (Kd.V_below (vu HO_2.out) hb); have HO415 := Aside0.mk (Kd.V_lower (Kd.V_mono (ok' := fun k_ => ((P0_ k_ ∨ P1_ k_ ∨ P2_ k_) ∨ w.heap.size ≤ k_) ∧ k_ ≠ gb393) ho0 (fun k_ hk_ => ⟨Or.elim hk_ (fun hs_ => Or.elim hs_ (fun hs_ => hs_.1) (fun hs_ => hs_.1)) (fun hn_ => (.inr (Nat.le_trans (below_size (bu1 HB.out GE393.out)) hn_))), Or.elim hk_ (fun hs_ => Or.elim hs_ (fun hs_ => hs_.2) (fun hs_ => hs_.2)) (fun hn_ => (Kd.freshB (g := gb393) (o := .cells #[] 43 (0, 0)) (ku BK393.out) k_ hn_))⟩)) (below_size (bu1 HB.out GE393.out))); replace BK393 := Aside0.mk (blk_below (g := gb393) (o := .cells #[] 43 (0, 0)) (ku BK393.out) hb); replace HB := Aside0.mk (below_step (bu1 HB.out GE393.out) hb); (try clear hb); (try clear hb2); (try clear hk); (try clear hi); (try clear ho0)) | ((with_reducible refine gate_callee (f := 55) rfl ?_); refine goesL_ (some 34) rfl rfl Try.func55 (by kernel_rfl) rfl #[.slice A0 l0.length c0, .slice A1 l1.length c1] rfl lu ?_; (with_reducible refine (codewrightref01_Add.calls kj5 _ _ l0 _ _ l1 t416 _ ?side1 ?side2 ?side3 ?side4 A34.out).mono ?_); (case side1 => repeat (first | exact (Kd.V_reads' HO_0.out).2.2 | (with_reducible refine Kd.C_alloc ?_ _) | (with_reducible refine Kd.C_drewN ?_ _) | (with_reducible refine Kd.C_drew ?_))); (case side2 => exact (Kd.V_reads' HO_0.out).2.1); (case side3 => repeat (first | exact (Kd.V_reads' HO_1.out).2.2 | (with_reducible refine Kd.C_alloc ?_ _) | (with_reducible refine Kd.C_drewN ?_ _) | (with_reducible refine Kd.C_drew ?_))); (case side4 => exact (Kd.V_reads' HO_1.out).2.1); rintro e w52 ⟨v417, rfl, ho0, hb⟩; refine ⟨_, rfl, ?_⟩; replace ho0 := R_V_base rfl ho0; replace HO_0 := Aside0.mk (Kd.V_below (vu HO_0.out) hb); replace HO_1 := Aside0.mk (Kd.V_below (vu HO_1.out) hb); replace HO_2 := Aside0.mk (Kd.V_below (vu HO_2.out) hb); replace HO415 := Aside0.mk (Kd.V_below (vu HO415.out) hb); have HO418 := Aside0.mk (Kd.V_lower (Kd.V_mono (ok' := fun k_ => ((P0_ k_ ∨ P1_ k_ ∨ P2_ k_) ∨ w.heap.size ≤ k_) ∧ k_ ≠ gb393) ho0 (fun k_ hk_ => ⟨(.inr (Nat.le_trans (below_size (bu1 HB.out GE393.out)) hk_)), (Kd.freshB (g := gb393) (o := .cells #[] 43 (0, 0)) (ku BK393.out) k_ hk_)⟩)) (below_size (bu1 HB.out GE393.out))); replace BK393 := Aside0.mk (blk_below (g := gb393) (o := .cells #[] 43 (0, 0)) (ku BK393.out) hb); replace HB := Aside0.mk (below_step (bu1 HB.out GE393.out) hb); (try clear hb); (try clear hb2); (try clear hk); (try clear hi); (try clear ho0); obtain ⟨Ao53, co53, eo53⟩ := Kd.V_slice HO415.out; subst eo53; obtain ⟨Ao54, co54, eo54⟩ := Kd.V_slice HO418.out; subst eo54) | ((with_reducible refine gate_callee (f := 51) rfl ?_); refine goesL_ (some 35) rfl rfl Try.func51 (by kernel_rfl) rfl #[.slice Ao53 t413.length co53, .slice Ao54 t416.length co54] rfl lu ?_; (with_reducible refine (codewrightref01_Same.calls kj5 _ _ t413 _ _ t416 false _ ?side1 ?side2 ?side3 ?side4 A35.out).mono ?_); (case side1 => repeat (first | exact (Kd.V_reads' HO415.out).2.2 | (with_reducible refine Kd.C_alloc ?_ _) | (with_reducible refine Kd.C_drewN ?_ _) | (with_reducible refine Kd.C_drew ?_))); (case side2 => exact (Kd.V_reads' HO415.out).2.1); (case side3 => repeat (first | exact (Kd.V_reads' HO418.out).2.2 | (with_reducible refine Kd.C_alloc ?_ _) | (with_reducible refine Kd.C_drewN ?_ _) | (with_reducible refine Kd.C_drew ?_))); (case side4 => exact (Kd.V_reads' HO418.out).2.1); rintro e w' ⟨rfl, ⟨nd, rfl⟩⟩; refine ⟨_, rfl, ?_⟩))
       go_meet
       case rel => exact ⟨_, (true), (by first | rfl | (simp; done) | (simp [*]; done)), H', ⟨by have := HJ5.out; first | omega | exact Nat.le_refl _⟩, ⟨by (with_reducible repeat (first | apply Kd.V_alloc | apply Kd.V_drewN | apply Kd.V_drew)); exact HO_0.out⟩, ⟨by (with_reducible repeat (first | apply Kd.V_alloc | apply Kd.V_drewN | apply Kd.V_drew)); exact HO_1.out⟩, ⟨by (with_reducible repeat (first | apply Kd.V_alloc | apply Kd.V_drewN | apply Kd.V_drew)); exact HO_2.out⟩, ⟨by (with_reducible repeat (first | refine blk_drewN ?_ _ | refine blk_drew ?_ | refine blk_alloc ?_ _)); exact BK393.out⟩, ⟨by repeat (first | (with_reducible first | exact HB.out | apply below_alloc | apply pw_below_drewN | apply below_drew1 | refine below_set ?_ GE393.out) | exact HB.out)⟩⟩
     case rest =>
      clear HC32
      try clear c1
      try clear c2
      try clear p2
      try clear c3
      try clear c4
      try clear c5
      try clear c7
      try clear c16
      try clear c31
      try clear c36
      try clear c49
      try clear c51
      try clear c52
      try clear c54
      try clear p2
      obtain ⟨kq, x47_31, rfl, HA, HJ31, HO_0, HO_1, HO_2, BK393, HB⟩ := hcut
      cases kq with
      | zero => exact absurd HA.out (by simp [codewrightlaw46_SemiringCounts.j1])
      | succ kj31 =>
       have H := HA.out
       clear HA
       simp only [codewrightlaw46_SemiringCounts.j1] at H
       by_cases c55 : x47_31 = true
       ·
        subst c55
        have H1 : (none) = some r := by rw [if_pos rfl] at H; exact H
        clear H
        have H := H1
        clear H1
        exact absurd H (by simp)
       ·
        replace c55 := Bool.eq_false_iff.mpr c55
        subst c55
        have H1 : ((semiring_Counting_Same.f kj31 l0 l1).bind fun t427 => ((codewrightref01_Cmp.f kj31 l0 l1).bind fun t428 => (if (t427 != (t428 == 0)) = true then (codewrightlaw46_SemiringCounts.j2 kj31 l0 l1 l2 true) else ((semiring_Counting_Zero.f kj31).bind fun t429 => ((semiring_Counting_Add.f kj31 l0 t429).bind fun t432 => ((semiring_Counting_Same.f kj31 t432 l0).bind fun t435 => (if t435 = true then ((semiring_Counting_One.f kj31).bind fun t436 => ((semiring_Counting_Mul.f kj31 l0 t436).bind fun t439 => ((semiring_Counting_Same.f kj31 t439 l0).bind fun t442 => (codewrightlaw46_SemiringCounts.j2 kj31 l0 l1 l2 (!t442))))) else (codewrightlaw46_SemiringCounts.j2 kj31 l0 l1 l2 true)))))))) = some r := by rw [if_neg (show ¬ (false = true) by decide)] at H; exact H
        clear H
        have H := H1
        clear H1
        have HC56 := Aside0.mk H
        clear H
        go_upto_region 8 with (fail)
        go_cut [78] (fun v78 wc => ∃ (kq : Nat) (x78_55 : Bool), v78 = .bool x78_55 ∧ Aside0 (codewrightlaw46_SemiringCounts.j2 kq l0 l1 l2 x78_55 = some r) ∧ Aside0 (kq ≤ kj31) ∧ Aside0 (Kd.V (Kd.int .u32) 48 wc w.heap.size (fun k_ => ((P0_ k_ ∨ P1_ k_ ∨ P2_ k_) ∨ w.heap.size ≤ k_) ∧ k_ ≠ gb393) (.slice A0 l0.length c0) l0) ∧ Aside0 (Kd.V (Kd.int .u32) 48 wc w.heap.size (fun k_ => ((P0_ k_ ∨ P1_ k_ ∨ P2_ k_) ∨ w.heap.size ≤ k_) ∧ k_ ≠ gb393) (.slice A1 l1.length c1) l1) ∧ Aside0 (Kd.V (Kd.int .u32) 48 wc w.heap.size (fun k_ => ((P0_ k_ ∨ P1_ k_ ∨ P2_ k_) ∨ w.heap.size ≤ k_) ∧ k_ ≠ gb393) (.slice A2 l2.length c2) l2) ∧ Aside0 (wc.heap[gb393]? = some (.cells #[] 43 (0, 0))) ∧ Aside0 (Below w.heap.size w wc))
        case first =>
         have H := HC56.out
         clear HC56
         replace H := Option.bind_eq_some_iff.mp H
         obtain ⟨t427, A570, H⟩ := H
         replace H : ((codewrightref01_Cmp.f kj31 l0 l1).bind fun t428 => (if (t427 != (t428 == 0)) = true then (codewrightlaw46_SemiringCounts.j2 kj31 l0 l1 l2 true) else ((semiring_Counting_Zero.f kj31).bind fun t429 => ((semiring_Counting_Add.f kj31 l0 t429).bind fun t432 => ((semiring_Counting_Same.f kj31 t432 l0).bind fun t435 => (if t435 = true then ((semiring_Counting_One.f kj31).bind fun t436 => ((semiring_Counting_Mul.f kj31 l0 t436).bind fun t439 => ((semiring_Counting_Same.f kj31 t439 l0).bind fun t442 => (codewrightlaw46_SemiringCounts.j2 kj31 l0 l1 l2 (!t442))))) else (codewrightlaw46_SemiringCounts.j2 kj31 l0 l1 l2 true))))))) = some r := H
         have A57 := Aside0.mk A570
         clear A570
         replace H := Option.bind_eq_some_iff.mp H
         obtain ⟨t428, A580, H⟩ := H
         replace H : (if (t427 != (t428 == 0)) = true then (codewrightlaw46_SemiringCounts.j2 kj31 l0 l1 l2 true) else ((semiring_Counting_Zero.f kj31).bind fun t429 => ((semiring_Counting_Add.f kj31 l0 t429).bind fun t432 => ((semiring_Counting_Same.f kj31 t432 l0).bind fun t435 => (if t435 = true then ((semiring_Counting_One.f kj31).bind fun t436 => ((semiring_Counting_Mul.f kj31 l0 t436).bind fun t439 => ((semiring_Counting_Same.f kj31 t439 l0).bind fun t442 => (codewrightlaw46_SemiringCounts.j2 kj31 l0 l1 l2 (!t442))))) else (codewrightlaw46_SemiringCounts.j2 kj31 l0 l1 l2 true)))))) = some r := H
         have A58 := Aside0.mk A580
         clear A580
         by_cases c59 : (t427 != (t428 == 0)) = true
         ·
          rw [if_pos c59] at H
          have c59b0 : (t427 != (t428 == 0)) = true := c59
          (try (have c59b1 : decide (t427 = (t428 == 0)) = false := by simpa using c59))
          (try (have c59b2 : (t427 == (t428 == 0)) = false := by simpa using c59))
          (try (have c59b3 : ¬ (t427 = (t428 == 0)) := by simpa using c59))
          clear c59
          (first | rw [c59b0] | rw [c59b1] | (simp only [i64_w, i32_w]; rw [c59b0]) | skip)
          have H' := Aside0.mk H
          clear H
          try go_wp2
          replace HO_0 := Aside0.mk (Kd.V_drew HO_0.out)
          replace HO_1 := Aside0.mk (Kd.V_drew HO_1.out)
          replace HO_2 := Aside0.mk (Kd.V_drew HO_2.out)
          replace BK393 := Aside0.mk (blk_drew BK393.out)
          replace HB := Aside0.mk (below_drew1 HB.out)
          refine start_ (n := 31) (S := fun w' => True) (ds := []) #[false, false, false, false, false, false, false, false, false, false, false, false, false, false, false, false, false, false, false, false, false, false, false, false, false, false, false, false, false, false, false] (by kernel_rfl) rfl rfl trivial (fun hHeld => ?_); refine with_tabW codewrightlaw46_SemiringCounts.tab8 codewrightlaw46_SemiringCounts.bits8 (fun HT_ HW_ => ?_)
          generalize wc.drew = w60 at HO_0 HO_1 HO_2 BK393 HB hHeld ⊢
          refine pure_ (i := 1) (N := some 49) (v := ?_) (a' := ?_) #[false, true, false, false, false, false, false, false, false, false, false, false, false, false, false, false, false, false, false, false, false, false, false, false, false, false, false, false, false, false, false] rfl rfl (any_of HT_.out (by kernel_rfl)) (fun _ _ _ h => h) (Or.inl ⟨by rfl, ?_⟩) ?_ ?_
          rotate_left
          ·
           intro w'
           go_simp
           with_reducible rfl
          rotate_left
          ·
           simp only [Act.put, List.setIfInBounds_toArray, List.set_cons_zero, List.set_cons_succ, i64_w, i32_w]
           rfl
          refine pure_ (i := 2) (N := some 50) (v := ?_) (a' := ?_) #[false, true, true, false, false, false, false, false, false, false, false, false, false, false, false, false, false, false, false, false, false, false, false, false, false, false, false, false, false, false, false] rfl rfl (any_of HT_.out (by kernel_rfl)) (fun _ _ _ h => h) (Or.inl ⟨by rfl, ?_⟩) ?_ ?_
          rotate_left
          ·
           intro w'
           go_simp
           with_reducible rfl
          rotate_left
          ·
           simp only [Act.put, List.setIfInBounds_toArray, List.set_cons_zero, List.set_cons_succ, i64_w, i32_w]
           rfl
          refine pure_ (i := 4) (N := some 52) (v := ?_) (a' := ?_) #[false, true, true, false, true, false, false, false, false, false, false, false, false, false, false, false, false, false, false, false, false, false, false, false, false, false, false, false, false, false, false] rfl rfl (any_of HT_.out (by kernel_rfl)) (fun _ _ _ h => h) (Or.inl ⟨by rfl, ?_⟩) ?_ ?_
          rotate_left
          ·
           intro w'
           go_simp
           with_reducible rfl
          rotate_left
          ·
           simp only [Act.put, List.setIfInBounds_toArray, List.set_cons_zero, List.set_cons_succ, i64_w, i32_w]
           rfl
          refine pure_ (i := 5) (N := some 53) (v := ?_) (a' := ?_) #[false, true, true, false, true, true, false, false, false, false, false, false, false, false, false, false, false, false, false, false, false, false, false, false, false, false, false, false, false, false, false] rfl rfl (any_of HT_.out (by kernel_rfl)) (fun _ _ _ h => h) (Or.inl ⟨by rfl, ?_⟩) ?_ ?_
          rotate_left
          ·
           intro w'
           go_simp
           with_reducible rfl
          rotate_left
          ·
           simp only [Act.put, List.setIfInBounds_toArray, List.set_cons_zero, List.set_cons_succ, i64_w, i32_w]
           rfl
          refine take_ (i := 0) (N := some 48) (v := ?_) (a' := ?_) #[true, true, true, false, true, true, false, false, false, false, false, false, false, false, false, false, false, false, false, false, false, false, false, false, false, false, false, false, false, false, false] rfl rfl (take_ofW HT_.out HW_.out (by kernel_rfl)) (fun _ _ _ h => h) (Or.inl ⟨by rfl, ?_⟩) hHeld ?_ ?_
          rotate_left
          ·
           intro w' _
           go_simp
           with_reducible rfl
          rotate_left
          ·
           simp only [Act.put, List.setIfInBounds_toArray, List.set_cons_zero, List.set_cons_succ, i64_w, i32_w]
           rfl
          refine one_ (i := 3) (N := some 51) #[true, true, true, true, true, true, false, false, false, false, false, false, false, false, false, false, false, false, false, false, false, false, false, false, false, false, false, false, false, false, false] rfl rfl (one_of HT_.out (by kernel_rfl)) (by decide) (fun K hK => ?_)
          refine goes_ Try.func58 (by kernel_rfl) rfl #[.agg #[], .slice A0 l0.length c0, .slice A1 l1.length c1] (by rfl) rfl rfl lu ?_
          with_reducible refine (semiring_Counting_Same.calls kj31  _ _ l0 _ _ l1 t427 _ ?side1 ?side2 ?side3 ?side4 A57.out).mono ?_
          (case side1 => repeat (first | exact (Kd.V_reads' HO_0.out).2.2 | (with_reducible refine Kd.C_alloc ?_ _) | (with_reducible refine Kd.C_drewN ?_ _) | (with_reducible refine Kd.C_drew ?_)))
          (case side2 => exact (Kd.V_reads' HO_0.out).2.1)
          (case side3 => repeat (first | exact (Kd.V_reads' HO_1.out).2.2 | (with_reducible refine Kd.C_alloc ?_ _) | (with_reducible refine Kd.C_drewN ?_ _) | (with_reducible refine Kd.C_drew ?_)))
          (case side4 => exact (Kd.V_reads' HO_1.out).2.1)
          rintro e w61 ⟨rfl, hb⟩
          refine ⟨_, rfl, ?_⟩
          replace HO_0 := Aside0.mk (Kd.V_below (vu HO_0.out) hb)
          replace HO_1 := Aside0.mk (Kd.V_below (vu HO_1.out) hb)
          replace HO_2 := Aside0.mk (Kd.V_below (vu HO_2.out) hb)
          replace BK393 := Aside0.mk (blk_below (g := gb393) (o := .cells #[] 43 (0, 0)) (ku BK393.out) hb)
          replace HB := Aside0.mk (below_step (bu1 HB.out GE393.out) hb)
          (try clear hb)
          (try clear hb2)
          (try clear hk)
          (try clear hi)
          refine hK.out _ _ trivial (fun hHeld => ?_)
          clear hK K
          refine norm_ (a' := ?_) ?_ ?_
          rotate_left
          ·
           show Act.put _ (some 51) _ = _
           simp only [Act.put, List.setIfInBounds_toArray, List.set_cons_zero, List.set_cons_succ, i64_w, i32_w]
           rfl
          refine one_ (i := 6) (N := some 54) #[true, true, true, true, true, true, true, false, false, false, false, false, false, false, false, false, false, false, false, false, false, false, false, false, false, false, false, false, false, false, false] rfl rfl (one_of HT_.out (by kernel_rfl)) (by decide) (fun K hK => ?_)
          refine goes_ Try.func59 (by kernel_rfl) rfl #[.slice A0 l0.length c0, .slice A1 l1.length c1] (by rfl) rfl rfl lu ?_
          with_reducible refine (codewrightref01_Cmp.calls kj31 _ _ l0 _ _ l1 t428 _ ?side1 ?side2 ?side3 ?side4 A58.out).mono ?_
          (case side1 => repeat (first | exact (Kd.V_reads' HO_0.out).2.2 | (with_reducible refine Kd.C_alloc ?_ _) | (with_reducible refine Kd.C_drewN ?_ _) | (with_reducible refine Kd.C_drew ?_)))
          (case side2 => exact (Kd.V_reads' HO_0.out).2.1)
          (case side3 => repeat (first | exact (Kd.V_reads' HO_1.out).2.2 | (with_reducible refine Kd.C_alloc ?_ _) | (with_reducible refine Kd.C_drewN ?_ _) | (with_reducible refine Kd.C_drew ?_)))
          (case side4 => exact (Kd.V_reads' HO_1.out).2.1)
          rintro e w62 ⟨rfl, hb⟩
          refine ⟨_, rfl, ?_⟩
          replace HO_0 := Aside0.mk (Kd.V_below (vu HO_0.out) hb)
          replace HO_1 := Aside0.mk (Kd.V_below (vu HO_1.out) hb)
          replace HO_2 := Aside0.mk (Kd.V_below (vu HO_2.out) hb)
          replace BK393 := Aside0.mk (blk_below (g := gb393) (o := .cells #[] 43 (0, 0)) (ku BK393.out) hb)
          replace HB := Aside0.mk (below_step (bu1 HB.out GE393.out) hb)
          (try clear hb)
          (try clear hb2)
          (try clear hk)
          (try clear hi)
          refine hK.out _ _ trivial (fun hHeld => ?_)
          clear hK K
          refine norm_ (a' := ?_) ?_ ?_
          rotate_left
          ·
           show Act.put _ (some 54) _ = _
           simp only [Act.put, List.setIfInBounds_toArray, List.set_cons_zero, List.set_cons_succ, i64_w, i32_w]
           rfl
          refine pure_ (i := 7) (N := some 55) (v := ?_) (a' := ?_) #[true, true, true, true, true, true, true, true, false, false, false, false, false, false, false, false, false, false, false, false, false, false, false, false, false, false, false, false, false, false, false] rfl rfl (any_of HT_.out (by kernel_rfl)) (fun _ _ _ h => h) (Or.inl ⟨by rfl, ?_⟩) ?_ ?_
          rotate_left
          ·
           intro w'
           go_simp
           with_reducible rfl
          rotate_left
          ·
           simp only [Act.put, List.setIfInBounds_toArray, List.set_cons_zero, List.set_cons_succ, i64_w, i32_w]
           rfl
          refine pure_ (i := 8) (N := some 56) (v := ?_) (a' := ?_) #[true, true, true, true, true, true, true, true, true, false, false, false, false, false, false, false, false, false, false, false, false, false, false, false, false, false, false, false, false, false, false] rfl rfl (any_of HT_.out (by kernel_rfl)) (fun _ _ _ h => h) (Or.inl ⟨by rfl, ?_⟩) ?_ ?_
          rotate_left
          ·
           intro w'
           go_simp
           with_reducible rfl
          rotate_left
          ·
           simp only [Act.put, List.setIfInBounds_toArray, List.set_cons_zero, List.set_cons_succ, i64_w, i32_w]
           rfl
          refine pure_ (i := 9) (N := some 57) (v := ?_) (a' := ?_) #[true, true, true, true, true, true, true, true, true, true, false, false, false, false, false, false, false, false, false, false, false, false, false, false, false, false, false, false, false, false, false] rfl rfl (any_of HT_.out (by kernel_rfl)) (fun _ _ _ h => h) (Or.inl ⟨by rfl, ?_⟩) ?_ ?_
          rotate_left
          ·
           intro w'
           go_simp
           with_reducible rfl
          rotate_left
          ·
           simp only [Act.put, List.setIfInBounds_toArray, List.set_cons_zero, List.set_cons_succ, i64_w, i32_w]
           rfl
          refine pure_ (i := 10) (N := some 58) (v := undef) (a' := ?_) #[true, true, true, true, true, true, true, true, true, true, true, false, false, false, false, false, false, false, false, false, false, false, false, false, false, false, false, false, false, false, false] rfl rfl (any_of HT_.out (by kernel_rfl)) (fun _ _ _ h => h) (Or.inr ⟨by rfl, rfl⟩) ?_ ?_
          rotate_left
          ·
           simp only [Act.put, List.setIfInBounds_toArray, List.set_cons_zero, List.set_cons_succ, i64_w, i32_w]
           rfl
          refine pure_ (i := 11) (N := some 59) (v := undef) (a' := ?_) #[true, true, true, true, true, true, true, true, true, true, true, true, false, false, false, false, false, false, false, false, false, false, false, false, false, false, false, false, false, false, false] rfl rfl (any_of HT_.out (by kernel_rfl)) (fun _ _ _ h => h) (Or.inr ⟨by rfl, rfl⟩) ?_ ?_
          rotate_left
          ·
           simp only [Act.put, List.setIfInBounds_toArray, List.set_cons_zero, List.set_cons_succ, i64_w, i32_w]
           rfl
          refine pure_ (i := 12) (N := some 60) (v := undef) (a' := ?_) #[true, true, true, true, true, true, true, true, true, true, true, true, true, false, false, false, false, false, false, false, false, false, false, false, false, false, false, false, false, false, false] rfl rfl (any_of HT_.out (by kernel_rfl)) (fun _ _ _ h => h) (Or.inr ⟨by rfl, rfl⟩) ?_ ?_
          rotate_left
          ·
           simp only [Act.put, List.setIfInBounds_toArray, List.set_cons_zero, List.set_cons_succ, i64_w, i32_w]
           rfl
          refine pure_ (i := 13) (N := some 61) (v := undef) (a' := ?_) #[true, true, true, true, true, true, true, true, true, true, true, true, true, true, false, false, false, false, false, false, false, false, false, false, false, false, false, false, false, false, false] rfl rfl (any_of HT_.out (by kernel_rfl)) (fun _ _ _ h => h) (Or.inr ⟨by rfl, rfl⟩) ?_ ?_
          rotate_left
          ·
           simp only [Act.put, List.setIfInBounds_toArray, List.set_cons_zero, List.set_cons_succ, i64_w, i32_w]
           rfl
          refine pure_ (i := 14) (N := some 62) (v := undef) (a' := ?_) #[true, true, true, true, true, true, true, true, true, true, true, true, true, true, true, false, false, false, false, false, false, false, false, false, false, false, false, false, false, false, false] rfl rfl (any_of HT_.out (by kernel_rfl)) (fun _ _ _ h => h) (Or.inr ⟨by rfl, rfl⟩) ?_ ?_
          rotate_left
          ·
           simp only [Act.put, List.setIfInBounds_toArray, List.set_cons_zero, List.set_cons_succ, i64_w, i32_w]
           rfl
          refine pure_ (i := 15) (N := some 63) (v := undef) (a' := ?_) #[true, true, true, true, true, true, true, true, true, true, true, true, true, true, true, true, false, false, false, false, false, false, false, false, false, false, false, false, false, false, false] rfl rfl (any_of HT_.out (by kernel_rfl)) (fun _ _ _ h => h) (Or.inr ⟨by rfl, rfl⟩) ?_ ?_
          rotate_left
          ·
           simp only [Act.put, List.setIfInBounds_toArray, List.set_cons_zero, List.set_cons_succ, i64_w, i32_w]
           rfl
          refine pure_ (i := 16) (N := some 64) (v := undef) (a' := ?_) #[true, true, true, true, true, true, true, true, true, true, true, true, true, true, true, true, true, false, false, false, false, false, false, false, false, false, false, false, false, false, false] rfl rfl (any_of HT_.out (by kernel_rfl)) (fun _ _ _ h => h) (Or.inr ⟨by rfl, rfl⟩) ?_ ?_
          rotate_left
          ·
           simp only [Act.put, List.setIfInBounds_toArray, List.set_cons_zero, List.set_cons_succ, i64_w, i32_w]
           rfl
          refine pure_ (i := 17) (N := some 65) (v := undef) (a' := ?_) #[true, true, true, true, true, true, true, true, true, true, true, true, true, true, true, true, true, true, false, false, false, false, false, false, false, false, false, false, false, false, false] rfl rfl (any_of HT_.out (by kernel_rfl)) (fun _ _ _ h => h) (Or.inr ⟨by rfl, rfl⟩) ?_ ?_
          rotate_left
          ·
           simp only [Act.put, List.setIfInBounds_toArray, List.set_cons_zero, List.set_cons_succ, i64_w, i32_w]
           rfl
          refine pure_ (i := 18) (N := some 66) (v := undef) (a' := ?_) #[true, true, true, true, true, true, true, true, true, true, true, true, true, true, true, true, true, true, true, false, false, false, false, false, false, false, false, false, false, false, false] rfl rfl (any_of HT_.out (by kernel_rfl)) (fun _ _ _ h => h) (Or.inr ⟨by rfl, rfl⟩) ?_ ?_
          rotate_left
          ·
           simp only [Act.put, List.setIfInBounds_toArray, List.set_cons_zero, List.set_cons_succ, i64_w, i32_w]
           rfl
          refine pure_ (i := 19) (N := some 67) (v := ?_) (a' := ?_) #[true, true, true, true, true, true, true, true, true, true, true, true, true, true, true, true, true, true, true, true, false, false, false, false, false, false, false, false, false, false, false] rfl rfl (any_of HT_.out (by kernel_rfl)) (fun _ _ _ h => h) (Or.inl ⟨by rfl, ?_⟩) ?_ ?_
          rotate_left
          ·
           intro w'
           go_simp
           with_reducible rfl
          rotate_left
          ·
           simp only [Act.put, List.setIfInBounds_toArray, List.set_cons_zero, List.set_cons_succ, i64_w, i32_w]
           rfl
          refine pure_ (i := 20) (N := some 68) (v := ?_) (a' := ?_) #[true, true, true, true, true, true, true, true, true, true, true, true, true, true, true, true, true, true, true, true, true, false, false, false, false, false, false, false, false, false, false] rfl rfl (any_of HT_.out (by kernel_rfl)) (fun _ _ _ h => h) (Or.inl ⟨by rfl, ?_⟩) ?_ ?_
          rotate_left
          ·
           intro w'
           go_simp
           with_reducible rfl
          rotate_left
          ·
           simp only [Act.put, List.setIfInBounds_toArray, List.set_cons_zero, List.set_cons_succ, i64_w, i32_w]
           rfl
          refine pure_ (i := 21) (N := some 69) (v := undef) (a' := ?_) #[true, true, true, true, true, true, true, true, true, true, true, true, true, true, true, true, true, true, true, true, true, true, false, false, false, false, false, false, false, false, false] rfl rfl (any_of HT_.out (by kernel_rfl)) (fun _ _ _ h => h) (Or.inr ⟨by rfl, rfl⟩) ?_ ?_
          rotate_left
          ·
           simp only [Act.put, List.setIfInBounds_toArray, List.set_cons_zero, List.set_cons_succ, i64_w, i32_w]
           rfl
          refine pure_ (i := 22) (N := some 70) (v := undef) (a' := ?_) #[true, true, true, true, true, true, true, true, true, true, true, true, true, true, true, true, true, true, true, true, true, true, true, false, false, false, false, false, false, false, false] rfl rfl (any_of HT_.out (by kernel_rfl)) (fun _ _ _ h => h) (Or.inr ⟨by rfl, rfl⟩) ?_ ?_
          rotate_left
          ·
           simp only [Act.put, List.setIfInBounds_toArray, List.set_cons_zero, List.set_cons_succ, i64_w, i32_w]
           rfl
          refine pure_ (i := 23) (N := some 71) (v := undef) (a' := ?_) #[true, true, true, true, true, true, true, true, true, true, true, true, true, true, true, true, true, true, true, true, true, true, true, true, false, false, false, false, false, false, false] rfl rfl (any_of HT_.out (by kernel_rfl)) (fun _ _ _ h => h) (Or.inr ⟨by rfl, rfl⟩) ?_ ?_
          rotate_left
          ·
           simp only [Act.put, List.setIfInBounds_toArray, List.set_cons_zero, List.set_cons_succ, i64_w, i32_w]
           rfl
          refine pure_ (i := 24) (N := some 72) (v := undef) (a' := ?_) #[true, true, true, true, true, true, true, true, true, true, true, true, true, true, true, true, true, true, true, true, true, true, true, true, true, false, false, false, false, false, false] rfl rfl (any_of HT_.out (by kernel_rfl)) (fun _ _ _ h => h) (Or.inr ⟨by rfl, rfl⟩) ?_ ?_
          rotate_left
          ·
           simp only [Act.put, List.setIfInBounds_toArray, List.set_cons_zero, List.set_cons_succ, i64_w, i32_w]
           rfl
          refine pure_ (i := 25) (N := some 73) (v := undef) (a' := ?_) #[true, true, true, true, true, true, true, true, true, true, true, true, true, true, true, true, true, true, true, true, true, true, true, true, true, true, false, false, false, false, false] rfl rfl (any_of HT_.out (by kernel_rfl)) (fun _ _ _ h => h) (Or.inr ⟨by rfl, rfl⟩) ?_ ?_
          rotate_left
          ·
           simp only [Act.put, List.setIfInBounds_toArray, List.set_cons_zero, List.set_cons_succ, i64_w, i32_w]
           rfl
          refine pure_ (i := 26) (N := some 74) (v := undef) (a' := ?_) #[true, true, true, true, true, true, true, true, true, true, true, true, true, true, true, true, true, true, true, true, true, true, true, true, true, true, true, false, false, false, false] rfl rfl (any_of HT_.out (by kernel_rfl)) (fun _ _ _ h => h) (Or.inr ⟨by rfl, rfl⟩) ?_ ?_
          rotate_left
          ·
           simp only [Act.put, List.setIfInBounds_toArray, List.set_cons_zero, List.set_cons_succ, i64_w, i32_w]
           rfl
          refine pure_ (i := 27) (N := some 75) (v := undef) (a' := ?_) #[true, true, true, true, true, true, true, true, true, true, true, true, true, true, true, true, true, true, true, true, true, true, true, true, true, true, true, true, false, false, false] rfl rfl (any_of HT_.out (by kernel_rfl)) (fun _ _ _ h => h) (Or.inr ⟨by rfl, rfl⟩) ?_ ?_
          rotate_left
          ·
           simp only [Act.put, List.setIfInBounds_toArray, List.set_cons_zero, List.set_cons_succ, i64_w, i32_w]
           rfl
          refine pure_ (i := 28) (N := some 76) (v := undef) (a' := ?_) #[true, true, true, true, true, true, true, true, true, true, true, true, true, true, true, true, true, true, true, true, true, true, true, true, true, true, true, true, true, false, false] rfl rfl (any_of HT_.out (by kernel_rfl)) (fun _ _ _ h => h) (Or.inr ⟨by rfl, rfl⟩) ?_ ?_
          rotate_left
          ·
           simp only [Act.put, List.setIfInBounds_toArray, List.set_cons_zero, List.set_cons_succ, i64_w, i32_w]
           rfl
          refine pure_ (i := 29) (N := some 77) (v := undef) (a' := ?_) #[true, true, true, true, true, true, true, true, true, true, true, true, true, true, true, true, true, true, true, true, true, true, true, true, true, true, true, true, true, true, false] rfl rfl (any_of HT_.out (by kernel_rfl)) (fun _ _ _ h => h) (Or.inr ⟨by rfl, rfl⟩) ?_ ?_
          rotate_left
          ·
           simp only [Act.put, List.setIfInBounds_toArray, List.set_cons_zero, List.set_cons_succ, i64_w, i32_w]
           rfl
          refine pure_ (i := 30) (N := some 78) (v := ?_) (a' := ?_) #[true, true, true, true, true, true, true, true, true, true, true, true, true, true, true, true, true, true, true, true, true, true, true, true, true, true, true, true, true, true, true] rfl rfl (any_of HT_.out (by kernel_rfl)) (fun _ _ _ h => h) (Or.inl ⟨by rfl, ?_⟩) ?_ ?_
          rotate_left
          ·
           intro w'
           go_simp
           with_reducible rfl
          rotate_left
          ·
           simp only [Act.put, List.setIfInBounds_toArray, List.set_cons_zero, List.set_cons_succ, i64_w, i32_w]
           rfl
          refine done_ (done_of HT_.out (by kernel_rfl)) ?_
          try go_wp2
          go_meet
          case rel => exact ⟨_, (true), (by first | rfl | (simp; done) | (simp [*]; done)), H', ⟨by have := HJ5.out; have := HJ31.out; first | omega | exact Nat.le_refl _⟩, ⟨by (with_reducible repeat (first | apply Kd.V_alloc | apply Kd.V_drewN | apply Kd.V_drew)); exact HO_0.out⟩, ⟨by (with_reducible repeat (first | apply Kd.V_alloc | apply Kd.V_drewN | apply Kd.V_drew)); exact HO_1.out⟩, ⟨by (with_reducible repeat (first | apply Kd.V_alloc | apply Kd.V_drewN | apply Kd.V_drew)); exact HO_2.out⟩, ⟨by (with_reducible repeat (first | refine blk_drewN ?_ _ | refine blk_drew ?_ | refine blk_alloc ?_ _)); exact BK393.out⟩, ⟨by repeat (first | (with_reducible first | exact HB.out | apply below_alloc | apply pw_below_drewN | apply below_drew1 | refine below_set ?_ GE393.out) | exact HB.out)⟩⟩
         ·
          rw [if_neg c59] at H
          have c59b0 : (t427 != (t428 == 0)) = false := by simpa using c59
          (try (have c59b1 : decide (t427 = (t428 == 0)) = true := by simpa using c59))
          (try (have c59b2 : (t427 == (t428 == 0)) = true := by simpa using c59))
          clear c59
          (first | rw [c59b0] | rw [c59b1] | (simp only [i64_w, i32_w]; rw [c59b0]) | skip)
          replace H := Option.bind_eq_some_iff.mp H
          obtain ⟨t429, A630, H⟩ := H
          replace H : ((semiring_Counting_Add.f kj31 l0 t429).bind fun t432 => ((semiring_Counting_Same.f kj31 t432 l0).bind fun t435 => (if t435 = true then ((semiring_Counting_One.f kj31).bind fun t436 => ((semiring_Counting_Mul.f kj31 l0 t436).bind fun t439 => ((semiring_Counting_Same.f kj31 t439 l0).bind fun t442 => (codewrightlaw46_SemiringCounts.j2 kj31 l0 l1 l2 (!t442))))) else (codewrightlaw46_SemiringCounts.j2 kj31 l0 l1 l2 true)))) = some r := H
          have A63 := Aside0.mk A630
          clear A630
          replace H := Option.bind_eq_some_iff.mp H
          obtain ⟨t432, A640, H⟩ := H
          replace H : ((semiring_Counting_Same.f kj31 t432 l0).bind fun t435 => (if t435 = true then ((semiring_Counting_One.f kj31).bind fun t436 => ((semiring_Counting_Mul.f kj31 l0 t436).bind fun t439 => ((semiring_Counting_Same.f kj31 t439 l0).bind fun t442 => (codewrightlaw46_SemiringCounts.j2 kj31 l0 l1 l2 (!t442))))) else (codewrightlaw46_SemiringCounts.j2 kj31 l0 l1 l2 true))) = some r := H
          have A64 := Aside0.mk A640
          clear A640
          replace H := Option.bind_eq_some_iff.mp H
          obtain ⟨t435, A650, H⟩ := H
          replace H : (if t435 = true then ((semiring_Counting_One.f kj31).bind fun t436 => ((semiring_Counting_Mul.f kj31 l0 t436).bind fun t439 => ((semiring_Counting_Same.f kj31 t439 l0).bind fun t442 => (codewrightlaw46_SemiringCounts.j2 kj31 l0 l1 l2 (!t442))))) else (codewrightlaw46_SemiringCounts.j2 kj31 l0 l1 l2 true)) = some r := H
          have A65 := Aside0.mk A650
          clear A650
          by_cases c66 : t435 = true
          ·
           subst c66
           have H1 : ((semiring_Counting_One.f kj31).bind fun t436 => ((semiring_Counting_Mul.f kj31 l0 t436).bind fun t439 => ((semiring_Counting_Same.f kj31 t439 l0).bind fun t442 => (codewrightlaw46_SemiringCounts.j2 kj31 l0 l1 l2 (!t442))))) = some r := by rw [if_pos rfl] at H; exact H
           clear H
           have H := H1
           clear H1
           replace H := Option.bind_eq_some_iff.mp H
           obtain ⟨t436, A670, H⟩ := H
           replace H : ((semiring_Counting_Mul.f kj31 l0 t436).bind fun t439 => ((semiring_Counting_Same.f kj31 t439 l0).bind fun t442 => (codewrightlaw46_SemiringCounts.j2 kj31 l0 l1 l2 (!t442)))) = some r := H
           have A67 := Aside0.mk A670
           clear A670
           replace H := Option.bind_eq_some_iff.mp H
           obtain ⟨t439, A680, H⟩ := H
           replace H : ((semiring_Counting_Same.f kj31 t439 l0).bind fun t442 => (codewrightlaw46_SemiringCounts.j2 kj31 l0 l1 l2 (!t442))) = some r := H
           have A68 := Aside0.mk A680
           clear A680
           replace H := Option.bind_eq_some_iff.mp H
           obtain ⟨t442, A690, H⟩ := H
           replace H : (codewrightlaw46_SemiringCounts.j2 kj31 l0 l1 l2 (!t442)) = some r := H
           have A69 := Aside0.mk A690
           clear A690
           have H' := Aside0.mk H
           clear H
           try go_wp2
           replace HO_0 := Aside0.mk (Kd.V_drew HO_0.out)
           replace HO_1 := Aside0.mk (Kd.V_drew HO_1.out)
           replace HO_2 := Aside0.mk (Kd.V_drew HO_2.out)
           replace BK393 := Aside0.mk (blk_drew BK393.out)
           replace HB := Aside0.mk (below_drew1 HB.out)
           refine start_ (n := 31) (S := fun w' => True) (ds := []) #[false, false, false, false, false, false, false, false, false, false, false, false, false, false, false, false, false, false, false, false, false, false, false, false, false, false, false, false, false, false, false] (by kernel_rfl) rfl rfl trivial (fun hHeld => ?_); refine with_tabW codewrightlaw46_SemiringCounts.tab8 codewrightlaw46_SemiringCounts.bits8 (fun HT_ HW_ => ?_)
           generalize wc.drew = w70 at HO_0 HO_1 HO_2 BK393 HB hHeld ⊢
           refine pure_ (i := 1) (N := some 49) (v := ?_) (a' := ?_) #[false, true, false, false, false, false, false, false, false, false, false, false, false, false, false, false, false, false, false, false, false, false, false, false, false, false, false, false, false, false, false] rfl rfl (any_of HT_.out (by kernel_rfl)) (fun _ _ _ h => h) (Or.inl ⟨by rfl, ?_⟩) ?_ ?_
           rotate_left
           ·
            intro w'
            go_simp
            with_reducible rfl
           rotate_left
           ·
            simp only [Act.put, List.setIfInBounds_toArray, List.set_cons_zero, List.set_cons_succ, i64_w, i32_w]
            rfl
           refine pure_ (i := 2) (N := some 50) (v := ?_) (a' := ?_) #[false, true, true, false, false, false, false, false, false, false, false, false, false, false, false, false, false, false, false, false, false, false, false, false, false, false, false, false, false, false, false] rfl rfl (any_of HT_.out (by kernel_rfl)) (fun _ _ _ h => h) (Or.inl ⟨by rfl, ?_⟩) ?_ ?_
           rotate_left
           ·
            intro w'
            go_simp
            with_reducible rfl
           rotate_left
           ·
            simp only [Act.put, List.setIfInBounds_toArray, List.set_cons_zero, List.set_cons_succ, i64_w, i32_w]
            rfl
           refine pure_ (i := 4) (N := some 52) (v := ?_) (a' := ?_) #[false, true, true, false, true, false, false, false, false, false, false, false, false, false, false, false, false, false, false, false, false, false, false, false, false, false, false, false, false, false, false] rfl rfl (any_of HT_.out (by kernel_rfl)) (fun _ _ _ h => h) (Or.inl ⟨by rfl, ?_⟩) ?_ ?_
           rotate_left
           ·
            intro w'
            go_simp
            with_reducible rfl
           rotate_left
           ·
            simp only [Act.put, List.setIfInBounds_toArray, List.set_cons_zero, List.set_cons_succ, i64_w, i32_w]
            rfl
           refine pure_ (i := 5) (N := some 53) (v := ?_) (a' := ?_) #[false, true, true, false, true, true, false, false, false, false, false, false, false, false, false, false, false, false, false, false, false, false, false, false, false, false, false, false, false, false, false] rfl rfl (any_of HT_.out (by kernel_rfl)) (fun _ _ _ h => h) (Or.inl ⟨by rfl, ?_⟩) ?_ ?_
           rotate_left
           ·
            intro w'
            go_simp
            with_reducible rfl
           rotate_left
           ·
            simp only [Act.put, List.setIfInBounds_toArray, List.set_cons_zero, List.set_cons_succ, i64_w, i32_w]
            rfl
           refine take_ (i := 0) (N := some 48) (v := ?_) (a' := ?_) #[true, true, true, false, true, true, false, false, false, false, false, false, false, false, false, false, false, false, false, false, false, false, false, false, false, false, false, false, false, false, false] rfl rfl (take_ofW HT_.out HW_.out (by kernel_rfl)) (fun _ _ _ h => h) (Or.inl ⟨by rfl, ?_⟩) hHeld ?_ ?_
           rotate_left
           ·
            intro w' _
            go_simp
            with_reducible rfl
           rotate_left
           ·
            simp only [Act.put, List.setIfInBounds_toArray, List.set_cons_zero, List.set_cons_succ, i64_w, i32_w]
            rfl
           refine one_ (i := 3) (N := some 51) #[true, true, true, true, true, true, false, false, false, false, false, false, false, false, false, false, false, false, false, false, false, false, false, false, false, false, false, false, false, false, false] rfl rfl (one_of HT_.out (by kernel_rfl)) (by decide) (fun K hK => ?_)
           refine goes_ Try.func58 (by kernel_rfl) rfl #[.agg #[], .slice A0 l0.length c0, .slice A1 l1.length c1] (by rfl) rfl rfl lu ?_
           with_reducible refine (semiring_Counting_Same.calls kj31  _ _ l0 _ _ l1 t427 _ ?side1 ?side2 ?side3 ?side4 A57.out).mono ?_
           (case side1 => repeat (first | exact (Kd.V_reads' HO_0.out).2.2 | (with_reducible refine Kd.C_alloc ?_ _) | (with_reducible refine Kd.C_drewN ?_ _) | (with_reducible refine Kd.C_drew ?_)))
           (case side2 => exact (Kd.V_reads' HO_0.out).2.1)
           (case side3 => repeat (first | exact (Kd.V_reads' HO_1.out).2.2 | (with_reducible refine Kd.C_alloc ?_ _) | (with_reducible refine Kd.C_drewN ?_ _) | (with_reducible refine Kd.C_drew ?_)))
           (case side4 => exact (Kd.V_reads' HO_1.out).2.1)
           rintro e w71 ⟨rfl, hb⟩
           refine ⟨_, rfl, ?_⟩
           replace HO_0 := Aside0.mk (Kd.V_below (vu HO_0.out) hb)
           replace HO_1 := Aside0.mk (Kd.V_below (vu HO_1.out) hb)
           replace HO_2 := Aside0.mk (Kd.V_below (vu HO_2.out) hb)
           replace BK393 := Aside0.mk (blk_below (g := gb393) (o := .cells #[] 43 (0, 0)) (ku BK393.out) hb)
           replace HB := Aside0.mk (below_step (bu1 HB.out GE393.out) hb)
           (try clear hb)
           (try clear hb2)
           (try clear hk)
           (try clear hi)
           refine hK.out _ _ trivial (fun hHeld => ?_)
           clear hK K
           refine norm_ (a' := ?_) ?_ ?_
           rotate_left
           ·
            show Act.put _ (some 51) _ = _
            simp only [Act.put, List.setIfInBounds_toArray, List.set_cons_zero, List.set_cons_succ, i64_w, i32_w]
            rfl
           refine one_ (i := 6) (N := some 54) #[true, true, true, true, true, true, true, false, false, false, false, false, false, false, false, false, false, false, false, false, false, false, false, false, false, false, false, false, false, false, false] rfl rfl (one_of HT_.out (by kernel_rfl)) (by decide) (fun K hK => ?_)
           refine goes_ Try.func59 (by kernel_rfl) rfl #[.slice A0 l0.length c0, .slice A1 l1.length c1] (by rfl) rfl rfl lu ?_
           with_reducible refine (codewrightref01_Cmp.calls kj31 _ _ l0 _ _ l1 t428 _ ?side1 ?side2 ?side3 ?side4 A58.out).mono ?_
           (case side1 => repeat (first | exact (Kd.V_reads' HO_0.out).2.2 | (with_reducible refine Kd.C_alloc ?_ _) | (with_reducible refine Kd.C_drewN ?_ _) | (with_reducible refine Kd.C_drew ?_)))
           (case side2 => exact (Kd.V_reads' HO_0.out).2.1)
           (case side3 => repeat (first | exact (Kd.V_reads' HO_1.out).2.2 | (with_reducible refine Kd.C_alloc ?_ _) | (with_reducible refine Kd.C_drewN ?_ _) | (with_reducible refine Kd.C_drew ?_)))
           (case side4 => exact (Kd.V_reads' HO_1.out).2.1)
           rintro e w72 ⟨rfl, hb⟩
           refine ⟨_, rfl, ?_⟩
           replace HO_0 := Aside0.mk (Kd.V_below (vu HO_0.out) hb)
           replace HO_1 := Aside0.mk (Kd.V_below (vu HO_1.out) hb)
           replace HO_2 := Aside0.mk (Kd.V_below (vu HO_2.out) hb)
           replace BK393 := Aside0.mk (blk_below (g := gb393) (o := .cells #[] 43 (0, 0)) (ku BK393.out) hb)
           replace HB := Aside0.mk (below_step (bu1 HB.out GE393.out) hb)
           (try clear hb)
           (try clear hb2)
           (try clear hk)
           (try clear hi)
           refine hK.out _ _ trivial (fun hHeld => ?_)
           clear hK K
           refine norm_ (a' := ?_) ?_ ?_
           rotate_left
           ·
            show Act.put _ (some 54) _ = _
            simp only [Act.put, List.setIfInBounds_toArray, List.set_cons_zero, List.set_cons_succ, i64_w, i32_w]
            rfl
           refine pure_ (i := 7) (N := some 55) (v := ?_) (a' := ?_) #[true, true, true, true, true, true, true, true, false, false, false, false, false, false, false, false, false, false, false, false, false, false, false, false, false, false, false, false, false, false, false] rfl rfl (any_of HT_.out (by kernel_rfl)) (fun _ _ _ h => h) (Or.inl ⟨by rfl, ?_⟩) ?_ ?_
           rotate_left
           ·
            intro w'
            go_simp
            with_reducible rfl
           rotate_left
           ·
            simp only [Act.put, List.setIfInBounds_toArray, List.set_cons_zero, List.set_cons_succ, i64_w, i32_w]
            rfl
           refine pure_ (i := 8) (N := some 56) (v := ?_) (a' := ?_) #[true, true, true, true, true, true, true, true, true, false, false, false, false, false, false, false, false, false, false, false, false, false, false, false, false, false, false, false, false, false, false] rfl rfl (any_of HT_.out (by kernel_rfl)) (fun _ _ _ h => h) (Or.inl ⟨by rfl, ?_⟩) ?_ ?_
           rotate_left
           ·
            intro w'
            go_simp
            with_reducible rfl
           rotate_left
           ·
            simp only [Act.put, List.setIfInBounds_toArray, List.set_cons_zero, List.set_cons_succ, i64_w, i32_w]
            rfl
           refine pure_ (i := 9) (N := some 57) (v := ?_) (a' := ?_) #[true, true, true, true, true, true, true, true, true, true, false, false, false, false, false, false, false, false, false, false, false, false, false, false, false, false, false, false, false, false, false] rfl rfl (any_of HT_.out (by kernel_rfl)) (fun _ _ _ h => h) (Or.inl ⟨by rfl, ?_⟩) ?_ ?_
           rotate_left
           ·
            intro w'
            go_simp
            with_reducible rfl
           rotate_left
           ·
            simp only [Act.put, List.setIfInBounds_toArray, List.set_cons_zero, List.set_cons_succ, i64_w, i32_w]
            rfl
           refine pure_ (i := 12) (N := some 60) (v := ?_) (a' := ?_) #[true, true, true, true, true, true, true, true, true, true, false, false, true, false, false, false, false, false, false, false, false, false, false, false, false, false, false, false, false, false, false] rfl rfl (any_of HT_.out (by kernel_rfl)) (fun _ _ _ h => h) (Or.inl ⟨by rfl, ?_⟩) ?_ ?_
           rotate_left
           ·
            intro w'
            go_simp
            with_reducible rfl
           rotate_left
           ·
            simp only [Act.put, List.setIfInBounds_toArray, List.set_cons_zero, List.set_cons_succ, i64_w, i32_w]
            rfl
           refine pure_ (i := 16) (N := some 64) (v := ?_) (a' := ?_) #[true, true, true, true, true, true, true, true, true, true, false, false, true, false, false, false, true, false, false, false, false, false, false, false, false, false, false, false, false, false, false] rfl rfl (any_of HT_.out (by kernel_rfl)) (fun _ _ _ h => h) (Or.inl ⟨by rfl, ?_⟩) ?_ ?_
           rotate_left
           ·
            intro w'
            go_simp
            with_reducible rfl
           rotate_left
           ·
            simp only [Act.put, List.setIfInBounds_toArray, List.set_cons_zero, List.set_cons_succ, i64_w, i32_w]
            rfl
           refine take_ (i := 10) (N := some 58) (v := ?_) (a' := ?_) #[true, true, true, true, true, true, true, true, true, true, true, false, true, false, false, false, true, false, false, false, false, false, false, false, false, false, false, false, false, false, false] rfl rfl (take_ofW HT_.out HW_.out (by kernel_rfl)) (fun _ _ _ h => h) (Or.inl ⟨by rfl, ?_⟩) hHeld ?_ ?_
           rotate_left
           ·
            intro w' _
            go_simp
            with_reducible rfl
           rotate_left
           ·
            simp only [Act.put, List.setIfInBounds_toArray, List.set_cons_zero, List.set_cons_succ, i64_w, i32_w]
            rfl
           refine take_ (i := 11) (N := some 59) (v := ?_) (a' := ?_) #[true, true, true, true, true, true, true, true, true, true, true, true, true, false, false, false, true, false, false, false, false, false, false, false, false, false, false, false, false, false, false] rfl rfl (take_ofW HT_.out HW_.out (by kernel_rfl)) (fun _ _ _ h => h) (Or.inl ⟨by rfl, ?_⟩) hHeld ?_ ?_
           rotate_left
           ·
            intro w' _
            go_simp
            with_reducible rfl
           rotate_left
           ·
            simp only [Act.put, List.setIfInBounds_toArray, List.set_cons_zero, List.set_cons_succ, i64_w, i32_w]
            rfl
           refine take_ (i := 13) (N := some 61) (v := ?_) (a' := ?_) #[true, true, true, true, true, true, true, true, true, true, true, true, true, true, false, false, true, false, false, false, false, false, false, false, false, false, false, false, false, false, false] rfl rfl (take_ofW HT_.out HW_.out (by kernel_rfl)) (fun _ _ _ h => h) (Or.inl ⟨by rfl, ?_⟩) hHeld ?_ ?_
           rotate_left
           ·
            intro w' _
            go_simp
            with_reducible rfl
           rotate_left
           ·
            simp only [Act.put, List.setIfInBounds_toArray, List.set_cons_zero, List.set_cons_succ, i64_w, i32_w]
            rfl
           refine one_ (i := 14) (N := some 62) #[true, true, true, true, true, true, true, true, true, true, true, true, true, true, true, false, true, false, false, false, false, false, false, false, false, false, false, false, false, false, false] rfl rfl (one_of HT_.out (by kernel_rfl)) (by decide) (fun K hK => ?_)
           refine goes_ Try.func52 (by kernel_rfl) rfl #[.agg #[]] (by rfl) rfl rfl lu ?_
           with_reducible refine (semiring_Counting_Zero.calls kj31  t429 _ A63.out).mono ?_
           rintro e w73 ⟨v430, rfl, ho0, hb⟩
           refine ⟨_, rfl, ?_⟩
           replace ho0 := R_V_base rfl ho0
           replace HO_0 := Aside0.mk (Kd.V_below (vu HO_0.out) hb)
           replace HO_1 := Aside0.mk (Kd.V_below (vu HO_1.out) hb)
           replace HO_2 := Aside0.mk (Kd.V_below (vu HO_2.out) hb)
           have HO431 := Aside0.mk (Kd.V_lower (Kd.V_mono (ok' := fun k_ => ((P0_ k_ ∨ P1_ k_ ∨ P2_ k_) ∨ w.heap.size ≤ k_) ∧ k_ ≠ gb393) ho0 (fun k_ hk_ => ⟨(.inr (Nat.le_trans (below_size (bu1 HB.out GE393.out)) hk_)), (Kd.freshB (g := gb393) (o := .cells #[] 43 (0, 0)) (ku BK393.out) k_ hk_)⟩)) (below_size (bu1 HB.out GE393.out)))
           replace BK393 := Aside0.mk (blk_below (g := gb393) (o := .cells #[] 43 (0, 0)) (ku BK393.out) hb)
           replace HB := Aside0.mk (below_step (bu1 HB.out GE393.out) hb)
           (try clear hb)
           (try clear hb2)
           (try clear hk)
           (try clear hi)
           (try clear ho0)
           obtain ⟨Ao74, co74, eo74⟩ := Kd.V_slice HO431.out
           (first | subst eo74 | (injection eo74 with f1_ f2_ f3_; have f4_ := f1_.symm; have f5_ := f3_.symm; clear f1_ f2_ f3_; subst f4_; subst f5_))
           refine hK.out _ _ trivial (fun hHeld => ?_)
           clear hK K
           refine norm_ (a' := ?_) ?_ ?_
           rotate_left
           ·
            show Act.put _ (some 62) _ = _
            simp only [Act.put, List.setIfInBounds_toArray, List.set_cons_zero, List.set_cons_succ, i64_w, i32_w]
            rfl
           refine one_ (i := 15) (N := some 63) #[true, true, true, true, true, true, true, true, true, true, true, true, true, true, true, true, true, false, false, false, false, false, false, false, false, false, false, false, false, false, false] rfl rfl (one_of HT_.out (by kernel_rfl)) (by decide) (fun K hK => ?_)
           refine goes_ Try.func54 (by kernel_rfl) rfl #[.agg #[], .slice A0 l0.length c0, .slice Ao74 t429.length co74] (by rfl) rfl rfl lu ?_
           with_reducible refine (semiring_Counting_Add.calls kj31  (fun k_ => (((P0_ k_ ∨ P1_ k_ ∨ P2_ k_) ∨ w.heap.size ≤ k_) ∧ k_ ≠ gb393)) _ _ l0 (fun k_ => (((P0_ k_ ∨ P1_ k_ ∨ P2_ k_) ∨ w.heap.size ≤ k_) ∧ k_ ≠ gb393)) _ _ t429 t432 _ ?side1 ?side2 A64.out).mono ?_
           (case side1 => exact HO_0.out)
           (case side2 => exact HO431.out)
           rintro e w75 ⟨v433, rfl, ho0, hb⟩
           refine ⟨_, rfl, ?_⟩
           replace HO_0 := Aside0.mk (Kd.V_below (vu HO_0.out) hb)
           replace HO_1 := Aside0.mk (Kd.V_below (vu HO_1.out) hb)
           replace HO_2 := Aside0.mk (Kd.V_below (vu HO_2.out) hb)
           replace HO431 := Aside0.mk (Kd.V_below (vu HO431.out) hb)
           have HO434 := Aside0.mk (Kd.V_lower (Kd.V_mono (ok' := fun k_ => ((P0_ k_ ∨ P1_ k_ ∨ P2_ k_) ∨ w.heap.size ≤ k_) ∧ k_ ≠ gb393) ho0 (fun k_ hk_ => ⟨Or.elim hk_ (fun hs_ => Or.elim hs_ (fun hs_ => hs_.1) (fun hs_ => hs_.1)) (fun hn_ => (.inr (Nat.le_trans (below_size (bu1 HB.out GE393.out)) hn_))), Or.elim hk_ (fun hs_ => Or.elim hs_ (fun hs_ => hs_.2) (fun hs_ => hs_.2)) (fun hn_ => (Kd.freshB (g := gb393) (o := .cells #[] 43 (0, 0)) (ku BK393.out) k_ hn_))⟩)) (below_size (bu1 HB.out GE393.out)))
           replace BK393 := Aside0.mk (blk_below (g := gb393) (o := .cells #[] 43 (0, 0)) (ku BK393.out) hb)
           replace HB := Aside0.mk (below_step (bu1 HB.out GE393.out) hb)
           (try clear hb)
           (try clear hb2)
           (try clear hk)
           (try clear hi)
           (try clear ho0)
           obtain ⟨Ao76, co76, eo76⟩ := Kd.V_slice HO434.out
           (first | subst eo76 | (injection eo76 with f1_ f2_ f3_; have f4_ := f1_.symm; have f5_ := f3_.symm; clear f1_ f2_ f3_; subst f4_; subst f5_))
           refine hK.out _ _ trivial (fun hHeld => ?_)
           clear hK K
           refine norm_ (a' := ?_) ?_ ?_
           rotate_left
           ·
            show Act.put _ (some 63) _ = _
            simp only [Act.put, List.setIfInBounds_toArray, List.set_cons_zero, List.set_cons_succ, i64_w, i32_w]
            rfl
           refine one_ (i := 17) (N := some 65) #[true, true, true, true, true, true, true, true, true, true, true, true, true, true, true, true, true, true, false, false, false, false, false, false, false, false, false, false, false, false, false] rfl rfl (one_of HT_.out (by kernel_rfl)) (by decide) (fun K hK => ?_)
           refine goes_ Try.func58 (by kernel_rfl) rfl #[.agg #[], .slice Ao76 t432.length co76, .slice A0 l0.length c0] (by rfl) rfl rfl lu ?_
           with_reducible refine (semiring_Counting_Same.calls kj31  _ _ t432 _ _ l0 true _ ?side1 ?side2 ?side3 ?side4 A65.out).mono ?_
           (case side1 => repeat (first | exact (Kd.V_reads' HO434.out).2.2 | (with_reducible refine Kd.C_alloc ?_ _) | (with_reducible refine Kd.C_drewN ?_ _) | (with_reducible refine Kd.C_drew ?_)))
           (case side2 => exact (Kd.V_reads' HO434.out).2.1)
           (case side3 => repeat (first | exact (Kd.V_reads' HO_0.out).2.2 | (with_reducible refine Kd.C_alloc ?_ _) | (with_reducible refine Kd.C_drewN ?_ _) | (with_reducible refine Kd.C_drew ?_)))
           (case side4 => exact (Kd.V_reads' HO_0.out).2.1)
           rintro e w77 ⟨rfl, hb⟩
           refine ⟨_, rfl, ?_⟩
           replace HO_0 := Aside0.mk (Kd.V_below (vu HO_0.out) hb)
           replace HO_1 := Aside0.mk (Kd.V_below (vu HO_1.out) hb)
           replace HO_2 := Aside0.mk (Kd.V_below (vu HO_2.out) hb)
           replace HO431 := Aside0.mk (Kd.V_below (vu HO431.out) hb)
           replace HO434 := Aside0.mk (Kd.V_below (vu HO434.out) hb)
           replace BK393 := Aside0.mk (blk_below (g := gb393) (o := .cells #[] 43 (0, 0)) (ku BK393.out) hb)
           replace HB := Aside0.mk (below_step (bu1 HB.out GE393.out) hb)
           (try clear hb)
           (try clear hb2)
           (try clear hk)
           (try clear hi)
           refine hK.out _ _ trivial (fun hHeld => ?_)
           clear hK K
           refine norm_ (a' := ?_) ?_ ?_
           rotate_left
           ·
            show Act.put _ (some 65) _ = _
            simp only [Act.put, List.setIfInBounds_toArray, List.set_cons_zero, List.set_cons_succ, i64_w, i32_w]
            rfl
           refine pure_ (i := 18) (N := some 66) (v := ?_) (a' := ?_) #[true, true, true, true, true, true, true, true, true, true, true, true, true, true, true, true, true, true, true, false, false, false, false, false, false, false, false, false, false, false, false] rfl rfl (any_of HT_.out (by kernel_rfl)) (fun _ _ _ h => h) (Or.inl ⟨by rfl, ?_⟩) ?_ ?_
           rotate_left
           ·
            intro w'
            go_simp
            with_reducible rfl
           rotate_left
           ·
            simp only [Act.put, List.setIfInBounds_toArray, List.set_cons_zero, List.set_cons_succ, i64_w, i32_w]
            rfl
           refine pure_ (i := 19) (N := some 67) (v := ?_) (a' := ?_) #[true, true, true, true, true, true, true, true, true, true, true, true, true, true, true, true, true, true, true, true, false, false, false, false, false, false, false, false, false, false, false] rfl rfl (any_of HT_.out (by kernel_rfl)) (fun _ _ _ h => h) (Or.inl ⟨by rfl, ?_⟩) ?_ ?_
           rotate_left
           ·
            intro w'
            go_simp
            with_reducible rfl
           rotate_left
           ·
            simp only [Act.put, List.setIfInBounds_toArray, List.set_cons_zero, List.set_cons_succ, i64_w, i32_w]
            rfl
           refine pure_ (i := 20) (N := some 68) (v := ?_) (a' := ?_) #[true, true, true, true, true, true, true, true, true, true, true, true, true, true, true, true, true, true, true, true, true, false, false, false, false, false, false, false, false, false, false] rfl rfl (any_of HT_.out (by kernel_rfl)) (fun _ _ _ h => h) (Or.inl ⟨by rfl, ?_⟩) ?_ ?_
           rotate_left
           ·
            intro w'
            go_simp
            with_reducible rfl
           rotate_left
           ·
            simp only [Act.put, List.setIfInBounds_toArray, List.set_cons_zero, List.set_cons_succ, i64_w, i32_w]
            rfl
           refine pure_ (i := 23) (N := some 71) (v := ?_) (a' := ?_) #[true, true, true, true, true, true, true, true, true, true, true, true, true, true, true, true, true, true, true, true, true, false, false, true, false, false, false, false, false, false, false] rfl rfl (any_of HT_.out (by kernel_rfl)) (fun _ _ _ h => h) (Or.inl ⟨by rfl, ?_⟩) ?_ ?_
           rotate_left
           ·
            intro w'
            go_simp
            with_reducible rfl
           rotate_left
           ·
            simp only [Act.put, List.setIfInBounds_toArray, List.set_cons_zero, List.set_cons_succ, i64_w, i32_w]
            rfl
           refine pure_ (i := 27) (N := some 75) (v := ?_) (a' := ?_) #[true, true, true, true, true, true, true, true, true, true, true, true, true, true, true, true, true, true, true, true, true, false, false, true, false, false, false, true, false, false, false] rfl rfl (any_of HT_.out (by kernel_rfl)) (fun _ _ _ h => h) (Or.inl ⟨by rfl, ?_⟩) ?_ ?_
           rotate_left
           ·
            intro w'
            go_simp
            with_reducible rfl
           rotate_left
           ·
            simp only [Act.put, List.setIfInBounds_toArray, List.set_cons_zero, List.set_cons_succ, i64_w, i32_w]
            rfl
           refine take_ (i := 21) (N := some 69) (v := ?_) (a' := ?_) #[true, true, true, true, true, true, true, true, true, true, true, true, true, true, true, true, true, true, true, true, true, true, false, true, false, false, false, true, false, false, false] rfl rfl (take_ofW HT_.out HW_.out (by kernel_rfl)) (fun _ _ _ h => h) (Or.inl ⟨by rfl, ?_⟩) hHeld ?_ ?_
           rotate_left
           ·
            intro w' _
            go_simp
            with_reducible rfl
           rotate_left
           ·
            simp only [Act.put, List.setIfInBounds_toArray, List.set_cons_zero, List.set_cons_succ, i64_w, i32_w]
            rfl
           refine take_ (i := 22) (N := some 70) (v := ?_) (a' := ?_) #[true, true, true, true, true, true, true, true, true, true, true, true, true, true, true, true, true, true, true, true, true, true, true, true, false, false, false, true, false, false, false] rfl rfl (take_ofW HT_.out HW_.out (by kernel_rfl)) (fun _ _ _ h => h) (Or.inl ⟨by rfl, ?_⟩) hHeld ?_ ?_
           rotate_left
           ·
            intro w' _
            go_simp
            with_reducible rfl
           rotate_left
           ·
            simp only [Act.put, List.setIfInBounds_toArray, List.set_cons_zero, List.set_cons_succ, i64_w, i32_w]
            rfl
           refine take_ (i := 24) (N := some 72) (v := ?_) (a' := ?_) #[true, true, true, true, true, true, true, true, true, true, true, true, true, true, true, true, true, true, true, true, true, true, true, true, true, false, false, true, false, false, false] rfl rfl (take_ofW HT_.out HW_.out (by kernel_rfl)) (fun _ _ _ h => h) (Or.inl ⟨by rfl, ?_⟩) hHeld ?_ ?_
           rotate_left
           ·
            intro w' _
            go_simp
            with_reducible rfl
           rotate_left
           ·
            simp only [Act.put, List.setIfInBounds_toArray, List.set_cons_zero, List.set_cons_succ, i64_w, i32_w]
            rfl
           refine one_ (i := 25) (N := some 73) #[true, true, true, true, true, true, true, true, true, true, true, true, true, true, true, true, true, true, true, true, true, true, true, true, true, true, false, true, false, false, false] rfl rfl (one_of HT_.out (by kernel_rfl)) (by decide) (fun K hK => ?_)
           refine goes_ Try.func53 (by kernel_rfl) rfl #[.agg #[]] (by rfl) rfl rfl lu ?_
           with_reducible refine (semiring_Counting_One.calls kj31  t436 _ A67.out).mono ?_
           rintro e w78 ⟨v437, rfl, ho0, hb⟩
           refine ⟨_, rfl, ?_⟩
           replace ho0 := R_V_base rfl ho0
           replace HO_0 := Aside0.mk (Kd.V_below (vu HO_0.out) hb)
           replace HO_1 := Aside0.mk (Kd.V_below (vu HO_1.out) hb)
           replace HO_2 := Aside0.mk (Kd.V_below (vu HO_2.out) hb)
           replace HO431 := Aside0.mk (Kd.V_below (vu HO431.out) hb)
           replace HO434 := Aside0.mk (Kd.V_below (vu HO434.out) hb)
           have HO438 := Aside0.mk (Kd.V_lower (Kd.V_mono (ok' := fun k_ => ((P0_ k_ ∨ P1_ k_ ∨ P2_ k_) ∨ w.heap.size ≤ k_) ∧ k_ ≠ gb393) ho0 (fun k_ hk_ => ⟨(.inr (Nat.le_trans (below_size (bu1 HB.out GE393.out)) hk_)), (Kd.freshB (g := gb393) (o := .cells #[] 43 (0, 0)) (ku BK393.out) k_ hk_)⟩)) (below_size (bu1 HB.out GE393.out)))
           replace BK393 := Aside0.mk (blk_below (g := gb393) (o := .cells #[] 43 (0, 0)) (ku BK393.out) hb)
           replace HB := Aside0.mk (below_step (bu1 HB.out GE393.out) hb)
           (try clear hb)
           (try clear hb2)
           (try clear hk)
           (try clear hi)
           (try clear ho0)
           obtain ⟨Ao79, co79, eo79⟩ := Kd.V_slice HO438.out
           (first | subst eo79 | (injection eo79 with f1_ f2_ f3_; have f4_ := f1_.symm; have f5_ := f3_.symm; clear f1_ f2_ f3_; subst f4_; subst f5_))
           refine hK.out _ _ trivial (fun hHeld => ?_)
           clear hK K
           refine norm_ (a' := ?_) ?_ ?_
           rotate_left
           ·
            show Act.put _ (some 73) _ = _
            simp only [Act.put, List.setIfInBounds_toArray, List.set_cons_zero, List.set_cons_succ, i64_w, i32_w]
            rfl
           refine one_ (i := 26) (N := some 74) #[true, true, true, true, true, true, true, true, true, true, true, true, true, true, true, true, true, true, true, true, true, true, true, true, true, true, true, true, false, false, false] rfl rfl (one_of HT_.out (by kernel_rfl)) (by decide) (fun K hK => ?_)
           refine goes_ Try.func56 (by kernel_rfl) rfl #[.agg #[], .slice A0 l0.length c0, .slice Ao79 t436.length co79] (by rfl) rfl rfl lu ?_
           with_reducible refine (semiring_Counting_Mul.calls kj31  (fun k_ => (((P0_ k_ ∨ P1_ k_ ∨ P2_ k_) ∨ w.heap.size ≤ k_) ∧ k_ ≠ gb393)) _ _ l0 (fun k_ => (((P0_ k_ ∨ P1_ k_ ∨ P2_ k_) ∨ w.heap.size ≤ k_) ∧ k_ ≠ gb393)) _ _ t436 t439 _ ?side1 ?side2 A68.out).mono ?_
           (case side1 => exact HO_0.out)
           (case side2 => exact HO438.out)
           rintro e w80 ⟨v440, rfl, ho0, hb⟩
           refine ⟨_, rfl, ?_⟩
           replace HO_0 := Aside0.mk (Kd.V_below (vu HO_0.out) hb)
           replace HO_1 := Aside0.mk (Kd.V_below (vu HO_1.out) hb)
           replace HO_2 := Aside0.mk (Kd.V_below (vu HO_2.out) hb)
           replace HO431 := Aside0.mk (Kd.V_below (vu HO431.out) hb)
           replace HO434 := Aside0.mk (Kd.V_below (vu HO434.out) hb)
           replace HO438 := Aside0.mk (Kd.V_below (vu HO438.out) hb)
           have HO441 := Aside0.mk (Kd.V_lower (Kd.V_mono (ok' := fun k_ => ((P0_ k_ ∨ P1_ k_ ∨ P2_ k_) ∨ w.heap.size ≤ k_) ∧ k_ ≠ gb393) ho0 (fun k_ hk_ => ⟨Or.elim hk_ (fun hs_ => Or.elim hs_ (fun hs_ => hs_.1) (fun hs_ => hs_.1)) (fun hn_ => (.inr (Nat.le_trans (below_size (bu1 HB.out GE393.out)) hn_))), Or.elim hk_ (fun hs_ => Or.elim hs_ (fun hs_ => hs_.2) (fun hs_ => hs_.2)) (fun hn_ => (Kd.freshB (g := gb393) (o := .cells #[] 43 (0, 0)) (ku BK393.out) k_ hn_))⟩)) (below_size (bu1 HB.out GE393.out)))
           replace BK393 := Aside0.mk (blk_below (g := gb393) (o := .cells #[] 43 (0, 0)) (ku BK393.out) hb)
           replace HB := Aside0.mk (below_step (bu1 HB.out GE393.out) hb)
           (try clear hb)
           (try clear hb2)
           (try clear hk)
           (try clear hi)
           (try clear ho0)
           obtain ⟨Ao81, co81, eo81⟩ := Kd.V_slice HO441.out
           (first | subst eo81 | (injection eo81 with f1_ f2_ f3_; have f4_ := f1_.symm; have f5_ := f3_.symm; clear f1_ f2_ f3_; subst f4_; subst f5_))
           refine hK.out _ _ trivial (fun hHeld => ?_)
           clear hK K
           refine norm_ (a' := ?_) ?_ ?_
           rotate_left
           ·
            show Act.put _ (some 74) _ = _
            simp only [Act.put, List.setIfInBounds_toArray, List.set_cons_zero, List.set_cons_succ, i64_w, i32_w]
            rfl
           refine one_ (i := 28) (N := some 76) #[true, true, true, true, true, true, true, true, true, true, true, true, true, true, true, true, true, true, true, true, true, true, true, true, true, true, true, true, true, false, false] rfl rfl (one_of HT_.out (by kernel_rfl)) (by decide) (fun K hK => ?_)
           refine goes_ Try.func58 (by kernel_rfl) rfl #[.agg #[], .slice Ao81 t439.length co81, .slice A0 l0.length c0] (by rfl) rfl rfl lu ?_
           with_reducible refine (semiring_Counting_Same.calls kj31  _ _ t439 _ _ l0 t442 _ ?side1 ?side2 ?side3 ?side4 A69.out).mono ?_
           (case side1 => repeat (first | exact (Kd.V_reads' HO441.out).2.2 | (with_reducible refine Kd.C_alloc ?_ _) | (with_reducible refine Kd.C_drewN ?_ _) | (with_reducible refine Kd.C_drew ?_)))
           (case side2 => exact (Kd.V_reads' HO441.out).2.1)
           (case side3 => repeat (first | exact (Kd.V_reads' HO_0.out).2.2 | (with_reducible refine Kd.C_alloc ?_ _) | (with_reducible refine Kd.C_drewN ?_ _) | (with_reducible refine Kd.C_drew ?_)))
           (case side4 => exact (Kd.V_reads' HO_0.out).2.1)
           rintro e w82 ⟨rfl, hb⟩
           refine ⟨_, rfl, ?_⟩
           replace HO_0 := Aside0.mk (Kd.V_below (vu HO_0.out) hb)
           replace HO_1 := Aside0.mk (Kd.V_below (vu HO_1.out) hb)
           replace HO_2 := Aside0.mk (Kd.V_below (vu HO_2.out) hb)
           replace HO431 := Aside0.mk (Kd.V_below (vu HO431.out) hb)
           replace HO434 := Aside0.mk (Kd.V_below (vu HO434.out) hb)
           replace HO438 := Aside0.mk (Kd.V_below (vu HO438.out) hb)
           replace HO441 := Aside0.mk (Kd.V_below (vu HO441.out) hb)
           replace BK393 := Aside0.mk (blk_below (g := gb393) (o := .cells #[] 43 (0, 0)) (ku BK393.out) hb)
           replace HB := Aside0.mk (below_step (bu1 HB.out GE393.out) hb)
           (try clear hb)
           (try clear hb2)
           (try clear hk)
           (try clear hi)
           refine hK.out _ _ trivial (fun hHeld => ?_)
           clear hK K
           refine norm_ (a' := ?_) ?_ ?_
           rotate_left
           ·
            show Act.put _ (some 76) _ = _
            simp only [Act.put, List.setIfInBounds_toArray, List.set_cons_zero, List.set_cons_succ, i64_w, i32_w]
            rfl
           refine pure_ (i := 29) (N := some 77) (v := ?_) (a' := ?_) #[true, true, true, true, true, true, true, true, true, true, true, true, true, true, true, true, true, true, true, true, true, true, true, true, true, true, true, true, true, true, false] rfl rfl (any_of HT_.out (by kernel_rfl)) (fun _ _ _ h => h) (Or.inl ⟨by rfl, ?_⟩) ?_ ?_
           rotate_left
           ·
            intro w'
            go_simp
            with_reducible rfl
           rotate_left
           ·
            simp only [Act.put, List.setIfInBounds_toArray, List.set_cons_zero, List.set_cons_succ, i64_w, i32_w]
            rfl
           refine pure_ (i := 30) (N := some 78) (v := ?_) (a' := ?_) #[true, true, true, true, true, true, true, true, true, true, true, true, true, true, true, true, true, true, true, true, true, true, true, true, true, true, true, true, true, true, true] rfl rfl (any_of HT_.out (by kernel_rfl)) (fun _ _ _ h => h) (Or.inl ⟨by rfl, ?_⟩) ?_ ?_
           rotate_left
           ·
            intro w'
            go_simp
            with_reducible rfl
           rotate_left
           ·
            simp only [Act.put, List.setIfInBounds_toArray, List.set_cons_zero, List.set_cons_succ, i64_w, i32_w]
            rfl
           refine done_ (done_of HT_.out (by kernel_rfl)) ?_
           try go_wp2
           go_meet
           case rel => exact ⟨_, (!t442), (by first | rfl | (simp; done) | (simp [*]; done) | (cases t442 <;> first | rfl | (simp; done))), H', ⟨by have := HJ5.out; have := HJ31.out; first | omega | exact Nat.le_refl _⟩, ⟨by (with_reducible repeat (first | apply Kd.V_alloc | apply Kd.V_drewN | apply Kd.V_drew)); exact HO_0.out⟩, ⟨by (with_reducible repeat (first | apply Kd.V_alloc | apply Kd.V_drewN | apply Kd.V_drew)); exact HO_1.out⟩, ⟨by (with_reducible repeat (first | apply Kd.V_alloc | apply Kd.V_drewN | apply Kd.V_drew)); exact HO_2.out⟩, ⟨by (with_reducible repeat (first | refine blk_drewN ?_ _ | refine blk_drew ?_ | refine blk_alloc ?_ _)); exact BK393.out⟩, ⟨by repeat (first | (with_reducible first | exact HB.out | apply below_alloc | apply pw_below_drewN | apply below_drew1 | refine below_set ?_ GE393.out) | exact HB.out)⟩⟩
          ·
           replace c66 := Bool.eq_false_iff.mpr c66
           subst c66
           have H1 : (codewrightlaw46_SemiringCounts.j2 kj31 l0 l1 l2 true) = some r := by rw [if_neg (show ¬ (false = true) by decide)] at H; exact H
           clear H
           have H := H1
           clear H1
           have H' := Aside0.mk H
           clear H
           try go_wp2
           replace HO_0 := Aside0.mk (Kd.V_drew HO_0.out)
           replace HO_1 := Aside0.mk (Kd.V_drew HO_1.out)
           replace HO_2 := Aside0.mk (Kd.V_drew HO_2.out)
           replace BK393 := Aside0.mk (blk_drew BK393.out)
           replace HB := Aside0.mk (below_drew1 HB.out)
           refine start_ (n := 31) (S := fun w' => True) (ds := []) #[false, false, false, false, false, false, false, false, false, false, false, false, false, false, false, false, false, false, false, false, false, false, false, false, false, false, false, false, false, false, false] (by kernel_rfl) rfl rfl trivial (fun hHeld => ?_); refine with_tabW codewrightlaw46_SemiringCounts.tab8 codewrightlaw46_SemiringCounts.bits8 (fun HT_ HW_ => ?_)
           generalize wc.drew = w83 at HO_0 HO_1 HO_2 BK393 HB hHeld ⊢
           refine pure_ (i := 1) (N := some 49) (v := ?_) (a' := ?_) #[false, true, false, false, false, false, false, false, false, false, false, false, false, false, false, false, false, false, false, false, false, false, false, false, false, false, false, false, false, false, false] rfl rfl (any_of HT_.out (by kernel_rfl)) (fun _ _ _ h => h) (Or.inl ⟨by rfl, ?_⟩) ?_ ?_
           rotate_left
           ·
            intro w'
            go_simp
            with_reducible rfl
           rotate_left
           ·
            simp only [Act.put, List.setIfInBounds_toArray, List.set_cons_zero, List.set_cons_succ, i64_w, i32_w]
            rfl
           refine pure_ (i := 2) (N := some 50) (v := ?_) (a' := ?_) #[false, true, true, false, false, false, false, false, false, false, false, false, false, false, false, false, false, false, false, false, false, false, false, false, false, false, false, false, false, false, false] rfl rfl (any_of HT_.out (by kernel_rfl)) (fun _ _ _ h => h) (Or.inl ⟨by rfl, ?_⟩) ?_ ?_
           rotate_left
           ·
            intro w'
            go_simp
            with_reducible rfl
           rotate_left
           ·
            simp only [Act.put, List.setIfInBounds_toArray, List.set_cons_zero, List.set_cons_succ, i64_w, i32_w]
            rfl
           refine pure_ (i := 4) (N := some 52) (v := ?_) (a' := ?_) #[false, true, true, false, true, false, false, false, false, false, false, false, false, false, false, false, false, false, false, false, false, false, false, false, false, false, false, false, false, false, false] rfl rfl (any_of HT_.out (by kernel_rfl)) (fun _ _ _ h => h) (Or.inl ⟨by rfl, ?_⟩) ?_ ?_
           rotate_left
           ·
            intro w'
            go_simp
            with_reducible rfl
           rotate_left
           ·
            simp only [Act.put, List.setIfInBounds_toArray, List.set_cons_zero, List.set_cons_succ, i64_w, i32_w]
            rfl
           refine pure_ (i := 5) (N := some 53) (v := ?_) (a' := ?_) #[false, true, true, false, true, true, false, false, false, false, false, false, false, false, false, false, false, false, false, false, false, false, false, false, false, false, false, false, false, false, false] rfl rfl (any_of HT_.out (by kernel_rfl)) (fun _ _ _ h => h) (Or.inl ⟨by rfl, ?_⟩) ?_ ?_
           rotate_left
           ·
            intro w'
            go_simp
            with_reducible rfl
           rotate_left
           ·
            simp only [Act.put, List.setIfInBounds_toArray, List.set_cons_zero, List.set_cons_succ, i64_w, i32_w]
            rfl
           refine take_ (i := 0) (N := some 48) (v := ?_) (a' := ?_) #[true, true, true, false, true, true, false, false, false, false, false, false, false, false, false, false, false, false, false, false, false, false, false, false, false, false, false, false, false, false, false] rfl rfl (take_ofW HT_.out HW_.out (by kernel_rfl)) (fun _ _ _ h => h) (Or.inl ⟨by rfl, ?_⟩) hHeld ?_ ?_
           rotate_left
           ·
            intro w' _
            go_simp
            with_reducible rfl
           rotate_left
           ·
            simp only [Act.put, List.setIfInBounds_toArray, List.set_cons_zero, List.set_cons_succ, i64_w, i32_w]
            rfl
           refine one_ (i := 3) (N := some 51) #[true, true, true, true, true, true, false, false, false, false, false, false, false, false, false, false, false, false, false, false, false, false, false, false, false, false, false, false, false, false, false] rfl rfl (one_of HT_.out (by kernel_rfl)) (by decide) (fun K hK => ?_)
           refine goes_ Try.func58 (by kernel_rfl) rfl #[.agg #[], .slice A0 l0.length c0, .slice A1 l1.length c1] (by rfl) rfl rfl lu ?_
           with_reducible refine (semiring_Counting_Same.calls kj31  _ _ l0 _ _ l1 t427 _ ?side1 ?side2 ?side3 ?side4 A57.out).mono ?_
           (case side1 => repeat (first | exact (Kd.V_reads' HO_0.out).2.2 | (with_reducible refine Kd.C_alloc ?_ _) | (with_reducible refine Kd.C_drewN ?_ _) | (with_reducible refine Kd.C_drew ?_)))
           (case side2 => exact (Kd.V_reads' HO_0.out).2.1)
           (case side3 => repeat (first | exact (Kd.V_reads' HO_1.out).2.2 | (with_reducible refine Kd.C_alloc ?_ _) | (with_reducible refine Kd.C_drewN ?_ _) | (with_reducible refine Kd.C_drew ?_)))
           (case side4 => exact (Kd.V_reads' HO_1.out).2.1)
           rintro e w84 ⟨rfl, hb⟩
           refine ⟨_, rfl, ?_⟩
           replace HO_0 := Aside0.mk (Kd.V_below (vu HO_0.out) hb)
           replace HO_1 := Aside0.mk (Kd.V_below (vu HO_1.out) hb)
           replace HO_2 := Aside0.mk (Kd.V_below (vu HO_2.out) hb)
           replace BK393 := Aside0.mk (blk_below (g := gb393) (o := .cells #[] 43 (0, 0)) (ku BK393.out) hb)
           replace HB := Aside0.mk (below_step (bu1 HB.out GE393.out) hb)
           (try clear hb)
           (try clear hb2)
           (try clear hk)
           (try clear hi)
           refine hK.out _ _ trivial (fun hHeld => ?_)
           clear hK K
           refine norm_ (a' := ?_) ?_ ?_
           rotate_left
           ·
            show Act.put _ (some 51) _ = _
            simp only [Act.put, List.setIfInBounds_toArray, List.set_cons_zero, List.set_cons_succ, i64_w, i32_w]
            rfl
           refine one_ (i := 6) (N := some 54) #[true, true, true, true, true, true, true, false, false, false, false, false, false, false, false, false, false, false, false, false, false, false, false, false, false, false, false, false, false, false, false] rfl rfl (one_of HT_.out (by kernel_rfl)) (by decide) (fun K hK => ?_)
           refine goes_ Try.func59 (by kernel_rfl) rfl #[.slice A0 l0.length c0, .slice A1 l1.length c1] (by rfl) rfl rfl lu ?_
           with_reducible refine (codewrightref01_Cmp.calls kj31 _ _ l0 _ _ l1 t428 _ ?side1 ?side2 ?side3 ?side4 A58.out).mono ?_
           (case side1 => repeat (first | exact (Kd.V_reads' HO_0.out).2.2 | (with_reducible refine Kd.C_alloc ?_ _) | (with_reducible refine Kd.C_drewN ?_ _) | (with_reducible refine Kd.C_drew ?_)))
           (case side2 => exact (Kd.V_reads' HO_0.out).2.1)
           (case side3 => repeat (first | exact (Kd.V_reads' HO_1.out).2.2 | (with_reducible refine Kd.C_alloc ?_ _) | (with_reducible refine Kd.C_drewN ?_ _) | (with_reducible refine Kd.C_drew ?_)))
           (case side4 => exact (Kd.V_reads' HO_1.out).2.1)
           rintro e w85 ⟨rfl, hb⟩
           refine ⟨_, rfl, ?_⟩
           replace HO_0 := Aside0.mk (Kd.V_below (vu HO_0.out) hb)
           replace HO_1 := Aside0.mk (Kd.V_below (vu HO_1.out) hb)
           replace HO_2 := Aside0.mk (Kd.V_below (vu HO_2.out) hb)
           replace BK393 := Aside0.mk (blk_below (g := gb393) (o := .cells #[] 43 (0, 0)) (ku BK393.out) hb)
           replace HB := Aside0.mk (below_step (bu1 HB.out GE393.out) hb)
           (try clear hb)
           (try clear hb2)
           (try clear hk)
           (try clear hi)
           refine hK.out _ _ trivial (fun hHeld => ?_)
           clear hK K
           refine norm_ (a' := ?_) ?_ ?_
           rotate_left
           ·
            show Act.put _ (some 54) _ = _
            simp only [Act.put, List.setIfInBounds_toArray, List.set_cons_zero, List.set_cons_succ, i64_w, i32_w]
            rfl
           refine pure_ (i := 7) (N := some 55) (v := ?_) (a' := ?_) #[true, true, true, true, true, true, true, true, false, false, false, false, false, false, false, false, false, false, false, false, false, false, false, false, false, false, false, false, false, false, false] rfl rfl (any_of HT_.out (by kernel_rfl)) (fun _ _ _ h => h) (Or.inl ⟨by rfl, ?_⟩) ?_ ?_
           rotate_left
           ·
            intro w'
            go_simp
            with_reducible rfl
           rotate_left
           ·
            simp only [Act.put, List.setIfInBounds_toArray, List.set_cons_zero, List.set_cons_succ, i64_w, i32_w]
            rfl
           refine pure_ (i := 8) (N := some 56) (v := ?_) (a' := ?_) #[true, true, true, true, true, true, true, true, true, false, false, false, false, false, false, false, false, false, false, false, false, false, false, false, false, false, false, false, false, false, false] rfl rfl (any_of HT_.out (by kernel_rfl)) (fun _ _ _ h => h) (Or.inl ⟨by rfl, ?_⟩) ?_ ?_
           rotate_left
           ·
            intro w'
            go_simp
            with_reducible rfl
           rotate_left
           ·
            simp only [Act.put, List.setIfInBounds_toArray, List.set_cons_zero, List.set_cons_succ, i64_w, i32_w]
            rfl
           refine pure_ (i := 9) (N := some 57) (v := ?_) (a' := ?_) #[true, true, true, true, true, true, true, true, true, true, false, false, false, false, false, false, false, false, false, false, false, false, false, false, false, false, false, false, false, false, false] rfl rfl (any_of HT_.out (by kernel_rfl)) (fun _ _ _ h => h) (Or.inl ⟨by rfl, ?_⟩) ?_ ?_
           rotate_left
           ·
            intro w'
            go_simp
            with_reducible rfl
           rotate_left
           ·
            simp only [Act.put, List.setIfInBounds_toArray, List.set_cons_zero, List.set_cons_succ, i64_w, i32_w]
            rfl
           refine pure_ (i := 12) (N := some 60) (v := ?_) (a' := ?_) #[true, true, true, true, true, true, true, true, true, true, false, false, true, false, false, false, false, false, false, false, false, false, false, false, false, false, false, false, false, false, false] rfl rfl (any_of HT_.out (by kernel_rfl)) (fun _ _ _ h => h) (Or.inl ⟨by rfl, ?_⟩) ?_ ?_
           rotate_left
           ·
            intro w'
            go_simp
            with_reducible rfl
           rotate_left
           ·
            simp only [Act.put, List.setIfInBounds_toArray, List.set_cons_zero, List.set_cons_succ, i64_w, i32_w]
            rfl
           refine pure_ (i := 16) (N := some 64) (v := ?_) (a' := ?_) #[true, true, true, true, true, true, true, true, true, true, false, false, true, false, false, false, true, false, false, false, false, false, false, false, false, false, false, false, false, false, false] rfl rfl (any_of HT_.out (by kernel_rfl)) (fun _ _ _ h => h) (Or.inl ⟨by rfl, ?_⟩) ?_ ?_
           rotate_left
           ·
            intro w'
            go_simp
            with_reducible rfl
           rotate_left
           ·
            simp only [Act.put, List.setIfInBounds_toArray, List.set_cons_zero, List.set_cons_succ, i64_w, i32_w]
            rfl
           refine take_ (i := 10) (N := some 58) (v := ?_) (a' := ?_) #[true, true, true, true, true, true, true, true, true, true, true, false, true, false, false, false, true, false, false, false, false, false, false, false, false, false, false, false, false, false, false] rfl rfl (take_ofW HT_.out HW_.out (by kernel_rfl)) (fun _ _ _ h => h) (Or.inl ⟨by rfl, ?_⟩) hHeld ?_ ?_
           rotate_left
           ·
            intro w' _
            go_simp
            with_reducible rfl
           rotate_left
           ·
            simp only [Act.put, List.setIfInBounds_toArray, List.set_cons_zero, List.set_cons_succ, i64_w, i32_w]
            rfl
           refine take_ (i := 11) (N := some 59) (v := ?_) (a' := ?_) #[true, true, true, true, true, true, true, true, true, true, true, true, true, false, false, false, true, false, false, false, false, false, false, false, false, false, false, false, false, false, false] rfl rfl (take_ofW HT_.out HW_.out (by kernel_rfl)) (fun _ _ _ h => h) (Or.inl ⟨by rfl, ?_⟩) hHeld ?_ ?_
           rotate_left
           ·
            intro w' _
            go_simp
            with_reducible rfl
           rotate_left
           ·
            simp only [Act.put, List.setIfInBounds_toArray, List.set_cons_zero, List.set_cons_succ, i64_w, i32_w]
            rfl
           refine take_ (i := 13) (N := some 61) (v := ?_) (a' := ?_) #[true, true, true, true, true, true, true, true, true, true, true, true, true, true, false, false, true, false, false, false, false, false, false, false, false, false, false, false, false, false, false] rfl rfl (take_ofW HT_.out HW_.out (by kernel_rfl)) (fun _ _ _ h => h) (Or.inl ⟨by rfl, ?_⟩) hHeld ?_ ?_
           rotate_left
           ·
            intro w' _
            go_simp
            with_reducible rfl
           rotate_left
           ·
            simp only [Act.put, List.setIfInBounds_toArray, List.set_cons_zero, List.set_cons_succ, i64_w, i32_w]
            rfl
           refine one_ (i := 14) (N := some 62) #[true, true, true, true, true, true, true, true, true, true, true, true, true, true, true, false, true, false, false, false, false, false, false, false, false, false, false, false, false, false, false] rfl rfl (one_of HT_.out (by kernel_rfl)) (by decide) (fun K hK => ?_)
           refine goes_ Try.func52 (by kernel_rfl) rfl #[.agg #[]] (by rfl) rfl rfl lu ?_
           with_reducible refine (semiring_Counting_Zero.calls kj31  t429 _ A63.out).mono ?_
           rintro e w86 ⟨v430, rfl, ho0, hb⟩
           refine ⟨_, rfl, ?_⟩
           replace ho0 := R_V_base rfl ho0
           replace HO_0 := Aside0.mk (Kd.V_below (vu HO_0.out) hb)
           replace HO_1 := Aside0.mk (Kd.V_below (vu HO_1.out) hb)
           replace HO_2 := Aside0.mk (Kd.V_below (vu HO_2.out) hb)
           have HO431 := Aside0.mk (Kd.V_lower (Kd.V_mono (ok' := fun k_ => ((P0_ k_ ∨ P1_ k_ ∨ P2_ k_) ∨ w.heap.size ≤ k_) ∧ k_ ≠ gb393) ho0 (fun k_ hk_ => ⟨(.inr (Nat.le_trans (below_size (bu1 HB.out GE393.out)) hk_)), (Kd.freshB (g := gb393) (o := .cells #[] 43 (0, 0)) (ku BK393.out) k_ hk_)⟩)) (below_size (bu1 HB.out GE393.out)))
           replace BK393 := Aside0.mk (blk_below (g := gb393) (o := .cells #[] 43 (0, 0)) (ku BK393.out) hb)
           replace HB := Aside0.mk (below_step (bu1 HB.out GE393.out) hb)
           (try clear hb)
           (try clear hb2)
           (try clear hk)
           (try clear hi)
           (try clear ho0)
           obtain ⟨Ao87, co87, eo87⟩ := Kd.V_slice HO431.out
           (first | subst eo87 | (injection eo87 with f1_ f2_ f3_; have f4_ := f1_.symm; have f5_ := f3_.symm; clear f1_ f2_ f3_; subst f4_; subst f5_))
           refine hK.out _ _ trivial (fun hHeld => ?_)
           clear hK K
           refine norm_ (a' := ?_) ?_ ?_
           rotate_left
           ·
            show Act.put _ (some 62) _ = _
            simp only [Act.put, List.setIfInBounds_toArray, List.set_cons_zero, List.set_cons_succ, i64_w, i32_w]
            rfl
           refine one_ (i := 15) (N := some 63) #[true, true, true, true, true, true, true, true, true, true, true, true, true, true, true, true, true, false, false, false, false, false, false, false, false, false, false, false, false, false, false] rfl rfl (one_of HT_.out (by kernel_rfl)) (by decide) (fun K hK => ?_)
           refine goes_ Try.func54 (by kernel_rfl) rfl #[.agg #[], .slice A0 l0.length c0, .slice Ao87 t429.length co87] (by rfl) rfl rfl lu ?_
           with_reducible refine (semiring_Counting_Add.calls kj31  (fun k_ => (((P0_ k_ ∨ P1_ k_ ∨ P2_ k_) ∨ w.heap.size ≤ k_) ∧ k_ ≠ gb393)) _ _ l0 (fun k_ => (((P0_ k_ ∨ P1_ k_ ∨ P2_ k_) ∨ w.heap.size ≤ k_) ∧ k_ ≠ gb393)) _ _ t429 t432 _ ?side1 ?side2 A64.out).mono ?_
           (case side1 => exact HO_0.out)
           (case side2 => exact HO431.out)
           rintro e w88 ⟨v433, rfl, ho0, hb⟩
           refine ⟨_, rfl, ?_⟩
           replace HO_0 := Aside0.mk (Kd.V_below (vu HO_0.out) hb)
           replace HO_1 := Aside0.mk (Kd.V_below (vu HO_1.out) hb)
           replace HO_2 := Aside0.mk (Kd.V_below (vu HO_2.out) hb)
           replace HO431 := Aside0.mk (Kd.V_below (vu HO431.out) hb)
           have HO434 := Aside0.mk (Kd.V_lower (Kd.V_mono (ok' := fun k_ => ((P0_ k_ ∨ P1_ k_ ∨ P2_ k_) ∨ w.heap.size ≤ k_) ∧ k_ ≠ gb393) ho0 (fun k_ hk_ => ⟨Or.elim hk_ (fun hs_ => Or.elim hs_ (fun hs_ => hs_.1) (fun hs_ => hs_.1)) (fun hn_ => (.inr (Nat.le_trans (below_size (bu1 HB.out GE393.out)) hn_))), Or.elim hk_ (fun hs_ => Or.elim hs_ (fun hs_ => hs_.2) (fun hs_ => hs_.2)) (fun hn_ => (Kd.freshB (g := gb393) (o := .cells #[] 43 (0, 0)) (ku BK393.out) k_ hn_))⟩)) (below_size (bu1 HB.out GE393.out)))
           replace BK393 := Aside0.mk (blk_below (g := gb393) (o := .cells #[] 43 (0, 0)) (ku BK393.out) hb)
           replace HB := Aside0.mk (below_step (bu1 HB.out GE393.out) hb)
           (try clear hb)
           (try clear hb2)
           (try clear hk)
           (try clear hi)
           (try clear ho0)
           obtain ⟨Ao89, co89, eo89⟩ := Kd.V_slice HO434.out
           (first | subst eo89 | (injection eo89 with f1_ f2_ f3_; have f4_ := f1_.symm; have f5_ := f3_.symm; clear f1_ f2_ f3_; subst f4_; subst f5_))
           refine hK.out _ _ trivial (fun hHeld => ?_)
           clear hK K
           refine norm_ (a' := ?_) ?_ ?_
           rotate_left
           ·
            show Act.put _ (some 63) _ = _
            simp only [Act.put, List.setIfInBounds_toArray, List.set_cons_zero, List.set_cons_succ, i64_w, i32_w]
            rfl
           refine one_ (i := 17) (N := some 65) #[true, true, true, true, true, true, true, true, true, true, true, true, true, true, true, true, true, true, false, false, false, false, false, false, false, false, false, false, false, false, false] rfl rfl (one_of HT_.out (by kernel_rfl)) (by decide) (fun K hK => ?_)
           refine goes_ Try.func58 (by kernel_rfl) rfl #[.agg #[], .slice Ao89 t432.length co89, .slice A0 l0.length c0] (by rfl) rfl rfl lu ?_
           with_reducible refine (semiring_Counting_Same.calls kj31  _ _ t432 _ _ l0 false _ ?side1 ?side2 ?side3 ?side4 A65.out).mono ?_
           (case side1 => repeat (first | exact (Kd.V_reads' HO434.out).2.2 | (with_reducible refine Kd.C_alloc ?_ _) | (with_reducible refine Kd.C_drewN ?_ _) | (with_reducible refine Kd.C_drew ?_)))
           (case side2 => exact (Kd.V_reads' HO434.out).2.1)
           (case side3 => repeat (first | exact (Kd.V_reads' HO_0.out).2.2 | (with_reducible refine Kd.C_alloc ?_ _) | (with_reducible refine Kd.C_drewN ?_ _) | (with_reducible refine Kd.C_drew ?_)))
           (case side4 => exact (Kd.V_reads' HO_0.out).2.1)
           rintro e w90 ⟨rfl, hb⟩
           refine ⟨_, rfl, ?_⟩
           replace HO_0 := Aside0.mk (Kd.V_below (vu HO_0.out) hb)
           replace HO_1 := Aside0.mk (Kd.V_below (vu HO_1.out) hb)
           replace HO_2 := Aside0.mk (Kd.V_below (vu HO_2.out) hb)
           replace HO431 := Aside0.mk (Kd.V_below (vu HO431.out) hb)
           replace HO434 := Aside0.mk (Kd.V_below (vu HO434.out) hb)
           replace BK393 := Aside0.mk (blk_below (g := gb393) (o := .cells #[] 43 (0, 0)) (ku BK393.out) hb)
           replace HB := Aside0.mk (below_step (bu1 HB.out GE393.out) hb)
           (try clear hb)
           (try clear hb2)
           (try clear hk)
           (try clear hi)
           refine hK.out _ _ trivial (fun hHeld => ?_)
           clear hK K
           refine norm_ (a' := ?_) ?_ ?_
           rotate_left
           ·
            show Act.put _ (some 65) _ = _
            simp only [Act.put, List.setIfInBounds_toArray, List.set_cons_zero, List.set_cons_succ, i64_w, i32_w]
            rfl
           refine pure_ (i := 18) (N := some 66) (v := ?_) (a' := ?_) #[true, true, true, true, true, true, true, true, true, true, true, true, true, true, true, true, true, true, true, false, false, false, false, false, false, false, false, false, false, false, false] rfl rfl (any_of HT_.out (by kernel_rfl)) (fun _ _ _ h => h) (Or.inl ⟨by rfl, ?_⟩) ?_ ?_
           rotate_left
           ·
            intro w'
            go_simp
            with_reducible rfl
           rotate_left
           ·
            simp only [Act.put, List.setIfInBounds_toArray, List.set_cons_zero, List.set_cons_succ, i64_w, i32_w]
            rfl
           refine pure_ (i := 19) (N := some 67) (v := ?_) (a' := ?_) #[true, true, true, true, true, true, true, true, true, true, true, true, true, true, true, true, true, true, true, true, false, false, false, false, false, false, false, false, false, false, false] rfl rfl (any_of HT_.out (by kernel_rfl)) (fun _ _ _ h => h) (Or.inl ⟨by rfl, ?_⟩) ?_ ?_
           rotate_left
           ·
            intro w'
            go_simp
            with_reducible rfl
           rotate_left
           ·
            simp only [Act.put, List.setIfInBounds_toArray, List.set_cons_zero, List.set_cons_succ, i64_w, i32_w]
            rfl
           refine pure_ (i := 20) (N := some 68) (v := ?_) (a' := ?_) #[true, true, true, true, true, true, true, true, true, true, true, true, true, true, true, true, true, true, true, true, true, false, false, false, false, false, false, false, false, false, false] rfl rfl (any_of HT_.out (by kernel_rfl)) (fun _ _ _ h => h) (Or.inl ⟨by rfl, ?_⟩) ?_ ?_
           rotate_left
           ·
            intro w'
            go_simp
            with_reducible rfl
           rotate_left
           ·
            simp only [Act.put, List.setIfInBounds_toArray, List.set_cons_zero, List.set_cons_succ, i64_w, i32_w]
            rfl
           refine pure_ (i := 21) (N := some 69) (v := undef) (a' := ?_) #[true, true, true, true, true, true, true, true, true, true, true, true, true, true, true, true, true, true, true, true, true, true, false, false, false, false, false, false, false, false, false] rfl rfl (any_of HT_.out (by kernel_rfl)) (fun _ _ _ h => h) (Or.inr ⟨by rfl, rfl⟩) ?_ ?_
           rotate_left
           ·
            simp only [Act.put, List.setIfInBounds_toArray, List.set_cons_zero, List.set_cons_succ, i64_w, i32_w]
            rfl
           refine pure_ (i := 22) (N := some 70) (v := undef) (a' := ?_) #[true, true, true, true, true, true, true, true, true, true, true, true, true, true, true, true, true, true, true, true, true, true, true, false, false, false, false, false, false, false, false] rfl rfl (any_of HT_.out (by kernel_rfl)) (fun _ _ _ h => h) (Or.inr ⟨by rfl, rfl⟩) ?_ ?_
           rotate_left
           ·
            simp only [Act.put, List.setIfInBounds_toArray, List.set_cons_zero, List.set_cons_succ, i64_w, i32_w]
            rfl
           refine pure_ (i := 23) (N := some 71) (v := undef) (a' := ?_) #[true, true, true, true, true, true, true, true, true, true, true, true, true, true, true, true, true, true, true, true, true, true, true, true, false, false, false, false, false, false, false] rfl rfl (any_of HT_.out (by kernel_rfl)) (fun _ _ _ h => h) (Or.inr ⟨by rfl, rfl⟩) ?_ ?_
           rotate_left
           ·
            simp only [Act.put, List.setIfInBounds_toArray, List.set_cons_zero, List.set_cons_succ, i64_w, i32_w]
            rfl
           refine pure_ (i := 24) (N := some 72) (v := undef) (a' := ?_) #[true, true, true, true, true, true, true, true, true, true, true, true, true, true, true, true, true, true, true, true, true, true, true, true, true, false, false, false, false, false, false] rfl rfl (any_of HT_.out (by kernel_rfl)) (fun _ _ _ h => h) (Or.inr ⟨by rfl, rfl⟩) ?_ ?_
           rotate_left
           ·
            simp only [Act.put, List.setIfInBounds_toArray, List.set_cons_zero, List.set_cons_succ, i64_w, i32_w]
            rfl
           refine pure_ (i := 25) (N := some 73) (v := undef) (a' := ?_) #[true, true, true, true, true, true, true, true, true, true, true, true, true, true, true, true, true, true, true, true, true, true, true, true, true, true, false, false, false, false, false] rfl rfl (any_of HT_.out (by kernel_rfl)) (fun _ _ _ h => h) (Or.inr ⟨by rfl, rfl⟩) ?_ ?_
           rotate_left
           ·
            simp only [Act.put, List.setIfInBounds_toArray, List.set_cons_zero, List.set_cons_succ, i64_w, i32_w]
            rfl
           refine pure_ (i := 26) (N := some 74) (v := undef) (a' := ?_) #[true, true, true, true, true, true, true, true, true, true, true, true, true, true, true, true, true, true, true, true, true, true, true, true, true, true, true, false, false, false, false] rfl rfl (any_of HT_.out (by kernel_rfl)) (fun _ _ _ h => h) (Or.inr ⟨by rfl, rfl⟩) ?_ ?_
           rotate_left
           ·
            simp only [Act.put, List.setIfInBounds_toArray, List.set_cons_zero, List.set_cons_succ, i64_w, i32_w]
            rfl
           refine pure_ (i := 27) (N := some 75) (v := undef) (a' := ?_) #[true, true, true, true, true, true, true, true, true, true, true, true, true, true, true, true, true, true, true, true, true, true, true, true, true, true, true, true, false, false, false] rfl rfl (any_of HT_.out (by kernel_rfl)) (fun _ _ _ h => h) (Or.inr ⟨by rfl, rfl⟩) ?_ ?_
           rotate_left
           ·
            simp only [Act.put, List.setIfInBounds_toArray, List.set_cons_zero, List.set_cons_succ, i64_w, i32_w]
            rfl
           refine pure_ (i := 28) (N := some 76) (v := undef) (a' := ?_) #[true, true, true, true, true, true, true, true, true, true, true, true, true, true, true, true, true, true, true, true, true, true, true, true, true, true, true, true, true, false, false] rfl rfl (any_of HT_.out (by kernel_rfl)) (fun _ _ _ h => h) (Or.inr ⟨by rfl, rfl⟩) ?_ ?_
           rotate_left
           ·
            simp only [Act.put, List.setIfInBounds_toArray, List.set_cons_zero, List.set_cons_succ, i64_w, i32_w]
            rfl
           refine pure_ (i := 29) (N := some 77) (v := undef) (a' := ?_) #[true, true, true, true, true, true, true, true, true, true, true, true, true, true, true, true, true, true, true, true, true, true, true, true, true, true, true, true, true, true, false] rfl rfl (any_of HT_.out (by kernel_rfl)) (fun _ _ _ h => h) (Or.inr ⟨by rfl, rfl⟩) ?_ ?_
           rotate_left
           ·
            simp only [Act.put, List.setIfInBounds_toArray, List.set_cons_zero, List.set_cons_succ, i64_w, i32_w]
            rfl
           refine pure_ (i := 30) (N := some 78) (v := ?_) (a' := ?_) #[true, true, true, true, true, true, true, true, true, true, true, true, true, true, true, true, true, true, true, true, true, true, true, true, true, true, true, true, true, true, true] rfl rfl (any_of HT_.out (by kernel_rfl)) (fun _ _ _ h => h) (Or.inl ⟨by rfl, ?_⟩) ?_ ?_
           rotate_left
           ·
            intro w'
            go_simp
            with_reducible rfl
           rotate_left
           ·
            simp only [Act.put, List.setIfInBounds_toArray, List.set_cons_zero, List.set_cons_succ, i64_w, i32_w]
            rfl
           refine done_ (done_of HT_.out (by kernel_rfl)) ?_
           try go_wp2
           go_meet
           case rel => exact ⟨_, (true), (by first | rfl | (simp; done) | (simp [*]; done)), H', ⟨by have := HJ5.out; have := HJ31.out; first | omega | exact Nat.le_refl _⟩, ⟨by (with_reducible repeat (first | apply Kd.V_alloc | apply Kd.V_drewN | apply Kd.V_drew)); exact HO_0.out⟩, ⟨by (with_reducible repeat (first | apply Kd.V_alloc | apply Kd.V_drewN | apply Kd.V_drew)); exact HO_1.out⟩, ⟨by (with_reducible repeat (first | apply Kd.V_alloc | apply Kd.V_drewN | apply Kd.V_drew)); exact HO_2.out⟩, ⟨by (with_reducible repeat (first | refine blk_drewN ?_ _ | refine blk_drew ?_ | refine blk_alloc ?_ _)); exact BK393.out⟩, ⟨by repeat (first | (with_reducible first | exact HB.out | apply below_alloc | apply pw_below_drewN | apply below_drew1 | refine below_set ?_ GE393.out) | exact HB.out)⟩⟩
        case rest =>
         clear HC56
         try clear c1
         try clear p2
         try clear c5
         try clear c6
         try clear c52
         try clear c53
         try clear c54
         try clear c56
         try clear c58
         try clear c59
         try clear c66
         obtain ⟨kq, x78_55, rfl, HA, HJ55, HO_0, HO_1, HO_2, BK393, HB⟩ := hcut
         cases kq with
         | zero => exact absurd HA.out (by simp [codewrightlaw46_SemiringCounts.j2])
         | succ kj55 =>
          have H := HA.out
          clear HA
          simp only [codewrightlaw46_SemiringCounts.j2] at H
          by_cases c91 : x78_55 = true
          ·
           subst c91
           have H1 : (none) = some r := by rw [if_pos rfl] at H; exact H
           clear H
           have H := H1
           clear H1
           exact absurd H (by simp)
          ·
           replace c91 := Bool.eq_false_iff.mpr c91
           subst c91
           have H1 : ((semiring_Counting_Add.f kj55 l1 l2).bind fun t443 => ((semiring_Counting_Mul.f kj55 l0 t443).bind fun t446 => ((semiring_Counting_Mul.f kj55 l0 l1).bind fun t449 => ((semiring_Counting_Mul.f kj55 l0 l2).bind fun t452 => ((semiring_Counting_Add.f kj55 t449 t452).bind fun t455 => ((codewrightref01_Same.f kj55 t446 t455).bind fun t458 => (if t458 = true then ((semiring_Counting_Add.f kj55 l1 l2).bind fun t459 => ((semiring_Counting_Add.f kj55 l0 t459).bind fun t462 => ((semiring_Counting_Add.f kj55 l0 l1).bind fun t465 => ((semiring_Counting_Add.f kj55 t465 l2).bind fun t468 => ((codewrightref01_Same.f kj55 t462 t468).bind fun t471 => (if t471 = true then ((semiring_Counting_Mul.f kj55 l1 l2).bind fun t472 => ((semiring_Counting_Mul.f kj55 l0 t472).bind fun t475 => ((semiring_Counting_Mul.f kj55 l0 l1).bind fun t478 => ((semiring_Counting_Mul.f kj55 t478 l2).bind fun t481 => ((codewrightref01_Same.f kj55 t475 t481).bind fun t484 => (some t484)))))) else (none))))))) else (none)))))))) = some r := by rw [if_neg (show ¬ (false = true) by decide)] at H; exact H
           clear H
           have H := H1
           clear H1
           replace H := Option.bind_eq_some_iff.mp H
           obtain ⟨t443, A920, H⟩ := H
           replace H : ((semiring_Counting_Mul.f kj55 l0 t443).bind fun t446 => ((semiring_Counting_Mul.f kj55 l0 l1).bind fun t449 => ((semiring_Counting_Mul.f kj55 l0 l2).bind fun t452 => ((semiring_Counting_Add.f kj55 t449 t452).bind fun t455 => ((codewrightref01_Same.f kj55 t446 t455).bind fun t458 => (if t458 = true then ((semiring_Counting_Add.f kj55 l1 l2).bind fun t459 => ((semiring_Counting_Add.f kj55 l0 t459).bind fun t462 => ((semiring_Counting_Add.f kj55 l0 l1).bind fun t465 => ((semiring_Counting_Add.f kj55 t465 l2).bind fun t468 => ((codewrightref01_Same.f kj55 t462 t468).bind fun t471 => (if t471 = true then ((semiring_Counting_Mul.f kj55 l1 l2).bind fun t472 => ((semiring_Counting_Mul.f kj55 l0 t472).bind fun t475 => ((semiring_Counting_Mul.f kj55 l0 l1).bind fun t478 => ((semiring_Counting_Mul.f kj55 t478 l2).bind fun t481 => ((codewrightref01_Same.f kj55 t475 t481).bind fun t484 => (some t484)))))) else (none))))))) else (none))))))) = some r := H
           have A92 := Aside0.mk A920
           clear A920
           replace H := Option.bind_eq_some_iff.mp H
           obtain ⟨t446, A930, H⟩ := H
           replace H : ((semiring_Counting_Mul.f kj55 l0 l1).bind fun t449 => ((semiring_Counting_Mul.f kj55 l0 l2).bind fun t452 => ((semiring_Counting_Add.f kj55 t449 t452).bind fun t455 => ((codewrightref01_Same.f kj55 t446 t455).bind fun t458 => (if t458 = true then ((semiring_Counting_Add.f kj55 l1 l2).bind fun t459 => ((semiring_Counting_Add.f kj55 l0 t459).bind fun t462 => ((semiring_Counting_Add.f kj55 l0 l1).bind fun t465 => ((semiring_Counting_Add.f kj55 t465 l2).bind fun t468 => ((codewrightref01_Same.f kj55 t462 t468).bind fun t471 => (if t471 = true then ((semiring_Counting_Mul.f kj55 l1 l2).bind fun t472 => ((semiring_Counting_Mul.f kj55 l0 t472).bind fun t475 => ((semiring_Counting_Mul.f kj55 l0 l1).bind fun t478 => ((semiring_Counting_Mul.f kj55 t478 l2).bind fun t481 => ((codewrightref01_Same.f kj55 t475 t481).bind fun t484 => (some t484)))))) else (none))))))) else (none)))))) = some r := H
           have A93 := Aside0.mk A930
           clear A930
           replace H := Option.bind_eq_some_iff.mp H
           obtain ⟨t449, A940, H⟩ := H
           replace H : ((semiring_Counting_Mul.f kj55 l0 l2).bind fun t452 => ((semiring_Counting_Add.f kj55 t449 t452).bind fun t455 => ((codewrightref01_Same.f kj55 t446 t455).bind fun t458 => (if t458 = true then ((semiring_Counting_Add.f kj55 l1 l2).bind fun t459 => ((semiring_Counting_Add.f kj55 l0 t459).bind fun t462 => ((semiring_Counting_Add.f kj55 l0 l1).bind fun t465 => ((semiring_Counting_Add.f kj55 t465 l2).bind fun t468 => ((codewrightref01_Same.f kj55 t462 t468).bind fun t471 => (if t471 = true then ((semiring_Counting_Mul.f kj55 l1 l2).bind fun t472 => ((semiring_Counting_Mul.f kj55 l0 t472).bind fun t475 => ((semiring_Counting_Mul.f kj55 l0 l1).bind fun t478 => ((semiring_Counting_Mul.f kj55 t478 l2).bind fun t481 => ((codewrightref01_Same.f kj55 t475 t481).bind fun t484 => (some t484)))))) else (none))))))) else (none))))) = some r := H
           have A94 := Aside0.mk A940
           clear A940
           replace H := Option.bind_eq_some_iff.mp H
           obtain ⟨t452, A950, H⟩ := H
           replace H : ((semiring_Counting_Add.f kj55 t449 t452).bind fun t455 => ((codewrightref01_Same.f kj55 t446 t455).bind fun t458 => (if t458 = true then ((semiring_Counting_Add.f kj55 l1 l2).bind fun t459 => ((semiring_Counting_Add.f kj55 l0 t459).bind fun t462 => ((semiring_Counting_Add.f kj55 l0 l1).bind fun t465 => ((semiring_Counting_Add.f kj55 t465 l2).bind fun t468 => ((codewrightref01_Same.f kj55 t462 t468).bind fun t471 => (if t471 = true then ((semiring_Counting_Mul.f kj55 l1 l2).bind fun t472 => ((semiring_Counting_Mul.f kj55 l0 t472).bind fun t475 => ((semiring_Counting_Mul.f kj55 l0 l1).bind fun t478 => ((semiring_Counting_Mul.f kj55 t478 l2).bind fun t481 => ((codewrightref01_Same.f kj55 t475 t481).bind fun t484 => (some t484)))))) else (none))))))) else (none)))) = some r := H
           have A95 := Aside0.mk A950
           clear A950
           replace H := Option.bind_eq_some_iff.mp H
           obtain ⟨t455, A960, H⟩ := H
           replace H : ((codewrightref01_Same.f kj55 t446 t455).bind fun t458 => (if t458 = true then ((semiring_Counting_Add.f kj55 l1 l2).bind fun t459 => ((semiring_Counting_Add.f kj55 l0 t459).bind fun t462 => ((semiring_Counting_Add.f kj55 l0 l1).bind fun t465 => ((semiring_Counting_Add.f kj55 t465 l2).bind fun t468 => ((codewrightref01_Same.f kj55 t462 t468).bind fun t471 => (if t471 = true then ((semiring_Counting_Mul.f kj55 l1 l2).bind fun t472 => ((semiring_Counting_Mul.f kj55 l0 t472).bind fun t475 => ((semiring_Counting_Mul.f kj55 l0 l1).bind fun t478 => ((semiring_Counting_Mul.f kj55 t478 l2).bind fun t481 => ((codewrightref01_Same.f kj55 t475 t481).bind fun t484 => (some t484)))))) else (none))))))) else (none))) = some r := H
           have A96 := Aside0.mk A960
           clear A960
           replace H := Option.bind_eq_some_iff.mp H
           obtain ⟨t458, A970, H⟩ := H
           replace H : (if t458 = true then ((semiring_Counting_Add.f kj55 l1 l2).bind fun t459 => ((semiring_Counting_Add.f kj55 l0 t459).bind fun t462 => ((semiring_Counting_Add.f kj55 l0 l1).bind fun t465 => ((semiring_Counting_Add.f kj55 t465 l2).bind fun t468 => ((codewrightref01_Same.f kj55 t462 t468).bind fun t471 => (if t471 = true then ((semiring_Counting_Mul.f kj55 l1 l2).bind fun t472 => ((semiring_Counting_Mul.f kj55 l0 t472).bind fun t475 => ((semiring_Counting_Mul.f kj55 l0 l1).bind fun t478 => ((semiring_Counting_Mul.f kj55 t478 l2).bind fun t481 => ((codewrightref01_Same.f kj55 t475 t481).bind fun t484 => (some t484)))))) else (none))))))) else (none)) = some r := H
           have A97 := Aside0.mk A970
           clear A970
           by_cases c98 : t458 = true
           ·
            subst c98
            have H1 : ((semiring_Counting_Add.f kj55 l1 l2).bind fun t459 => ((semiring_Counting_Add.f kj55 l0 t459).bind fun t462 => ((semiring_Counting_Add.f kj55 l0 l1).bind fun t465 => ((semiring_Counting_Add.f kj55 t465 l2).bind fun t468 => ((codewrightref01_Same.f kj55 t462 t468).bind fun t471 => (if t471 = true then ((semiring_Counting_Mul.f kj55 l1 l2).bind fun t472 => ((semiring_Counting_Mul.f kj55 l0 t472).bind fun t475 => ((semiring_Counting_Mul.f kj55 l0 l1).bind fun t478 => ((semiring_Counting_Mul.f kj55 t478 l2).bind fun t481 => ((codewrightref01_Same.f kj55 t475 t481).bind fun t484 => (some t484)))))) else (none))))))) = some r := by rw [if_pos rfl] at H; exact H
            clear H
            have H := H1
            clear H1
            replace H := Option.bind_eq_some_iff.mp H
            obtain ⟨t459, A990, H⟩ := H
            replace H : ((semiring_Counting_Add.f kj55 l0 t459).bind fun t462 => ((semiring_Counting_Add.f kj55 l0 l1).bind fun t465 => ((semiring_Counting_Add.f kj55 t465 l2).bind fun t468 => ((codewrightref01_Same.f kj55 t462 t468).bind fun t471 => (if t471 = true then ((semiring_Counting_Mul.f kj55 l1 l2).bind fun t472 => ((semiring_Counting_Mul.f kj55 l0 t472).bind fun t475 => ((semiring_Counting_Mul.f kj55 l0 l1).bind fun t478 => ((semiring_Counting_Mul.f kj55 t478 l2).bind fun t481 => ((codewrightref01_Same.f kj55 t475 t481).bind fun t484 => (some t484)))))) else (none)))))) = some r := H
            have A99 := Aside0.mk A990
            clear A990
            replace H := Option.bind_eq_some_iff.mp H
            obtain ⟨t462, A1000, H⟩ := H
            replace H : ((semiring_Counting_Add.f kj55 l0 l1).bind fun t465 => ((semiring_Counting_Add.f kj55 t465 l2).bind fun t468 => ((codewrightref01_Same.f kj55 t462 t468).bind fun t471 => (if t471 = true then ((semiring_Counting_Mul.f kj55 l1 l2).bind fun t472 => ((semiring_Counting_Mul.f kj55 l0 t472).bind fun t475 => ((semiring_Counting_Mul.f kj55 l0 l1).bind fun t478 => ((semiring_Counting_Mul.f kj55 t478 l2).bind fun t481 => ((codewrightref01_Same.f kj55 t475 t481).bind fun t484 => (some t484)))))) else (none))))) = some r := H
            have A100 := Aside0.mk A1000
            clear A1000
            replace H := Option.bind_eq_some_iff.mp H
            obtain ⟨t465, A1010, H⟩ := H
            replace H : ((semiring_Counting_Add.f kj55 t465 l2).bind fun t468 => ((codewrightref01_Same.f kj55 t462 t468).bind fun t471 => (if t471 = true then ((semiring_Counting_Mul.f kj55 l1 l2).bind fun t472 => ((semiring_Counting_Mul.f kj55 l0 t472).bind fun t475 => ((semiring_Counting_Mul.f kj55 l0 l1).bind fun t478 => ((semiring_Counting_Mul.f kj55 t478 l2).bind fun t481 => ((codewrightref01_Same.f kj55 t475 t481).bind fun t484 => (some t484)))))) else (none)))) = some r := H
            have A101 := Aside0.mk A1010
            clear A1010
            replace H := Option.bind_eq_some_iff.mp H
            obtain ⟨t468, A1020, H⟩ := H
            replace H : ((codewrightref01_Same.f kj55 t462 t468).bind fun t471 => (if t471 = true then ((semiring_Counting_Mul.f kj55 l1 l2).bind fun t472 => ((semiring_Counting_Mul.f kj55 l0 t472).bind fun t475 => ((semiring_Counting_Mul.f kj55 l0 l1).bind fun t478 => ((semiring_Counting_Mul.f kj55 t478 l2).bind fun t481 => ((codewrightref01_Same.f kj55 t475 t481).bind fun t484 => (some t484)))))) else (none))) = some r := H
            have A102 := Aside0.mk A1020
            clear A1020
            replace H := Option.bind_eq_some_iff.mp H
            obtain ⟨t471, A1030, H⟩ := H
            replace H : (if t471 = true then ((semiring_Counting_Mul.f kj55 l1 l2).bind fun t472 => ((semiring_Counting_Mul.f kj55 l0 t472).bind fun t475 => ((semiring_Counting_Mul.f kj55 l0 l1).bind fun t478 => ((semiring_Counting_Mul.f kj55 t478 l2).bind fun t481 => ((codewrightref01_Same.f kj55 t475 t481).bind fun t484 => (some t484)))))) else (none)) = some r := H
            have A103 := Aside0.mk A1030
            clear A1030
            by_cases c104 : t471 = true
            ·
             subst c104
             have H1 : ((semiring_Counting_Mul.f kj55 l1 l2).bind fun t472 => ((semiring_Counting_Mul.f kj55 l0 t472).bind fun t475 => ((semiring_Counting_Mul.f kj55 l0 l1).bind fun t478 => ((semiring_Counting_Mul.f kj55 t478 l2).bind fun t481 => ((codewrightref01_Same.f kj55 t475 t481).bind fun t484 => (some t484)))))) = some r := by rw [if_pos rfl] at H; exact H
             clear H
             have H := H1
             clear H1
             replace H := Option.bind_eq_some_iff.mp H
             obtain ⟨t472, A1050, H⟩ := H
             replace H : ((semiring_Counting_Mul.f kj55 l0 t472).bind fun t475 => ((semiring_Counting_Mul.f kj55 l0 l1).bind fun t478 => ((semiring_Counting_Mul.f kj55 t478 l2).bind fun t481 => ((codewrightref01_Same.f kj55 t475 t481).bind fun t484 => (some t484))))) = some r := H
             have A105 := Aside0.mk A1050
             clear A1050
             replace H := Option.bind_eq_some_iff.mp H
             obtain ⟨t475, A1060, H⟩ := H
             replace H : ((semiring_Counting_Mul.f kj55 l0 l1).bind fun t478 => ((semiring_Counting_Mul.f kj55 t478 l2).bind fun t481 => ((codewrightref01_Same.f kj55 t475 t481).bind fun t484 => (some t484)))) = some r := H
             have A106 := Aside0.mk A1060
             clear A1060
             replace H := Option.bind_eq_some_iff.mp H
             obtain ⟨t478, A1070, H⟩ := H
             replace H : ((semiring_Counting_Mul.f kj55 t478 l2).bind fun t481 => ((codewrightref01_Same.f kj55 t475 t481).bind fun t484 => (some t484))) = some r := H
             have A107 := Aside0.mk A1070
             clear A1070
             replace H := Option.bind_eq_some_iff.mp H
             obtain ⟨t481, A1080, H⟩ := H
             replace H : ((codewrightref01_Same.f kj55 t475 t481).bind fun t484 => (some t484)) = some r := H
             have A108 := Aside0.mk A1080
             clear A1080
             replace H := Option.bind_eq_some_iff.mp H
             obtain ⟨t484, A1090, H⟩ := H
             replace H : (some t484) = some r := H
             have A109 := Aside0.mk A1090
             clear A1090
             obtain rfl := Option.some.inj H
             try go_wp2
             replace HO_0 := Aside0.mk (Kd.V_drew HO_0.out)
             replace HO_1 := Aside0.mk (Kd.V_drew HO_1.out)
             replace HO_2 := Aside0.mk (Kd.V_drew HO_2.out)
             replace BK393 := Aside0.mk (blk_drew BK393.out)
             replace HB := Aside0.mk (below_drew1 HB.out)
             refine start_ (n := 19) (S := fun w' => True) (ds := []) #[false, false, false, false, false, false, false, false, false, false, false, false, false, false, false, false, false, false, false] (by kernel_rfl) rfl rfl trivial (fun hHeld => ?_); refine with_tabW codewrightlaw46_SemiringCounts.tab10 codewrightlaw46_SemiringCounts.bits10 (fun HT_ HW_ => ?_)
             generalize wc.drew = w110 at HO_0 HO_1 HO_2 BK393 HB hHeld ⊢
             refine pure_ (i := 1) (N := some 80) (v := ?_) (a' := ?_) #[false, true, false, false, false, false, false, false, false, false, false, false, false, false, false, false, false, false, false] rfl rfl (any_of HT_.out (by kernel_rfl)) (fun _ _ _ h => h) (Or.inl ⟨by rfl, ?_⟩) ?_ ?_
             rotate_left
             ·
              intro w'
              go_simp
              with_reducible rfl
             rotate_left
             ·
              simp only [Act.put, List.setIfInBounds_toArray, List.set_cons_zero, List.set_cons_succ, i64_w, i32_w]
              rfl
             refine pure_ (i := 3) (N := some 82) (v := ?_) (a' := ?_) #[false, true, false, true, false, false, false, false, false, false, false, false, false, false, false, false, false, false, false] rfl rfl (any_of HT_.out (by kernel_rfl)) (fun _ _ _ h => h) (Or.inl ⟨by rfl, ?_⟩) ?_ ?_
             rotate_left
             ·
              intro w'
              go_simp
              with_reducible rfl
             rotate_left
             ·
              simp only [Act.put, List.setIfInBounds_toArray, List.set_cons_zero, List.set_cons_succ, i64_w, i32_w]
              rfl
             refine pure_ (i := 4) (N := some 83) (v := ?_) (a' := ?_) #[false, true, false, true, true, false, false, false, false, false, false, false, false, false, false, false, false, false, false] rfl rfl (any_of HT_.out (by kernel_rfl)) (fun _ _ _ h => h) (Or.inl ⟨by rfl, ?_⟩) ?_ ?_
             rotate_left
             ·
              intro w'
              go_simp
              with_reducible rfl
             rotate_left
             ·
              simp only [Act.put, List.setIfInBounds_toArray, List.set_cons_zero, List.set_cons_succ, i64_w, i32_w]
              rfl
             refine pure_ (i := 9) (N := some 88) (v := ?_) (a' := ?_) #[false, true, false, true, true, false, false, false, false, true, false, false, false, false, false, false, false, false, false] rfl rfl (any_of HT_.out (by kernel_rfl)) (fun _ _ _ h => h) (Or.inl ⟨by rfl, ?_⟩) ?_ ?_
             rotate_left
             ·
              intro w'
              go_simp
              with_reducible rfl
             rotate_left
             ·
              simp only [Act.put, List.setIfInBounds_toArray, List.set_cons_zero, List.set_cons_succ, i64_w, i32_w]
              rfl
             refine pure_ (i := 10) (N := some 89) (v := ?_) (a' := ?_) #[false, true, false, true, true, false, false, false, false, true, true, false, false, false, false, false, false, false, false] rfl rfl (any_of HT_.out (by kernel_rfl)) (fun _ _ _ h => h) (Or.inl ⟨by rfl, ?_⟩) ?_ ?_
             rotate_left
             ·
              intro w'
              go_simp
              with_reducible rfl
             rotate_left
             ·
              simp only [Act.put, List.setIfInBounds_toArray, List.set_cons_zero, List.set_cons_succ, i64_w, i32_w]
              rfl
             refine pure_ (i := 13) (N := some 92) (v := ?_) (a' := ?_) #[false, true, false, true, true, false, false, false, false, true, true, false, false, true, false, false, false, false, false] rfl rfl (any_of HT_.out (by kernel_rfl)) (fun _ _ _ h => h) (Or.inl ⟨by rfl, ?_⟩) ?_ ?_
             rotate_left
             ·
              intro w'
              go_simp
              with_reducible rfl
             rotate_left
             ·
              simp only [Act.put, List.setIfInBounds_toArray, List.set_cons_zero, List.set_cons_succ, i64_w, i32_w]
              rfl
             refine pure_ (i := 14) (N := some 93) (v := ?_) (a' := ?_) #[false, true, false, true, true, false, false, false, false, true, true, false, false, true, true, false, false, false, false] rfl rfl (any_of HT_.out (by kernel_rfl)) (fun _ _ _ h => h) (Or.inl ⟨by rfl, ?_⟩) ?_ ?_
             rotate_left
             ·
              intro w'
              go_simp
              with_reducible rfl
             rotate_left
             ·
              simp only [Act.put, List.setIfInBounds_toArray, List.set_cons_zero, List.set_cons_succ, i64_w, i32_w]
              rfl
             refine take_ (i := 0) (N := some 79) (v := ?_) (a' := ?_) #[true, true, false, true, true, false, false, false, false, true, true, false, false, true, true, false, false, false, false] rfl rfl (take_ofW HT_.out HW_.out (by kernel_rfl)) (fun _ _ _ h => h) (Or.inl ⟨by rfl, ?_⟩) hHeld ?_ ?_
             rotate_left
             ·
              intro w' _
              go_simp
              with_reducible rfl
             rotate_left
             ·
              simp only [Act.put, List.setIfInBounds_toArray, List.set_cons_zero, List.set_cons_succ, i64_w, i32_w]
              rfl
             refine take_ (i := 2) (N := some 81) (v := ?_) (a' := ?_) #[true, true, true, true, true, false, false, false, false, true, true, false, false, true, true, false, false, false, false] rfl rfl (take_ofW HT_.out HW_.out (by kernel_rfl)) (fun _ _ _ h => h) (Or.inl ⟨by rfl, ?_⟩) hHeld ?_ ?_
             rotate_left
             ·
              intro w' _
              go_simp
              with_reducible rfl
             rotate_left
             ·
              simp only [Act.put, List.setIfInBounds_toArray, List.set_cons_zero, List.set_cons_succ, i64_w, i32_w]
              rfl
             refine take_ (i := 7) (N := some 86) (v := ?_) (a' := ?_) #[true, true, true, true, true, false, false, true, false, true, true, false, false, true, true, false, false, false, false] rfl rfl (take_ofW HT_.out HW_.out (by kernel_rfl)) (fun _ _ _ h => h) (Or.inl ⟨by rfl, ?_⟩) hHeld ?_ ?_
             rotate_left
             ·
              intro w' _
              go_simp
              with_reducible rfl
             rotate_left
             ·
              simp only [Act.put, List.setIfInBounds_toArray, List.set_cons_zero, List.set_cons_succ, i64_w, i32_w]
              rfl
             refine take_ (i := 8) (N := some 87) (v := ?_) (a' := ?_) #[true, true, true, true, true, false, false, true, true, true, true, false, false, true, true, false, false, false, false] rfl rfl (take_ofW HT_.out HW_.out (by kernel_rfl)) (fun _ _ _ h => h) (Or.inl ⟨by rfl, ?_⟩) hHeld ?_ ?_
             rotate_left
             ·
              intro w' _
              go_simp
              with_reducible rfl
             rotate_left
             ·
              simp only [Act.put, List.setIfInBounds_toArray, List.set_cons_zero, List.set_cons_succ, i64_w, i32_w]
              rfl
             refine take_ (i := 12) (N := some 91) (v := ?_) (a' := ?_) #[true, true, true, true, true, false, false, true, true, true, true, false, true, true, true, false, false, false, false] rfl rfl (take_ofW HT_.out HW_.out (by kernel_rfl)) (fun _ _ _ h => h) (Or.inl ⟨by rfl, ?_⟩) hHeld ?_ ?_
             rotate_left
             ·
              intro w' _
              go_simp
              with_reducible rfl
             rotate_left
             ·
              simp only [Act.put, List.setIfInBounds_toArray, List.set_cons_zero, List.set_cons_succ, i64_w, i32_w]
              rfl
             refine one_ (i := 5) (N := some 84) #[true, true, true, true, true, true, false, true, true, true, true, false, true, true, true, false, false, false, false] rfl rfl (one_of HT_.out (by kernel_rfl)) (by decide) (fun K hK => ?_)
             refine goes_ Try.func54 (by kernel_rfl) rfl #[.agg #[], .slice A1 l1.length c1, .slice A2 l2.length c2] (by rfl) rfl rfl lu ?_
             with_reducible refine (semiring_Counting_Add.calls kj55  (fun k_ => (((P0_ k_ ∨ P1_ k_ ∨ P2_ k_) ∨ w.heap.size ≤ k_) ∧ k_ ≠ gb393)) _ _ l1 (fun k_ => (((P0_ k_ ∨ P1_ k_ ∨ P2_ k_) ∨ w.heap.size ≤ k_) ∧ k_ ≠ gb393)) _ _ l2 t443 _ ?side1 ?side2 A92.out).mono ?_
             (case side1 => exact HO_1.out)
             (case side2 => exact HO_2.out)
             rintro e w111 ⟨v444, rfl, ho0, hb⟩
             refine ⟨_, rfl, ?_⟩
             replace HO_0 := Aside0.mk (Kd.V_below (vu HO_0.out) hb)
             replace HO_1 := Aside0.mk (Kd.V_below (vu HO_1.out) hb)
             replace HO_2 := Aside0.mk (Kd.V_below (vu HO_2.out) hb)
             have HO445 := Aside0.mk (Kd.V_lower (Kd.V_mono (ok' := fun k_ => ((P0_ k_ ∨ P1_ k_ ∨ P2_ k_) ∨ w.heap.size ≤ k_) ∧ k_ ≠ gb393) ho0 (fun k_ hk_ => ⟨Or.elim hk_ (fun hs_ => Or.elim hs_ (fun hs_ => hs_.1) (fun hs_ => hs_.1)) (fun hn_ => (.inr (Nat.le_trans (below_size (bu1 HB.out GE393.out)) hn_))), Or.elim hk_ (fun hs_ => Or.elim hs_ (fun hs_ => hs_.2) (fun hs_ => hs_.2)) (fun hn_ => (Kd.freshB (g := gb393) (o := .cells #[] 43 (0, 0)) (ku BK393.out) k_ hn_))⟩)) (below_size (bu1 HB.out GE393.out)))
             replace BK393 := Aside0.mk (blk_below (g := gb393) (o := .cells #[] 43 (0, 0)) (ku BK393.out) hb)
             replace HB := Aside0.mk (below_step (bu1 HB.out GE393.out) hb)
             (try clear hb)
             (try clear hb2)
             (try clear hk)
             (try clear hi)
             (try clear ho0)
             obtain ⟨Ao112, co112, eo112⟩ := Kd.V_slice HO445.out
             (first | subst eo112 | (injection eo112 with f1_ f2_ f3_; have f4_ := f1_.symm; have f5_ := f3_.symm; clear f1_ f2_ f3_; subst f4_; subst f5_))
             refine hK.out _ _ trivial (fun hHeld => ?_)
             clear hK K
             refine norm_ (a' := ?_) ?_ ?_
             rotate_left
             ·
              show Act.put _ (some 84) _ = _
              simp only [Act.put, List.setIfInBounds_toArray, List.set_cons_zero, List.set_cons_succ, i64_w, i32_w]
              rfl
             refine one_ (i := 6) (N := some 85) #[true, true, true, true, true, true, true, true, true, true, true, false, true, true, true, false, false, false, false] rfl rfl (one_of HT_.out (by kernel_rfl)) (by decide) (fun K hK => ?_)
             refine goes_ Try.func56 (by kernel_rfl) rfl #[.agg #[], .slice A0 l0.length c0, .slice Ao112 t443.length co112] (by rfl) rfl rfl lu ?_
             with_reducible refine (semiring_Counting_Mul.calls kj55  (fun k_ => (((P0_ k_ ∨ P1_ k_ ∨ P2_ k_) ∨ w.heap.size ≤ k_) ∧ k_ ≠ gb393)) _ _ l0 (fun k_ => (((P0_ k_ ∨ P1_ k_ ∨ P2_ k_) ∨ w.heap.size ≤ k_) ∧ k_ ≠ gb393)) _ _ t443 t446 _ ?side1 ?side2 A93.out).mono ?_
             (case side1 => exact HO_0.out)
             (case side2 => exact HO445.out)
             rintro e w113 ⟨v447, rfl, ho0, hb⟩
             refine ⟨_, rfl, ?_⟩
             replace HO_0 := Aside0.mk (Kd.V_below (vu HO_0.out) hb)
             replace HO_1 := Aside0.mk (Kd.V_below (vu HO_1.out) hb)
             replace HO_2 := Aside0.mk (Kd.V_below (vu HO_2.out) hb)
             replace HO445 := Aside0.mk (Kd.V_below (vu HO445.out) hb)
             have HO448 := Aside0.mk (Kd.V_lower (Kd.V_mono (ok' := fun k_ => ((P0_ k_ ∨ P1_ k_ ∨ P2_ k_) ∨ w.heap.size ≤ k_) ∧ k_ ≠ gb393) ho0 (fun k_ hk_ => ⟨Or.elim hk_ (fun hs_ => Or.elim hs_ (fun hs_ => hs_.1) (fun hs_ => hs_.1)) (fun hn_ => (.inr (Nat.le_trans (below_size (bu1 HB.out GE393.out)) hn_))), Or.elim hk_ (fun hs_ => Or.elim hs_ (fun hs_ => hs_.2) (fun hs_ => hs_.2)) (fun hn_ => (Kd.freshB (g := gb393) (o := .cells #[] 43 (0, 0)) (ku BK393.out) k_ hn_))⟩)) (below_size (bu1 HB.out GE393.out)))
             replace BK393 := Aside0.mk (blk_below (g := gb393) (o := .cells #[] 43 (0, 0)) (ku BK393.out) hb)
             replace HB := Aside0.mk (below_step (bu1 HB.out GE393.out) hb)
             (try clear hb)
             (try clear hb2)
             (try clear hk)
             (try clear hi)
             (try clear ho0)
             refine hK.out _ _ trivial (fun hHeld => ?_)
             clear hK K
             refine norm_ (a' := ?_) ?_ ?_
             rotate_left
             ·
              show Act.put _ (some 85) _ = _
              simp only [Act.put, List.setIfInBounds_toArray, List.set_cons_zero, List.set_cons_succ, i64_w, i32_w]
              rfl
             refine one_ (i := 11) (N := some 90) #[true, true, true, true, true, true, true, true, true, true, true, true, true, true, true, false, false, false, false] rfl rfl (one_of HT_.out (by kernel_rfl)) (by decide) (fun K hK => ?_)
             refine goes_ Try.func56 (by kernel_rfl) rfl #[.agg #[], .slice A0 l0.length c0, .slice A1 l1.length c1] (by rfl) rfl rfl lu ?_
             with_reducible refine (semiring_Counting_Mul.calls kj55  (fun k_ => (((P0_ k_ ∨ P1_ k_ ∨ P2_ k_) ∨ w.heap.size ≤ k_) ∧ k_ ≠ gb393)) _ _ l0 (fun k_ => (((P0_ k_ ∨ P1_ k_ ∨ P2_ k_) ∨ w.heap.size ≤ k_) ∧ k_ ≠ gb393)) _ _ l1 t449 _ ?side1 ?side2 A94.out).mono ?_
             (case side1 => exact HO_0.out)
             (case side2 => exact HO_1.out)
             rintro e w114 ⟨v450, rfl, ho0, hb⟩
             refine ⟨_, rfl, ?_⟩
             replace HO_0 := Aside0.mk (Kd.V_below (vu HO_0.out) hb)
             replace HO_1 := Aside0.mk (Kd.V_below (vu HO_1.out) hb)
             replace HO_2 := Aside0.mk (Kd.V_below (vu HO_2.out) hb)
             replace HO445 := Aside0.mk (Kd.V_below (vu HO445.out) hb)
             replace HO448 := Aside0.mk (Kd.V_below (vu HO448.out) hb)
             have HO451 := Aside0.mk (Kd.V_lower (Kd.V_mono (ok' := fun k_ => ((P0_ k_ ∨ P1_ k_ ∨ P2_ k_) ∨ w.heap.size ≤ k_) ∧ k_ ≠ gb393) ho0 (fun k_ hk_ => ⟨Or.elim hk_ (fun hs_ => Or.elim hs_ (fun hs_ => hs_.1) (fun hs_ => hs_.1)) (fun hn_ => (.inr (Nat.le_trans (below_size (bu1 HB.out GE393.out)) hn_))), Or.elim hk_ (fun hs_ => Or.elim hs_ (fun hs_ => hs_.2) (fun hs_ => hs_.2)) (fun hn_ => (Kd.freshB (g := gb393) (o := .cells #[] 43 (0, 0)) (ku BK393.out) k_ hn_))⟩)) (below_size (bu1 HB.out GE393.out)))
             replace BK393 := Aside0.mk (blk_below (g := gb393) (o := .cells #[] 43 (0, 0)) (ku BK393.out) hb)
             replace HB := Aside0.mk (below_step (bu1 HB.out GE393.out) hb)
             (try clear hb)
             (try clear hb2)
             (try clear hk)
             (try clear hi)
             (try clear ho0)
             refine hK.out _ _ trivial (fun hHeld => ?_)
             clear hK K
             refine norm_ (a' := ?_) ?_ ?_
             rotate_left
             ·
              show Act.put _ (some 90) _ = _
              simp only [Act.put, List.setIfInBounds_toArray, List.set_cons_zero, List.set_cons_succ, i64_w, i32_w]
              rfl
             refine one_ (i := 15) (N := some 94) #[true, true, true, true, true, true, true, true, true, true, true, true, true, true, true, true, false, false, false] rfl rfl (one_of HT_.out (by kernel_rfl)) (by decide) (fun K hK => ?_)
             refine goes_ Try.func56 (by kernel_rfl) rfl #[.agg #[], .slice A0 l0.length c0, .slice A2 l2.length c2] (by rfl) rfl rfl lu ?_
             with_reducible refine (semiring_Counting_Mul.calls kj55  (fun k_ => (((P0_ k_ ∨ P1_ k_ ∨ P2_ k_) ∨ w.heap.size ≤ k_) ∧ k_ ≠ gb393)) _ _ l0 (fun k_ => (((P0_ k_ ∨ P1_ k_ ∨ P2_ k_) ∨ w.heap.size ≤ k_) ∧ k_ ≠ gb393)) _ _ l2 t452 _ ?side1 ?side2 A95.out).mono ?_
             (case side1 => exact HO_0.out)
             (case side2 => exact HO_2.out)
             rintro e w115 ⟨v453, rfl, ho0, hb⟩
             refine ⟨_, rfl, ?_⟩
             replace HO_0 := Aside0.mk (Kd.V_below (vu HO_0.out) hb)
             replace HO_1 := Aside0.mk (Kd.V_below (vu HO_1.out) hb)
             replace HO_2 := Aside0.mk (Kd.V_below (vu HO_2.out) hb)
             replace HO445 := Aside0.mk (Kd.V_below (vu HO445.out) hb)
             replace HO448 := Aside0.mk (Kd.V_below (vu HO448.out) hb)
             replace HO451 := Aside0.mk (Kd.V_below (vu HO451.out) hb)
             have HO454 := Aside0.mk (Kd.V_lower (Kd.V_mono (ok' := fun k_ => ((P0_ k_ ∨ P1_ k_ ∨ P2_ k_) ∨ w.heap.size ≤ k_) ∧ k_ ≠ gb393) ho0 (fun k_ hk_ => ⟨Or.elim hk_ (fun hs_ => Or.elim hs_ (fun hs_ => hs_.1) (fun hs_ => hs_.1)) (fun hn_ => (.inr (Nat.le_trans (below_size (bu1 HB.out GE393.out)) hn_))), Or.elim hk_ (fun hs_ => Or.elim hs_ (fun hs_ => hs_.2) (fun hs_ => hs_.2)) (fun hn_ => (Kd.freshB (g := gb393) (o := .cells #[] 43 (0, 0)) (ku BK393.out) k_ hn_))⟩)) (below_size (bu1 HB.out GE393.out)))
             replace BK393 := Aside0.mk (blk_below (g := gb393) (o := .cells #[] 43 (0, 0)) (ku BK393.out) hb)
             replace HB := Aside0.mk (below_step (bu1 HB.out GE393.out) hb)
             (try clear hb)
             (try clear hb2)
             (try clear hk)
             (try clear hi)
             (try clear ho0)
             obtain ⟨Ao116, co116, eo116⟩ := Kd.V_slice HO451.out
             (first | subst eo116 | (injection eo116 with f1_ f2_ f3_; have f4_ := f1_.symm; have f5_ := f3_.symm; clear f1_ f2_ f3_; subst f4_; subst f5_))
             obtain ⟨Ao117, co117, eo117⟩ := Kd.V_slice HO454.out
             (first | subst eo117 | (injection eo117 with f1_ f2_ f3_; have f4_ := f1_.symm; have f5_ := f3_.symm; clear f1_ f2_ f3_; subst f4_; subst f5_))
             refine hK.out _ _ trivial (fun hHeld => ?_)
             clear hK K
             refine norm_ (a' := ?_) ?_ ?_
             rotate_left
             ·
              show Act.put _ (some 94) _ = _
              simp only [Act.put, List.setIfInBounds_toArray, List.set_cons_zero, List.set_cons_succ, i64_w, i32_w]
              rfl
             refine one_ (i := 16) (N := some 95) #[true, true, true, true, true, true, true, true, true, true, true, true, true, true, true, true, true, false, false] rfl rfl (one_of HT_.out (by kernel_rfl)) (by decide) (fun K hK => ?_)
             refine goes_ Try.func54 (by kernel_rfl) rfl #[.agg #[], .slice Ao116 t449.length co116, .slice Ao117 t452.length co117] (by rfl) rfl rfl lu ?_
             with_reducible refine (semiring_Counting_Add.calls kj55  (fun k_ => (((P0_ k_ ∨ P1_ k_ ∨ P2_ k_) ∨ w.heap.size ≤ k_) ∧ k_ ≠ gb393)) _ _ t449 (fun k_ => (((P0_ k_ ∨ P1_ k_ ∨ P2_ k_) ∨ w.heap.size ≤ k_) ∧ k_ ≠ gb393)) _ _ t452 t455 _ ?side1 ?side2 A96.out).mono ?_
             (case side1 => exact HO451.out)
             (case side2 => exact HO454.out)
             rintro e w118 ⟨v456, rfl, ho0, hb⟩
             refine ⟨_, rfl, ?_⟩
             replace HO_0 := Aside0.mk (Kd.V_below (vu HO_0.out) hb)
             replace HO_1 := Aside0.mk (Kd.V_below (vu HO_1.out) hb)
             replace HO_2 := Aside0.mk (Kd.V_below (vu HO_2.out) hb)
             replace HO445 := Aside0.mk (Kd.V_below (vu HO445.out) hb)
             replace HO448 := Aside0.mk (Kd.V_below (vu HO448.out) hb)
             replace HO451 := Aside0.mk (Kd.V_below (vu HO451.out) hb)
             replace HO454 := Aside0.mk (Kd.V_below (vu HO454.out) hb)
             have HO457 := Aside0.mk (Kd.V_lower (Kd.V_mono (ok' := fun k_ => ((P0_ k_ ∨ P1_ k_ ∨ P2_ k_) ∨ w.heap.size ≤ k_) ∧ k_ ≠ gb393) ho0 (fun k_ hk_ => ⟨Or.elim hk_ (fun hs_ => Or.elim hs_ (fun hs_ => hs_.1) (fun hs_ => hs_.1)) (fun hn_ => (.inr (Nat.le_trans (below_size (bu1 HB.out GE393.out)) hn_))), Or.elim hk_ (fun hs_ => Or.elim hs_ (fun hs_ => hs_.2) (fun hs_ => hs_.2)) (fun hn_ => (Kd.freshB (g := gb393) (o := .cells #[] 43 (0, 0)) (ku BK393.out) k_ hn_))⟩)) (below_size (bu1 HB.out GE393.out)))
             replace BK393 := Aside0.mk (blk_below (g := gb393) (o := .cells #[] 43 (0, 0)) (ku BK393.out) hb)
             replace HB := Aside0.mk (below_step (bu1 HB.out GE393.out) hb)
             (try clear hb)
             (try clear hb2)
             (try clear hk)
             (try clear hi)
             (try clear ho0)
             obtain ⟨Ao119, co119, eo119⟩ := Kd.V_slice HO448.out
             (first | subst eo119 | (injection eo119 with f1_ f2_ f3_; have f4_ := f1_.symm; have f5_ := f3_.symm; clear f1_ f2_ f3_; subst f4_; subst f5_))
             obtain ⟨Ao120, co120, eo120⟩ := Kd.V_slice HO457.out
             (first | subst eo120 | (injection eo120 with f1_ f2_ f3_; have f4_ := f1_.symm; have f5_ := f3_.symm; clear f1_ f2_ f3_; subst f4_; subst f5_))
             refine hK.out _ _ trivial (fun hHeld => ?_)
             clear hK K
             refine norm_ (a' := ?_) ?_ ?_
             rotate_left
             ·
              show Act.put _ (some 95) _ = _
              simp only [Act.put, List.setIfInBounds_toArray, List.set_cons_zero, List.set_cons_succ, i64_w, i32_w]
              rfl
             refine one_ (i := 17) (N := some 96) #[true, true, true, true, true, true, true, true, true, true, true, true, true, true, true, true, true, true, false] rfl rfl (one_of HT_.out (by kernel_rfl)) (by decide) (fun K hK => ?_)
             refine goes_ Try.func51 (by kernel_rfl) rfl #[.slice Ao119 t446.length co119, .slice Ao120 t455.length co120] (by rfl) rfl rfl lu ?_
             with_reducible refine (codewrightref01_Same.calls kj55 _ _ t446 _ _ t455 true _ ?side1 ?side2 ?side3 ?side4 A97.out).mono ?_
             (case side1 => repeat (first | exact (Kd.V_reads' HO448.out).2.2 | (with_reducible refine Kd.C_alloc ?_ _) | (with_reducible refine Kd.C_drewN ?_ _) | (with_reducible refine Kd.C_drew ?_)))
             (case side2 => exact (Kd.V_reads' HO448.out).2.1)
             (case side3 => repeat (first | exact (Kd.V_reads' HO457.out).2.2 | (with_reducible refine Kd.C_alloc ?_ _) | (with_reducible refine Kd.C_drewN ?_ _) | (with_reducible refine Kd.C_drew ?_)))
             (case side4 => exact (Kd.V_reads' HO457.out).2.1)
             rintro e w' ⟨rfl, ⟨nd, rfl⟩⟩
             refine ⟨_, rfl, ?_⟩
             refine hK.out _ _ trivial (fun hHeld => ?_)
             clear hK K
             refine norm_ (a' := ?_) ?_ ?_
             rotate_left
             ·
              show Act.put _ (some 96) _ = _
              simp only [Act.put, List.setIfInBounds_toArray, List.set_cons_zero, List.set_cons_succ, i64_w, i32_w]
              rfl
             refine pure_ (i := 18) (N := some 97) (v := ?_) (a' := ?_) #[true, true, true, true, true, true, true, true, true, true, true, true, true, true, true, true, true, true, true] rfl rfl (any_of HT_.out (by kernel_rfl)) (fun _ _ _ h => h) (Or.inl ⟨by rfl, ?_⟩) ?_ ?_
             rotate_left
             ·
              intro w'
              go_simp
              with_reducible rfl
             rotate_left
             ·
              simp only [Act.put, List.setIfInBounds_toArray, List.set_cons_zero, List.set_cons_succ, i64_w, i32_w]
              rfl
             refine done_ (done_of HT_.out (by kernel_rfl)) ?_
             try go_wp2
             (try (rw [drewN_self w118]; generalize hq_ : World.drewN w118 _ = w118; have n0_ : Aside0 (Kd.V (Kd.int .u32) 48 w118 w.heap.size (fun k_ => ((P0_ k_ ∨ P1_ k_ ∨ P2_ k_) ∨ w.heap.size ≤ k_) ∧ k_ ≠ gb393) (.slice Ao112 t443.length co112) t443) := ⟨by rw [← hq_]; exact (vu HO445.out)⟩; have n1_ : Aside0 (Kd.V (Kd.int .u32) 48 w118 w.heap.size (fun k_ => ((P0_ k_ ∨ P1_ k_ ∨ P2_ k_) ∨ w.heap.size ≤ k_) ∧ k_ ≠ gb393) (.slice Ao119 t446.length co119) t446) := ⟨by rw [← hq_]; exact (vu HO448.out)⟩; have n2_ : Aside0 (Kd.V (Kd.int .u32) 48 w118 w.heap.size (fun k_ => ((P0_ k_ ∨ P1_ k_ ∨ P2_ k_) ∨ w.heap.size ≤ k_) ∧ k_ ≠ gb393) (.slice Ao116 t449.length co116) t449) := ⟨by rw [← hq_]; exact (vu HO451.out)⟩; have n3_ : Aside0 (Kd.V (Kd.int .u32) 48 w118 w.heap.size (fun k_ => ((P0_ k_ ∨ P1_ k_ ∨ P2_ k_) ∨ w.heap.size ≤ k_) ∧ k_ ≠ gb393) (.slice Ao117 t452.length co117) t452) := ⟨by rw [← hq_]; exact (vu HO454.out)⟩; have n4_ : Aside0 (Kd.V (Kd.int .u32) 48 w118 w.heap.size (fun k_ => ((P0_ k_ ∨ P1_ k_ ∨ P2_ k_) ∨ w.heap.size ≤ k_) ∧ k_ ≠ gb393) (.slice Ao120 t455.length co120) t455) := ⟨by rw [← hq_]; exact (vu HO457.out)⟩; have n5_ : Aside0 (Kd.V (Kd.int .u32) 48 w118 w.heap.size (fun k_ => ((P0_ k_ ∨ P1_ k_ ∨ P2_ k_) ∨ w.heap.size ≤ k_) ∧ k_ ≠ gb393) (.slice A0 l0.length c0) l0) := ⟨by rw [← hq_]; exact (vu HO_0.out)⟩; have n6_ : Aside0 (Kd.V (Kd.int .u32) 48 w118 w.heap.size (fun k_ => ((P0_ k_ ∨ P1_ k_ ∨ P2_ k_) ∨ w.heap.size ≤ k_) ∧ k_ ≠ gb393) (.slice A1 l1.length c1) l1) := ⟨by rw [← hq_]; exact (vu HO_1.out)⟩; have n7_ : Aside0 (Kd.V (Kd.int .u32) 48 w118 w.heap.size (fun k_ => ((P0_ k_ ∨ P1_ k_ ∨ P2_ k_) ∨ w.heap.size ≤ k_) ∧ k_ ≠ gb393) (.slice A2 l2.length c2) l2) := ⟨by rw [← hq_]; exact (vu HO_2.out)⟩; have n8_ : Aside0 (w118.heap[gb393]? = some (.cells #[] 43 (0, 0))) := ⟨by rw [← hq_]; exact (ku BK393.out)⟩; have n9_ : Aside0 (Below w.heap.size w w118) := ⟨by rw [← hq_]; exact (bu1 HB.out GE393.out)⟩; clear HO445 HO448 HO451 HO454 HO457 HO_0 HO_1 HO_2 BK393 HB hq_; have HO445 := n0_; have HO448 := n1_; have HO451 := n2_; have HO454 := n3_; have HO457 := n4_; have HO_0 := n5_; have HO_1 := n6_; have HO_2 := n7_; have BK393 := n8_; have HB := n9_; clear n0_ n1_ n2_ n3_ n4_ n5_ n6_ n7_ n8_ n9_))
             replace HO_0 := Aside0.mk (Kd.V_drew HO_0.out)
             replace HO_1 := Aside0.mk (Kd.V_drew HO_1.out)
             replace HO_2 := Aside0.mk (Kd.V_drew HO_2.out)
             replace HO445 := Aside0.mk (Kd.V_drew HO445.out)
             replace HO448 := Aside0.mk (Kd.V_drew HO448.out)
             replace HO451 := Aside0.mk (Kd.V_drew HO451.out)
             replace HO454 := Aside0.mk (Kd.V_drew HO454.out)
             replace HO457 := Aside0.mk (Kd.V_drew HO457.out)
             replace BK393 := Aside0.mk (blk_drew BK393.out)
             replace HB := Aside0.mk (below_drew1 HB.out)
             refine start_ (n := 33) (S := fun w' => True) (ds := []) #[false, false, false, false, false, false, false, false, false, false, false, false, false, false, false, false, false, false, false, false, false, false, false, false, false, false, false, false, false, false, false, false, false] (by kernel_rfl) rfl rfl trivial (fun hHeld => ?_); refine with_tabW codewrightlaw46_SemiringCounts.tab12 codewrightlaw46_SemiringCounts.bits12 (fun HT_ HW_ => ?_)
             generalize w118.drew = w121 at HO_0 HO_1 HO_2 HO445 HO448 HO451 HO454 HO457 BK393 HB hHeld ⊢
             refine pure_ (i := 1) (N := some 99) (v := ?_) (a' := ?_) #[false, true, false, false, false, false, false, false, false, false, false, false, false, false, false, false, false, false, false, false, false, false, false, false, false, false, false, false, false, false, false, false, false] rfl rfl (any_of HT_.out (by kernel_rfl)) (fun _ _ _ h => h) (Or.inl ⟨by rfl, ?_⟩) ?_ ?_
             rotate_left
             ·
              intro w'
              go_simp
              with_reducible rfl
             rotate_left
             ·
              simp only [Act.put, List.setIfInBounds_toArray, List.set_cons_zero, List.set_cons_succ, i64_w, i32_w]
              rfl
             refine pure_ (i := 3) (N := some 101) (v := ?_) (a' := ?_) #[false, true, false, true, false, false, false, false, false, false, false, false, false, false, false, false, false, false, false, false, false, false, false, false, false, false, false, false, false, false, false, false, false] rfl rfl (any_of HT_.out (by kernel_rfl)) (fun _ _ _ h => h) (Or.inl ⟨by rfl, ?_⟩) ?_ ?_
             rotate_left
             ·
              intro w'
              go_simp
              with_reducible rfl
             rotate_left
             ·
              simp only [Act.put, List.setIfInBounds_toArray, List.set_cons_zero, List.set_cons_succ, i64_w, i32_w]
              rfl
             refine pure_ (i := 4) (N := some 102) (v := ?_) (a' := ?_) #[false, true, false, true, true, false, false, false, false, false, false, false, false, false, false, false, false, false, false, false, false, false, false, false, false, false, false, false, false, false, false, false, false] rfl rfl (any_of HT_.out (by kernel_rfl)) (fun _ _ _ h => h) (Or.inl ⟨by rfl, ?_⟩) ?_ ?_
             rotate_left
             ·
              intro w'
              go_simp
              with_reducible rfl
             rotate_left
             ·
              simp only [Act.put, List.setIfInBounds_toArray, List.set_cons_zero, List.set_cons_succ, i64_w, i32_w]
              rfl
             refine pure_ (i := 9) (N := some 107) (v := ?_) (a' := ?_) #[false, true, false, true, true, false, false, false, false, true, false, false, false, false, false, false, false, false, false, false, false, false, false, false, false, false, false, false, false, false, false, false, false] rfl rfl (any_of HT_.out (by kernel_rfl)) (fun _ _ _ h => h) (Or.inl ⟨by rfl, ?_⟩) ?_ ?_
             rotate_left
             ·
              intro w'
              go_simp
              with_reducible rfl
             rotate_left
             ·
              simp only [Act.put, List.setIfInBounds_toArray, List.set_cons_zero, List.set_cons_succ, i64_w, i32_w]
              rfl
             refine pure_ (i := 10) (N := some 108) (v := ?_) (a' := ?_) #[false, true, false, true, true, false, false, false, false, true, true, false, false, false, false, false, false, false, false, false, false, false, false, false, false, false, false, false, false, false, false, false, false] rfl rfl (any_of HT_.out (by kernel_rfl)) (fun _ _ _ h => h) (Or.inl ⟨by rfl, ?_⟩) ?_ ?_
             rotate_left
             ·
              intro w'
              go_simp
              with_reducible rfl
             rotate_left
             ·
              simp only [Act.put, List.setIfInBounds_toArray, List.set_cons_zero, List.set_cons_succ, i64_w, i32_w]
              rfl
             refine pure_ (i := 12) (N := some 110) (v := ?_) (a' := ?_) #[false, true, false, true, true, false, false, false, false, true, true, false, true, false, false, false, false, false, false, false, false, false, false, false, false, false, false, false, false, false, false, false, false] rfl rfl (any_of HT_.out (by kernel_rfl)) (fun _ _ _ h => h) (Or.inl ⟨by rfl, ?_⟩) ?_ ?_
             rotate_left
             ·
              intro w'
              go_simp
              with_reducible rfl
             rotate_left
             ·
              simp only [Act.put, List.setIfInBounds_toArray, List.set_cons_zero, List.set_cons_succ, i64_w, i32_w]
              rfl
             refine take_ (i := 0) (N := some 98) (v := ?_) (a' := ?_) #[true, true, false, true, true, false, false, false, false, true, true, false, true, false, false, false, false, false, false, false, false, false, false, false, false, false, false, false, false, false, false, false, false] rfl rfl (take_ofW HT_.out HW_.out (by kernel_rfl)) (fun _ _ _ h => h) (Or.inl ⟨by rfl, ?_⟩) hHeld ?_ ?_
             rotate_left
             ·
              intro w' _
              go_simp
              with_reducible rfl
             rotate_left
             ·
              simp only [Act.put, List.setIfInBounds_toArray, List.set_cons_zero, List.set_cons_succ, i64_w, i32_w]
              rfl
             refine take_ (i := 2) (N := some 100) (v := ?_) (a' := ?_) #[true, true, true, true, true, false, false, false, false, true, true, false, true, false, false, false, false, false, false, false, false, false, false, false, false, false, false, false, false, false, false, false, false] rfl rfl (take_ofW HT_.out HW_.out (by kernel_rfl)) (fun _ _ _ h => h) (Or.inl ⟨by rfl, ?_⟩) hHeld ?_ ?_
             rotate_left
             ·
              intro w' _
              go_simp
              with_reducible rfl
             rotate_left
             ·
              simp only [Act.put, List.setIfInBounds_toArray, List.set_cons_zero, List.set_cons_succ, i64_w, i32_w]
              rfl
             refine take_ (i := 7) (N := some 105) (v := ?_) (a' := ?_) #[true, true, true, true, true, false, false, true, false, true, true, false, true, false, false, false, false, false, false, false, false, false, false, false, false, false, false, false, false, false, false, false, false] rfl rfl (take_ofW HT_.out HW_.out (by kernel_rfl)) (fun _ _ _ h => h) (Or.inl ⟨by rfl, ?_⟩) hHeld ?_ ?_
             rotate_left
             ·
              intro w' _
              go_simp
              with_reducible rfl
             rotate_left
             ·
              simp only [Act.put, List.setIfInBounds_toArray, List.set_cons_zero, List.set_cons_succ, i64_w, i32_w]
              rfl
             refine take_ (i := 8) (N := some 106) (v := ?_) (a' := ?_) #[true, true, true, true, true, false, false, true, true, true, true, false, true, false, false, false, false, false, false, false, false, false, false, false, false, false, false, false, false, false, false, false, false] rfl rfl (take_ofW HT_.out HW_.out (by kernel_rfl)) (fun _ _ _ h => h) (Or.inl ⟨by rfl, ?_⟩) hHeld ?_ ?_
             rotate_left
             ·
              intro w' _
              go_simp
              with_reducible rfl
             rotate_left
             ·
              simp only [Act.put, List.setIfInBounds_toArray, List.set_cons_zero, List.set_cons_succ, i64_w, i32_w]
              rfl
             refine one_ (i := 5) (N := some 103) #[true, true, true, true, true, true, false, true, true, true, true, false, true, false, false, false, false, false, false, false, false, false, false, false, false, false, false, false, false, false, false, false, false] rfl rfl (one_of HT_.out (by kernel_rfl)) (by decide) (fun K hK => ?_)
             refine goes_ Try.func54 (by kernel_rfl) rfl #[.agg #[], .slice A1 l1.length c1, .slice A2 l2.length c2] (by rfl) rfl rfl lu ?_
             with_reducible refine (semiring_Counting_Add.calls kj55  (fun k_ => (((P0_ k_ ∨ P1_ k_ ∨ P2_ k_) ∨ w.heap.size ≤ k_) ∧ k_ ≠ gb393)) _ _ l1 (fun k_ => (((P0_ k_ ∨ P1_ k_ ∨ P2_ k_) ∨ w.heap.size ≤ k_) ∧ k_ ≠ gb393)) _ _ l2 t459 _ ?side1 ?side2 A99.out).mono ?_
             (case side1 => exact HO_1.out)
             (case side2 => exact HO_2.out)
             rintro e w122 ⟨v460, rfl, ho0, hb⟩
             refine ⟨_, rfl, ?_⟩
             replace HO_0 := Aside0.mk (Kd.V_below (vu HO_0.out) hb)
             replace HO_1 := Aside0.mk (Kd.V_below (vu HO_1.out) hb)
             replace HO_2 := Aside0.mk (Kd.V_below (vu HO_2.out) hb)
             replace HO445 := Aside0.mk (Kd.V_below (vu HO445.out) hb)
             replace HO448 := Aside0.mk (Kd.V_below (vu HO448.out) hb)
             replace HO451 := Aside0.mk (Kd.V_below (vu HO451.out) hb)
             replace HO454 := Aside0.mk (Kd.V_below (vu HO454.out) hb)
             replace HO457 := Aside0.mk (Kd.V_below (vu HO457.out) hb)
             have HO461 := Aside0.mk (Kd.V_lower (Kd.V_mono (ok' := fun k_ => ((P0_ k_ ∨ P1_ k_ ∨ P2_ k_) ∨ w.heap.size ≤ k_) ∧ k_ ≠ gb393) ho0 (fun k_ hk_ => ⟨Or.elim hk_ (fun hs_ => Or.elim hs_ (fun hs_ => hs_.1) (fun hs_ => hs_.1)) (fun hn_ => (.inr (Nat.le_trans (below_size (bu1 HB.out GE393.out)) hn_))), Or.elim hk_ (fun hs_ => Or.elim hs_ (fun hs_ => hs_.2) (fun hs_ => hs_.2)) (fun hn_ => (Kd.freshB (g := gb393) (o := .cells #[] 43 (0, 0)) (ku BK393.out) k_ hn_))⟩)) (below_size (bu1 HB.out GE393.out)))
             replace BK393 := Aside0.mk (blk_below (g := gb393) (o := .cells #[] 43 (0, 0)) (ku BK393.out) hb)
             replace HB := Aside0.mk (below_step (bu1 HB.out GE393.out) hb)
             (try clear hb)
             (try clear hb2)
             (try clear hk)
             (try clear hi)
             (try clear ho0)
             obtain ⟨Ao123, co123, eo123⟩ := Kd.V_slice HO461.out
             (first | subst eo123 | (injection eo123 with f1_ f2_ f3_; have f4_ := f1_.symm; have f5_ := f3_.symm; clear f1_ f2_ f3_; subst f4_; subst f5_))
             refine hK.out _ _ trivial (fun hHeld => ?_)
             clear hK K
             refine norm_ (a' := ?_) ?_ ?_
             rotate_left
             ·
              show Act.put _ (some 103) _ = _
              simp only [Act.put, List.setIfInBounds_toArray, List.set_cons_zero, List.set_cons_succ, i64_w, i32_w]
              rfl
             refine one_ (i := 6) (N := some 104) #[true, true, true, true, true, true, true, true, true, true, true, false, true, false, false, false, false, false, false, false, false, false, false, false, false, false, false, false, false, false, false, false, false] rfl rfl (one_of HT_.out (by kernel_rfl)) (by decide) (fun K hK => ?_)
             refine goes_ Try.func54 (by kernel_rfl) rfl #[.agg #[], .slice A0 l0.length c0, .slice Ao123 t459.length co123] (by rfl) rfl rfl lu ?_
             with_reducible refine (semiring_Counting_Add.calls kj55  (fun k_ => (((P0_ k_ ∨ P1_ k_ ∨ P2_ k_) ∨ w.heap.size ≤ k_) ∧ k_ ≠ gb393)) _ _ l0 (fun k_ => (((P0_ k_ ∨ P1_ k_ ∨ P2_ k_) ∨ w.heap.size ≤ k_) ∧ k_ ≠ gb393)) _ _ t459 t462 _ ?side1 ?side2 A100.out).mono ?_
             (case side1 => exact HO_0.out)
             (case side2 => exact HO461.out)
             rintro e w124 ⟨v463, rfl, ho0, hb⟩
             refine ⟨_, rfl, ?_⟩
             replace HO_0 := Aside0.mk (Kd.V_below (vu HO_0.out) hb)
             replace HO_1 := Aside0.mk (Kd.V_below (vu HO_1.out) hb)
             replace HO_2 := Aside0.mk (Kd.V_below (vu HO_2.out) hb)
             replace HO445 := Aside0.mk (Kd.V_below (vu HO445.out) hb)
             replace HO448 := Aside0.mk (Kd.V_below (vu HO448.out) hb)
             replace HO451 := Aside0.mk (Kd.V_below (vu HO451.out) hb)
             replace HO454 := Aside0.mk (Kd.V_below (vu HO454.out) hb)
             replace HO457 := Aside0.mk (Kd.V_below (vu HO457.out) hb)
             replace HO461 := Aside0.mk (Kd.V_below (vu HO461.out) hb)
             have HO464 := Aside0.mk (Kd.V_lower (Kd.V_mono (ok' := fun k_ => ((P0_ k_ ∨ P1_ k_ ∨ P2_ k_) ∨ w.heap.size ≤ k_) ∧ k_ ≠ gb393) ho0 (fun k_ hk_ => ⟨Or.elim hk_ (fun hs_ => Or.elim hs_ (fun hs_ => hs_.1) (fun hs_ => hs_.1)) (fun hn_ => (.inr (Nat.le_trans (below_size (bu1 HB.out GE393.out)) hn_))), Or.elim hk_ (fun hs_ => Or.elim hs_ (fun hs_ => hs_.2) (fun hs_ => hs_.2)) (fun hn_ => (Kd.freshB (g := gb393) (o := .cells #[] 43 (0, 0)) (ku BK393.out) k_ hn_))⟩)) (below_size (bu1 HB.out GE393.out)))
             replace BK393 := Aside0.mk (blk_below (g := gb393) (o := .cells #[] 43 (0, 0)) (ku BK393.out) hb)
             replace HB := Aside0.mk (below_step (bu1 HB.out GE393.out) hb)
             (try clear hb)
             (try clear hb2)
             (try clear hk)
             (try clear hi)
             (try clear ho0)
             refine hK.out _ _ trivial (fun hHeld => ?_)
             clear hK K
             refine norm_ (a' := ?_) ?_ ?_
             rotate_left
             ·
              show Act.put _ (some 104) _ = _
              simp only [Act.put, List.setIfInBounds_toArray, List.set_cons_zero, List.set_cons_succ, i64_w, i32_w]
              rfl
             refine one_ (i := 11) (N := some 109) #[true, true, true, true, true, true, true, true, true, true, true, true, true, false, false, false, false, false, false, false, false, false, false, false, false, false, false, false, false, false, false, false, false] rfl rfl (one_of HT_.out (by kernel_rfl)) (by decide) (fun K hK => ?_)
             refine goes_ Try.func54 (by kernel_rfl) rfl #[.agg #[], .slice A0 l0.length c0, .slice A1 l1.length c1] (by rfl) rfl rfl lu ?_
             with_reducible refine (semiring_Counting_Add.calls kj55  (fun k_ => (((P0_ k_ ∨ P1_ k_ ∨ P2_ k_) ∨ w.heap.size ≤ k_) ∧ k_ ≠ gb393)) _ _ l0 (fun k_ => (((P0_ k_ ∨ P1_ k_ ∨ P2_ k_) ∨ w.heap.size ≤ k_) ∧ k_ ≠ gb393)) _ _ l1 t465 _ ?side1 ?side2 A101.out).mono ?_
             (case side1 => exact HO_0.out)
             (case side2 => exact HO_1.out)
             rintro e w125 ⟨v466, rfl, ho0, hb⟩
             refine ⟨_, rfl, ?_⟩
             replace HO_0 := Aside0.mk (Kd.V_below (vu HO_0.out) hb)
             replace HO_1 := Aside0.mk (Kd.V_below (vu HO_1.out) hb)
             replace HO_2 := Aside0.mk (Kd.V_below (vu HO_2.out) hb)
             replace HO445 := Aside0.mk (Kd.V_below (vu HO445.out) hb)
             replace HO448 := Aside0.mk (Kd.V_below (vu HO448.out) hb)
             replace HO451 := Aside0.mk (Kd.V_below (vu HO451.out) hb)
             replace HO454 := Aside0.mk (Kd.V_below (vu HO454.out) hb)
             replace HO457 := Aside0.mk (Kd.V_below (vu HO457.out) hb)
             replace HO461 := Aside0.mk (Kd.V_below (vu HO461.out) hb)
             replace HO464 := Aside0.mk (Kd.V_below (vu HO464.out) hb)
             have HO467 := Aside0.mk (Kd.V_lower (Kd.V_mono (ok' := fun k_ => ((P0_ k_ ∨ P1_ k_ ∨ P2_ k_) ∨ w.heap.size ≤ k_) ∧ k_ ≠ gb393) ho0 (fun k_ hk_ => ⟨Or.elim hk_ (fun hs_ => Or.elim hs_ (fun hs_ => hs_.1) (fun hs_ => hs_.1)) (fun hn_ => (.inr (Nat.le_trans (below_size (bu1 HB.out GE393.out)) hn_))), Or.elim hk_ (fun hs_ => Or.elim hs_ (fun hs_ => hs_.2) (fun hs_ => hs_.2)) (fun hn_ => (Kd.freshB (g := gb393) (o := .cells #[] 43 (0, 0)) (ku BK393.out) k_ hn_))⟩)) (below_size (bu1 HB.out GE393.out)))
             replace BK393 := Aside0.mk (blk_below (g := gb393) (o := .cells #[] 43 (0, 0)) (ku BK393.out) hb)
             replace HB := Aside0.mk (below_step (bu1 HB.out GE393.out) hb)
             (try clear hb)
             (try clear hb2)
             (try clear hk)
             (try clear hi)
             (try clear ho0)
             obtain ⟨Ao126, co126, eo126⟩ := Kd.V_slice HO467.out
             (first | subst eo126 | (injection eo126 with f1_ f2_ f3_; have f4_ := f1_.symm; have f5_ := f3_.symm; clear f1_ f2_ f3_; subst f4_; subst f5_))
             refine hK.out _ _ trivial (fun hHeld => ?_)
             clear hK K
             refine norm_ (a' := ?_) ?_ ?_
             rotate_left
             ·
              show Act.put _ (some 109) _ = _
              simp only [Act.put, List.setIfInBounds_toArray, List.set_cons_zero, List.set_cons_succ, i64_w, i32_w]
              rfl
             refine one_ (i := 13) (N := some 111) #[true, true, true, true, true, true, true, true, true, true, true, true, true, true, false, false, false, false, false, false, false, false, false, false, false, false, false, false, false, false, false, false, false] rfl rfl (one_of HT_.out (by kernel_rfl)) (by decide) (fun K hK => ?_)
             refine goes_ Try.func54 (by kernel_rfl) rfl #[.agg #[], .slice Ao126 t465.length co126, .slice A2 l2.length c2] (by rfl) rfl rfl lu ?_
             with_reducible refine (semiring_Counting_Add.calls kj55  (fun k_ => (((P0_ k_ ∨ P1_ k_ ∨ P2_ k_) ∨ w.heap.size ≤ k_) ∧ k_ ≠ gb393)) _ _ t465 (fun k_ => (((P0_ k_ ∨ P1_ k_ ∨ P2_ k_) ∨ w.heap.size ≤ k_) ∧ k_ ≠ gb393)) _ _ l2 t468 _ ?side1 ?side2 A102.out).mono ?_
             (case side1 => exact HO467.out)
             (case side2 => exact HO_2.out)
             rintro e w127 ⟨v469, rfl, ho0, hb⟩
             refine ⟨_, rfl, ?_⟩
             replace HO_0 := Aside0.mk (Kd.V_below (vu HO_0.out) hb)
             replace HO_1 := Aside0.mk (Kd.V_below (vu HO_1.out) hb)
             replace HO_2 := Aside0.mk (Kd.V_below (vu HO_2.out) hb)
             replace HO445 := Aside0.mk (Kd.V_below (vu HO445.out) hb)
             replace HO448 := Aside0.mk (Kd.V_below (vu HO448.out) hb)
             replace HO451 := Aside0.mk (Kd.V_below (vu HO451.out) hb)
             replace HO454 := Aside0.mk (Kd.V_below (vu HO454.out) hb)
             replace HO457 := Aside0.mk (Kd.V_below (vu HO457.out) hb)
             replace HO461 := Aside0.mk (Kd.V_below (vu HO461.out) hb)
             replace HO464 := Aside0.mk (Kd.V_below (vu HO464.out) hb)
             replace HO467 := Aside0.mk (Kd.V_below (vu HO467.out) hb)
             have HO470 := Aside0.mk (Kd.V_lower (Kd.V_mono (ok' := fun k_ => ((P0_ k_ ∨ P1_ k_ ∨ P2_ k_) ∨ w.heap.size ≤ k_) ∧ k_ ≠ gb393) ho0 (fun k_ hk_ => ⟨Or.elim hk_ (fun hs_ => Or.elim hs_ (fun hs_ => hs_.1) (fun hs_ => hs_.1)) (fun hn_ => (.inr (Nat.le_trans (below_size (bu1 HB.out GE393.out)) hn_))), Or.elim hk_ (fun hs_ => Or.elim hs_ (fun hs_ => hs_.2) (fun hs_ => hs_.2)) (fun hn_ => (Kd.freshB (g := gb393) (o := .cells #[] 43 (0, 0)) (ku BK393.out) k_ hn_))⟩)) (below_size (bu1 HB.out GE393.out)))
             replace BK393 := Aside0.mk (blk_below (g := gb393) (o := .cells #[] 43 (0, 0)) (ku BK393.out) hb)
             replace HB := Aside0.mk (below_step (bu1 HB.out GE393.out) hb)
             (try clear hb)
             (try clear hb2)
             (try clear hk)
             (try clear hi)
             (try clear ho0)
             obtain ⟨Ao128, co128, eo128⟩ := Kd.V_slice HO464.out
             (first | subst eo128 | (injection eo128 with f1_ f2_ f3_; have f4_ := f1_.symm; have f5_ := f3_.symm; clear f1_ f2_ f3_; subst f4_; subst f5_))
             obtain ⟨Ao129, co129, eo129⟩ := Kd.V_slice HO470.out
             (first | subst eo129 | (injection eo129 with f1_ f2_ f3_; have f4_ := f1_.symm; have f5_ := f3_.symm; clear f1_ f2_ f3_; subst f4_; subst f5_))
             refine hK.out _ _ trivial (fun hHeld => ?_)
             clear hK K
             refine norm_ (a' := ?_) ?_ ?_
             rotate_left
             ·
              show Act.put _ (some 111) _ = _
              simp only [Act.put, List.setIfInBounds_toArray, List.set_cons_zero, List.set_cons_succ, i64_w, i32_w]
              rfl
             refine one_ (i := 14) (N := some 112) #[true, true, true, true, true, true, true, true, true, true, true, true, true, true, true, false, false, false, false, false, false, false, false, false, false, false, false, false, false, false, false, false, false] rfl rfl (one_of HT_.out (by kernel_rfl)) (by decide) (fun K hK => ?_)
             refine goes_ Try.func51 (by kernel_rfl) rfl #[.slice Ao128 t462.length co128, .slice Ao129 t468.length co129] (by rfl) rfl rfl lu ?_
             with_reducible refine (codewrightref01_Same.calls kj55 _ _ t462 _ _ t468 true _ ?side1 ?side2 ?side3 ?side4 A103.out).mono ?_
             (case side1 => repeat (first | exact (Kd.V_reads' HO464.out).2.2 | (with_reducible refine Kd.C_alloc ?_ _) | (with_reducible refine Kd.C_drewN ?_ _) | (with_reducible refine Kd.C_drew ?_)))
             (case side2 => exact (Kd.V_reads' HO464.out).2.1)
             (case side3 => repeat (first | exact (Kd.V_reads' HO470.out).2.2 | (with_reducible refine Kd.C_alloc ?_ _) | (with_reducible refine Kd.C_drewN ?_ _) | (with_reducible refine Kd.C_drew ?_)))
             (case side4 => exact (Kd.V_reads' HO470.out).2.1)
             rintro e w' ⟨rfl, ⟨nd, rfl⟩⟩
             refine ⟨_, rfl, ?_⟩
             refine hK.out _ _ trivial (fun hHeld => ?_)
             clear hK K
             refine norm_ (a' := ?_) ?_ ?_
             rotate_left
             ·
              show Act.put _ (some 112) _ = _
              simp only [Act.put, List.setIfInBounds_toArray, List.set_cons_zero, List.set_cons_succ, i64_w, i32_w]
              rfl
             refine pure_ (i := 15) (N := some 113) (v := ?_) (a' := ?_) #[true, true, true, true, true, true, true, true, true, true, true, true, true, true, true, true, false, false, false, false, false, false, false, false, false, false, false, false, false, false, false, false, false] rfl rfl (any_of HT_.out (by kernel_rfl)) (fun _ _ _ h => h) (Or.inl ⟨by rfl, ?_⟩) ?_ ?_
             rotate_left
             ·
              intro w'
              go_simp
              with_reducible rfl
             rotate_left
             ·
              simp only [Act.put, List.setIfInBounds_toArray, List.set_cons_zero, List.set_cons_succ, i64_w, i32_w]
              rfl
             refine pure_ (i := 17) (N := some 115) (v := ?_) (a' := ?_) #[true, true, true, true, true, true, true, true, true, true, true, true, true, true, true, true, false, true, false, false, false, false, false, false, false, false, false, false, false, false, false, false, false] rfl rfl (any_of HT_.out (by kernel_rfl)) (fun _ _ _ h => h) (Or.inl ⟨by rfl, ?_⟩) ?_ ?_
             rotate_left
             ·
              intro w'
              go_simp
              with_reducible rfl
             rotate_left
             ·
              simp only [Act.put, List.setIfInBounds_toArray, List.set_cons_zero, List.set_cons_succ, i64_w, i32_w]
              rfl
             refine pure_ (i := 19) (N := some 117) (v := ?_) (a' := ?_) #[true, true, true, true, true, true, true, true, true, true, true, true, true, true, true, true, false, true, false, true, false, false, false, false, false, false, false, false, false, false, false, false, false] rfl rfl (any_of HT_.out (by kernel_rfl)) (fun _ _ _ h => h) (Or.inl ⟨by rfl, ?_⟩) ?_ ?_
             rotate_left
             ·
              intro w'
              go_simp
              with_reducible rfl
             rotate_left
             ·
              simp only [Act.put, List.setIfInBounds_toArray, List.set_cons_zero, List.set_cons_succ, i64_w, i32_w]
              rfl
             refine pure_ (i := 20) (N := some 118) (v := ?_) (a' := ?_) #[true, true, true, true, true, true, true, true, true, true, true, true, true, true, true, true, false, true, false, true, true, false, false, false, false, false, false, false, false, false, false, false, false] rfl rfl (any_of HT_.out (by kernel_rfl)) (fun _ _ _ h => h) (Or.inl ⟨by rfl, ?_⟩) ?_ ?_
             rotate_left
             ·
              intro w'
              go_simp
              with_reducible rfl
             rotate_left
             ·
              simp only [Act.put, List.setIfInBounds_toArray, List.set_cons_zero, List.set_cons_succ, i64_w, i32_w]
              rfl
             refine pure_ (i := 25) (N := some 123) (v := ?_) (a' := ?_) #[true, true, true, true, true, true, true, true, true, true, true, true, true, true, true, true, false, true, false, true, true, false, false, false, false, true, false, false, false, false, false, false, false] rfl rfl (any_of HT_.out (by kernel_rfl)) (fun _ _ _ h => h) (Or.inl ⟨by rfl, ?_⟩) ?_ ?_
             rotate_left
             ·
              intro w'
              go_simp
              with_reducible rfl
             rotate_left
             ·
              simp only [Act.put, List.setIfInBounds_toArray, List.set_cons_zero, List.set_cons_succ, i64_w, i32_w]
              rfl
             refine pure_ (i := 26) (N := some 124) (v := ?_) (a' := ?_) #[true, true, true, true, true, true, true, true, true, true, true, true, true, true, true, true, false, true, false, true, true, false, false, false, false, true, true, false, false, false, false, false, false] rfl rfl (any_of HT_.out (by kernel_rfl)) (fun _ _ _ h => h) (Or.inl ⟨by rfl, ?_⟩) ?_ ?_
             rotate_left
             ·
              intro w'
              go_simp
              with_reducible rfl
             rotate_left
             ·
              simp only [Act.put, List.setIfInBounds_toArray, List.set_cons_zero, List.set_cons_succ, i64_w, i32_w]
              rfl
             refine pure_ (i := 28) (N := some 126) (v := ?_) (a' := ?_) #[true, true, true, true, true, true, true, true, true, true, true, true, true, true, true, true, false, true, false, true, true, false, false, false, false, true, true, false, true, false, false, false, false] rfl rfl (any_of HT_.out (by kernel_rfl)) (fun _ _ _ h => h) (Or.inl ⟨by rfl, ?_⟩) ?_ ?_
             rotate_left
             ·
              intro w'
              go_simp
              with_reducible rfl
             rotate_left
             ·
              simp only [Act.put, List.setIfInBounds_toArray, List.set_cons_zero, List.set_cons_succ, i64_w, i32_w]
              rfl
             refine take_ (i := 16) (N := some 114) (v := ?_) (a' := ?_) #[true, true, true, true, true, true, true, true, true, true, true, true, true, true, true, true, true, true, false, true, true, false, false, false, false, true, true, false, true, false, false, false, false] rfl rfl (take_ofW HT_.out HW_.out (by kernel_rfl)) (fun _ _ _ h => h) (Or.inl ⟨by rfl, ?_⟩) hHeld ?_ ?_
             rotate_left
             ·
              intro w' _
              go_simp
              with_reducible rfl
             rotate_left
             ·
              simp only [Act.put, List.setIfInBounds_toArray, List.set_cons_zero, List.set_cons_succ, i64_w, i32_w]
              rfl
             refine take_ (i := 18) (N := some 116) (v := ?_) (a' := ?_) #[true, true, true, true, true, true, true, true, true, true, true, true, true, true, true, true, true, true, true, true, true, false, false, false, false, true, true, false, true, false, false, false, false] rfl rfl (take_ofW HT_.out HW_.out (by kernel_rfl)) (fun _ _ _ h => h) (Or.inl ⟨by rfl, ?_⟩) hHeld ?_ ?_
             rotate_left
             ·
              intro w' _
              go_simp
              with_reducible rfl
             rotate_left
             ·
              simp only [Act.put, List.setIfInBounds_toArray, List.set_cons_zero, List.set_cons_succ, i64_w, i32_w]
              rfl
             refine take_ (i := 23) (N := some 121) (v := ?_) (a' := ?_) #[true, true, true, true, true, true, true, true, true, true, true, true, true, true, true, true, true, true, true, true, true, false, false, true, false, true, true, false, true, false, false, false, false] rfl rfl (take_ofW HT_.out HW_.out (by kernel_rfl)) (fun _ _ _ h => h) (Or.inl ⟨by rfl, ?_⟩) hHeld ?_ ?_
             rotate_left
             ·
              intro w' _
              go_simp
              with_reducible rfl
             rotate_left
             ·
              simp only [Act.put, List.setIfInBounds_toArray, List.set_cons_zero, List.set_cons_succ, i64_w, i32_w]
              rfl
             refine take_ (i := 24) (N := some 122) (v := ?_) (a' := ?_) #[true, true, true, true, true, true, true, true, true, true, true, true, true, true, true, true, true, true, true, true, true, false, false, true, true, true, true, false, true, false, false, false, false] rfl rfl (take_ofW HT_.out HW_.out (by kernel_rfl)) (fun _ _ _ h => h) (Or.inl ⟨by rfl, ?_⟩) hHeld ?_ ?_
             rotate_left
             ·
              intro w' _
              go_simp
              with_reducible rfl
             rotate_left
             ·
              simp only [Act.put, List.setIfInBounds_toArray, List.set_cons_zero, List.set_cons_succ, i64_w, i32_w]
              rfl
             refine one_ (i := 21) (N := some 119) #[true, true, true, true, true, true, true, true, true, true, true, true, true, true, true, true, true, true, true, true, true, true, false, true, true, true, true, false, true, false, false, false, false] rfl rfl (one_of HT_.out (by kernel_rfl)) (by decide) (fun K hK => ?_)
             refine goes_ Try.func56 (by kernel_rfl) rfl #[.agg #[], .slice A1 l1.length c1, .slice A2 l2.length c2] (by rfl) rfl rfl lu ?_
             with_reducible refine (semiring_Counting_Mul.calls kj55  (fun k_ => (((P0_ k_ ∨ P1_ k_ ∨ P2_ k_) ∨ w.heap.size ≤ k_) ∧ k_ ≠ gb393)) _ _ l1 (fun k_ => (((P0_ k_ ∨ P1_ k_ ∨ P2_ k_) ∨ w.heap.size ≤ k_) ∧ k_ ≠ gb393)) _ _ l2 t472 _ ?side1 ?side2 A105.out).mono ?_
             (case side1 => exact HO_1.out)
             (case side2 => exact HO_2.out)
             rintro e w130 ⟨v473, rfl, ho0, hb⟩
             refine ⟨_, rfl, ?_⟩
             replace HO_0 := Aside0.mk (Kd.V_below (vu HO_0.out) hb)
             replace HO_1 := Aside0.mk (Kd.V_below (vu HO_1.out) hb)
             replace HO_2 := Aside0.mk (Kd.V_below (vu HO_2.out) hb)
             replace HO445 := Aside0.mk (Kd.V_below (vu HO445.out) hb)
             replace HO448 := Aside0.mk (Kd.V_below (vu HO448.out) hb)
             replace HO451 := Aside0.mk (Kd.V_below (vu HO451.out) hb)
             replace HO454 := Aside0.mk (Kd.V_below (vu HO454.out) hb)
             replace HO457 := Aside0.mk (Kd.V_below (vu HO457.out) hb)
             replace HO461 := Aside0.mk (Kd.V_below (vu HO461.out) hb)
             replace HO464 := Aside0.mk (Kd.V_below (vu HO464.out) hb)
             replace HO467 := Aside0.mk (Kd.V_below (vu HO467.out) hb)
             replace HO470 := Aside0.mk (Kd.V_below (vu HO470.out) hb)
             have HO474 := Aside0.mk (Kd.V_lower (Kd.V_mono (ok' := fun k_ => ((P0_ k_ ∨ P1_ k_ ∨ P2_ k_) ∨ w.heap.size ≤ k_) ∧ k_ ≠ gb393) ho0 (fun k_ hk_ => ⟨Or.elim hk_ (fun hs_ => Or.elim hs_ (fun hs_ => hs_.1) (fun hs_ => hs_.1)) (fun hn_ => (.inr (Nat.le_trans (below_size (bu1 HB.out GE393.out)) hn_))), Or.elim hk_ (fun hs_ => Or.elim hs_ (fun hs_ => hs_.2) (fun hs_ => hs_.2)) (fun hn_ => (Kd.freshB (g := gb393) (o := .cells #[] 43 (0, 0)) (ku BK393.out) k_ hn_))⟩)) (below_size (bu1 HB.out GE393.out)))
             replace BK393 := Aside0.mk (blk_below (g := gb393) (o := .cells #[] 43 (0, 0)) (ku BK393.out) hb)
             replace HB := Aside0.mk (below_step (bu1 HB.out GE393.out) hb)
             (try clear hb)
             (try clear hb2)
             (try clear hk)
             (try clear hi)
             (try clear ho0)
             obtain ⟨Ao131, co131, eo131⟩ := Kd.V_slice HO474.out
             (first | subst eo131 | (injection eo131 with f1_ f2_ f3_; have f4_ := f1_.symm; have f5_ := f3_.symm; clear f1_ f2_ f3_; subst f4_; subst f5_))
             refine hK.out _ _ trivial (fun hHeld => ?_)
             clear hK K
             refine norm_ (a' := ?_) ?_ ?_
             rotate_left
             ·
              show Act.put _ (some 119) _ = _
              simp only [Act.put, List.setIfInBounds_toArray, List.set_cons_zero, List.set_cons_succ, i64_w, i32_w]
              rfl
             refine one_ (i := 22) (N := some 120) #[true, true, true, true, true, true, true, true, true, true, true, true, true, true, true, true, true, true, true, true, true, true, true, true, true, true, true, false, true, false, false, false, false] rfl rfl (one_of HT_.out (by kernel_rfl)) (by decide) (fun K hK => ?_)
             refine goes_ Try.func56 (by kernel_rfl) rfl #[.agg #[], .slice A0 l0.length c0, .slice Ao131 t472.length co131] (by rfl) rfl rfl lu ?_
             with_reducible refine (semiring_Counting_Mul.calls kj55  (fun k_ => (((P0_ k_ ∨ P1_ k_ ∨ P2_ k_) ∨ w.heap.size ≤ k_) ∧ k_ ≠ gb393)) _ _ l0 (fun k_ => (((P0_ k_ ∨ P1_ k_ ∨ P2_ k_) ∨ w.heap.size ≤ k_) ∧ k_ ≠ gb393)) _ _ t472 t475 _ ?side1 ?side2 A106.out).mono ?_
             (case side1 => exact HO_0.out)
             (case side2 => exact HO474.out)
             rintro e w132 ⟨v476, rfl, ho0, hb⟩
             refine ⟨_, rfl, ?_⟩
             replace HO_0 := Aside0.mk (Kd.V_below (vu HO_0.out) hb)
             replace HO_1 := Aside0.mk (Kd.V_below (vu HO_1.out) hb)
             replace HO_2 := Aside0.mk (Kd.V_below (vu HO_2.out) hb)
             replace HO445 := Aside0.mk (Kd.V_below (vu HO445.out) hb)
             replace HO448 := Aside0.mk (Kd.V_below (vu HO448.out) hb)
             replace HO451 := Aside0.mk (Kd.V_below (vu HO451.out) hb)
             replace HO454 := Aside0.mk (Kd.V_below (vu HO454.out) hb)
             replace HO457 := Aside0.mk (Kd.V_below (vu HO457.out) hb)
             replace HO461 := Aside0.mk (Kd.V_below (vu HO461.out) hb)
             replace HO464 := Aside0.mk (Kd.V_below (vu HO464.out) hb)
             replace HO467 := Aside0.mk (Kd.V_below (vu HO467.out) hb)
             replace HO470 := Aside0.mk (Kd.V_below (vu HO470.out) hb)
             replace HO474 := Aside0.mk (Kd.V_below (vu HO474.out) hb)
             have HO477 := Aside0.mk (Kd.V_lower (Kd.V_mono (ok' := fun k_ => ((P0_ k_ ∨ P1_ k_ ∨ P2_ k_) ∨ w.heap.size ≤ k_) ∧ k_ ≠ gb393) ho0 (fun k_ hk_ => ⟨Or.elim hk_ (fun hs_ => Or.elim hs_ (fun hs_ => hs_.1) (fun hs_ => hs_.1)) (fun hn_ => (.inr (Nat.le_trans (below_size (bu1 HB.out GE393.out)) hn_))), Or.elim hk_ (fun hs_ => Or.elim hs_ (fun hs_ => hs_.2) (fun hs_ => hs_.2)) (fun hn_ => (Kd.freshB (g := gb393) (o := .cells #[] 43 (0, 0)) (ku BK393.out) k_ hn_))⟩)) (below_size (bu1 HB.out GE393.out)))
             replace BK393 := Aside0.mk (blk_below (g := gb393) (o := .cells #[] 43 (0, 0)) (ku BK393.out) hb)
             replace HB := Aside0.mk (below_step (bu1 HB.out GE393.out) hb)
             (try clear hb)
             (try clear hb2)
             (try clear hk)
             (try clear hi)
             (try clear ho0)
             refine hK.out _ _ trivial (fun hHeld => ?_)
             clear hK K
             refine norm_ (a' := ?_) ?_ ?_
             rotate_left
             ·
              show Act.put _ (some 120) _ = _
              simp only [Act.put, List.setIfInBounds_toArray, List.set_cons_zero, List.set_cons_succ, i64_w, i32_w]
              rfl
             refine one_ (i := 27) (N := some 125) #[true, true, true, true, true, true, true, true, true, true, true, true, true, true, true, true, true, true, true, true, true, true, true, true, true, true, true, true, true, false, false, false, false] rfl rfl (one_of HT_.out (by kernel_rfl)) (by decide) (fun K hK => ?_)
             refine goes_ Try.func56 (by kernel_rfl) rfl #[.agg #[], .slice A0 l0.length c0, .slice A1 l1.length c1] (by rfl) rfl rfl lu ?_
             with_reducible refine (semiring_Counting_Mul.calls kj55  (fun k_ => (((P0_ k_ ∨ P1_ k_ ∨ P2_ k_) ∨ w.heap.size ≤ k_) ∧ k_ ≠ gb393)) _ _ l0 (fun k_ => (((P0_ k_ ∨ P1_ k_ ∨ P2_ k_) ∨ w.heap.size ≤ k_) ∧ k_ ≠ gb393)) _ _ l1 t478 _ ?side1 ?side2 A107.out).mono ?_
             (case side1 => exact HO_0.out)
             (case side2 => exact HO_1.out)
             rintro e w133 ⟨v479, rfl, ho0, hb⟩
             refine ⟨_, rfl, ?_⟩
             replace HO_0 := Aside0.mk (Kd.V_below (vu HO_0.out) hb)
             replace HO_1 := Aside0.mk (Kd.V_below (vu HO_1.out) hb)
             replace HO_2 := Aside0.mk (Kd.V_below (vu HO_2.out) hb)
             replace HO445 := Aside0.mk (Kd.V_below (vu HO445.out) hb)
             replace HO448 := Aside0.mk (Kd.V_below (vu HO448.out) hb)
             replace HO451 := Aside0.mk (Kd.V_below (vu HO451.out) hb)
             replace HO454 := Aside0.mk (Kd.V_below (vu HO454.out) hb)
             replace HO457 := Aside0.mk (Kd.V_below (vu HO457.out) hb)
             replace HO461 := Aside0.mk (Kd.V_below (vu HO461.out) hb)
             replace HO464 := Aside0.mk (Kd.V_below (vu HO464.out) hb)
             replace HO467 := Aside0.mk (Kd.V_below (vu HO467.out) hb)
             replace HO470 := Aside0.mk (Kd.V_below (vu HO470.out) hb)
             replace HO474 := Aside0.mk (Kd.V_below (vu HO474.out) hb)
             replace HO477 := Aside0.mk (Kd.V_below (vu HO477.out) hb)
             have HO480 := Aside0.mk (Kd.V_lower (Kd.V_mono (ok' := fun k_ => ((P0_ k_ ∨ P1_ k_ ∨ P2_ k_) ∨ w.heap.size ≤ k_) ∧ k_ ≠ gb393) ho0 (fun k_ hk_ => ⟨Or.elim hk_ (fun hs_ => Or.elim hs_ (fun hs_ => hs_.1) (fun hs_ => hs_.1)) (fun hn_ => (.inr (Nat.le_trans (below_size (bu1 HB.out GE393.out)) hn_))), Or.elim hk_ (fun hs_ => Or.elim hs_ (fun hs_ => hs_.2) (fun hs_ => hs_.2)) (fun hn_ => (Kd.freshB (g := gb393) (o := .cells #[] 43 (0, 0)) (ku BK393.out) k_ hn_))⟩)) (below_size (bu1 HB.out GE393.out)))
             replace BK393 := Aside0.mk (blk_below (g := gb393) (o := .cells #[] 43 (0, 0)) (ku BK393.out) hb)
             replace HB := Aside0.mk (below_step (bu1 HB.out GE393.out) hb)
             (try clear hb)
             (try clear hb2)
             (try clear hk)
             (try clear hi)
             (try clear ho0)
             obtain ⟨Ao134, co134, eo134⟩ := Kd.V_slice HO480.out
             (first | subst eo134 | (injection eo134 with f1_ f2_ f3_; have f4_ := f1_.symm; have f5_ := f3_.symm; clear f1_ f2_ f3_; subst f4_; subst f5_))
             refine hK.out _ _ trivial (fun hHeld => ?_)
             clear hK K
             refine norm_ (a' := ?_) ?_ ?_
             rotate_left
             ·
              show Act.put _ (some 125) _ = _
              simp only [Act.put, List.setIfInBounds_toArray, List.set_cons_zero, List.set_cons_succ, i64_w, i32_w]
              rfl
             refine one_ (i := 29) (N := some 127) #[true, true, true, true, true, true, true, true, true, true, true, true, true, true, true, true, true, true, true, true, true, true, true, true, true, true, true, true, true, true, false, false, false] rfl rfl (one_of HT_.out (by kernel_rfl)) (by decide) (fun K hK => ?_)
             refine goes_ Try.func56 (by kernel_rfl) rfl #[.agg #[], .slice Ao134 t478.length co134, .slice A2 l2.length c2] (by rfl) rfl rfl lu ?_
             with_reducible refine (semiring_Counting_Mul.calls kj55  (fun k_ => (((P0_ k_ ∨ P1_ k_ ∨ P2_ k_) ∨ w.heap.size ≤ k_) ∧ k_ ≠ gb393)) _ _ t478 (fun k_ => (((P0_ k_ ∨ P1_ k_ ∨ P2_ k_) ∨ w.heap.size ≤ k_) ∧ k_ ≠ gb393)) _ _ l2 t481 _ ?side1 ?side2 A108.out).mono ?_
             (case side1 => exact HO480.out)
             (case side2 => exact HO_2.out)
             rintro e w135 ⟨v482, rfl, ho0, hb⟩
             refine ⟨_, rfl, ?_⟩
             replace HO_0 := Aside0.mk (Kd.V_below (vu HO_0.out) hb)
             replace HO_1 := Aside0.mk (Kd.V_below (vu HO_1.out) hb)
             replace HO_2 := Aside0.mk (Kd.V_below (vu HO_2.out) hb)
             replace HO445 := Aside0.mk (Kd.V_below (vu HO445.out) hb)
             replace HO448 := Aside0.mk (Kd.V_below (vu HO448.out) hb)
             replace HO451 := Aside0.mk (Kd.V_below (vu HO451.out) hb)
             replace HO454 := Aside0.mk (Kd.V_below (vu HO454.out) hb)
             replace HO457 := Aside0.mk (Kd.V_below (vu HO457.out) hb)
             replace HO461 := Aside0.mk (Kd.V_below (vu HO461.out) hb)
             replace HO464 := Aside0.mk (Kd.V_below (vu HO464.out) hb)
             replace HO467 := Aside0.mk (Kd.V_below (vu HO467.out) hb)
             replace HO470 := Aside0.mk (Kd.V_below (vu HO470.out) hb)
             replace HO474 := Aside0.mk (Kd.V_below (vu HO474.out) hb)
             replace HO477 := Aside0.mk (Kd.V_below (vu HO477.out) hb)
             replace HO480 := Aside0.mk (Kd.V_below (vu HO480.out) hb)
             have HO483 := Aside0.mk (Kd.V_lower (Kd.V_mono (ok' := fun k_ => ((P0_ k_ ∨ P1_ k_ ∨ P2_ k_) ∨ w.heap.size ≤ k_) ∧ k_ ≠ gb393) ho0 (fun k_ hk_ => ⟨Or.elim hk_ (fun hs_ => Or.elim hs_ (fun hs_ => hs_.1) (fun hs_ => hs_.1)) (fun hn_ => (.inr (Nat.le_trans (below_size (bu1 HB.out GE393.out)) hn_))), Or.elim hk_ (fun hs_ => Or.elim hs_ (fun hs_ => hs_.2) (fun hs_ => hs_.2)) (fun hn_ => (Kd.freshB (g := gb393) (o := .cells #[] 43 (0, 0)) (ku BK393.out) k_ hn_))⟩)) (below_size (bu1 HB.out GE393.out)))
             replace BK393 := Aside0.mk (blk_below (g := gb393) (o := .cells #[] 43 (0, 0)) (ku BK393.out) hb)
             replace HB := Aside0.mk (below_step (bu1 HB.out GE393.out) hb)
             (try clear hb)
             (try clear hb2)
             (try clear hk)
             (try clear hi)
             (try clear ho0)
             obtain ⟨Ao136, co136, eo136⟩ := Kd.V_slice HO477.out
             (first | subst eo136 | (injection eo136 with f1_ f2_ f3_; have f4_ := f1_.symm; have f5_ := f3_.symm; clear f1_ f2_ f3_; subst f4_; subst f5_))
             obtain ⟨Ao137, co137, eo137⟩ := Kd.V_slice HO483.out
             (first | subst eo137 | (injection eo137 with f1_ f2_ f3_; have f4_ := f1_.symm; have f5_ := f3_.symm; clear f1_ f2_ f3_; subst f4_; subst f5_))
             refine hK.out _ _ trivial (fun hHeld => ?_)
             clear hK K
             refine norm_ (a' := ?_) ?_ ?_
             rotate_left
             ·
              show Act.put _ (some 127) _ = _
              simp only [Act.put, List.setIfInBounds_toArray, List.set_cons_zero, List.set_cons_succ, i64_w, i32_w]
              rfl
             refine one_ (i := 30) (N := some 128) #[true, true, true, true, true, true, true, true, true, true, true, true, true, true, true, true, true, true, true, true, true, true, true, true, true, true, true, true, true, true, true, false, false] rfl rfl (one_of HT_.out (by kernel_rfl)) (by decide) (fun K hK => ?_)
             refine goes_ Try.func51 (by kernel_rfl) rfl #[.slice Ao136 t475.length co136, .slice Ao137 t481.length co137] (by rfl) rfl rfl lu ?_
             with_reducible refine (codewrightref01_Same.calls kj55 _ _ t475 _ _ t481 t484 _ ?side1 ?side2 ?side3 ?side4 A109.out).mono ?_
             (case side1 => repeat (first | exact (Kd.V_reads' HO477.out).2.2 | (with_reducible refine Kd.C_alloc ?_ _) | (with_reducible refine Kd.C_drewN ?_ _) | (with_reducible refine Kd.C_drew ?_)))
             (case side2 => exact (Kd.V_reads' HO477.out).2.1)
             (case side3 => repeat (first | exact (Kd.V_reads' HO483.out).2.2 | (with_reducible refine Kd.C_alloc ?_ _) | (with_reducible refine Kd.C_drewN ?_ _) | (with_reducible refine Kd.C_drew ?_)))
             (case side4 => exact (Kd.V_reads' HO483.out).2.1)
             rintro e w' ⟨rfl, ⟨nd, rfl⟩⟩
             refine ⟨_, rfl, ?_⟩
             refine hK.out _ _ trivial (fun hHeld => ?_)
             clear hK K
             refine norm_ (a' := ?_) ?_ ?_
             rotate_left
             ·
              show Act.put _ (some 128) _ = _
              simp only [Act.put, List.setIfInBounds_toArray, List.set_cons_zero, List.set_cons_succ, i64_w, i32_w]
              rfl
             refine pure_ (i := 31) (N := some 129) (v := ?_) (a' := ?_) #[true, true, true, true, true, true, true, true, true, true, true, true, true, true, true, true, true, true, true, true, true, true, true, true, true, true, true, true, true, true, true, true, false] rfl rfl (any_of HT_.out (by kernel_rfl)) (fun _ _ _ h => h) (Or.inl ⟨by rfl, ?_⟩) ?_ ?_
             rotate_left
             ·
              intro w'
              go_simp
              with_reducible rfl
             rotate_left
             ·
              simp only [Act.put, List.setIfInBounds_toArray, List.set_cons_zero, List.set_cons_succ, i64_w, i32_w]
              rfl
             refine pure_ (i := 32) (N := some 6) (v := ?_) (a' := ?_) #[true, true, true, true, true, true, true, true, true, true, true, true, true, true, true, true, true, true, true, true, true, true, true, true, true, true, true, true, true, true, true, true, true] rfl rfl (any_of HT_.out (by kernel_rfl)) (fun _ _ _ h => h) (Or.inl ⟨by rfl, ?_⟩) ?_ ?_
             rotate_left
             ·
              intro w'
              go_simp
              with_reducible rfl
             rotate_left
             ·
              simp only [Act.put, List.setIfInBounds_toArray, List.set_cons_zero, List.set_cons_succ, i64_w, i32_w]
              rfl
             refine done_ (done_of HT_.out (by kernel_rfl)) ?_
             try go_wp2
             go_ret
             exact ⟨by first | rfl | (simp [errW_none, errW_some] <;> rfl) | (simp [*, errW_none, errW_some] <;> rfl), by repeat (first | (with_reducible first | exact HB.out | apply below_alloc | apply pw_below_drewN | apply below_drew1 | refine below_set ?_ GE393.out) | exact HB.out)⟩
            ·
             replace c104 := Bool.eq_false_iff.mpr c104
             subst c104
             have H1 : (none) = some r := by rw [if_neg (show ¬ (false = true) by decide)] at H; exact H
             clear H
             have H := H1
             clear H1
             exact absurd H (by simp)
           ·
            replace c98 := Bool.eq_false_iff.mpr c98
            subst c98
            have H1 : (none) = some r := by rw [if_neg (show ¬ (false = true) by decide)] at H; exact H
            clear H
            have H := H1
            clear H1
            exact absurd H (by simp)
 ·
  replace c5 := Bool.eq_false_iff.mpr c5
  subst c5
  have H1 : ((codewrightlaw46_alive.f).bind fun t401 => (some t401)) = some r := by rw [if_neg (show ¬ (false = true) by decide)] at H; exact H
  clear H
  have H := H1
  clear H1
  replace H := Option.bind_eq_some_iff.mp H
  obtain ⟨t401, A1380, H⟩ := H
  replace H : (some t401) = some r := H
  have A138 := Aside0.mk A1380
  clear A1380
  obtain rfl := Option.some.inj H
  go_enter Try.func7, Try.ntmps7
  go_wp2_with (first | ((with_reducible refine gate_dst (N := 7) rfl ?_); (try (refine gate_guard (by rfl) ?_; dsimp only)); refine box_event ?hg (N := 7) ?hd (cs := #[]) (t := 43) ?hr ?_; (case hd => rfl); (case hg => rfl); (case hr => first | (go_simp; done) | (go_simp; rfl)); intro gb393 hg w139 hbox hb; replace HO0 := Aside0.mk (Kd.V_below (Kd.V_elderB (vu HO0.out) gb393 (Nat.le_of_eq hg.symm)) hb); replace HO1 := Aside0.mk (Kd.V_below (Kd.V_elderB (vu HO1.out) gb393 (Nat.le_of_eq hg.symm)) hb); replace HO2 := Aside0.mk (Kd.V_below (Kd.V_elderB (vu HO2.out) gb393 (Nat.le_of_eq hg.symm)) hb); have BK393 := Aside0.mk (hbox); have GW393 := Aside0.mk ((by rw [hg]; exact (below_size (bu HB.out)) : w.heap.size ≤ gb393)); have GE393 := Aside0.mk ((by rw [hg]; exact (below_size (bu HB.out)) : w.heap.size ≤ gb393)); replace HB := Aside0.mk (below_step (bu HB.out) hb); clear hb hbox hg) | ((with_reducible refine gate_dst (N := 12) rfl ?_); (try (refine gate_guard (by rfl) ?_; dsimp only)); refine Kd.N_lit (Kd.slice 48 (Kd.int .u32)) _ 42 ?hg (N' := 12) ?hd (xs := ([l0, l1, l2] : List (List Int))) (inner := [.slice A0 l0.length c0, .slice A1 l1.length c1, .slice A2 l2.length c2]) (ok := (fun k_ => ((P0_ k_ ∨ P1_ k_ ∨ P2_ k_) ∨ w.heap.size ≤ k_) ∧ k_ ≠ gb393)) (okp := (fun k_ => ((P0_ k_ ∨ P1_ k_ ∨ P2_ k_) ∨ w.heap.size ≤ k_) ∧ k_ ≠ gb393)) ?hr ?hp (fun _ hk => hk) ((show ∀ k_, w139.heap.size ≤ k_ → (fun k_ => ((P0_ k_ ∨ P1_ k_ ∨ P2_ k_) ∨ w.heap.size ≤ k_) ∧ k_ ≠ gb393) k_ from fun k_ hk => ⟨(.inr (Nat.le_trans (below_size (bu1 HB.out GE393.out)) hk)), Kd.freshB (g := gb393) (o := .cells #[] 43 (0, 0)) (ku BK393.out) k_ hk⟩) _ (Nat.le_refl _)) (Below.refl _ _) (Nat.le_refl _) (by simp) ?_; (case hd => rfl); (case hg => rfl); (case hr => first | (go_simp; done) | (go_simp; rfl)); (case hp => exact (Reps.one (show Kd.FK (Kd.slice 48 (Kd.int .u32)) _ _ l0 [.slice A0 l0.length c0] from (Kd.FK_slice_mk (Kd.V_reads' (Kd.V_mono (ok' := (fun k_ => ((P0_ k_ ∨ P1_ k_ ∨ P2_ k_) ∨ w.heap.size ≤ k_) ∧ k_ ≠ gb393)) (HO0.out) (fun k_ hk => ⟨hk.1, hk.2⟩))).2.1 (Kd.V_F (Kd.V_mono (ok' := (fun k_ => ((P0_ k_ ∨ P1_ k_ ∨ P2_ k_) ∨ w.heap.size ≤ k_) ∧ k_ ≠ gb393)) (HO0.out) (fun k_ hk => ⟨hk.1, hk.2⟩))))) (Reps.one (show Kd.FK (Kd.slice 48 (Kd.int .u32)) _ _ l1 [.slice A1 l1.length c1] from (Kd.FK_slice_mk (Kd.V_reads' (Kd.V_mono (ok' := (fun k_ => ((P0_ k_ ∨ P1_ k_ ∨ P2_ k_) ∨ w.heap.size ≤ k_) ∧ k_ ≠ gb393)) (HO1.out) (fun k_ hk => ⟨hk.1, hk.2⟩))).2.1 (Kd.V_F (Kd.V_mono (ok' := (fun k_ => ((P0_ k_ ∨ P1_ k_ ∨ P2_ k_) ∨ w.heap.size ≤ k_) ∧ k_ ≠ gb393)) (HO1.out) (fun k_ hk => ⟨hk.1, hk.2⟩))))) (Reps.one (show Kd.FK (Kd.slice 48 (Kd.int .u32)) _ _ l2 [.slice A2 l2.length c2] from (Kd.FK_slice_mk (Kd.V_reads' (Kd.V_mono (ok' := (fun k_ => ((P0_ k_ ∨ P1_ k_ ∨ P2_ k_) ∨ w.heap.size ≤ k_) ∧ k_ ≠ gb393)) (HO2.out) (fun k_ hk => ⟨hk.1, hk.2⟩))).2.1 (Kd.V_F (Kd.V_mono (ok' := (fun k_ => ((P0_ k_ ∨ P1_ k_ ∨ P2_ k_) ∨ w.heap.size ≤ k_) ∧ k_ ≠ gb393)) (HO2.out) (fun k_ hk => ⟨hk.1, hk.2⟩))))) (Reps.none _ _))))); intro v395 w140 ho141 hb hg_ hnew_; clear hg_ hnew_; (first | rw [← Ny394.out] at ho141 | (simp only [Int.reduceToNat] at ho141; rw [← Ny394.out] at ho141)); replace HO0 := Aside0.mk (Kd.V_elder' (vu HO0.out) (Kd.N_base ho141) hb); replace HO1 := Aside0.mk (Kd.V_elder' (vu HO1.out) (Kd.N_base ho141) hb); replace HO2 := Aside0.mk (Kd.V_elder' (vu HO2.out) (Kd.N_base ho141) hb); have HO396 := Aside0.mk (Kd.N_lower ho141 (below_size (bu1 HB.out GE393.out))); replace BK393 := Aside0.mk (blk_below (g := gb393) (o := .cells #[] 43 (0, 0)) (ku BK393.out) hb); replace HB := Aside0.mk (below_step (bu1 HB.out GE393.out) hb); clear hb ho141; obtain ⟨Ao142, co142, eo142⟩ := Kd.N_slice HO396.out; subst eo142) | ((with_reducible refine gate_dst (N := 13) rfl ?_); (try (refine gate_guard (by rfl) ?_; dsimp only)); refine Kd.N_lit (Kd.slice 42 (Kd.slice 48 (Kd.int .u32))) _ 45 ?hg (N' := 13) ?hd (xs := ([y394] : List (List (List Int)))) (inner := [.slice Ao142 y394.length co142]) (ok := (fun k_ => ((P0_ k_ ∨ P1_ k_ ∨ P2_ k_) ∨ w.heap.size ≤ k_) ∧ k_ ≠ gb393)) (okp := (fun k_ => ((P0_ k_ ∨ P1_ k_ ∨ P2_ k_) ∨ w.heap.size ≤ k_) ∧ k_ ≠ gb393)) ?hr ?hp (fun _ hk => hk) ((show ∀ k_, w140.heap.size ≤ k_ → (fun k_ => ((P0_ k_ ∨ P1_ k_ ∨ P2_ k_) ∨ w.heap.size ≤ k_) ∧ k_ ≠ gb393) k_ from fun k_ hk => ⟨(.inr (Nat.le_trans (below_size (bu1 HB.out GE393.out)) hk)), Kd.freshB (g := gb393) (o := .cells #[] 43 (0, 0)) (ku BK393.out) k_ hk⟩) _ (Nat.le_refl _)) (Below.refl _ _) (Nat.le_refl _) (by simp) ?_; (case hd => rfl); (case hg => rfl); (case hr => first | (go_simp; done) | (go_simp; rfl)); (case hp => exact (Reps.one (show Kd.FK (Kd.slice 42 (Kd.slice 48 (Kd.int .u32))) _ _ y394 [.slice Ao142 y394.length co142] from (Kd.FK_slice_mk (Kd.N_reads' (Kd.N_mono (ok' := (fun k_ => ((P0_ k_ ∨ P1_ k_ ∨ P2_ k_) ∨ w.heap.size ≤ k_) ∧ k_ ≠ gb393)) (HO396.out) (fun k_ hk => ⟨hk.1, hk.2⟩))).2.1 (Kd.N_F (Kd.N_mono (ok' := (fun k_ => ((P0_ k_ ∨ P1_ k_ ∨ P2_ k_) ∨ w.heap.size ≤ k_) ∧ k_ ≠ gb393)) (HO396.out) (fun k_ hk => ⟨hk.1, hk.2⟩))))) (Reps.none _ _))); intro v398 w143 ho144 hb hg_ hnew_; clear hg_ hnew_; (first | rw [← Ny397.out] at ho144 | (simp only [Int.reduceToNat] at ho144; rw [← Ny397.out] at ho144)); replace HO0 := Aside0.mk (Kd.V_elder' (vu HO0.out) (Kd.N_base ho144) hb); replace HO1 := Aside0.mk (Kd.V_elder' (vu HO1.out) (Kd.N_base ho144) hb); replace HO2 := Aside0.mk (Kd.V_elder' (vu HO2.out) (Kd.N_base ho144) hb); have HO399 := Aside0.mk (Kd.N_lower ho144 (below_size (bu1 HB.out GE393.out))); replace BK393 := Aside0.mk (blk_below (g := gb393) (o := .cells #[] 43 (0, 0)) (ku BK393.out) hb); replace HB := Aside0.mk (below_step (bu1 HB.out GE393.out) hb); clear HO396 hb ho144; obtain ⟨Ao145, co145, eo145⟩ := Kd.N_slice HO399.out; subst eo145) | ((with_reducible refine gate_callee (f := 49) rfl ?_); refine goesL_ (some 14) rfl rfl Try.func49 (by kernel_rfl) rfl #[.slice Ao145 y397.length co145] rfl lu ?_; (with_reducible refine (codewrightlaw46_short.calls k _ _ y397 false _ ?side1 ?side2 A4.out).mono ?_); (case side1 => repeat (first | exact (Kd.N_reads' HO399.out).2.2 | (with_reducible refine Kd.C_alloc ?_ _) | (with_reducible refine Kd.C_drewN ?_ _) | (with_reducible refine Kd.C_drew ?_))); (case side2 => exact (Kd.N_reads' HO399.out).2.1); rintro e w' ⟨rfl, ⟨nd, rfl⟩⟩; refine ⟨_, rfl, ?_⟩) | ((with_reducible refine gate_callee (f := 50) rfl ?_); refine goesL_ (some 16) rfl rfl Try.func50 (by kernel_rfl) rfl #[] rfl lu ?_; (with_reducible refine (codewrightlaw46_alive.calls  t401 _ A138.out).mono ?_); rintro e w146 ⟨rfl, hb⟩; refine ⟨_, rfl, ?_⟩; replace HO0 := Aside0.mk (Kd.V_below (vu HO0.out) hb); replace HO1 := Aside0.mk (Kd.V_below (vu HO1.out) hb); replace HO2 := Aside0.mk (Kd.V_below (vu HO2.out) hb); replace HO399 := Aside0.mk (Kd.N_below (nu HO399.out) hb); replace BK393 := Aside0.mk (blk_below (g := gb393) (o := .cells #[] 43 (0, 0)) (ku BK393.out) hb); replace HB := Aside0.mk (below_step (bu1 HB.out GE393.out) hb); (try clear hb); (try clear hb2); (try clear hk); (try clear hi)))
  go_ret
  exact ⟨by first | rfl | (simp [errW_none, errW_some] <;> rfl) | (simp [*, errW_none, errW_some] <;> rfl), by repeat (first | (with_reducible first | exact HB.out | apply below_alloc | apply pw_below_drewN | apply below_drew1 | refine below_set ?_ GE393.out) | exact HB.out)⟩

end Go.Proofs.Ytecfdemglbfnoaa.PT
