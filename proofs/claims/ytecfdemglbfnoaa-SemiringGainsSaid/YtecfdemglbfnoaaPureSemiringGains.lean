/- The gains with maximum and bounded sum are a commutative semiring: the printed statement, for any three ints. -/
import Derived.Test.YtecfdemglbfnoaaPT25
namespace Go.Proofs.Ytecfdemglbfnoaa.Pure
open Go.RowKit Go.Proofs.Ytecfdemglbfnoaa.PT Go.Proofs.YtecfdemglbfnoaaW.PrintWords Go.Proofs.YtecfdemglbfnoaaW.PrintLast Go.Proofs.YtecfdemglbfnoaaW.PrintMore

def gn (a : Int) : Int := if a < -1 then -1 else if 4611686018427387904 < a then 4611686018427387904 else a
def gsum (a b : Int) : Int := if gn a < 0 then -1 else if gn b < 0 then -1 else if 4611686018427387904 < gn a + gn b then 4611686018427387904 else gn a + gn b
theorem gn_bd (a : Int) : -1 ≤ gn a ∧ gn a ≤ 4611686018427387904 := by unfold gn; omega
theorem gsum_bd (a b : Int) : -1 ≤ gsum a b ∧ gsum a b ≤ 4611686018427387904 := by have := gn_bd a; have := gn_bd b; unfold gsum; omega
theorem mx_bd (a b : Int) : -1 ≤ mx (gn a) (gn b) ∧ mx (gn a) (gn b) ≤ 4611686018427387904 := by have := gn_bd a; have := gn_bd b; unfold mx; omega
theorem gain_f (a : Int) : semiring_gain.f a = some (gn a) := by
  unfold semiring_gain.f mn mx gn; congr 1; omega
theorem Max_f (a : Int) : codewrightref46_Max.f a = some (gn a) := by
  unfold codewrightref46_Max.f mn mx gn; congr 1; omega
theorem capd_f {a b : Int} (ha : 0 ≤ a) (ha' : a ≤ 4611686018427387904) (hb : 0 ≤ b) (hb' : b ≤ 4611686018427387904) :
    semiring_capped.f a b = some (if 4611686018427387904 < a + b then 4611686018427387904 else a + b) := by
  unfold semiring_capped.f wrap64
  by_cases h : 4611686018427387904 < a + b
  · rw [if_pos (by omega), if_pos h]
  · rw [if_neg (by omega), if_neg h]; congr 1; omega
theorem GAdd_f (a b : Int) : semiring_MaxPlus_Add.f a b = some (mx (gn a) (gn b)) := by
  simp [semiring_MaxPlus_Add.f, gain_f]
theorem GMul_f (a b : Int) : semiring_MaxPlus_Mul.f a b = some (gsum a b) := by
  have := gn_bd a; have := gn_bd b
  simp only [semiring_MaxPlus_Mul.f, gain_f, Option.bind_some]
  unfold gsum
  by_cases h : gn a < 0
  · rw [if_pos h, if_pos h]
  · rw [if_neg h, if_neg h]
    by_cases h2 : gn b < 0
    · rw [if_pos h2, if_pos h2]
    · rw [if_neg h2, if_neg h2, capd_f (by omega) (by omega) (by omega) (by omega)]; rfl
theorem GMinMul_f {a b : Int} (ha : 0 ≤ a) (ha' : a ≤ 4611686018427387904) (hb : 0 ≤ b) (hb' : b ≤ 4611686018427387904) :
    codewrightref46_MinMul.f a b = some (if 4611686018427387904 < a + b then 4611686018427387904 else a + b) := by
  have h1 : codewrightref46_Min.f a = some a := by unfold codewrightref46_Min.f mn mx; congr 1; omega
  have h2 : codewrightref46_Min.f b = some b := by unfold codewrightref46_Min.f mn mx; congr 1; omega
  simp only [codewrightref46_MinMul.f, h1, h2, Option.bind_some]
  unfold wrap64
  by_cases h : 4611686018427387904 < a + b
  · rw [if_pos (by omega), if_pos h]
  · rw [if_neg (by omega), if_neg h]; congr 1; omega
theorem MaxMul_f (a b : Int) : codewrightref46_MaxMul.f a b = some (gsum a b) := by
  have := gn_bd a; have := gn_bd b
  simp only [codewrightref46_MaxMul.f, Max_f, Option.bind_some]
  unfold gsum
  by_cases h : gn a < 0
  · rw [if_pos h, if_pos h]
  · rw [if_neg h, if_neg h]
    by_cases h2 : gn b < 0
    · rw [if_pos h2, if_pos h2]
    · rw [if_neg h2, if_neg h2, GMinMul_f (by omega) (by omega) (by omega) (by omega)]; rfl
theorem GSame_f (a b : Int) : semiring_MaxPlus_Same.f a b = some (gn a == gn b) := by
  simp [semiring_MaxPlus_Same.f, gain_f]
theorem gn_self {a : Int} (h : -1 ≤ a) (h' : a ≤ 4611686018427387904) : gn a = a := by unfold gn; omega
theorem gn_mx (a b : Int) : gn (mx (gn a) (gn b)) = mx (gn a) (gn b) := gn_self (mx_bd a b).1 (mx_bd a b).2
theorem gn_gsum (a b : Int) : gn (gsum a b) = gsum a b := gn_self (gsum_bd a b).1 (gsum_bd a b).2
theorem gn_gn (a : Int) : gn (gn a) = gn a := gn_self (gn_bd a).1 (gn_bd a).2

theorem SemiringGains : codewrightlaw46_SemiringGains.Pure := by
  intro a b c _ _ _
  refine ⟨9, ?_⟩
  have ba := gn_bd a
  have bb := gn_bd b
  have bc := gn_bd c
  have e0 : gsum a (-1) = -1 := by
    have : gn (-1) = -1 := by decide
    unfold gsum; omega
  have e1 : gsum a 0 = gn a := by
    have : gn 0 = 0 := by decide
    unfold gsum; omega
  have e2 : mx (gn a) (gn (-1)) = gn a := by
    have : gn (-1) = -1 := by decide
    unfold mx; omega
  have e3 : gsum a (mx (gn b) (gn c)) = mx (gn (gsum a b)) (gn (gsum a c)) := by
    rw [gn_gsum, gn_gsum]; unfold gsum; rw [gn_mx]; unfold mx; omega
  have e4 : mx (gn a) (gn (mx (gn b) (gn c))) = mx (gn (mx (gn a) (gn b))) (gn c) := by
    rw [gn_mx, gn_mx]; unfold mx; omega
  have e5 : gsum a (gsum b c) = gsum (gsum a b) c := by
    have h1 : gsum a (gsum b c) = if gn a < 0 then -1 else if gsum b c < 0 then -1 else if 4611686018427387904 < gn a + gsum b c then 4611686018427387904 else gn a + gsum b c := by rw [gsum, gn_gsum]
    have h2 : gsum (gsum a b) c = if gsum a b < 0 then -1 else if gn c < 0 then -1 else if 4611686018427387904 < gsum a b + gn c then 4611686018427387904 else gsum a b + gn c := by rw [gsum, gn_gsum]
    rw [h1, h2]; unfold gsum; omega
  unfold codewrightlaw46_SemiringGains.f
  simp only [semiring_MaxPlus_Zero.f, semiring_MaxPlus_One.f, Option.bind_some, GAdd_f, Max_f, GMul_f, MaxMul_f, if_true, bne_self_eq_false]
  rw [codewrightlaw46_SemiringGains.j0, if_neg (by decide)]
  simp only [semiring_MaxPlus_Zero.f, semiring_MaxPlus_One.f, Option.bind_some, GAdd_f, Max_f, GMul_f, MaxMul_f, GSame_f, e0, e1, e2, gn_gn, if_true, bne_self_eq_false, beq_self_eq_true, Bool.not_true]
  rw [if_neg (by decide), codewrightlaw46_SemiringGains.j1, if_neg (by decide)]
  simp only [Option.bind_some, GAdd_f, GMul_f]
  rw [if_pos e3, if_pos e4, e5, beq_self_eq_true]

end Go.Proofs.Ytecfdemglbfnoaa.Pure
