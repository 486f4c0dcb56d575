/- What the costs' and the gains' functions come to, for any ints: plain functions of ints. -/
import Derived.Test.YtecfdemglbfnoaaPT10
import Derived.Test.YtecfdemglbfnoaaPT13
import Derived.Test.YtecfdemglbfnoaaPT14
import Derived.Test.YtecfdemglbfnoaaPT15
import Derived.Test.YtecfdemglbfnoaaPT20
import Derived.Test.YtecfdemglbfnoaaPT22
import Derived.Test.YtecfdemglbfnoaaPT23
import Derived.Test.YtecfdemglbfnoaaPT24
namespace Go.Proofs.Ytecfdemglbfnoaa.Pure
open Go.RowKit Go.Proofs.Ytecfdemglbfnoaa.PT Go.Proofs.YtecfdemglbfnoaaW.PrintWords Go.Proofs.YtecfdemglbfnoaaW.PrintLast Go.Proofs.YtecfdemglbfnoaaW.PrintMore

def cst (a : Int) : Int := if a < 0 then 0 else if 4611686018427387904 < a then 4611686018427387904 else a
def csum (a b : Int) : Int := if 4611686018427387904 < cst a + cst b then 4611686018427387904 else cst a + cst b
theorem cst_bd (a : Int) : 0 ≤ cst a ∧ cst a ≤ 4611686018427387904 := by unfold cst; omega
theorem csum_bd (a b : Int) : 0 ≤ csum a b ∧ csum a b ≤ 4611686018427387904 := by have := cst_bd a; have := cst_bd b; unfold csum; omega
theorem mn_bd (a b : Int) : 0 ≤ mn (cst a) (cst b) ∧ mn (cst a) (cst b) ≤ 4611686018427387904 := by have := cst_bd a; have := cst_bd b; unfold mn; omega
theorem cost_f (a : Int) : semiring_cost.f a = some (cst a) := by
  unfold semiring_cost.f mn mx cst; congr 1; omega
theorem Min_f (a : Int) : codewrightref46_Min.f a = some (cst a) := by
  unfold codewrightref46_Min.f mn mx cst; congr 1; omega
theorem capped_f {a b : Int} (ha : 0 ≤ a) (ha' : a ≤ 4611686018427387904) (hb : 0 ≤ b) (hb' : b ≤ 4611686018427387904) :
    semiring_capped.f a b = some (if 4611686018427387904 < a + b then 4611686018427387904 else a + b) := by
  unfold semiring_capped.f wrap64
  by_cases h : 4611686018427387904 < a + b
  · rw [if_pos (by omega), if_pos h]
  · rw [if_neg (by omega), if_neg h]; congr 1; omega
theorem Add_f (a b : Int) : semiring_MinPlus_Add.f a b = some (mn (cst a) (cst b)) := by
  simp [semiring_MinPlus_Add.f, cost_f]
theorem Mul_f (a b : Int) : semiring_MinPlus_Mul.f a b = some (csum a b) := by
  have := cst_bd a; have := cst_bd b
  simp only [semiring_MinPlus_Mul.f, cost_f, Option.bind_some]
  rw [capped_f (by omega) (by omega) (by omega) (by omega)]; rfl
theorem MinMul_f (a b : Int) : codewrightref46_MinMul.f a b = some (csum a b) := by
  have := cst_bd a; have := cst_bd b
  simp only [codewrightref46_MinMul.f, Min_f, Option.bind_some]
  unfold wrap64 csum
  by_cases h : 4611686018427387904 < cst a + cst b
  · rw [if_pos (by omega), if_pos h]
  · rw [if_neg (by omega), if_neg h]; congr 1; omega
theorem Same_f (a b : Int) : semiring_MinPlus_Same.f a b = some (cst a == cst b) := by
  simp [semiring_MinPlus_Same.f, cost_f]
theorem cst_self {a : Int} (h : 0 ≤ a) (h' : a ≤ 4611686018427387904) : cst a = a := by unfold cst; omega
theorem cst_mn (a b : Int) : cst (mn (cst a) (cst b)) = mn (cst a) (cst b) := cst_self (mn_bd a b).1 (mn_bd a b).2
theorem cst_csum (a b : Int) : cst (csum a b) = csum a b := cst_self (csum_bd a b).1 (csum_bd a b).2
theorem cst_cst (a : Int) : cst (cst a) = cst a := cst_self (cst_bd a).1 (cst_bd a).2

def gn (a : Int) : Int := if a < -1 then -1 else if 4611686018427387904 < a then 4611686018427387904 else a
def gsum (a b : Int) : Int := if gn a < 0 then -1 else if gn b < 0 then -1 else if 4611686018427387904 < gn a + gn b then 4611686018427387904 else gn a + gn b
theorem gn_bd (a : Int) : -1 ≤ gn a ∧ gn a ≤ 4611686018427387904 := by unfold gn; omega
theorem gsum_bd (a b : Int) : -1 ≤ gsum a b ∧ gsum a b ≤ 4611686018427387904 := by have := gn_bd a; have := gn_bd b; unfold gsum; omega
theorem mx_bd (a b : Int) : -1 ≤ mx (gn a) (gn b) ∧ mx (gn a) (gn b) ≤ 4611686018427387904 := by have := gn_bd a; have := gn_bd b; unfold mx; omega
theorem gain_f (a : Int) : semiring_gain.f a = some (gn a) := by
  unfold semiring_gain.f mn mx gn; congr 1; omega
theorem Max_f (a : Int) : codewrightref46_Max.f a = some (gn a) := by
  unfold codewrightref46_Max.f mn mx gn; congr 1; omega
theorem capd_f {a b : Int} (ha : 0 ≤ a) (ha' : a ≤ 4611686018427387904) (hb : 0 ≤ b) (hb' : b ≤ 4611686018427387904) :
    semiring_capped.f a b = some (if 4611686018427387904 < a + b then 4611686018427387904 else a + b) := by
  unfold semiring_capped.f wrap64
  by_cases h : 4611686018427387904 < a + b
  · rw [if_pos (by omega), if_pos h]
  · rw [if_neg (by omega), if_neg h]; congr 1; omega
theorem GAdd_f (a b : Int) : semiring_MaxPlus_Add.f a b = some (mx (gn a) (gn b)) := by
  simp [semiring_MaxPlus_Add.f, gain_f]
theorem GMul_f (a b : Int) : semiring_MaxPlus_Mul.f a b = some (gsum a b) := by
  have := gn_bd a; have := gn_bd b
  simp only [semiring_MaxPlus_Mul.f, gain_f, Option.bind_some]
  unfold gsum
  by_cases h : gn a < 0
  · rw [if_pos h, if_pos h]
  · rw [if_neg h, if_neg h]
    by_cases h2 : gn b < 0
    · rw [if_pos h2, if_pos h2]
    · rw [if_neg h2, if_neg h2, capd_f (by omega) (by omega) (by omega) (by omega)]; rfl
theorem GMinMul_f {a b : Int} (ha : 0 ≤ a) (ha' : a ≤ 4611686018427387904) (hb : 0 ≤ b) (hb' : b ≤ 4611686018427387904) :
    codewrightref46_MinMul.f a b = some (if 4611686018427387904 < a + b then 4611686018427387904 else a + b) := by
  have h1 : codewrightref46_Min.f a = some a := by unfold codewrightref46_Min.f mn mx; congr 1; omega
  have h2 : codewrightref46_Min.f b = some b := by unfold codewrightref46_Min.f mn mx; congr 1; omega
  simp only [codewrightref46_MinMul.f, h1, h2, Option.bind_some]
  unfold wrap64
  by_cases h : 4611686018427387904 < a + b
  · rw [if_pos (by omega), if_pos h]
  · rw [if_neg (by omega), if_neg h]; congr 1; omega
theorem MaxMul_f (a b : Int) : codewrightref46_MaxMul.f a b = some (gsum a b) := by
  have := gn_bd a; have := gn_bd b
  simp only [codewrightref46_MaxMul.f, Max_f, Option.bind_some]
  unfold gsum
  by_cases h : gn a < 0
  · rw [if_pos h, if_pos h]
  · rw [if_neg h, if_neg h]
    by_cases h2 : gn b < 0
    · rw [if_pos h2, if_pos h2]
    · rw [if_neg h2, if_neg h2, GMinMul_f (by omega) (by omega) (by omega) (by omega)]; rfl
theorem GSame_f (a b : Int) : semiring_MaxPlus_Same.f a b = some (gn a == gn b) := by
  simp [semiring_MaxPlus_Same.f, gain_f]
theorem gn_self {a : Int} (h : -1 ≤ a) (h' : a ≤ 4611686018427387904) : gn a = a := by unfold gn; omega
theorem gn_mx (a b : Int) : gn (mx (gn a) (gn b)) = mx (gn a) (gn b) := gn_self (mx_bd a b).1 (mx_bd a b).2
theorem gn_gsum (a b : Int) : gn (gsum a b) = gsum a b := gn_self (gsum_bd a b).1 (gsum_bd a b).2
theorem gn_gn (a : Int) : gn (gn a) = gn a := gn_self (gn_bd a).1 (gn_bd a).2

end Go.Proofs.Ytecfdemglbfnoaa.Pure
