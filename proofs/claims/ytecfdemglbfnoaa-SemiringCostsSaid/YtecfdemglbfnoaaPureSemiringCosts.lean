/- The costs with minimum and bounded sum are a commutative semiring: the printed statement, for any three ints. -/
import Derived.Test.YtecfdemglbfnoaaPT16
namespace Go.Proofs.Ytecfdemglbfnoaa.Pure
open Go.RowKit Go.Proofs.Ytecfdemglbfnoaa.PT Go.Proofs.YtecfdemglbfnoaaW.PrintWords Go.Proofs.YtecfdemglbfnoaaW.PrintLast Go.Proofs.YtecfdemglbfnoaaW.PrintMore

def cst (a : Int) : Int := if a < 0 then 0 else if 4611686018427387904 < a then 4611686018427387904 else a
def csum (a b : Int) : Int := if 4611686018427387904 < cst a + cst b then 4611686018427387904 else cst a + cst b
theorem cst_bd (a : Int) : 0 ≤ cst a ∧ cst a ≤ 4611686018427387904 := by unfold cst; omega
theorem csum_bd (a b : Int) : 0 ≤ csum a b ∧ csum a b ≤ 4611686018427387904 := by have := cst_bd a; have := cst_bd b; unfold csum; omega
theorem mn_bd (a b : Int) : 0 ≤ mn (cst a) (cst b) ∧ mn (cst a) (cst b) ≤ 4611686018427387904 := by have := cst_bd a; have := cst_bd b; unfold mn; omega
theorem cost_f (a : Int) : semiring_cost.f a = some (cst a) := by
  unfold semiring_cost.f mn mx cst; congr 1; omega
theorem Min_f (a : Int) : codewrightref46_Min.f a = some (cst a) := by
  unfold codewrightref46_Min.f mn mx cst; congr 1; omega
theorem capped_f {a b : Int} (ha : 0 ≤ a) (ha' : a ≤ 4611686018427387904) (hb : 0 ≤ b) (hb' : b ≤ 4611686018427387904) :
    semiring_capped.f a b = some (if 4611686018427387904 < a + b then 4611686018427387904 else a + b) := by
  unfold semiring_capped.f wrap64
  by_cases h : 4611686018427387904 < a + b
  · rw [if_pos (by omega), if_pos h]
  · rw [if_neg (by omega), if_neg h]; congr 1; omega
theorem Add_f (a b : Int) : semiring_MinPlus_Add.f a b = some (mn (cst a) (cst b)) := by
  simp [semiring_MinPlus_Add.f, cost_f]
theorem Mul_f (a b : Int) : semiring_MinPlus_Mul.f a b = some (csum a b) := by
  have := cst_bd a; have := cst_bd b
  simp only [semiring_MinPlus_Mul.f, cost_f, Option.bind_some]
  rw [capped_f (by omega) (by omega) (by omega) (by omega)]; rfl
theorem MinMul_f (a b : Int) : codewrightref46_MinMul.f a b = some (csum a b) := by
  have := cst_bd a; have := cst_bd b
  simp only [codewrightref46_MinMul.f, Min_f, Option.bind_some]
  unfold wrap64 csum
  by_cases h : 4611686018427387904 < cst a + cst b
  · rw [if_pos (by omega), if_pos h]
  · rw [if_neg (by omega), if_neg h]; congr 1; omega
theorem Same_f (a b : Int) : semiring_MinPlus_Same.f a b = some (cst a == cst b) := by
  simp [semiring_MinPlus_Same.f, cost_f]
theorem cst_self {a : Int} (h : 0 ≤ a) (h' : a ≤ 4611686018427387904) : cst a = a := by unfold cst; omega
theorem cst_mn (a b : Int) : cst (mn (cst a) (cst b)) = mn (cst a) (cst b) := cst_self (mn_bd a b).1 (mn_bd a b).2
theorem cst_csum (a b : Int) : cst (csum a b) = csum a b := cst_self (csum_bd a b).1 (csum_bd a b).2
theorem cst_cst (a : Int) : cst (cst a) = cst a := cst_self (cst_bd a).1 (cst_bd a).2

theorem SemiringCosts : codewrightlaw46_SemiringCosts.Pure := by
  intro a b c _ _ _
  refine ⟨9, ?_⟩
  have ba := cst_bd a
  have bb := cst_bd b
  have bc := cst_bd c
  have e0 : csum a 4611686018427387904 = 4611686018427387904 := by
    have : cst 4611686018427387904 = 4611686018427387904 := by decide
    unfold csum; omega
  have e1 : csum a 0 = cst a := by
    have : cst 0 = 0 := by decide
    unfold csum; omega
  have e2 : mn (cst a) (cst 4611686018427387904) = cst a := by
    have : cst 4611686018427387904 = 4611686018427387904 := by decide
    unfold mn; omega
  have e3 : csum a (mn (cst b) (cst c)) = mn (cst (csum a b)) (cst (csum a c)) := by
    rw [cst_csum, cst_csum]; unfold csum; rw [cst_mn]; unfold mn; omega
  have e4 : mn (cst a) (cst (mn (cst b) (cst c))) = mn (cst (mn (cst a) (cst b))) (cst c) := by
    rw [cst_mn, cst_mn]; unfold mn; omega
  have e5 : csum a (csum b c) = csum (csum a b) c := by
    have h1 : csum a (csum b c) = if 4611686018427387904 < cst a + csum b c then 4611686018427387904 else cst a + csum b c := by rw [csum, cst_csum]
    have h2 : csum (csum a b) c = if 4611686018427387904 < csum a b + cst c then 4611686018427387904 else csum a b + cst c := by rw [csum, cst_csum]
    rw [h1, h2]; unfold csum; omega
  unfold codewrightlaw46_SemiringCosts.f
  simp only [semiring_MinPlus_Zero.f, semiring_MinPlus_One.f, Option.bind_some, Add_f, Min_f, Mul_f, MinMul_f, if_true, bne_self_eq_false]
  rw [codewrightlaw46_SemiringCosts.j0, if_neg (by decide)]
  simp only [semiring_MinPlus_Zero.f, semiring_MinPlus_One.f, Option.bind_some, Add_f, Min_f, Mul_f, MinMul_f, Same_f, e0, e1, e2, cst_cst, if_true, bne_self_eq_false, beq_self_eq_true, Bool.not_true]
  rw [if_neg (by decide), codewrightlaw46_SemiringCosts.j1, if_neg (by decide)]
  simp only [Option.bind_some, Add_f, Mul_f]
  rw [if_pos e3, if_pos e4, e5, beq_self_eq_true]

end Go.Proofs.Ytecfdemglbfnoaa.Pure
