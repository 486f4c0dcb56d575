/- The booleans with or and and are a commutative semiring: the printed statement, for all three booleans. -/
import Derived.Test.YtecfdemglbfnoaaPT6
namespace Go.Proofs.Ytecfdemglbfnoaa.Pure
open Go.RowKit Go.Proofs.Ytecfdemglbfnoaa.PT Go.Proofs.YtecfdemglbfnoaaW.PrintWords Go.Proofs.YtecfdemglbfnoaaW.PrintLast

theorem SemiringBooleans : codewrightlaw46_SemiringBooleans.Pure := by
  intro a b c
  refine ⟨9, ?_⟩
  cases a <;> cases b <;> cases c <;> rfl

end Go.Proofs.Ytecfdemglbfnoaa.Pure
