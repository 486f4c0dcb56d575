/- Shape of a layered graph answers as the reference does: the pure statement, for every graph that Go can hold. -/
import Derived.Test.YtecfdemglbfnoaaPT28
import Derived.Test.YtecfdemglbfnoaaShape
namespace Go.Proofs.Ytecfdemglbfnoaa.Pure
open Go.RowKit Go.Proofs.Ytecfdemglbfnoaa.PT Go.Proofs.YtecfdemglbfnoaaW.PrintWords Go.Proofs.YtecfdemglbfnoaaW.PrintLast Go.Proofs.YtecfdemglbfnoaaW.PrintMore

theorem SemiringShapes (l0 : List Int) (l1 : List (List S124)) (h : (l0.length * 8 ≤ reachBytes ∧ ∀ x ∈ l0, Q64 x) ∧ (l1.length * 24 ≤ reachBytes ∧ ∀ x ∈ l1, x.length * 24 ≤ reachBytes ∧ ∀ y ∈ x, Q64 y.f0 ∧ Q64 y.f1 ∧ Q64 y.f2)) :
    ∃ k, codewrightlaw46_SemiringShapes.f k l0 l1 = some true := by
  obtain ⟨⟨h1, h2⟩, h3, h4⟩ := h
  have hR : reachBytes = 140737488351232 := rfl
  have a := shape_f l0 l1 (fun w hw => (q64 (h2 w hw)).2) (fun r hr => by have := (h4 r hr).1; omega) (by omega)
  have b := rshape_f l0 l1 (fun w hw => (q64 (h2 w hw)).2) (fun r hr => by have := (h4 r hr).1; omega) (by omega)
  have c := shape_f [] [] (by simp) (by simp) (by simp)
  have e : shapeAt [] [] = 3 := by decide
  rw [e] at c
  refine Ev.rounds ?_
  refine Ev.congr (fun k => by unfold codewrightlaw46_SemiringShapes.f; rfl) (Ev.bind a (Ev.bind b ?_))
  refine Ev.congr (fun k => by rw [if_pos rfl]) (Ev.bind c ?_)
  exact Ev.now true
end Go.Proofs.Ytecfdemglbfnoaa.Pure
