/- Small words of this session beside the print's: the three-index cut. -/
import Derived.Test.YtecfdemglbfnoaaWMore
namespace Go.Proofs.Ytecfdemglbfnoaa.PT
open Go.RowKit Go.Proofs.YtecfdemglbfnoaaW.PrintWords

theorem cut_cap {P : Program} (t e : TypeId) (kh : IntKind) {i : TypeInfo} (ht : P.underlying t = some (.slice e)) (hi : P.info? e = some i) (A : Option Addr) (n c : Nat) (j : Int) (h0 : 0 ≤ j) (hm : j ≤ n) (hc : n ≤ c) :
    ∀ W : World, (Instr.slice t (.slice A n c) none (some (.int kh j)) (some (.int kh j))).run P W = .ok (.slice A j.toNat j.toNat) W := by
  intro W
  have hel : P.elem t = e := by simp [Program.elem, ht]
  have hu : P.underlying t = some (.slice (P.elem t)) := by rw [hel]; exact ht
  have ha : (A.map fun x => x.add 0) = A := by cases A <;> simp [Addr.add]
  have h1 : (j.toNat : Int) = j := Int.toNat_of_nonneg h0
  simp [Instr.slice, run_underlying hu, Instr.sliceBounds, run_sliceBound, hel, sizeOf, typeInfo, hi, Result.andThen, ha, h1, (by omega : j ≤ (c : Int)), (by omega : 0 ≤ j)]
theorem reads_len {α : Type} {Rr : α → List Value → Prop} {sz : Nat} {W : World} {A : Option Addr} {n m : Nat} {ys : List α} (h : n = m) (hr : ReadsRow Rr sz W A n ys) : ReadsRow Rr sz W A m ys := h ▸ hr
end Go.Proofs.Ytecfdemglbfnoaa.PT
