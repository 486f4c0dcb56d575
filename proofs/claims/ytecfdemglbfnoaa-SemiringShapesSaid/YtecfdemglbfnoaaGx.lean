/- Small words of this session beside the print's: the three-index cut; a cut's length; a row that was made, as what is only read. -/
import Derived.Test.YtecfdemglbfnoaaWMore
namespace Go.Proofs.Ytecfdemglbfnoaa.PT
open Go.RowKit Go.Proofs.YtecfdemglbfnoaaW.PrintWords

theorem cut_cap {P : Program} (t e : TypeId) (kh : IntKind) {i : TypeInfo} (ht : P.underlying t = some (.slice e)) (hi : P.info? e = some i) (A : Option Addr) (n c : Nat) (j : Int) (h0 : 0 ≤ j) (hm : j ≤ n) (hc : n ≤ c) :
    ∀ W : World, (Instr.slice t (.slice A n c) none (some (.int kh j)) (some (.int kh j))).run P W = .ok (.slice A j.toNat j.toNat) W := by
  intro W
  have hel : P.elem t = e := by simp [Program.elem, ht]
  have hu : P.underlying t = some (.slice (P.elem t)) := by rw [hel]; exact ht
  have ha : (A.map fun x => x.add 0) = A := by cases A <;> simp [Addr.add]
  have h1 : (j.toNat : Int) = j := Int.toNat_of_nonneg h0
  simp [Instr.slice, run_underlying hu, Instr.sliceBounds, run_sliceBound, hel, sizeOf, typeInfo, hi, Result.andThen, ha, h1, (by omega : j ≤ (c : Int)), (by omega : 0 ≤ j)]
theorem reads_len {α : Type} {Rr : α → List Value → Prop} {sz : Nat} {W : World} {A : Option Addr} {n m : Nat} {ys : List α} (h : n = m) (hr : ReadsRow Rr sz W A n ys) : ReadsRow Rr sz W A m ys := h ▸ hr
theorem R_V_base {α : Type} {d : Kd α} {e : Nat} {w : World} {base : Nat} {ok : Nat → Prop} {v : Value} {xs : List α} (hE : d.E = []) (h : d.R e w base ok v xs) : Kd.V d e w base (fun k_ => base ≤ k_) v xs :=
  Kd.V_mono (Kd.R_V (Kd.R_tight hE h)) (fun k_ hk_ => Kd.R_base h k_ hk_.symm)
end Go.Proofs.Ytecfdemglbfnoaa.PT
