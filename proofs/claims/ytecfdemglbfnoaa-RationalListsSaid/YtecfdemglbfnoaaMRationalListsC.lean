/- Walks and plain facts for the law RationalLists, several texts in one: each theorem says what it shows; no condition beyond those that it names. -/
import Derived.Test.YtecfdemglbfnoaaMRationalListsB
section
namespace Go.Proofs.Ytecfdemglbfnoaa.PT
open Go.RowKit Go.Proofs.YtecfdemglbfnoaaW.PrintWords
theorem cut_cap {P : Program} (t e : TypeId) (kh : IntKind) {i : TypeInfo} (ht : P.underlying t = some (.slice e)) (hi : P.info? e = some i) (A : Option Addr) (n c : Nat) (j : Int) (h0 : 0 ≤ j) (hm : j ≤ n) (hc : n ≤ c) :
    ∀ W : World, (Instr.slice t (.slice A n c) none (some (.int kh j)) (some (.int kh j))).run P W = .ok (.slice A j.toNat j.toNat) W := by
  intro W
  have hel : P.elem t = e := by simp [Program.elem, ht]
  have hu : P.underlying t = some (.slice (P.elem t)) := by rw [hel]; exact ht
  have ha : (A.map fun x => x.add 0) = A := by cases A <;> simp [Addr.add]
  have h1 : (j.toNat : Int) = j := Int.toNat_of_nonneg h0
  simp [Instr.slice, run_underlying hu, Instr.sliceBounds, run_sliceBound, hel, sizeOf, typeInfo, hi, Result.andThen, ha, h1, (by omega : j ≤ (c : Int)), (by omega : 0 ≤ j)]
theorem reads_len {α : Type} {Rr : α → List Value → Prop} {sz : Nat} {W : World} {A : Option Addr} {n m : Nat} {ys : List α} (h : n = m) (hr : ReadsRow Rr sz W A n ys) : ReadsRow Rr sz W A m ys := h ▸ hr
theorem R_V_base {α : Type} {d : Kd α} {e : Nat} {w : World} {base : Nat} {ok : Nat → Prop} {v : Value} {xs : List α} (hE : d.E = []) (h : d.R e w base ok v xs) : Kd.V d e w base (fun k_ => base ≤ k_) v xs :=
  Kd.V_mono (Kd.R_V (Kd.R_tight hE h)) (fun k_ hk_ => Kd.R_base h k_ hk_.symm)
end Go.Proofs.Ytecfdemglbfnoaa.PT
end
section
namespace Go.Proofs.Ytecfdemglbfnoaa.PT
open Go.RowKit Go.Proofs.YtecfdemglbfnoaaW.PrintWords Go.Proofs.YtecfdemglbfnoaaW.PrintLast Go.Proofs.YtecfdemglbfnoaaW.PrintMore
theorem vu {p q : Prop} (h : p) (f : p → q := by intro h_; (with_reducible repeat (first | apply Kd.V_alloc | apply Kd.V_drewN | apply Kd.V_drew)); exact h_) : q := f h
theorem nu {p q : Prop} (h : p) (f : p → q := by intro h_; (with_reducible repeat (first | apply Kd.N_alloc | apply Kd.N_drewN | apply Kd.N_drew)); exact h_) : q := f h
theorem ku {p q : Prop} (h : p) (f : p → q := by intro h_; (with_reducible repeat (first | refine blk_drewN ?_ _ | refine blk_drew ?_ | refine blk_alloc ?_ _)); exact h_) : q := f h
theorem bu {p q : Prop} (h : p) (f : p → q := by intro h_; repeat (first | (with_reducible first | exact h_ | apply below_alloc | apply pw_below_drewN | apply below_drew1) | exact h_)) : q := f h
theorem bu1 {p q p1 : Prop} (h : p) (g1 : p1) (f : p → p1 → q := by intro h_ g1_; repeat (first | (with_reducible first | exact h_ | apply below_alloc | apply pw_below_drewN | apply below_drew1 | refine below_set ?_ g1_) | exact h_)) : q := f h g1
theorem bu2 {p q p1 p2 : Prop} (h : p) (g1 : p1) (g2 : p2) (f : p → p1 → p2 → q := by intro h_ g1_ g2_; repeat (first | (with_reducible first | exact h_ | apply below_alloc | apply pw_below_drewN | apply below_drew1 | refine below_set ?_ g1_ | refine below_set ?_ g2_) | exact h_)) : q := f h g1 g2
theorem bu3 {p q p1 p2 p3 : Prop} (h : p) (g1 : p1) (g2 : p2) (g3 : p3) (f : p → p1 → p2 → p3 → q := by intro h_ g1_ g2_ g3_; repeat (first | (with_reducible first | exact h_ | apply below_alloc | apply pw_below_drewN | apply below_drew1 | refine below_set ?_ g1_ | refine below_set ?_ g2_ | refine below_set ?_ g3_) | exact h_)) : q := f h g1 g2 g3
theorem lu {q : Prop} (f : q := by (try simp only [List.map_toArray, List.map_cons, List.map_nil]); first | done | rfl | (simp only [List.length_drop, List.length_take]; rfl)) : q := f
end Go.Proofs.Ytecfdemglbfnoaa.PT
end
