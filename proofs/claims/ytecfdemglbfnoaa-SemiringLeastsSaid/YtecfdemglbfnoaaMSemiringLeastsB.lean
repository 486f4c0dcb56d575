/- Walks and plain facts for the law SemiringLeasts, several texts in one: each theorem says what it shows; no condition beyond those that it names. -/
import Derived.Test.YtecfdemglbfnoaaRows
import Derived.JoinedOf
import Derived.Test.YtecfdemglbfnoaaProg
import Derived.Test.YtecfdemglbfnoaaMSemiringLeastsA
section
namespace Go.Proofs.Ytecfdemglbfnoaa
open Go
namespace Facts
theorem words_cons (r : List Char) : ∀ w : List Char, (w.all fun c => c != Char.ofNat 32) = true → wordsSigns (w ++ Char.ofNat 32 :: r) = w :: wordsSigns r
  | [], _ => by simp only [List.nil_append]; rfl
  | c :: w, h => by
    simp only [List.all_cons, Bool.and_eq_true, bne_iff_ne, ne_eq] at h
    have ih := words_cons r w h.2
    rw [List.cons_append, wordsSigns.eq_3 _ _ (fun e => h.1 e), ih]
def w1 : List Char := List.map Char.ofNat [104, 97, 114, 110, 101, 115, 115]
def w2 : List Char := List.map Char.ofNat [53, 97, 57, 56, 102, 50, 48, 57, 48, 98, 53, 98, 49, 55, 100, 56, 49, 53, 98, 55, 99, 52, 53, 48, 101, 56, 51, 100, 50, 98, 49, 52, 55, 51, 101, 102, 
  56, 50, 54, 55, 52, 51, 49, 57, 100, 52, 54, 56, 57, 49, 97, 97, 102, 99, 100, 102, 55, 100, 57, 97, 99, 54, 51, 98]
def w3 : List Char := List.map Char.ofNat [99, 117, 116]
def w4 : List Char := List.map Char.ofNat [97, 116, 32, 99, 111, 100, 101, 119, 114, 105, 103, 104, 116, 47, 99, 111, 100, 101, 119, 114, 105, 103, 104, 116, 108, 97, 119, 52, 54, 46, 83, 101, 
  109, 105, 114, 105, 110, 103, 66, 111, 111, 108, 101, 97, 110, 115, 32, 99, 111, 100, 101, 119, 114, 105, 103, 104, 116, 47, 99, 111, 100, 101, 119, 
  114, 105, 103, 104, 116, 108, 97, 119, 52, 54, 46, 83, 101, 109, 105, 114, 105, 110, 103, 67, 111, 115, 116, 115, 32, 99, 111, 100, 101, 119, 114, 105, 
  103, 104, 116, 47, 99, 111, 100, 101, 119, 114, 105, 103, 104, 116, 108, 97, 119, 52, 54, 46, 83, 101, 109, 105, 114, 105, 110, 103, 71, 97, 105, 110, 
  115, 32, 99, 111, 100, 101, 119, 114, 105, 103, 104, 116, 47, 99, 111, 100, 101, 119, 114, 105, 103, 104, 116, 108, 97, 119, 52, 54, 46, 83, 101, 109, 
  105, 114, 105, 110, 103, 83, 104, 97, 112, 101, 115, 32, 99, 111, 100, 101, 119, 114, 105, 103, 104, 116, 47, 99, 111, 100, 101, 119, 114, 105, 103, 
  104, 116, 108, 97, 119, 52, 54, 46, 83, 101, 109, 105, 114, 105, 110, 103, 67, 111, 117, 110, 116, 115, 32, 99, 111, 100, 101, 119, 114, 105, 103, 104, 
  116, 47, 99, 111, 100, 101, 119, 114, 105, 103, 104, 116, 108, 97, 119, 52, 54, 46, 83, 101, 109, 105, 114, 105, 110, 103, 76, 101, 97, 115, 116, 115, 
  32, 99, 111, 100, 101, 119, 114, 105, 103, 104, 116, 47, 99, 111, 100, 101, 119, 114, 105, 103, 104, 116, 108, 97, 119, 52, 54, 46, 83, 101, 109, 105, 
  114, 105, 110, 103, 69, 110, 117, 109, 101, 114, 97, 116, 111, 114, 115, 32, 99, 111, 100, 101, 119, 114, 105, 103, 104, 116, 47, 99, 111, 100, 101, 
  119, 114, 105, 103, 104, 116, 108, 97, 119, 48, 50, 46, 82, 97, 116, 105, 111, 110, 97, 108, 82, 97, 116, 105, 111, 115, 32, 99, 111, 100, 101, 119, 
  114, 105, 103, 104, 116, 47, 99, 111, 100, 101, 119, 114, 105, 103, 104, 116, 108, 97, 119, 48, 50, 46, 82, 97, 116, 105, 111, 110, 97, 108, 77, 97, 
  107, 101, 115, 32, 99, 111, 100, 101, 119, 114, 105, 103, 104, 116, 47, 99, 111, 100, 101, 119, 114, 105, 103, 104, 116, 108, 97, 119, 48, 50, 46, 82, 
  97, 116, 105, 111, 110, 97, 108, 70, 111, 114, 109, 115, 32, 99, 111, 100, 101, 119, 114, 105, 103, 104, 116, 47, 99, 111, 100, 101, 119, 114, 105, 
  103, 104, 116, 108, 97, 119, 48, 50, 46, 82, 97, 116, 105, 111, 110, 97, 108, 68, 105, 118, 105, 100, 101, 115, 32, 99, 111, 100, 101, 119, 114, 105, 
  103, 104, 116, 47, 99, 111, 100, 101, 119, 114, 105, 103, 104, 116, 108, 97, 119, 48, 50, 46, 82, 97, 116, 105, 111, 110, 97, 108, 80, 111, 119, 101, 
  114, 115, 32, 99, 111, 100, 101, 119, 114, 105, 103, 104, 116, 47, 99, 111, 100, 101, 119, 114, 105, 103, 104, 116, 108, 97, 119, 48, 50, 46, 82, 97, 
  116, 105, 111, 110, 97, 108, 76, 105, 115, 116, 115, 32, 99, 111, 100, 101, 119, 114, 105, 103, 104, 116, 47, 99, 111, 100, 101, 119, 114, 105, 103, 
  104, 116, 108, 97, 119, 48, 50, 46, 82, 97, 116, 105, 111, 110, 97, 108, 68, 111, 116, 115, 32, 99, 111, 100, 101, 119, 114, 105, 103, 104, 116, 47, 
  99, 111, 100, 101, 119, 114, 105, 103, 104, 116, 108, 97, 119, 48, 50, 46, 82, 97, 116, 105, 111, 110, 97, 108, 69, 120, 112, 111, 110, 101, 110, 116, 
  115, 32, 99, 111, 100, 101, 119, 114, 105, 103, 104, 116, 47, 99, 111, 100, 101, 119, 114, 105, 103, 104, 116, 108, 97, 119, 48, 50, 46, 82, 97, 116, 
  105, 111, 110, 97, 108, 79, 114, 100, 101, 114, 115, 32, 99, 111, 100, 101, 119, 114, 105, 103, 104, 116, 47, 99, 111, 100, 101, 119, 114, 105, 103, 
  104, 116, 108, 97, 119, 48, 50, 46, 82, 97, 116, 105, 111, 110, 97, 108, 70, 105, 101, 108, 100, 32, 99, 111, 100, 101, 119, 114, 105, 103, 104, 116, 
  47, 99, 111, 100, 101, 119, 114, 105, 103, 104, 116, 108, 97, 119, 48, 50, 46, 82, 97, 116, 105, 111, 110, 97, 108, 70, 108, 111, 111, 114, 115, 32, 
  99, 111, 100, 101, 119, 114, 105, 103, 104, 116, 47, 99, 111, 100, 101, 119, 114, 105, 103, 104, 116, 108, 97, 119, 48, 50, 46, 82, 97, 116, 105, 111, 
  110, 97, 108, 83, 99, 104, 119, 97, 114, 122, 32, 99, 111, 100, 101, 119, 114, 105, 103, 104, 116, 47, 99, 111, 100, 101, 119, 114, 105, 103, 104, 116, 
  108, 97, 119, 52, 54, 46, 83, 101, 109, 105, 114, 105, 110, 103, 70, 114, 97, 99, 116, 105, 111, 110, 115, 32, 99, 111, 100, 101, 119, 114, 105, 103, 
  104, 116, 47, 99, 111, 100, 101, 119, 114, 105, 103, 104, 116, 108, 97, 119, 52, 54, 46, 83, 101, 109, 105, 114, 105, 110, 103, 83, 117, 109, 115, 32, 
  99, 111, 100, 101, 119, 114, 105, 103, 104, 116, 47, 99, 111, 100, 101, 119, 114, 105, 103, 104, 116, 108, 97, 119, 52, 54, 46, 83, 101, 109, 105, 114, 
  105, 110, 103, 67, 111, 117, 110, 116, 115, 80, 97, 116, 104, 115, 32, 99, 111, 100, 101, 119, 114, 105, 103, 104, 116, 47, 99, 111, 100, 101, 119, 
  114, 105, 103, 104, 116, 108, 97, 119, 52, 54, 46, 83, 101, 109, 105, 114, 105, 110, 103, 76, 101, 97, 115, 116, 80, 97, 116, 104, 115, 32, 99, 111, 
  100, 101, 119, 114, 105, 103, 104, 116, 47, 99, 111, 100, 101, 119, 114, 105, 103, 104, 116, 108, 97, 119, 52, 54, 46, 83, 101, 109, 105, 114, 105, 
  110, 103, 83, 104, 111, 114, 116, 101, 115, 116, 32, 99, 111, 100, 101, 119, 114, 105, 103, 104, 116, 47, 99, 111, 100, 101, 119, 114, 105, 103, 104, 
  116, 108, 97, 119, 52, 54, 46, 83, 101, 109, 105, 114, 105, 110, 103, 77, 101, 101, 116, 115]
theorem io : Try.prog.initOrder = String.ofList (w1 ++ Char.ofNat 32 :: (w2 ++ Char.ofNat 32 :: (w3 ++ Char.ofNat 32 :: w4))) := by kernel_rfl
theorem iol : wordsSigns Try.prog.initOrder.toList = w1 :: w2 :: w3 :: wordsSigns w4 := by
  rw [io, String.toList_ofList, words_cons _ w1 (by kernel_rfl), words_cons _ w2 (by kernel_rfl), words_cons _ w3 (by kernel_rfl)]
theorem behind : behindMainWord (wordsSigns Try.prog.initOrder.toList) = w3 :: wordsSigns w4 := by
  rw [iol]
  show (if (w1 == "harness".toList || w1 == "ownmain".toList) && isSumSigns w2 then w3 :: wordsSigns w4 else w1 :: w2 :: w3 :: wordsSigns w4) = _
  rw [if_pos (by kernel_rfl)]
theorem strip (l : List (List Char)) : stripLifts liftWords (w3 :: l) = ([], w3 :: l) := by kernel_rfl
theorem is_cut : (w3 == "cut".toList) = true := by kernel_rfl
theorem no_gc : (w3 == "gc".toList) = false := by kernel_rfl
theorem no_spec : (w3 == "spec".toList) = false := by kernel_rfl
theorem no_carried : (w3 == "carried".toList) = false := by kernel_rfl
theorem enter_of (P : Program) (l : List (List Char)) (h : behindMainWord (wordsSigns P.initOrder.toList) = w3 :: l) (hr : P.doorFits [] = true) (h1 : P.laysLater = false) (h2 : P.bearsReflect = false) : P.mayEnter = true := by
  have hc : (some w3 == some "cut".toList) = true := is_cut
  unfold Program.mayEnter; rw [h]
  simp only [strip, List.head?_cons, hc, h1, h2, hr]; simp
theorem lifts_of (P : Program) (l : List (List Char)) (h : behindMainWord (wordsSigns P.initOrder.toList) = w3 :: l) : P.liftsFinal = false := by
  have hc : (some w3 == some "cut".toList) = true := is_cut
  have hk : (some w3 == some "carried".toList) = false := no_carried
  unfold Program.liftsFinal Program.headLifts; rw [h]
  simp only [strip, List.head?_cons, hc, hk]; rfl
theorem make_of (P : Program) (l : List (List Char)) (h : behindMainWord (wordsSigns P.initOrder.toList) = w3 :: l) : P.make = some .cut := by
  unfold Program.make; rw [h]
  simp only [no_gc, no_spec, is_cut, Bool.or_self, Bool.false_eq_true, if_false, Bool.true_or, if_true]
theorem enter : Try.prog.mayEnter = true := enter_of _ _ behind (by kernel_rfl) (by kernel_rfl) (by kernel_rfl)
theorem lifts : Try.prog.liftsFinal = false := lifts_of _ _ behind
theorem make : Try.prog.make = some .cut := make_of _ _ behind
theorem own : ownKnob Try.prog.godebug = none := by kernel_rfl
theorem laid : laidOutB Try.prog = true := by kernel_rfl
theorem band {a b : Bool} (h : a = true) (h' : b = true) : (a && b) = true := by rw [h, h']; rfl
end Facts
end Go.Proofs.Ytecfdemglbfnoaa
end
section
namespace Go.Proofs.Ytecfdemglbfnoaa.PT
open Go.RowKit Go.Proofs.YtecfdemglbfnoaaW.PrintWords
theorem cut_cap {P : Program} (t e : TypeId) (kh : IntKind) {i : TypeInfo} (ht : P.underlying t = some (.slice e)) (hi : P.info? e = some i) (A : Option Addr) (n c : Nat) (j : Int) (h0 : 0 ≤ j) (hm : j ≤ n) (hc : n ≤ c) :
    ∀ W : World, (Instr.slice t (.slice A n c) none (some (.int kh j)) (some (.int kh j))).run P W = .ok (.slice A j.toNat j.toNat) W := by
  intro W
  have hel : P.elem t = e := by simp [Program.elem, ht]
  have hu : P.underlying t = some (.slice (P.elem t)) := by rw [hel]; exact ht
  have ha : (A.map fun x => x.add 0) = A := by cases A <;> simp [Addr.add]
  have h1 : (j.toNat : Int) = j := Int.toNat_of_nonneg h0
  simp [Instr.slice, run_underlying hu, Instr.sliceBounds, run_sliceBound, hel, sizeOf, typeInfo, hi, Result.andThen, ha, h1, (by omega : j ≤ (c : Int)), (by omega : 0 ≤ j)]
theorem reads_len {α : Type} {Rr : α → List Value → Prop} {sz : Nat} {W : World} {A : Option Addr} {n m : Nat} {ys : List α} (h : n = m) (hr : ReadsRow Rr sz W A n ys) : ReadsRow Rr sz W A m ys := h ▸ hr
theorem R_V_base {α : Type} {d : Kd α} {e : Nat} {w : World} {base : Nat} {ok : Nat → Prop} {v : Value} {xs : List α} (hE : d.E = []) (h : d.R e w base ok v xs) : Kd.V d e w base (fun k_ => base ≤ k_) v xs :=
  Kd.V_mono (Kd.R_V (Kd.R_tight hE h)) (fun k_ hk_ => Kd.R_base h k_ hk_.symm)
end Go.Proofs.Ytecfdemglbfnoaa.PT
end
section
namespace Go.Proofs.Ytecfdemglbfnoaa.PT
def valn : List Int → Nat
  | [] => 0
  | x :: xs => x.toNat + 4294967296 * valn xs
end Go.Proofs.Ytecfdemglbfnoaa.PT
namespace Go.Proofs.Ytecfdemglbfnoaa.Num
open Go.RowKit Go.Proofs.Ytecfdemglbfnoaa.PT Go.Proofs.YtecfdemglbfnoaaW.PrintWords
def pw (n : Nat) : Nat := if h : n = 0 then 1 else pw (n - 1) * 4294967296
termination_by n
decreasing_by omega
theorem pw_zero : pw 0 = 1 := by rw [pw]; simp
theorem pw_succ (n : Nat) : pw (n + 1) = pw n * 4294967296 := by rw [pw]; simp
theorem pw_eq (n : Nat) : pw n = 4294967296 ^ n := by
  induction n with
  | zero => exact pw_zero
  | succ n ih => rw [pw_succ, ih, Nat.pow_succ]
theorem pw_pos (n : Nat) : 0 < pw n := by rw [pw_eq]; exact Nat.pow_pos (by decide)
theorem pw_mono {m n : Nat} (h : m ≤ n) : pw m ≤ pw n := by rw [pw_eq, pw_eq]; exact Nat.pow_le_pow_right (by decide) h
theorem pw_add (m n : Nat) : pw (m + n) = pw m * pw n := by rw [pw_eq, pw_eq, pw_eq]; exact Nat.pow_add ..
def U (l : List Int) : Prop := ∀ x ∈ l, 0 ≤ x ∧ x < 4294967296
def lb (n : Nat) : List Int := if h : n = 0 then [] else ((n % 4294967296 : Nat) : Int) :: lb (n / 4294967296)
termination_by n
decreasing_by omega
theorem lb_zero : lb 0 = [] := by rw [lb]; simp
theorem lb_pos {n : Nat} (h : n ≠ 0) : lb n = ((n % 4294967296 : Nat) : Int) :: lb (n / 4294967296) := by rw [lb]; simp [h]
theorem U_nil : U [] := by intro x hx; cases hx
theorem U_cons {x : Int} {l : List Int} (h : 0 ≤ x ∧ x < 4294967296) (hl : U l) : U (x :: l) := by
  intro y hy
  rcases List.mem_cons.1 hy with rfl | hy
  · exact h
  · exact hl y hy
theorem U_tail {x : Int} {l : List Int} (h : U (x :: l)) : U l := fun y hy => h y (List.mem_cons_of_mem _ hy)
theorem U_head {x : Int} {l : List Int} (h : U (x :: l)) : 0 ≤ x ∧ x < 4294967296 := h x (List.mem_cons_self ..)
theorem U_take {l : List Int} (h : U l) (n : Nat) : U (l.take n) := fun x hx => h x (List.mem_of_mem_take hx)
theorem U_append {a b : List Int} (ha : U a) (hb : U b) : U (a ++ b) := by
  intro x hx
  rcases List.mem_append.1 hx with h | h
  · exact ha x h
  · exact hb x h
theorem U_set {l : List Int} (h : U l) {d : Int} (hd : 0 ≤ d ∧ d < 4294967296) (i : Nat) : U (l.set i d) := by
  intro x hx
  rcases List.mem_or_eq_of_mem_set hx with h' | rfl
  · exact h x h'
  · exact hd
theorem U_replicate (n : Nat) : U (List.replicate n 0) := by
  intro x hx
  rw [List.eq_of_mem_replicate hx]; omega
theorem U_rd {l : List Int} (h : U l) (i : Int) : 0 ≤ rd l i ∧ rd l i < 4294967296 := by
  unfold rd
  by_cases hi : i.toNat < l.length
  · rw [List.getD_eq_getElem?_getD, List.getElem?_eq_getElem hi]; exact h _ (List.getElem_mem hi)
  · rw [List.getD_eq_getElem?_getD, List.getElem?_eq_none (by omega)]; simp
theorem U_lb (n : Nat) : U (lb n) := by
  induction n using Nat.strongRecOn with
  | ind n ih =>
    by_cases h : n = 0
    · subst h; rw [lb_zero]; exact U_nil
    · rw [lb_pos h]; exact U_cons (by omega) (ih _ (by omega))
theorem valn_nil : valn [] = 0 := rfl
theorem valn_cons (x : Int) (l : List Int) : valn (x :: l) = x.toNat + 4294967296 * valn l := rfl
theorem valn_lb (n : Nat) : valn (lb n) = n := by
  induction n using Nat.strongRecOn with
  | ind n ih =>
    by_cases h : n = 0
    · subst h; rw [lb_zero]; rfl
    · rw [lb_pos h, valn_cons, ih _ (by omega)]; omega
theorem lb_inj {m n : Nat} (h : lb m = lb n) : m = n := by rw [← valn_lb m, h, valn_lb]
theorem lb_eq_nil {n : Nat} : lb n = [] ↔ n = 0 := by
  constructor
  · intro h; have := valn_lb n; rw [h] at this; exact this.symm
  · rintro rfl; exact lb_zero
theorem valn_append (a b : List Int) : valn (a ++ b) = valn a + pw a.length * valn b := by
  induction a with
  | nil => simp [valn_nil, pw_zero]
  | cons x a ih => rw [List.cons_append, valn_cons, ih, valn_cons, List.length_cons, pw_succ, Nat.mul_add, Nat.add_assoc, Nat.mul_comm (pw a.length) 4294967296, Nat.mul_assoc]
theorem valn_lt {l : List Int} (h : U l) : valn l < pw l.length := by
  induction l with
  | nil => simp [valn_nil, pw_zero]
  | cons x l ih =>
    have hx := U_head h
    have := ih (U_tail h)
    rw [valn_cons, List.length_cons, pw_succ]
    omega
theorem valn_replicate (n : Nat) : valn (List.replicate n 0) = 0 := by
  induction n with
  | zero => rfl
  | succ n ih => rw [List.replicate_succ, valn_cons, ih]; rfl
theorem valn_take_drop (l : List Int) (n : Nat) (h : n ≤ l.length) : valn l = valn (l.take n) + pw n * valn (l.drop n) := by
  conv => lhs; rw [← List.take_append_drop n l]
  rw [valn_append, List.length_take, Nat.min_eq_left h]
theorem rd_eq (l : List Int) (i : Nat) (h : i < l.length) : rd l (i : Int) = l[i] := by simp [rd, h]
theorem rd_ge (l : List Int) (i : Nat) (h : l.length ≤ i) : rd l (i : Int) = 0 := by simp [rd, h]
theorem take_rd (l : List Int) (i : Nat) (h : i < l.length) : l.take (i + 1) = l.take i ++ [rd l (i : Int)] := by
  rw [rd_eq l i h, List.take_add_one, List.getElem?_eq_getElem h]; rfl
theorem drop_rd (l : List Int) (i : Nat) (h : i < l.length) : l.drop i = rd l (i : Int) :: l.drop (i + 1) := by
  rw [rd_eq l i h]; exact List.drop_eq_getElem_cons h
theorem valn_take_succ (l : List Int) (i : Nat) : valn (l.take (i + 1)) = valn (l.take i) + pw i * (rd l (i : Int)).toNat := by
  by_cases h : i < l.length
  · rw [take_rd l i h, valn_append, List.length_take, Nat.min_eq_left (by omega), valn_cons, valn_nil]; simp
  · rw [rd_ge l i (by omega), List.take_of_length_le (by omega), List.take_of_length_le (by omega)]; simp
theorem valn_set_take (z : List Int) (i : Nat) (d : Int) (h : i < z.length) : valn ((z.set i d).take (i + 1)) = valn (z.take i) + pw i * d.toNat := by
  rw [valn_take_succ, List.take_set_of_le (Nat.le_refl _), rd_eq _ _ (by simpa using h), List.getElem_set_self]
theorem valn_drop_rd (l : List Int) (i : Nat) : valn (l.drop i) = (rd l (i : Int)).toNat + 4294967296 * valn (l.drop (i + 1)) := by
  by_cases h : i < l.length
  · rw [drop_rd l i h, valn_cons]
  · rw [rd_ge l i (by omega), List.drop_eq_nil_of_le (by omega), List.drop_eq_nil_of_le (by omega)]; rfl
theorem valn_set (z : List Int) (i : Nat) (d : Int) (h : i < z.length) : valn (z.set i d) + pw i * (rd z (i : Int)).toNat = valn z + pw i * d.toNat := by
  have h1 := valn_take_drop z (i + 1) (by omega)
  have h2 := valn_take_drop (z.set i d) (i + 1) (by rw [List.length_set]; omega)
  rw [valn_set_take z i d h, List.drop_set_of_lt (by omega)] at h2
  rw [valn_take_succ] at h1
  omega
theorem lb_valn {l : List Int} (h : U l) (hl : l = [] ∨ l.getLast? ≠ some 0) : lb (valn l) = l := by
  induction l with
  | nil => exact lb_zero
  | cons x l ih =>
    have hx := U_head h
    have key : l = [] ∨ l.getLast? ≠ some 0 := by
      by_cases e : l = []
      · exact .inl e
      · right
        rcases hl with h' | h'
        · exact absurd h' (by simp)
        · rw [List.getLast?_cons] at h'
          cases hl2 : l.getLast? with
          | none => simp
          | some y => rw [hl2] at h'; simpa using h'
    have ih := ih (U_tail h) key
    have hne : valn (x :: l) ≠ 0 := by
      rw [valn_cons]
      by_cases e : l = []
      · subst e
        have : x ≠ 0 := by
          rintro rfl
          rcases hl with h' | h'
          · cases h'
          · exact h' rfl
        omega
      · have : valn l ≠ 0 := by
          intro h0
          rw [h0, lb_zero] at ih
          exact e ih.symm
        omega
    rw [lb_pos hne, valn_cons]
    have e1 : (x.toNat + 4294967296 * valn l) / 4294967296 = valn l := by omega
    have e2 : (((x.toNat + 4294967296 * valn l) % 4294967296 : Nat) : Int) = x := by omega
    rw [e1, e2, ih]
theorem valn_take_of_zero (l : List Int) (n : Nat) (h : n ≤ l.length) (hz : valn (l.drop n) = 0) : valn (l.take n) = valn l := by
  rw [valn_take_drop l n h, hz]; simp
theorem lb_len_le {n : Nat} : ∀ {m : Nat}, n < pw m → (lb n).length ≤ m := by
  induction n using Nat.strongRecOn with
  | ind n ih =>
    intro m hm
    by_cases h : n = 0
    · rw [h, lb_zero]; simp
    · rw [lb_pos h, List.length_cons]
      cases m with
      | zero => rw [pw_zero] at hm; omega
      | succ m =>
        have : n / 4294967296 < pw m := by
          rw [pw_succ] at hm
          exact (Nat.div_lt_iff_lt_mul (by omega)).2 hm
        have := ih _ (by omega) this
        omega
theorem lb_len {l : List Int} (h : U l) : (lb (valn l)).length ≤ l.length := lb_len_le (valn_lt h)
end Go.Proofs.Ytecfdemglbfnoaa.Num
end
section
namespace Go.Proofs.Ytecfdemglbfnoaa.PT
open Go.RowKit Go.Proofs.YtecfdemglbfnoaaW.PrintWords Go.Proofs.YtecfdemglbfnoaaW.PrintLast Go.Proofs.YtecfdemglbfnoaaW.PrintMore
theorem vu {p q : Prop} (h : p) (f : p → q := by intro h_; (with_reducible repeat (first | apply Kd.V_alloc | apply Kd.V_drewN | apply Kd.V_drew)); exact h_) : q := f h
theorem nu {p q : Prop} (h : p) (f : p → q := by intro h_; (with_reducible repeat (first | apply Kd.N_alloc | apply Kd.N_drewN | apply Kd.N_drew)); exact h_) : q := f h
theorem ku {p q : Prop} (h : p) (f : p → q := by intro h_; (with_reducible repeat (first | refine blk_drewN ?_ _ | refine blk_drew ?_ | refine blk_alloc ?_ _)); exact h_) : q := f h
theorem bu {p q : Prop} (h : p) (f : p → q := by intro h_; repeat (first | (with_reducible first | exact h_ | apply below_alloc | apply pw_below_drewN | apply below_drew1) | exact h_)) : q := f h
theorem bu1 {p q p1 : Prop} (h : p) (g1 : p1) (f : p → p1 → q := by intro h_ g1_; repeat (first | (with_reducible first | exact h_ | apply below_alloc | apply pw_below_drewN | apply below_drew1 | refine below_set ?_ g1_) | exact h_)) : q := f h g1
theorem bu2 {p q p1 p2 : Prop} (h : p) (g1 : p1) (g2 : p2) (f : p → p1 → p2 → q := by intro h_ g1_ g2_; repeat (first | (with_reducible first | exact h_ | apply below_alloc | apply pw_below_drewN | apply below_drew1 | refine below_set ?_ g1_ | refine below_set ?_ g2_) | exact h_)) : q := f h g1 g2
theorem bu3 {p q p1 p2 p3 : Prop} (h : p) (g1 : p1) (g2 : p2) (g3 : p3) (f : p → p1 → p2 → p3 → q := by intro h_ g1_ g2_ g3_; repeat (first | (with_reducible first | exact h_ | apply below_alloc | apply pw_below_drewN | apply below_drew1 | refine below_set ?_ g1_ | refine below_set ?_ g2_ | refine below_set ?_ g3_) | exact h_)) : q := f h g1 g2 g3
theorem bu4 {p q p1 p2 p3 p4 : Prop} (h : p) (g1 : p1) (g2 : p2) (g3 : p3) (g4 : p4) (f : p → p1 → p2 → p3 → p4 → q := by intro h_ g1_ g2_ g3_ g4_; repeat (first | (with_reducible first | exact h_ | apply below_alloc | apply pw_below_drewN | apply below_drew1 | refine below_set ?_ g1_ | refine below_set ?_ g2_ | refine below_set ?_ g3_ | refine below_set ?_ g4_) | exact h_)) : q := f h g1 g2 g3 g4
theorem bu5 {p q p1 p2 p3 p4 p5 : Prop} (h : p) (g1 : p1) (g2 : p2) (g3 : p3) (g4 : p4) (g5 : p5) (f : p → p1 → p2 → p3 → p4 → p5 → q := by intro h_ g1_ g2_ g3_ g4_ g5_; repeat (first | (with_reducible first | exact h_ | apply below_alloc | apply pw_below_drewN | apply below_drew1 | refine below_set ?_ g1_ | refine below_set ?_ g2_ | refine below_set ?_ g3_ | refine below_set ?_ g4_ | refine below_set ?_ g5_) | exact h_)) : q := f h g1 g2 g3 g4 g5
theorem bu6 {p q p1 p2 p3 p4 p5 p6 : Prop} (h : p) (g1 : p1) (g2 : p2) (g3 : p3) (g4 : p4) (g5 : p5) (g6 : p6) (f : p → p1 → p2 → p3 → p4 → p5 → p6 → q := by intro h_ g1_ g2_ g3_ g4_ g5_ g6_; repeat (first | (with_reducible first | exact h_ | apply below_alloc | apply pw_below_drewN | apply below_drew1 | refine below_set ?_ g1_ | refine below_set ?_ g2_ | refine below_set ?_ g3_ | refine below_set ?_ g4_ | refine below_set ?_ g5_ | refine below_set ?_ g6_) | exact h_)) : q := f h g1 g2 g3 g4 g5 g6
theorem lu {q : Prop} (f : q := by (try simp only [List.map_toArray, List.map_cons, List.map_nil]); first | done | rfl | (simp only [List.length_drop, List.length_take]; rfl)) : q := f
end Go.Proofs.Ytecfdemglbfnoaa.PT
end
section
namespace Go.Proofs.Ytecfdemglbfnoaa.PT
open Go.RowKit Go.Proofs.YtecfdemglbfnoaaW.PrintWords Go.Proofs.YtecfdemglbfnoaaW.PrintLast Go.Proofs.YtecfdemglbfnoaaW.PrintMore
theorem farA {α : Type} {d : Kd α} {e : Nat} {W : World} {base : Nat} {ok : Nat → Prop} {v : Value} {xs : List α} {p : Addr} {u : Value} (h : Kd.V d e W base ok v xs) (hok : ∀ k, ok k → k ≠ p.block := by
  intro k_ hk_
  (try simp only [and_assoc] at hk_)
  (repeat (have hc_ := hk_.1; replace hk_ := hk_.2))
  assumption) : Kd.V d e (W.setCell p u) base ok v xs := Kd.V_far h hok u
section
variable {α : Type} {d : Kd α} {e : Nat} {W w1 : World} {base : Nat} {ok ok' : Nat → Prop} {v : Value} {xs : List α}
theorem vz (h : Kd.V d e W base ok v xs) (f : Kd.V d e W base ok v xs → Kd.V d e w1 base ok v xs := by
  intro h_
  (with_reducible repeat (first | apply Kd.V_alloc | apply Kd.V_drewN | apply Kd.V_drew))
  exact h_) (m : ∀ k, ok k → ok' k := by
  first
  | (intro k_ hk_; exact hk_)
  | (intro k_ hk_
     (try simp only [and_assoc] at hk_)
     (repeat (have hc_ := hk_.1; replace hk_ := hk_.2))
     (repeat' apply And.intro) <;> assumption)) : Kd.V d e w1 base ok' v xs := Kd.V_mono (f h) m
theorem vr {A : Option Addr} {n c : Nat} (h : Kd.V d e W base ok (.slice A n c) xs) (f : Kd.V d e W base ok (.slice A n c) xs → Kd.V d e w1 base ok (.slice A n c) xs := by
  intro h_
  (iterate 16 (try (first | exact h_ | (with_reducible first | apply Kd.V_alloc | apply Kd.V_drewN | apply Kd.V_drew) | refine farA ?_)))) : d.C w1 A xs.length xs := (Kd.V_reads' (f h)).2.2
theorem vy (ok' : Nat → Prop) (h : Kd.V d e W base ok v xs) (m : ∀ k, ok k → ok' k := by
  first
  | (intro k_ hk_; exact hk_)
  | (intro k_ hk_
     (try simp only [and_assoc] at hk_)
     (repeat (have hc_ := hk_.1; replace hk_ := hk_.2))
     (repeat' apply And.intro) <;> assumption)) : Kd.V d e W base ok' v xs := Kd.V_mono h m
theorem vf (h : Kd.V d e W base ok v xs) (f : Kd.V d e W base ok v xs → Kd.V d e w1 base ok v xs := by
  intro h_
  (iterate 16 (try (first | exact h_ | (with_reducible first | apply Kd.V_alloc | apply Kd.V_drewN | apply Kd.V_drew) | refine farA ?_)))) (m : ∀ k, ok k → ok' k := by
  first
  | (intro k_ hk_; exact hk_)
  | (intro k_ hk_
     (try simp only [and_assoc] at hk_)
     (repeat (have hc_ := hk_.1; replace hk_ := hk_.2))
     (repeat' apply And.intro) <;> assumption)) : Kd.V d e w1 base ok' v xs := Kd.V_mono (f h) m
end
theorem kf {p q p1 : Prop} (g : p1) (h : p) (f : p1 → p → q := by
  intro g_ h_
  (repeat (first | (with_reducible first | refine blk_drewN ?_ _ | refine blk_drew ?_ | refine blk_alloc ?_ _) | refine blk_far ?_ g_ _))
  exact h_) : q := f g h
theorem cu {p q : Prop} (h : p) (f : p → q := by
  intro h_
  repeat (first | exact h_ | (with_reducible refine Kd.C_alloc ?_ _) | (with_reducible refine Kd.C_drewN ?_ _) | (with_reducible refine Kd.C_drew ?_))) : q := f h
section
variable {W0 W w1 : World} {g : Nat} {o : Obj}
theorem kb (h : Aside0 (W0.heap[g]? = some o)) (hb : Below W.heap.size W w1) (f : W0.heap[g]? = some o → W.heap[g]? = some o := by
  intro h_; (with_reducible repeat (first | refine blk_drewN ?_ _ | refine blk_drew ?_ | refine blk_alloc ?_ _)); exact h_) : Aside0 (w1.heap[g]? = some o) := ⟨blk_below (f h.out) hb⟩
theorem nl {a : Nat} (hg : a = W.heap.size) (h : Aside0 (W0.heap[g]? = some o)) (f : W0.heap[g]? = some o → W.heap[g]? = some o := by
  intro h_; (with_reducible repeat (first | refine blk_drewN ?_ _ | refine blk_drew ?_ | refine blk_alloc ?_ _)); exact h_) : Aside0 (g ≠ a) := ⟨by rw [hg]; exact Nat.ne_of_lt (blk_lt (f h.out))⟩
theorem nr {a : Nat} (hg : a = W.heap.size) (h : Aside0 (W0.heap[g]? = some o)) (f : W0.heap[g]? = some o → W.heap[g]? = some o := by
  intro h_; (with_reducible repeat (first | refine blk_drewN ?_ _ | refine blk_drew ?_ | refine blk_alloc ?_ _)); exact h_) : Aside0 (a ≠ g) := ⟨by rw [hg]; exact Nat.ne_of_gt (blk_lt (f h.out))⟩
theorem ng {a : Nat} {w : World} (hg : a = W.heap.size) (h : Below w.heap.size w W) : Aside0 (w.heap.size ≤ a) := ⟨by rw [hg]; exact below_size h⟩
theorem fb (h : Aside0 (W0.heap[g]? = some o)) (f : W0.heap[g]? = some o → W.heap[g]? = some o := by
  intro h_; (with_reducible repeat (first | refine blk_drewN ?_ _ | refine blk_drew ?_ | refine blk_alloc ?_ _)); exact h_) : ∀ k, W.heap.size ≤ k → k ≠ g := Kd.freshB (f h.out)
theorem bc {t : TypeId} {cs : Array Value} (h : Aside0 (W.heap[g]? = some (.cells cs t (0, 0)))) (i : Nat) {x : Value} (e : cs[i]? = some x := by rfl) : W.cell? ⟨g, i, none⟩ = some x := (blk_cell h.out i).trans e
end
theorem f0 {n a : Nat} (h : a ≤ n) : ∀ k, n ≤ k → a ≤ k := fun _ hk => Nat.le_trans h hk
theorem fa {n : Nat} {A B : Nat → Prop} (h1 : ∀ k, n ≤ k → A k) (h2 : ∀ k, n ≤ k → B k) : ∀ k, n ≤ k → A k ∧ B k := fun k hk => ⟨h1 k hk, h2 k hk⟩
section
variable {α : Type} {d : Kd α} {e : Nat} {W W0 w1 : World} {base : Nat} {ok ok' : Nat → Prop} {v : Value} {xs : List α}
theorem kv (h : Aside0 (Kd.V d e W0 base ok v xs)) (hb : Below W.heap.size W w1) (f : Kd.V d e W0 base ok v xs → Kd.V d e W base ok v xs := by
  intro h_; (with_reducible repeat (first | apply Kd.V_alloc | apply Kd.V_drewN | apply Kd.V_drew)); exact h_) : Aside0 (Kd.V d e w1 base ok v xs) := ⟨Kd.V_below (f h.out) hb⟩
theorem ke {a : Nat} (h : Aside0 (Kd.V d e W0 base ok v xs)) (hg : a = W.heap.size) (hb : Below W.heap.size W w1) (f : Kd.V d e W0 base ok v xs → Kd.V d e W base ok v xs := by
  intro h_; (with_reducible repeat (first | apply Kd.V_alloc | apply Kd.V_drewN | apply Kd.V_drew)); exact h_) : Aside0 (Kd.V d e w1 base (fun k => ok k ∧ k ≠ a) v xs) := ⟨Kd.V_below (Kd.V_elderB (f h.out) a (Nat.le_of_eq hg.symm)) hb⟩
theorem ar0 (base' : Nat) {n : Nat} {R : Nat → Prop} (h : Kd.V d e w1 base (fun k => n ≤ k) v xs) (hN : ∀ k, n ≤ k → R k) (hF : ∀ k, n ≤ k → R k → ok' k := by
    intro k_ hn_ hk_
    (repeat (have hc_ := hk_.1; replace hk_ := hk_.2))
    (repeat' apply And.intro) <;> first | assumption | (apply Or.inr; assumption)) : Aside0 (Kd.V d e w1 base' ok' v xs) :=
  ⟨Kd.V_mono h (fun k hn => hF k hn (hN k hn))⟩
end
section
variable {P : Program} {md : Region.Mode} {ops : Array Oper} {Q : Exit → Act → World → Prop} {S : World → Prop} {ds : List Nat} {T : Bool × List (List Nat × List Nat)} {oi : Oper} {v : Value} {fuel : Nat} {l : Array Bool} {a a' : Act} {w : World}
theorem pq (i : Nat) (N : Option Tmp) (l' : Array Bool) (hT : Aside0 (rtab md ops = T)) (h : wpAnyLast P md ops Q S ds fuel l' a' w)
    (hi : ops[i]? = some oi := by rfl) (hN : oi.dst = N := by rfl) (hc : anyT T l.toList l'.toList i = true := by kernel_rfl) (hQ : ∀ c a w, Q (.panic c) (a.put oi.dst v) w → Q (.panic c) a w := by exact fun _ _ _ h => h)
    (hy : Yields P ops oi v a := by refine Or.inl ⟨by rfl, ?_⟩; intro w'; go_simp; with_reducible rfl)
    (ha : a.put N v = a' := by simp only [Act.put, List.setIfInBounds_toArray, List.set_cons_zero, List.set_cons_succ, i64_w, i32_w]; rfl) : wpAnyLast P md ops Q S ds (fuel + 1) l a w :=
  pure_ l' hi hN (any_of hT.out hc) hQ hy ha h
theorem tq {B : List Nat} (i : Nat) (N : Option Tmp) (l' : Array Bool) (hT : Aside0 (rtab md ops = T)) (hB : Aside0 (waitsOk T.2 B = true)) (hS : S w) (h : wpAnyLast P md ops Q S ds fuel l' a' w)
    (hi : ops[i]? = some oi := by rfl) (hN : oi.dst = N := by rfl) (hc : takeW T B ds l.toList l'.toList i = true := by kernel_rfl) (hQ : ∀ c a w, Q (.panic c) (a.put oi.dst v) w → Q (.panic c) a w := by exact fun _ _ _ h => h)
    (hy : YieldsIf P ops S oi v a := by refine Or.inl ⟨by rfl, ?_⟩; intro w' hs_; (repeat (have hc_ := hs_.1; replace hs_ := hs_.2)); go_simp; with_reducible rfl)
    (ha : a.put N v = a' := by simp only [Act.put, List.setIfInBounds_toArray, List.set_cons_zero, List.set_cons_succ, i64_w, i32_w]; rfl) : wpAnyLast P md ops Q S ds (fuel + 1) l a w :=
  take_ l' hi hN (take_ofW hT.out hB.out hc) hQ hy hS ha h
theorem nq (n : Nat) {a0 : Act} {v0 : Value} (h : wpAnyLast P md ops Q S ds fuel l a' w) (ha : a0.put (some n) v0 = a' := by simp only [Act.put, List.setIfInBounds_toArray, List.set_cons_zero, List.set_cons_succ, i64_w, i32_w]; rfl) : wpAnyLast P md ops Q S ds fuel l (a0.put (some n) v0) w := norm_ ha h
end
end Go.Proofs.Ytecfdemglbfnoaa.PT
end
section
namespace Go.Proofs.Ytecfdemglbfnoaa.PT
open Go.RowKit Go.Proofs.YtecfdemglbfnoaaW.PrintWords Go.Proofs.YtecfdemglbfnoaaW.PrintLast Go.Proofs.YtecfdemglbfnoaaW.PrintMore
theorem farN {α : Type} {d : Kd α} {e : Nat} {W : World} {base : Nat} {ok : Nat → Prop} {v : Value} {xs : List α} {p : Addr} {u : Value} (h : Kd.N d e W base ok v xs) (hok : ∀ k, ok k → k ≠ p.block := by
  intro k_ hk_
  (try simp only [and_assoc] at hk_)
  (repeat (have hc_ := hk_.1; replace hk_ := hk_.2))
  assumption) : Kd.N d e (W.setCell p u) base ok v xs := Kd.N_far h hok u
section
variable {α : Type} {d : Kd α} {e : Nat} {W0 W w1 : World} {base : Nat} {ok : Nat → Prop} {v : Value} {xs : List α}
theorem fo (h : Aside0 (Kd.N d e W0 base ok v xs)) (f : Kd.N d e W0 base ok v xs → Kd.N d e W base ok v xs := by
  intro h_
  (iterate 16 (try (first | exact h_ | (with_reducible first | apply Kd.N_alloc | apply Kd.N_drewN | apply Kd.N_drew) | refine farN ?_)))) : ∀ k, W.heap.size ≤ k → some k ≠ v.ownBlock := Kd.fresh' (Kd.N_lt (f h.out))
theorem kx (h : Aside0 (Kd.V d e W0 base ok v xs)) (hb : Below W.heap.size W w1) (f : Kd.V d e W0 base ok v xs → Kd.V d e W base ok v xs := by
  intro h_
  (iterate 16 (try (first | exact h_ | (with_reducible first | apply Kd.V_alloc | apply Kd.V_drewN | apply Kd.V_drew) | refine farA ?_)))) : Aside0 (Kd.V d e w1 base ok v xs) := ⟨Kd.V_below (f h.out) hb⟩
theorem kn (h : Aside0 (Kd.N d e W0 base ok v xs)) (hb : Below W.heap.size W w1) (f : Kd.N d e W0 base ok v xs → Kd.N d e W base ok v xs := by
  intro h_
  (iterate 16 (try (first | exact h_ | (with_reducible first | apply Kd.N_alloc | apply Kd.N_drewN | apply Kd.N_drew) | refine farN ?_)))) : Aside0 (Kd.N d e w1 base ok v xs) := ⟨Kd.N_below (f h.out) hb⟩
theorem fs {g : Nat} {o : Obj} (h : Aside0 (W0.heap[g]? = some o)) (f : g < W0.heap.size → g < W.heap.size := by
  intro h_
  first | exact h_ | (simp; exact h_) | (simp; omega)) : ∀ k, W.heap.size ≤ k → k ≠ g := fun k hk e => by have := f (blk_lt h.out); omega
end
end Go.Proofs.Ytecfdemglbfnoaa.PT
end
section
namespace Go.Proofs.Ytecfdemglbfnoaa.PT
open Go.RowKit Go.Proofs.YtecfdemglbfnoaaW.PrintWords Go.Proofs.YtecfdemglbfnoaaW.PrintLast Go.Proofs.YtecfdemglbfnoaaW.PrintMore
theorem am {p : Prop} (h : p) : Aside0 p := ⟨h⟩
theorem bs {α β : Type} {x : Option α} {f : α → Option β} {b : β} (h : x.bind f = some b) : ∃ a, Aside0 (x = some a) ∧ f a = some b := by
  obtain ⟨a, h1, h2⟩ := Option.bind_eq_some_iff.mp h
  exact ⟨a, ⟨h1⟩, h2⟩
theorem el {α β : Type} {d : Kd α} {d' : Kd β} {e e' : Nat} {W0 W w1 w2 : World} {base : Nat} {ok ok' : Nat → Prop} {v u : Value} {xs : List α} {ys : List β} (h : Aside0 (Kd.V d e W0 base ok v xs)) (ho : Kd.N d' e' w2 W.heap.size ok' u ys) (hb : Below W.heap.size W w1) (f : Kd.V d e W0 base ok v xs → Kd.V d e W base ok v xs := by
  intro h_; (with_reducible repeat (first | apply Kd.V_alloc | apply Kd.V_drewN | apply Kd.V_drew)); exact h_) : Aside0 (Kd.V d e w1 base (fun k => ok k ∧ some k ≠ u.ownBlock) v xs) := ⟨Kd.V_elder' (f h.out) (Kd.N_base ho) hb⟩
theorem en {α β : Type} {d : Kd α} {d' : Kd β} {e e' : Nat} {W0 W w1 w2 : World} {base : Nat} {ok ok' : Nat → Prop} {v u : Value} {xs : List α} {ys : List β} (h : Aside0 (Kd.N d e W0 base ok v xs)) (ho : Kd.N d' e' w2 W.heap.size ok' u ys) (hb : Below W.heap.size W w1) (f : Kd.N d e W0 base ok v xs → Kd.N d e W base ok v xs := by
  intro h_; (with_reducible repeat (first | apply Kd.N_alloc | apply Kd.N_drewN | apply Kd.N_drew)); exact h_) : Aside0 (Kd.N d e w1 base (fun k => ok k ∧ some k ≠ u.ownBlock) v xs) := ⟨Kd.N_elder' (f h.out) (Kd.N_base ho) hb⟩
theorem be {w W0 W w1 : World} (h : Aside0 (Below w.heap.size w W0)) (hb : Below W.heap.size W w1) (f : Below w.heap.size w W0 → Below w.heap.size w W := by intro h_; repeat (first | (with_reducible first | exact h_ | apply below_alloc | apply pw_below_drewN | apply below_drew1) | exact h_)) : Aside0 (Below w.heap.size w w1) := ⟨below_step (f h.out) hb⟩
theorem fz {w W0 W : World} (h : Aside0 (Below w.heap.size w W0)) (f : Below w.heap.size w W0 → Below w.heap.size w W := by intro h_; repeat (first | (with_reducible first | exact h_ | apply below_alloc | apply pw_below_drewN | apply below_drew1) | exact h_)) : ∀ k, W.heap.size ≤ k → w.heap.size ≤ k := f0 (below_size (f h.out))
theorem be1 {w W0 W w1 : World} {p1 : Prop} (h : Aside0 (Below w.heap.size w W0)) (g1 : Aside0 p1) (hb : Below W.heap.size W w1) (f : Below w.heap.size w W0 → p1 → Below w.heap.size w W := by intro h_ g1_; repeat (first | (with_reducible first | exact h_ | apply below_alloc | apply pw_below_drewN | apply below_drew1 | refine below_set ?_ g1_) | exact h_)) : Aside0 (Below w.heap.size w w1) := ⟨below_step (f h.out g1.out) hb⟩
theorem be2 {w W0 W w1 : World} {p1 p2 : Prop} (h : Aside0 (Below w.heap.size w W0)) (g1 : Aside0 p1) (g2 : Aside0 p2) (hb : Below W.heap.size W w1) (f : Below w.heap.size w W0 → p1 → p2 → Below w.heap.size w W := by intro h_ g1_ g2_; repeat (first | (with_reducible first | exact h_ | apply below_alloc | apply pw_below_drewN | apply below_drew1 | refine below_set ?_ g1_ | refine below_set ?_ g2_) | exact h_)) : Aside0 (Below w.heap.size w w1) := ⟨below_step (f h.out g1.out g2.out) hb⟩
theorem fz2 {w W0 W : World} {p1 p2 : Prop} (h : Aside0 (Below w.heap.size w W0)) (g1 : Aside0 p1) (g2 : Aside0 p2) (f : Below w.heap.size w W0 → p1 → p2 → Below w.heap.size w W := by intro h_ g1_ g2_; repeat (first | (with_reducible first | exact h_ | apply below_alloc | apply pw_below_drewN | apply below_drew1 | refine below_set ?_ g1_ | refine below_set ?_ g2_) | exact h_)) : ∀ k, W.heap.size ≤ k → w.heap.size ≤ k := f0 (below_size (f h.out g1.out g2.out))
theorem be3 {w W0 W w1 : World} {p1 p2 p3 : Prop} (h : Aside0 (Below w.heap.size w W0)) (g1 : Aside0 p1) (g2 : Aside0 p2) (g3 : Aside0 p3) (hb : Below W.heap.size W w1) (f : Below w.heap.size w W0 → p1 → p2 → p3 → Below w.heap.size w W := by intro h_ g1_ g2_ g3_; repeat (first | (with_reducible first | exact h_ | apply below_alloc | apply pw_below_drewN | apply below_drew1 | refine below_set ?_ g1_ | refine below_set ?_ g2_ | refine below_set ?_ g3_) | exact h_)) : Aside0 (Below w.heap.size w w1) := ⟨below_step (f h.out g1.out g2.out g3.out) hb⟩
theorem fz3 {w W0 W : World} {p1 p2 p3 : Prop} (h : Aside0 (Below w.heap.size w W0)) (g1 : Aside0 p1) (g2 : Aside0 p2) (g3 : Aside0 p3) (f : Below w.heap.size w W0 → p1 → p2 → p3 → Below w.heap.size w W := by intro h_ g1_ g2_ g3_; repeat (first | (with_reducible first | exact h_ | apply below_alloc | apply pw_below_drewN | apply below_drew1 | refine below_set ?_ g1_ | refine below_set ?_ g2_ | refine below_set ?_ g3_) | exact h_)) : ∀ k, W.heap.size ≤ k → w.heap.size ≤ k := f0 (below_size (f h.out g1.out g2.out g3.out))
theorem be4 {w W0 W w1 : World} {p1 p2 p3 p4 : Prop} (h : Aside0 (Below w.heap.size w W0)) (g1 : Aside0 p1) (g2 : Aside0 p2) (g3 : Aside0 p3) (g4 : Aside0 p4) (hb : Below W.heap.size W w1) (f : Below w.heap.size w W0 → p1 → p2 → p3 → p4 → Below w.heap.size w W := by intro h_ g1_ g2_ g3_ g4_; repeat (first | (with_reducible first | exact h_ | apply below_alloc | apply pw_below_drewN | apply below_drew1 | refine below_set ?_ g1_ | refine below_set ?_ g2_ | refine below_set ?_ g3_ | refine below_set ?_ g4_) | exact h_)) : Aside0 (Below w.heap.size w w1) := ⟨below_step (f h.out g1.out g2.out g3.out g4.out) hb⟩
theorem fz4 {w W0 W : World} {p1 p2 p3 p4 : Prop} (h : Aside0 (Below w.heap.size w W0)) (g1 : Aside0 p1) (g2 : Aside0 p2) (g3 : Aside0 p3) (g4 : Aside0 p4) (f : Below w.heap.size w W0 → p1 → p2 → p3 → p4 → Below w.heap.size w W := by intro h_ g1_ g2_ g3_ g4_; repeat (first | (with_reducible first | exact h_ | apply below_alloc | apply pw_below_drewN | apply below_drew1 | refine below_set ?_ g1_ | refine below_set ?_ g2_ | refine below_set ?_ g3_ | refine below_set ?_ g4_) | exact h_)) : ∀ k, W.heap.size ≤ k → w.heap.size ≤ k := f0 (below_size (f h.out g1.out g2.out g3.out g4.out))
theorem be5 {w W0 W w1 : World} {p1 p2 p3 p4 p5 : Prop} (h : Aside0 (Below w.heap.size w W0)) (g1 : Aside0 p1) (g2 : Aside0 p2) (g3 : Aside0 p3) (g4 : Aside0 p4) (g5 : Aside0 p5) (hb : Below W.heap.size W w1) (f : Below w.heap.size w W0 → p1 → p2 → p3 → p4 → p5 → Below w.heap.size w W := by intro h_ g1_ g2_ g3_ g4_ g5_; repeat (first | (with_reducible first | exact h_ | apply below_alloc | apply pw_below_drewN | apply below_drew1 | refine below_set ?_ g1_ | refine below_set ?_ g2_ | refine below_set ?_ g3_ | refine below_set ?_ g4_ | refine below_set ?_ g5_) | exact h_)) : Aside0 (Below w.heap.size w w1) := ⟨below_step (f h.out g1.out g2.out g3.out g4.out g5.out) hb⟩
theorem fz5 {w W0 W : World} {p1 p2 p3 p4 p5 : Prop} (h : Aside0 (Below w.heap.size w W0)) (g1 : Aside0 p1) (g2 : Aside0 p2) (g3 : Aside0 p3) (g4 : Aside0 p4) (g5 : Aside0 p5) (f : Below w.heap.size w W0 → p1 → p2 → p3 → p4 → p5 → Below w.heap.size w W := by intro h_ g1_ g2_ g3_ g4_ g5_; repeat (first | (with_reducible first | exact h_ | apply below_alloc | apply pw_below_drewN | apply below_drew1 | refine below_set ?_ g1_ | refine below_set ?_ g2_ | refine below_set ?_ g3_ | refine below_set ?_ g4_ | refine below_set ?_ g5_) | exact h_)) : ∀ k, W.heap.size ≤ k → w.heap.size ≤ k := f0 (below_size (f h.out g1.out g2.out g3.out g4.out g5.out))
theorem be6 {w W0 W w1 : World} {p1 p2 p3 p4 p5 p6 : Prop} (h : Aside0 (Below w.heap.size w W0)) (g1 : Aside0 p1) (g2 : Aside0 p2) (g3 : Aside0 p3) (g4 : Aside0 p4) (g5 : Aside0 p5) (g6 : Aside0 p6) (hb : Below W.heap.size W w1) (f : Below w.heap.size w W0 → p1 → p2 → p3 → p4 → p5 → p6 → Below w.heap.size w W := by intro h_ g1_ g2_ g3_ g4_ g5_ g6_; repeat (first | (with_reducible first | exact h_ | apply below_alloc | apply pw_below_drewN | apply below_drew1 | refine below_set ?_ g1_ | refine below_set ?_ g2_ | refine below_set ?_ g3_ | refine below_set ?_ g4_ | refine below_set ?_ g5_ | refine below_set ?_ g6_) | exact h_)) : Aside0 (Below w.heap.size w w1) := ⟨below_step (f h.out g1.out g2.out g3.out g4.out g5.out g6.out) hb⟩
theorem fz6 {w W0 W : World} {p1 p2 p3 p4 p5 p6 : Prop} (h : Aside0 (Below w.heap.size w W0)) (g1 : Aside0 p1) (g2 : Aside0 p2) (g3 : Aside0 p3) (g4 : Aside0 p4) (g5 : Aside0 p5) (g6 : Aside0 p6) (f : Below w.heap.size w W0 → p1 → p2 → p3 → p4 → p5 → p6 → Below w.heap.size w W := by intro h_ g1_ g2_ g3_ g4_ g5_ g6_; repeat (first | (with_reducible first | exact h_ | apply below_alloc | apply pw_below_drewN | apply below_drew1 | refine below_set ?_ g1_ | refine below_set ?_ g2_ | refine below_set ?_ g3_ | refine below_set ?_ g4_ | refine below_set ?_ g5_ | refine below_set ?_ g6_) | exact h_)) : ∀ k, W.heap.size ≤ k → w.heap.size ≤ k := f0 (below_size (f h.out g1.out g2.out g3.out g4.out g5.out g6.out))
theorem vg {α : Type} {d : Kd α} {e : Nat} {W w1 : World} {base : Nat} {ok ok' : Nat → Prop} {v : Value} {xs : List α} (h : Kd.V d e W base ok v xs) (f : Kd.V d e W base ok v xs → Kd.V d e w1 base ok v xs := by
  intro h_
  (repeat (with_reducible first | exact h_ | apply Kd.V_alloc | apply Kd.V_drewN | apply Kd.V_drew | refine farA ?_))) (m : ∀ k, ok k → ok' k := by
  first
  | (intro k_ hk_; exact hk_)
  | (intro k_ hk_
     (try simp only [and_assoc] at hk_)
     (repeat (have hc_ := hk_.1; replace hk_ := hk_.2))
     (repeat' apply And.intro) <;> assumption)) : Kd.V d e w1 base ok' v xs := Kd.V_mono (f h) m
end Go.Proofs.Ytecfdemglbfnoaa.PT
end
section
namespace Go.Proofs.Ytecfdemglbfnoaa.PT
open Go.RowKit Go.Proofs.YtecfdemglbfnoaaW.PrintWords Go.Proofs.YtecfdemglbfnoaaW.PrintLast Go.Proofs.YtecfdemglbfnoaaW.PrintMore
attribute [local go_sem] max2_int min2_int max_two min_two max_three min_three max_four min_four
set_option linter.unusedVariables false
set_option linter.unusedSimpArgs false
set_option maxHeartbeats 8000000
set_option maxRecDepth 100000
def errW : Option Int → Value
 | none => .nilIface
 | some c => .iface 0 (.int .i64 c)
theorem errW_none : errW none = .nilIface := rfl
theorem errW_some (c : Int) : errW (some c) = .iface 0 (.int .i64 c) := rfl
theorem info48 : (Try.prog.info? 48).map (fun i => (i.zero, i.size, i.bytes)) = some (some (.int .u32 0), 1, 4) := by kernel_rfl
structure S124 where
 f0 : Int
 f1 : Int
 f2 : Int
def rd_L4 (xs : List (List Int)) (i : Int) : (List Int) := xs.getD i.toNat ([] : List Int)
theorem at_L4 {w : World} {A : Option Addr} {n : Nat} {xs : List (List Int)} (h : Kd.C (Kd.slice 48 (Kd.int .u32)) w A n xs) (i : Int) (h0 : 0 ≤ i) (h1 : i < n) : ∃ ad A0 c0, A = some ad ∧ w.cell? (ad.add i.toNat) = some (.slice A0 (rd_L4 xs i).length c0) ∧ (rd_L4 xs i).length ≤ c0 ∧ (Kd.int .u32).C w A0 (rd_L4 xs i).length (rd_L4 xs i) := by
 obtain ⟨ad, c, e, _, hK, hc0⟩ := Kd.C_get h ([] : List Int) i h0 h1
 have hc : ∀ j u, c[j]? = some u → w.cell? (ad.add (i.toNat * 1 + j)) = some u := hc0
 obtain ⟨A0, c0, rfl, l0, g0⟩ := hK
 exact ⟨ad, A0, c0, e, by have hq := hc 0 _ rfl; rwa [Nat.mul_one, Nat.add_zero] at hq, l0, g0⟩
def rd_L5 (xs : List (List (List Int))) (i : Int) : (List (List Int)) := xs.getD i.toNat ([] : List (List Int))
theorem at_L5 {w : World} {A : Option Addr} {n : Nat} {xs : List (List (List Int))} (h : Kd.C (Kd.slice 42 (Kd.slice 48 (Kd.int .u32))) w A n xs) (i : Int) (h0 : 0 ≤ i) (h1 : i < n) : ∃ ad A0 c0, A = some ad ∧ w.cell? (ad.add i.toNat) = some (.slice A0 (rd_L5 xs i).length c0) ∧ (rd_L5 xs i).length ≤ c0 ∧ (Kd.slice 48 (Kd.int .u32)).C w A0 (rd_L5 xs i).length (rd_L5 xs i) := by
 obtain ⟨ad, c, e, _, hK, hc0⟩ := Kd.C_get h ([] : List (List Int)) i h0 h1
 have hc : ∀ j u, c[j]? = some u → w.cell? (ad.add (i.toNat * 1 + j)) = some u := hc0
 obtain ⟨A0, c0, rfl, l0, g0⟩ := hK
 exact ⟨ad, A0, c0, e, by have hq := hc 0 _ rfl; rwa [Nat.mul_one, Nat.add_zero] at hq, l0, g0⟩
structure S67 where
 f0 : Bool
 f1 : (List Int)
 f2 : (List Int)
structure S53 where
 f0 : Int
 f1 : (List Int)
mutual
def codewrightlaw46_short.l0 : Nat → List (List (List Int)) → Int → Int → Option (Bool)
 | 0, _, _, _ => none
 | k + 1, x0, x3, x4 => if x4 < (x0.length : Int) then (if 0 ≤ x4 then (codewrightlaw46_short.l1 k x0 (wrap64 (x3 + ((rd_L5 x0 x4).length : Int))) x4 0) else (none)) else (some (decide (x3 ≤ 120)))
def codewrightlaw46_short.l1 : Nat → List (List (List Int)) → Int → Int → Int → Option (Bool)
 | 0, _, _, _, _ => none
 | k + 1, x0, x3, x4, x5 => if 0 ≤ x4 then (if x4 < (x0.length : Int) then (if x5 < ((rd_L5 x0 x4).length : Int) then (if x3 ≤ 120 then (if 0 ≤ x5 then (codewrightlaw46_short.l1 k x0 (wrap64 (x3 + ((rd_L4 (rd_L5 x0 x4) x5).length : Int))) x4 (wrap64 (x5 + 1))) else (none)) else (codewrightlaw46_short.l0 k x0 x3 (wrap64 (x4 + 1)))) else (codewrightlaw46_short.l0 k x0 x3 (wrap64 (x4 + 1)))) else (none)) else (none)
end
def codewrightlaw46_short.f (k : Nat) (l0 : List (List (List Int))) : Option (Bool) := codewrightlaw46_short.l0 k l0 0 0
theorem codewrightlaw46_short.calls (k : Nat) (A0 : Option Addr) (c0 : Nat) (l0 : List (List (List Int))) (r : Bool) (w : World) (hr0 : Kd.C (Kd.slice 42 (Kd.slice 48 (Kd.int .u32))) w A0 l0.length l0) (hc0 : l0.length ≤ c0) (h : codewrightlaw46_short.f k l0 = some r) :
 Calls Try.prog 49 #[.slice A0 l0.length c0] w fun e w' => e = .returned (.bool r) ∧ Drawn0 w w' := by
 have an := am hr0
 have aK := am hc0
 clear hr0 hc0
 have H : (codewrightlaw46_short.l0 k l0 0 0) = some r := h
 clear h
 have H' := am H
 clear H
 go_enter Try.func49, Try.ntmps49
 go_wp2
 go_loopg [3, 4] k (fun kq v3 v4 w' => ∃ (ai : Int) (aa : Int), v3 = .int .i64 ai ∧ v4 = .int .i64 aa ∧ Aside0 (codewrightlaw46_short.l0 kq l0 ai aa = some r) ∧ Aside0 (kq ≤ k) ∧ Drawn0 w w')
 case atStart => exact ⟨(0), (0), (by first | rfl | (simp; done) | (simp [*]; done)), (by first | rfl | (simp; done) | (simp [*]; done)), H', ⟨Nat.le_refl _⟩, by repeat (first | exact Drawn0.refl _ | apply Drawn0.step)⟩
 case round =>
  clear H'
  obtain ⟨ai, aa, rfl, rfl, HA, HK1, ⟨m1, rfl⟩⟩ := hrel
  cases gk with
  | zero => exact absurd HA.out (by simp [codewrightlaw46_short.l0])
  | succ k1 =>
   have H := HA.out
   clear HA
   simp only [codewrightlaw46_short.l0] at H
   by_cases c2 : aa < (l0.length : Int)
   ·
    rw [if_pos c2] at H
    have ao : decide (aa < (l0.length : Int)) = true := decide_eq_true c2
    clear c2
    by_cases c3 : 0 ≤ aa
    ·
     rw [if_pos c3] at H
     have ay : decide (0 ≤ aa) = true := decide_eq_true c3
     clear c3
     have H' := am H
     clear H
     have p245 : 0 ≤ (aa : Int) := of_decide_eq_true (by first | (with_reducible assumption) | assumption)
     have q245 : aa < (l0.length : Int) := of_decide_eq_true (by first | (with_reducible assumption) | assumption)
     obtain ⟨ad245, az, aA, e245, aj, hl245_0, hi245_0⟩ := at_L5 an.out aa p245 q245
     cases e245
     have ap := am hi245_0
     have aq := am hl245_0
     clear hi245_0 hl245_0
     replace p245 := eq_true p245
     replace q245 := eq_true q245
     go_wp2
     go_loopg [3, 5] k1 (fun kq v3 v5 w' => ∃ (ac : Int) (ab : Int), v3 = .int .i64 ac ∧ v5 = .int .i64 ab ∧ Aside0 (codewrightlaw46_short.l1 kq l0 ac aa ab = some r) ∧ Aside0 (kq ≤ k1) ∧ Drawn0 w w')
     case atStart => exact ⟨(wrap64 (ai + ((rd_L5 l0 aa).length : Int))), (0), (by first | rfl | (simp; done) | (simp [*]; done)), (by first | rfl | (simp; done) | (simp [*]; done)), H', ⟨Nat.le_refl _⟩, by repeat (first | exact Drawn0.refl _ | apply Drawn0.step)⟩
     case round =>
      clear H'
      try clear c2
      try clear ao
      try clear p2
      try clear q2
      try clear hx2
      try clear c3
      try clear ay
      try clear aj
      try clear p245
      try clear q245
      obtain ⟨ac, ab, rfl, rfl, HA, HK2, ⟨m2, rfl⟩⟩ := hrel
      cases gk with
      | zero => exact absurd HA.out (by simp [codewrightlaw46_short.l1])
      | succ k2 =>
       have H := HA.out
       clear HA
       simp only [codewrightlaw46_short.l1] at H
       by_cases c4 : 0 ≤ aa
       ·
        rw [if_pos c4] at H
        have aH : decide (0 ≤ aa) = true := decide_eq_true c4
        clear c4
        by_cases c5 : aa < (l0.length : Int)
        ·
         rw [if_pos c5] at H
         have aI : decide (aa < (l0.length : Int)) = true := decide_eq_true c5
         clear c5
         by_cases c6 : ab < ((rd_L5 l0 aa).length : Int)
         ·
          rw [if_pos c6] at H
          have aB : decide (ab < ((rd_L5 l0 aa).length : Int)) = true := decide_eq_true c6
          clear c6
          by_cases c7 : ac ≤ 120
          ·
           rw [if_pos c7] at H
           have aC : decide (ac ≤ 120) = true := decide_eq_true c7
           clear c7
           by_cases c8 : 0 ≤ ab
           ·
            rw [if_pos c8] at H
            have aJ : decide (0 ≤ ab) = true := decide_eq_true c8
            clear c8
            have H' := am H
            clear H
            have p246 : 0 ≤ (aa : Int) := of_decide_eq_true (by first | (with_reducible assumption) | assumption)
            have q246 : aa < (l0.length : Int) := of_decide_eq_true (by first | (with_reducible assumption) | assumption)
            obtain ⟨ad246, ag, ah, e246, ad, hl246_0, hi246_0⟩ := at_L5 an.out aa p246 q246
            obtain rfl : ad245 = ad246 := (by injection e246)
            have ae := am hi246_0
            have af := am hl246_0
            clear hi246_0 hl246_0
            replace p246 := eq_true p246
            replace q246 := eq_true q246
            have p247 : 0 ≤ (aa : Int) := of_decide_eq_true (by first | (with_reducible assumption) | assumption)
            have q247 : aa < (l0.length : Int) := of_decide_eq_true (by first | (with_reducible assumption) | assumption)
            obtain ⟨ad247, aD, aE, e247, ak, hl247_0, hi247_0⟩ := at_L5 an.out aa p247 q247
            obtain rfl : ad245 = ad247 := (by injection e247)
            have al := am hi247_0
            have au := am hl247_0
            clear hi247_0 hl247_0
            replace p247 := eq_true p247
            replace q247 := eq_true q247
            have ea_ := Option.some.inj (ad.symm.trans ak)
            injection ea_ with ea_ en_ ec_
            subst ea_
            subst ec_
            clear en_
            have p248 : 0 ≤ (ab : Int) := of_decide_eq_true (by first | (with_reducible assumption) | assumption)
            have q248 : ab < ((rd_L5 l0 aa).length : Int) := of_decide_eq_true (by first | (with_reducible assumption) | assumption)
            obtain ⟨ad248, aF, aG, e248, av, hl248_0, hi248_0⟩ := at_L4 al.out ab p248 q248
            cases e248
            have aw := am hi248_0
            have ax := am hl248_0
            clear hi248_0 hl248_0
            replace p248 := eq_true p248
            replace q248 := eq_true q248
            go_wp2
            go_roundg k2
            case measure => have := HK1.out; have := HK2.out; omega
            case rel => exact ⟨(wrap64 (ac + ((rd_L4 (rd_L5 l0 aa) ab).length : Int))), (wrap64 (ab + 1)), (by first | rfl | (simp; done) | (simp [*]; done)), (by first | rfl | (simp; done) | (simp [*]; done)), H', ⟨by have := HK1.out; have := HK2.out; omega⟩, by repeat (first | exact Drawn0.refl _ | apply Drawn0.step)⟩
           ·
            rw [if_neg c8] at H
            exact absurd H (by simp)
          ·
           rw [if_neg c7] at H
           have aC : decide (ac ≤ 120) = false := decide_eq_false c7
           clear c7
           have H' := am H
           clear H
           have p246 : 0 ≤ (aa : Int) := of_decide_eq_true (by first | (with_reducible assumption) | assumption)
           have q246 : aa < (l0.length : Int) := of_decide_eq_true (by first | (with_reducible assumption) | assumption)
           obtain ⟨ad246, ag, ah, e246, ad, hl246_0, hi246_0⟩ := at_L5 an.out aa p246 q246
           obtain rfl : ad245 = ad246 := (by injection e246)
           have ae := am hi246_0
           have af := am hl246_0
           clear hi246_0 hl246_0
           replace p246 := eq_true p246
           replace q246 := eq_true q246
           go_wp2
           go_roundg k2
           case measure => have := HK1.out; have := HK2.out; omega
           case rel => exact ⟨(ac), (wrap64 (aa + 1)), (by first | rfl | (simp; done) | (simp [*]; done)), (by first | rfl | (simp; done) | (simp [*]; done)), H', ⟨by have := HK1.out; have := HK2.out; omega⟩, by repeat (first | exact Drawn0.refl _ | apply Drawn0.step)⟩
         ·
          rw [if_neg c6] at H
          have aB : decide (ab < ((rd_L5 l0 aa).length : Int)) = false := decide_eq_false c6
          clear c6
          have H' := am H
          clear H
          have p246 : 0 ≤ (aa : Int) := of_decide_eq_true (by first | (with_reducible assumption) | assumption)
          have q246 : aa < (l0.length : Int) := of_decide_eq_true (by first | (with_reducible assumption) | assumption)
          obtain ⟨ad246, ag, ah, e246, ad, hl246_0, hi246_0⟩ := at_L5 an.out aa p246 q246
          obtain rfl : ad245 = ad246 := (by injection e246)
          have ae := am hi246_0
          have af := am hl246_0
          clear hi246_0 hl246_0
          replace p246 := eq_true p246
          replace q246 := eq_true q246
          go_wp2
          go_roundg k2
          case measure => have := HK1.out; have := HK2.out; omega
          case rel => exact ⟨(ac), (wrap64 (aa + 1)), (by first | rfl | (simp; done) | (simp [*]; done)), (by first | rfl | (simp; done) | (simp [*]; done)), H', ⟨by have := HK1.out; have := HK2.out; omega⟩, by repeat (first | exact Drawn0.refl _ | apply Drawn0.step)⟩
        ·
         rw [if_neg c5] at H
         exact absurd H (by simp)
       ·
        rw [if_neg c4] at H
        exact absurd H (by simp)
    ·
     rw [if_neg c3] at H
     exact absurd H (by simp)
   ·
    rw [if_neg c2] at H
    have ao : decide (aa < (l0.length : Int)) = false := decide_eq_false c2
    clear c2
    obtain rfl := Option.some.inj H
    go_wp2
    go_ret
    exact ⟨by first | rfl | (simp; done) | (simp [*]; done), by repeat (first | exact Drawn0.refl _ | apply Drawn0.step)⟩
def semiring_cost.f (a0 : Int) : Option (Int) := some (mn (mx a0 0) 4611686018427387904)
theorem semiring_cost.calls (a0 : Int) (r : Int) (w : World) (h : semiring_cost.f a0 = some r) :
 Calls Try.prog 138 #[.int .i64 a0] w fun e w' => e = .returned (.int .i64 r) ∧ Below w.heap.size w w' := by
 have HB := am (Below.refl w.heap.size w)
 have H : (some (mn (mx a0 0) 4611686018427387904)) = some r := h
 clear h
 obtain ⟨ji2, hji2⟩ : ∃ j_ : Int, (mx a0 0) = j_ := ⟨_, rfl⟩
 replace H : (some (mn (ji2) 4611686018427387904)) = some r := by first | (rw [hji2] at H; exact H) | (simp only [hji2] at H ⊢; exact H)
 (try (have hji2l : 0 ≤ ji2 := by (rw [← hji2]; unfold mx; (repeat' split) <;> omega)))
 (try (have hji2m : 0 ≤ ji2 := by omega))
 have hji2_ : (if a0 < 0 then 0 else a0) = ji2 := hji2
 obtain ⟨ji3, hji3⟩ : ∃ j_ : Int, (mn (ji2) 4611686018427387904) = j_ := ⟨_, rfl⟩
 replace H : (some ji3) = some r := by first | (rw [hji3] at H; exact H) | (simp only [hji3] at H ⊢; exact H)
 have hji3_ : (if 4611686018427387904 < (ji2) then 4611686018427387904 else (ji2)) = ji3 := hji3
 obtain rfl := Option.some.inj H
 go_enter Try.func138, Try.ntmps138
 go_wp2
 go_ret
 exact ⟨by first | rfl | (simp [errW_none, errW_some] <;> rfl) | (simp only [← hji2, ← hji3]; first | rfl | (simp [errW_none, errW_some] <;> rfl)) | (simp [*, errW_none, errW_some] <;> rfl), by repeat (first | (with_reducible first | exact HB.out | apply below_alloc | apply pw_below_drewN | apply below_drew1) | exact HB.out)⟩
def semiring_capped.f (a0 : Int) (a1 : Int) : Option (Int) := if a0 > (wrap64 (4611686018427387904 - a1)) then (some 4611686018427387904) else (some (wrap64 (a0 + a1)))
theorem semiring_capped.calls (a0 : Int) (a1 : Int) (r : Int) (w : World) (h : semiring_capped.f a0 a1 = some r) :
 Calls Try.prog 139 #[.int .i64 a0, .int .i64 a1] w fun e w' => e = .returned (.int .i64 r) ∧ Drawn0 w w' := by
 have H : (if a0 > (wrap64 (4611686018427387904 - a1)) then (some 4611686018427387904) else (some (wrap64 (a0 + a1)))) = some r := h
 clear h
 by_cases c3 : a0 > (wrap64 (4611686018427387904 - a1))
 ·
  rw [if_pos c3] at H
  have aa : decide ((wrap64 (4611686018427387904 - a1)) < a0) = true := decide_eq_true c3
  clear c3
  obtain rfl := Option.some.inj H
  go_enter Try.func139, Try.ntmps139
  go_wp2
  go_ret
  exact ⟨by first | rfl | (simp; done) | (simp [*]; done), by repeat (first | exact Drawn0.refl _ | apply Drawn0.step)⟩
 ·
  rw [if_neg c3] at H
  have aa : decide ((wrap64 (4611686018427387904 - a1)) < a0) = false := decide_eq_false c3
  clear c3
  obtain rfl := Option.some.inj H
  go_enter Try.func139, Try.ntmps139
  go_wp2
  go_ret
  exact ⟨by first | rfl | (simp; done) | (simp [*]; done), by repeat (first | exact Drawn0.refl _ | apply Drawn0.step)⟩
def semiring_MinPlus_Mul.f  (a1 : Int) (a2 : Int) : Option (Int) := (semiring_cost.f a1).bind fun t133 => ((semiring_cost.f a2).bind fun t134 => ((semiring_capped.f t133 t134).bind fun t135 => (some t135)))
theorem semiring_MinPlus_Mul.calls  (a1 : Int) (a2 : Int) (r : Int) (w : World) (h : semiring_MinPlus_Mul.f a1 a2 = some r) :
 Calls Try.prog 37 #[.agg #[], .int .i64 a1, .int .i64 a2] w fun e w' => e = .returned (.int .i64 r) ∧ Below w.heap.size w w' := by
 have ah := Try.underlying27
 have HB := am (Below.refl w.heap.size w)
 have H : ((semiring_cost.f a1).bind fun ab => ((semiring_cost.f a2).bind fun ac => ((semiring_capped.f ab ac).bind fun ae => (some ae)))) = some r := h
 clear h
 obtain ⟨ab, A4, H⟩ := bs H
 (try dsimp -simprocs only at H)
 obtain ⟨ac, A5, H⟩ := bs H
 (try dsimp -simprocs only at H)
 obtain ⟨ae, A6, H⟩ := bs H
 replace H : (some ae) = some r := H
 obtain rfl := Option.some.inj H
 go_enter Try.func37, Try.ntmps37
 go_wp2_with (first | ((with_reducible refine gate_dst (N := 3) rfl ?_); refine box_event ?hg (N := 3) ?hd (cs := #[]) (t := 27) ?hr ?_; (case hd => rfl); (case hg => rfl); (case hr => first | (go_simp; done) | (go_simp; rfl)); intro af hg w7 hbox hb; have aa := am (hbox); have ag := ng hg (bu HB.out); have ad := ng hg (bu HB.out); replace HB := be HB hb; clear hb hbox hg) | ((with_reducible refine gate_callee (f := 138) rfl ?_); refine goesL_ (some 8) rfl rfl Try.func138 (by kernel_rfl) rfl #[.int .i64 a1] rfl lu ?_; (with_reducible refine (semiring_cost.calls a1 ab _ A4.out).mono ?_); rintro e w8 ⟨rfl, hb⟩; refine ⟨_, rfl, ?_⟩; replace aa := kb aa hb; replace HB := be1 HB ad hb; (try clear hb)) | ((with_reducible refine gate_callee (f := 138) rfl ?_); refine goesL_ (some 10) rfl rfl Try.func138 (by kernel_rfl) rfl #[.int .i64 a2] rfl lu ?_; (with_reducible refine (semiring_cost.calls a2 ac _ A5.out).mono ?_); rintro e w9 ⟨rfl, hb⟩; refine ⟨_, rfl, ?_⟩; replace aa := kb aa hb; replace HB := be1 HB ad hb; (try clear hb)) | ((with_reducible refine gate_callee (f := 139) rfl ?_); refine goesL_ (some 11) rfl rfl Try.func139 (by kernel_rfl) rfl #[.int .i64 ab, .int .i64 ac] rfl lu ?_; (with_reducible refine (semiring_capped.calls ab ac ae _ A6.out).mono ?_); rintro e w' ⟨rfl, ⟨nd, rfl⟩⟩; refine ⟨_, rfl, ?_⟩))
 go_ret
 exact ⟨by first | rfl | (simp [errW_none, errW_some] <;> rfl) | (simp [*, errW_none, errW_some] <;> rfl), by repeat (first | (with_reducible first | exact HB.out | apply below_alloc | apply pw_below_drewN | apply below_drew1 | refine below_set ?_ ad.out) | exact HB.out)⟩
def codewrightlaw46_alive.f  : Option (Bool) := (semiring_MinPlus_Mul.f 3 5).bind fun t249 => (some (t249 == 8))
theorem codewrightlaw46_alive.calls  (r : Bool) (w : World) (h : codewrightlaw46_alive.f  = some r) :
 Calls Try.prog 50 #[] w fun e w' => e = .returned (.bool r) ∧ Below w.heap.size w w' := by
 have ab := Try.underlying27
 have HB := am (Below.refl w.heap.size w)
 have H : ((semiring_MinPlus_Mul.f 3 5).bind fun aa => (some (aa == 8))) = some r := h
 clear h
 obtain ⟨aa, A1, H⟩ := bs H
 replace H : (some (aa == 8)) = some r := H
 obtain rfl := Option.some.inj H
 go_enter Try.func50, Try.ntmps50
 go_wp2_with (first | ((with_reducible refine gate_callee (f := 37) rfl ?_); refine goesL_ (some 2) rfl rfl Try.func37 (by kernel_rfl) rfl #[.agg #[], .int .i64 3, .int .i64 5] rfl lu ?_; (with_reducible refine (semiring_MinPlus_Mul.calls  3 5 aa _ A1.out).mono ?_); rintro e w2 ⟨rfl, hb⟩; refine ⟨_, rfl, ?_⟩; replace HB := be HB hb; (try clear hb)))
 go_ret
 exact ⟨by first | rfl | (simp [errW_none, errW_some] <;> rfl) | (simp [*, errW_none, errW_some] <;> rfl), by repeat (first | (with_reducible first | exact HB.out | apply below_alloc | apply pw_below_drewN | apply below_drew1) | exact HB.out)⟩
def codewrightref01_Same.l0 : Nat → List Int → List Int → Int → Option (Bool)
 | 0, _, _, _ => none
 | k + 1, x0, x1, x5 => if x5 < (x0.length : Int) then (if 0 ≤ x5 then (if x5 < (x1.length : Int) then (if (rd x0 x5) = (rd x1 x5) then (codewrightref01_Same.l0 k x0 x1 (wrap64 (x5 + 1))) else (some false)) else (none)) else (none)) else (some true)
def codewrightref01_Same.f (k : Nat) (l0 : List Int) (l1 : List Int) : Option (Bool) := if (l0.length : Int) = (l1.length : Int) then (codewrightref01_Same.l0 k l0 l1 0) else (some false)
theorem codewrightref01_Same.calls (k : Nat) (A0 : Option Addr) (c0 : Nat) (l0 : List Int) (A1 : Option Addr) (c1 : Nat) (l1 : List Int) (r : Bool) (w : World) (hr0 : Kd.C (Kd.int .u32) w A0 l0.length l0) (hc0 : l0.length ≤ c0) (hr1 : Kd.C (Kd.int .u32) w A1 l1.length l1) (hc1 : l1.length ≤ c1) (h : codewrightref01_Same.f k l0 l1 = some r) :
 Calls Try.prog 51 #[.slice A0 l0.length c0, .slice A1 l1.length c1] w fun e w' => e = .returned (.bool r) ∧ Drawn0 w w' := by
 have aj := am hr0
 have ao := am hc0
 clear hr0 hc0
 have ak := am hr1
 have ap := am hc1
 clear hr1 hc1
 have H : (if (l0.length : Int) = (l1.length : Int) then (codewrightref01_Same.l0 k l0 l1 0) else (some false)) = some r := h
 clear h
 by_cases c3 : (l0.length : Int) = (l1.length : Int)
 ·
  rw [if_pos c3] at H
  have ad : ((l0.length : Int) == (l1.length : Int)) = true := beq_iff_eq.mpr c3
  have ae : ((l0.length : Int) != (l1.length : Int)) = false := bne_eq_false_iff_eq.mpr c3
  have af : (l0.length == l1.length) = true := by first | simpa using c3 | (simp at c3 ⊢; omega)
  clear c3
  have H' := am H
  clear H
  go_enter Try.func51, Try.ntmps51
  go_wp2
  repeat (go_quiet (fail); try go_wp2)
  go_loopg [5] k (fun kq v5 w' => ∃ (aa : Int), v5 = .int .i64 aa ∧ Aside0 (codewrightref01_Same.l0 kq l0 l1 aa = some r) ∧ Aside0 (kq ≤ k) ∧ Drawn0 w w')
  case atStart => exact ⟨(0), (by first | rfl | (simp; done) | (simp [*]; done)), H', ⟨Nat.le_refl _⟩, by repeat (first | exact Drawn0.refl _ | apply Drawn0.step)⟩
  case round =>
   clear H'
   try clear c1
   try clear p2
   try clear c3
   try clear ad
   try clear ae
   try clear af
   obtain ⟨aa, rfl, HA, HK1, ⟨m1, rfl⟩⟩ := hrel
   cases gk with
   | zero => exact absurd HA.out (by simp [codewrightref01_Same.l0])
   | succ k1 =>
    have H := HA.out
    clear HA
    simp only [codewrightref01_Same.l0] at H
    by_cases c4 : aa < (l0.length : Int)
    ·
     rw [if_pos c4] at H
     have ag : decide (aa < (l0.length : Int)) = true := decide_eq_true c4
     clear c4
     by_cases c5 : 0 ≤ aa
     ·
      rw [if_pos c5] at H
      have al : decide (0 ≤ aa) = true := decide_eq_true c5
      clear c5
      by_cases c6 : aa < (l1.length : Int)
      ·
       rw [if_pos c6] at H
       have an : decide (aa < (l1.length : Int)) = true := decide_eq_true c6
       clear c6
       by_cases c7 : (rd l0 aa) = (rd l1 aa)
       ·
        rw [if_pos c7] at H
        have ah : ((rd l0 aa) == (rd l1 aa)) = true := beq_iff_eq.mpr c7
        have ai : ((rd l0 aa) != (rd l1 aa)) = false := bne_eq_false_iff_eq.mpr c7
        clear c7
        have H' := am H
        clear H
        have p250 : 0 ≤ (aa : Int) := of_decide_eq_true (by first | (with_reducible assumption) | assumption)
        have q250 : aa < (l0.length : Int) := of_decide_eq_true (by first | (with_reducible assumption) | assumption)
        obtain ⟨ad250, e250, ab⟩ := Kd.at_int aj.out aa p250 q250
        cases e250
        replace p250 := eq_true p250
        replace q250 := eq_true q250
        have p251 : 0 ≤ (aa : Int) := of_decide_eq_true (by first | (with_reducible assumption) | assumption)
        have q251 : aa < (l1.length : Int) := of_decide_eq_true (by first | (with_reducible assumption) | assumption)
        obtain ⟨ad251, e251, ac⟩ := Kd.at_int ak.out aa p251 q251
        cases e251
        replace p251 := eq_true p251
        replace q251 := eq_true q251
        go_wp2
        repeat (go_quiet (fail); try go_wp2)
        go_roundg k1
        case measure => have := HK1.out; omega
        case rel => exact ⟨(wrap64 (aa + 1)), (by first | rfl | (simp; done) | (simp [*]; done)), H', ⟨by have := HK1.out; omega⟩, by repeat (first | exact Drawn0.refl _ | apply Drawn0.step)⟩
       ·
        rw [if_neg c7] at H
        have ah : ((rd l0 aa) == (rd l1 aa)) = false := beq_eq_false_iff_ne.mpr c7
        have ai : ((rd l0 aa) != (rd l1 aa)) = true := bne_iff_ne.mpr c7
        obtain rfl := Option.some.inj H
        have p250 : 0 ≤ (aa : Int) := of_decide_eq_true (by first | (with_reducible assumption) | assumption)
        have q250 : aa < (l0.length : Int) := of_decide_eq_true (by first | (with_reducible assumption) | assumption)
        obtain ⟨ad250, e250, ab⟩ := Kd.at_int aj.out aa p250 q250
        cases e250
        replace p250 := eq_true p250
        replace q250 := eq_true q250
        have p251 : 0 ≤ (aa : Int) := of_decide_eq_true (by first | (with_reducible assumption) | assumption)
        have q251 : aa < (l1.length : Int) := of_decide_eq_true (by first | (with_reducible assumption) | assumption)
        obtain ⟨ad251, e251, ac⟩ := Kd.at_int ak.out aa p251 q251
        cases e251
        replace p251 := eq_true p251
        replace q251 := eq_true q251
        go_wp2
        repeat (go_quiet (fail); try go_wp2)
        go_ret
        exact ⟨by first | rfl | (simp; done) | (simp [*]; done), by repeat (first | exact Drawn0.refl _ | apply Drawn0.step)⟩
      ·
       rw [if_neg c6] at H
       exact absurd H (by simp)
     ·
      rw [if_neg c5] at H
      exact absurd H (by simp)
    ·
     rw [if_neg c4] at H
     have ag : decide (aa < (l0.length : Int)) = false := decide_eq_false c4
     clear c4
     obtain rfl := Option.some.inj H
     go_wp2
     repeat (go_quiet (fail); try go_wp2)
     go_ret
     exact ⟨by first | rfl | (simp; done) | (simp [*]; done), by repeat (first | exact Drawn0.refl _ | apply Drawn0.step)⟩
 ·
  rw [if_neg c3] at H
  have ad : ((l0.length : Int) == (l1.length : Int)) = false := beq_eq_false_iff_ne.mpr c3
  have ae : ((l0.length : Int) != (l1.length : Int)) = true := bne_iff_ne.mpr c3
  have af : (l0.length == l1.length) = false := by first | simpa using c3 | (simp at c3 ⊢; omega)
  obtain rfl := Option.some.inj H
  go_enter Try.func51, Try.ntmps51
  go_wp2
  repeat (go_quiet (fail); try go_wp2)
  go_ret
  exact ⟨by first | rfl | (simp; done) | (simp [*]; done), by repeat (first | exact Drawn0.refl _ | apply Drawn0.step)⟩
def codewrightref46_SameLeast.f (k : Nat) (a0_0 : Int) (l0_1 : List Int) (a1_0 : Int) (l1_1 : List Int) : Option (Bool) := if a0_0 = a1_0 then ((codewrightref01_Same.f k l0_1 l1_1).bind fun t487 => (some t487)) else (some false)
theorem codewrightref46_SameLeast.calls (k : Nat) (a0_0 : Int) (A0_1 : Option Addr) (c0_1 : Nat) (l0_1 : List Int) (a1_0 : Int) (A1_1 : Option Addr) (c1_1 : Nat) (l1_1 : List Int) (r : Bool) (w : World) (hr0_1 : Kd.C (Kd.int .u32) w A0_1 l0_1.length l0_1) (hc0_1 : l0_1.length ≤ c0_1) (hr1_1 : Kd.C (Kd.int .u32) w A1_1 l1_1.length l1_1) (hc1_1 : l1_1.length ≤ c1_1) (h : codewrightref46_SameLeast.f k a0_0 l0_1 a1_0 l1_1 = some r) :
 Calls Try.prog 60 #[.agg #[.int .i64 a0_0, .slice A0_1 l0_1.length c0_1], .agg #[.int .i64 a1_0, .slice A1_1 l1_1.length c1_1]] w fun e w' => e = .returned (.bool r) ∧ Below w.heap.size w w' := by
 have aO := Try.underlying53
 have al := am hr0_1
 have aj := am hc0_1
 clear hr0_1 hc0_1
 have an := am hr1_1
 have ak := am hc1_1
 clear hr1_1 hc1_1
 have HB := am (Below.refl w.heap.size w)
 have H : (if a0_0 = a1_0 then ((codewrightref01_Same.f k l0_1 l1_1).bind fun ai => (some ai)) else (some false)) = some r := h
 clear h
 by_cases c3 : a0_0 = a1_0
 ·
  rw [if_pos c3] at H
  have aC : (a0_0 == a1_0) = true := beq_iff_eq.mpr c3
  have aD : (a0_0 != a1_0) = false := bne_eq_false_iff_eq.mpr c3
  clear c3
  obtain ⟨ai, A4, H⟩ := bs H
  replace H : (some ai) = some r := H
  obtain rfl := Option.some.inj H
  go_enter Try.func60, Try.ntmps60
  go_wp2_with (first | ((with_reducible refine gate_dst (N := 2) rfl ?_); refine box_event ?hg (N := 2) ?hd (cs := #[.int .i64 a0_0, .slice A0_1 l0_1.length c0_1]) (t := 53) ?hr ?_; (case hd => rfl); (case hg => rfl); (case hr => first | (go_simp; done) | (go_simp; rfl)); intro af hg w5 hbox hb; have aa := am (hbox); have ao := ng hg (bu HB.out); have ab := ng hg (bu HB.out); replace HB := be HB hb; clear hb hbox hg) | ((with_reducible refine gate_dst (N := 3) rfl ?_); refine box_event ?hg (N := 3) ?hd (cs := #[.int .i64 a1_0, .slice A1_1 l1_1.length c1_1]) (t := 53) ?hr ?_; (case hd => rfl); (case hg => rfl); (case hr => first | (go_simp; done) | (go_simp; rfl)); intro ag hg w6 hbox hb; have ac := am (hbox); have ap := ng hg (bu1 HB.out ab.out); have ah := ng hg (bu1 HB.out ab.out); replace HB := be1 HB ab hb; have ad := nl hg aa; have ae := nr hg aa; replace aa := kb aa hb; clear hb hbox hg; have aP := ad.out; have aQ := ae.out; have aE : w6.cell? ⟨af, 0, none⟩ = some (.int .i64 a0_0) := bc aa 0; have aF : w6.cell? ⟨af, 1, none⟩ = some (.slice A0_1 l0_1.length c0_1) := bc aa 1; have aG := blk_frozen aa.out 0; have aH := blk_frozen aa.out 1; have aI : w6.cell? ⟨ag, 0, none⟩ = some (.int .i64 a1_0) := bc ac 0; have aJ : w6.cell? ⟨ag, 1, none⟩ = some (.slice A1_1 l1_1.length c1_1) := bc ac 1; have aK := blk_frozen ac.out 0; have aL := blk_frozen ac.out 1) | (go_at_call 51; (with_reducible refine (codewrightref01_Same.calls k _ _ l0_1 _ _ l1_1 ai _ ?side1 ?side2 ?side3 ?side4 A4.out).mono ?_); (case side1 => repeat (first | exact (Kd.C_below al.out HB.out) | (with_reducible refine Kd.C_alloc ?_ _) | (with_reducible refine Kd.C_drewN ?_ _) | (with_reducible refine Kd.C_drew ?_))); (case side2 => first | exact aj.out | exact vz aj.out); (case side3 => repeat (first | exact (Kd.C_below an.out HB.out) | (with_reducible refine Kd.C_alloc ?_ _) | (with_reducible refine Kd.C_drewN ?_ _) | (with_reducible refine Kd.C_drew ?_))); (case side4 => first | exact ak.out | exact vz ak.out); rintro e w' ⟨rfl, ⟨nd, rfl⟩⟩))
  go_ret
  exact ⟨by first | rfl | (simp [errW_none, errW_some] <;> rfl) | (simp [*, errW_none, errW_some] <;> rfl), by repeat (first | (with_reducible first | exact HB.out | apply below_alloc | apply pw_below_drewN | apply below_drew1 | refine below_set ?_ ab.out | refine below_set ?_ ah.out) | exact HB.out)⟩
 ·
  rw [if_neg c3] at H
  have aC : (a0_0 == a1_0) = false := beq_eq_false_iff_ne.mpr c3
  have aD : (a0_0 != a1_0) = true := bne_iff_ne.mpr c3
  obtain rfl := Option.some.inj H
  go_enter Try.func60, Try.ntmps60
  go_wp2_with (first | ((with_reducible refine gate_dst (N := 2) rfl ?_); refine box_event ?hg (N := 2) ?hd (cs := #[.int .i64 a0_0, .slice A0_1 l0_1.length c0_1]) (t := 53) ?hr ?_; (case hd => rfl); (case hg => rfl); (case hr => first | (go_simp; done) | (go_simp; rfl)); intro af hg aR hbox hb; have aa := am (hbox); have ao := ng hg (bu HB.out); have ab := ng hg (bu HB.out); replace HB := be HB hb; clear hb hbox hg) | ((with_reducible refine gate_dst (N := 3) rfl ?_); refine box_event ?hg (N := 3) ?hd (cs := #[.int .i64 a1_0, .slice A1_1 l1_1.length c1_1]) (t := 53) ?hr ?_; (case hd => rfl); (case hg => rfl); (case hr => first | (go_simp; done) | (go_simp; rfl)); intro ag hg aq hbox hb; have ac := am (hbox); have ap := ng hg (bu1 HB.out ab.out); have ah := ng hg (bu1 HB.out ab.out); replace HB := be1 HB ab hb; have ad := nl hg aa; have ae := nr hg aa; replace aa := kb aa hb; clear hb hbox hg; have aM := ad.out; have aN := ae.out; have au : aq.cell? ⟨af, 0, none⟩ = some (.int .i64 a0_0) := bc aa 0; have av : aq.cell? ⟨af, 1, none⟩ = some (.slice A0_1 l0_1.length c0_1) := bc aa 1; have aw := blk_frozen aa.out 0; have ax := blk_frozen aa.out 1; have ay : aq.cell? ⟨ag, 0, none⟩ = some (.int .i64 a1_0) := bc ac 0; have az : aq.cell? ⟨ag, 1, none⟩ = some (.slice A1_1 l1_1.length c1_1) := bc ac 1; have aA := blk_frozen ac.out 0; have aB := blk_frozen ac.out 1))
  go_ret
  exact ⟨by first | rfl | (simp [errW_none, errW_some] <;> rfl) | (simp [*, errW_none, errW_some] <;> rfl), by repeat (first | (with_reducible first | exact HB.out | apply below_alloc | apply pw_below_drewN | apply below_drew1 | refine below_set ?_ ab.out | refine below_set ?_ ah.out) | exact HB.out)⟩
def semiring_never.f  : Option (Int × List Int) := some (4611686018427387904, ([] : List Int))
theorem semiring_never.calls  (r1 : Int) (r2 : List Int) (w : World) (h : semiring_never.f  = some (r1, r2)) :
 Calls Try.prog 147 #[] w fun e w' => ∃ v1_ : Value, e = .returned (.agg #[.int .i64 r1, v1_]) ∧ Kd.R (Kd.int .u32) 48 w' w.heap.size (fun _ => True) v1_ r2 ∧ Below w.heap.size w w' := by
 have ai := Try.underlying53
 have HB := am (Below.refl w.heap.size w)
 have H : (some (4611686018427387904, ([] : List Int))) = some (r1, r2) := h
 clear h
 simp only [Option.some.injEq, Prod.mk.injEq] at H
 obtain ⟨rfl, rfl⟩ := H
 go_enter Try.func147, Try.ntmps147
 go_wp2_with (first | ((with_reducible refine gate_dst (N := 0) rfl ?_); refine box_event ?hg (N := 0) ?hd (cs := #[.int .i64 0, .slice none 0 0]) (t := 53) ?hr ?_; (case hd => rfl); (case hg => rfl); (case hr => first | (go_simp; done) | (go_simp; rfl)); intro ab hg w1 hbox hb; have aa := am (hbox); have ah := ng hg (bu HB.out); have ac := ng hg (bu HB.out); replace HB := be HB hb; clear hb hbox hg; have ad : w1.cell? ⟨ab, 0, none⟩ = some (.int .i64 0) := bc aa 0; have ae : w1.cell? ⟨ab, 1, none⟩ = some (.slice none 0 0) := bc aa 1; have af := blk_frozen aa.out 0; have ag := blk_frozen aa.out 1))
 refine bodyPost_ret (results_cell_row rfl _ _ ab 53 #[.int .i64 4611686018427387904, .slice none 0 0] (0, 0) _ rfl (by (with_reducible repeat (first | refine blk_drewN ?_ _ | refine blk_drew ?_ | refine blk_alloc ?_ _)); refine blk_put (cs := #[.int .i64 4611686018427387904, .slice none 0 0]) ?_ 1 _ rfl; (with_reducible repeat (first | refine blk_drewN ?_ _ | refine blk_drew ?_ | refine blk_alloc ?_ _)); refine blk_put (cs := #[.int .i64 0, .slice none 0 0]) ?_ 0 _ rfl; (with_reducible repeat (first | refine blk_drewN ?_ _ | refine blk_drew ?_ | refine blk_alloc ?_ _)); exact aa.out) Try.underlying53 rfl (by kernel_rfl)) rfl ?_
 exact ⟨_, by first | rfl | (simp [errW_none, errW_some] <;> rfl) | (simp [*, errW_none, errW_some] <;> rfl), by first | exact Kd.R_nil _ _ _ _ _ | exact Kd.N_nil _ _ _ _ _ | exact Kd.V_nil _ _ _ _ _ | exact Kd.Q_nil _ _ _ _ _ | exact Kd.S_nil _ _ _ _ _, by repeat (first | (with_reducible first | exact HB.out | apply below_alloc | apply pw_below_drewN | apply below_drew1 | refine below_set ?_ ac.out) | exact HB.out)⟩
def semiring_Leasts_Zero.f  : Option (Int × List Int) := (semiring_never.f).bind fun bt491 => (some (bt491.1, bt491.2))
theorem semiring_Leasts_Zero.calls  (r1 : Int) (r2 : List Int) (w : World) (h : semiring_Leasts_Zero.f  = some (r1, r2)) :
 Calls Try.prog 61 #[.agg #[]] w fun e w' => ∃ v1_ : Value, e = .returned (.agg #[.int .i64 r1, v1_]) ∧ Kd.R (Kd.int .u32) 48 w' w.heap.size (fun _ => True) v1_ r2 ∧ Below w.heap.size w w' := by
 have az := Try.underlying54
 have aA := Try.underlying53
 have HB := am (Below.refl w.heap.size w)
 have H : ((semiring_never.f).bind fun aj => (some (aj.1, aj.2))) = some (r1, r2) := h
 clear h
 obtain ⟨⟨ag, ai⟩, A2, H⟩ := bs H
 replace H : (some (ag, ai)) = some (r1, r2) := H
 simp only [Option.some.injEq, Prod.mk.injEq] at H
 obtain ⟨rfl, rfl⟩ := H
 go_enter Try.func61, Try.ntmps61
 go_wp2_with (first | ((with_reducible refine gate_dst (N := 1) rfl ?_); refine box_event ?hg (N := 1) ?hd (cs := #[]) (t := 54) ?hr ?_; (case hd => rfl); (case hg => rfl); (case hr => first | (go_simp; done) | (go_simp; rfl)); intro aq hg w3 hbox hb; have ab := am (hbox); have au := ng hg (bu HB.out); have ac := ng hg (bu HB.out); replace HB := be HB hb; clear hb hbox hg) | ((with_reducible refine gate_dst (N := 2) rfl ?_); refine box_event ?hg (N := 2) ?hd (cs := #[.int .i64 0, .slice none 0 0]) (t := 53) ?hr ?_; (case hd => rfl); (case hg => rfl); (case hr => first | (go_simp; done) | (go_simp; rfl)); intro ad hg w4 hbox hb; have aa := am (hbox); have av := ng hg (bu1 HB.out ac.out); have ah := ng hg (bu1 HB.out ac.out); replace HB := be1 HB ac hb; have ae := nl hg ab; have af := nr hg ab; replace ab := kb ab hb; clear hb hbox hg) | ((with_reducible refine gate_callee (f := 147) rfl ?_); refine goesL_ (some 3) rfl rfl Try.func147 (by kernel_rfl) rfl #[] rfl lu ?_; (with_reducible refine (semiring_never.calls  ag ai _ A2.out).mono ?_); rintro e w5 ⟨aB, rfl, aw, hb⟩; refine ⟨_, rfl, ?_⟩; have ak := am (Kd.R_lower aw (below_size (bu2 HB.out ac.out ah.out))); replace ab := kb ab hb; replace aa := kb aa hb; replace HB := be2 HB ac ah hb; (try clear hb); (try clear aw); have aC := af.out; have aD := ae.out; have al : w5.cell? ⟨ad, 0, none⟩ = some (.int .i64 0) := bc aa 0; have an : w5.cell? ⟨ad, 1, none⟩ = some (.slice none 0 0) := bc aa 1; have ao := blk_frozen aa.out 0; have ap := blk_frozen aa.out 1; obtain ⟨ax, ay, aE⟩ := Kd.R_slice ak.out; subst aE))
 refine bodyPost_ret (results_cell_row rfl _ _ ad 53 #[.int .i64 ag, .slice ax ai.length ay] (0, 0) _ rfl (by (with_reducible repeat (first | refine blk_drewN ?_ _ | refine blk_drew ?_ | refine blk_alloc ?_ _)); refine blk_put (cs := #[.int .i64 ag, .slice none 0 0]) ?_ 1 _ rfl; (with_reducible repeat (first | refine blk_drewN ?_ _ | refine blk_drew ?_ | refine blk_alloc ?_ _)); refine blk_put (cs := #[.int .i64 0, .slice none 0 0]) ?_ 0 _ rfl; (with_reducible repeat (first | refine blk_drewN ?_ _ | refine blk_drew ?_ | refine blk_alloc ?_ _)); exact aa.out) Try.underlying53 rfl (by kernel_rfl)) rfl ?_
 exact ⟨_, by first | rfl | (simp [errW_none, errW_some] <;> rfl) | (simp [*, errW_none, errW_some] <;> rfl), by (with_reducible repeat (first | apply Kd.R_alloc | apply Kd.R_drewN | apply Kd.R_drew)); exact Kd.R_mono (Kd.R_far (p := ⟨ad, 1, none⟩) (Kd.R_far (p := ⟨ad, 0, none⟩) (Kd.R_types ak.out aa.out (by decide)) (fun _ hk => hk.2) (.int .i64 ag)) (fun _ hk => hk.2) (.slice ax ai.length ay)) (fun _ hk => trivial), by repeat (first | (with_reducible first | exact HB.out | apply below_alloc | apply pw_below_drewN | apply below_drew1 | refine below_set ?_ ac.out | refine below_set ?_ ah.out) | exact HB.out)⟩
def codewrightref46_None.f  : Option (Int × List Int) := some (4611686018427387904, ([] : List Int))
theorem codewrightref46_None.calls  (r1 : Int) (r2 : List Int) (w : World) (h : codewrightref46_None.f  = some (r1, r2)) :
 Calls Try.prog 62 #[] w fun e w' => ∃ v1_ : Value, e = .returned (.agg #[.int .i64 r1, v1_]) ∧ Kd.R (Kd.int .u32) 48 w' w.heap.size (fun _ => True) v1_ r2 ∧ Below w.heap.size w w' := by
 have ai := Try.underlying53
 have HB := am (Below.refl w.heap.size w)
 have H : (some (4611686018427387904, ([] : List Int))) = some (r1, r2) := h
 clear h
 simp only [Option.some.injEq, Prod.mk.injEq] at H
 obtain ⟨rfl, rfl⟩ := H
 go_enter Try.func62, Try.ntmps62
 go_wp2_with (first | ((with_reducible refine gate_dst (N := 0) rfl ?_); refine box_event ?hg (N := 0) ?hd (cs := #[.int .i64 0, .slice none 0 0]) (t := 53) ?hr ?_; (case hd => rfl); (case hg => rfl); (case hr => first | (go_simp; done) | (go_simp; rfl)); intro ab hg w1 hbox hb; have aa := am (hbox); have ah := ng hg (bu HB.out); have ac := ng hg (bu HB.out); replace HB := be HB hb; clear hb hbox hg; have ad : w1.cell? ⟨ab, 0, none⟩ = some (.int .i64 0) := bc aa 0; have ae : w1.cell? ⟨ab, 1, none⟩ = some (.slice none 0 0) := bc aa 1; have af := blk_frozen aa.out 0; have ag := blk_frozen aa.out 1))
 refine bodyPost_ret (results_cell_row rfl _ _ ab 53 #[.int .i64 4611686018427387904, .slice none 0 0] (0, 0) _ rfl (by (with_reducible repeat (first | refine blk_drewN ?_ _ | refine blk_drew ?_ | refine blk_alloc ?_ _)); refine blk_put (cs := #[.int .i64 4611686018427387904, .slice none 0 0]) ?_ 1 _ rfl; (with_reducible repeat (first | refine blk_drewN ?_ _ | refine blk_drew ?_ | refine blk_alloc ?_ _)); refine blk_put (cs := #[.int .i64 0, .slice none 0 0]) ?_ 0 _ rfl; (with_reducible repeat (first | refine blk_drewN ?_ _ | refine blk_drew ?_ | refine blk_alloc ?_ _)); exact aa.out) Try.underlying53 rfl (by kernel_rfl)) rfl ?_
 exact ⟨_, by first | rfl | (simp [errW_none, errW_some] <;> rfl) | (simp [*, errW_none, errW_some] <;> rfl), by first | exact Kd.R_nil _ _ _ _ _ | exact Kd.N_nil _ _ _ _ _ | exact Kd.V_nil _ _ _ _ _ | exact Kd.Q_nil _ _ _ _ _ | exact Kd.S_nil _ _ _ _ _, by repeat (first | (with_reducible first | exact HB.out | apply below_alloc | apply pw_below_drewN | apply below_drew1 | refine below_set ?_ ac.out) | exact HB.out)⟩
def nat_short.l0 : Nat → List Int → Int → Option (List Int)
 | 0, _, _ => none
 | k + 1, x0, x3 => if x3 > 0 then (if 0 ≤ (wrap64 (x3 - 1)) then (if (wrap64 (x3 - 1)) < (x0.length : Int) then (if (rd x0 (wrap64 (x3 - 1))) = 0 then (nat_short.l0 k x0 (wrap64 (x3 - 1))) else (if 0 ≤ x3 then (if x3 ≤ (x0.length : Int) then (some (x0.take (x3 : Int).toNat)) else (none)) else (none))) else (none)) else (none)) else (if 0 ≤ x3 then (if x3 ≤ (x0.length : Int) then (some (x0.take (x3 : Int).toNat)) else (none)) else (none))
def nat_short.f (k : Nat) (l0 : List Int) : Option (List Int) := nat_short.l0 k l0 (l0.length : Int)
theorem nat_short.calls (k : Nat) (P0_ : Nat → Prop) (A0 : Option Addr) (c0 : Nat) (l0 : List Int) (r : List Int) (w : World) (hs0 : Kd.V (Kd.int .u32) 48 w w.heap.size (fun k_ => P0_ k_) (.slice A0 l0.length c0) l0) (h : nat_short.f k l0 = some r) :
 Calls Try.prog 179 #[.slice A0 l0.length c0] w fun e w' => ∃ v0_ : Value, e = .returned (v0_) ∧ Kd.V (Kd.int .u32) 48 w' w.heap.size (fun k_ => (P0_ k_ ∨ w.heap.size ≤ k_)) v0_ r ∧ Below w.heap.size w w' := by
 have aC := am (show Kd.V (Kd.int .u32) 48 w w.heap.size (fun k_ => (P0_ k_ ∨ w.heap.size ≤ k_)) (.slice A0 l0.length c0) l0 from Kd.V_mono hs0 (fun k_ hk => .inl hk))
 have HB := am (Below.refl w.heap.size w)
 have H : (nat_short.l0 k l0 (l0.length : Int)) = some r := h
 clear h
 have H' := am H
 clear H
 go_enter Try.func179, Try.ntmps179
 go_wp2
 go_loopg [3] k (fun kq v3 w' => ∃ (aa : Int), v3 = .int .i64 aa ∧ Aside0 (nat_short.l0 kq l0 aa = some r) ∧ Aside0 (kq ≤ k) ∧ Aside0 (Kd.V (Kd.int .u32) 48 w' w.heap.size (fun k_ => (P0_ k_ ∨ w.heap.size ≤ k_)) (.slice A0 l0.length c0) l0) ∧ Aside0 (Below w.heap.size w w'))
 case atStart => exact ⟨((l0.length : Int)), (by first | rfl | (simp; done) | (simp [*]; done)), H', ⟨Nat.le_refl _⟩, ⟨by (with_reducible repeat (first | apply Kd.V_alloc | apply Kd.V_drewN | apply Kd.V_drew)); exact aC.out⟩, ⟨by repeat (first | (with_reducible first | exact HB.out | apply below_alloc | apply pw_below_drewN | apply below_drew1) | exact HB.out)⟩⟩
 case round =>
  clear H'
  try clear c1
  obtain ⟨aa, rfl, HA, HK1, ad, HB⟩ := hrel
  cases gk with
  | zero => exact absurd HA.out (by simp [nat_short.l0])
  | succ k1 =>
   have H := HA.out
   clear HA
   simp only [nat_short.l0] at H
   by_cases c2 : aa > 0
   ·
    rw [if_pos c2] at H
    have ap : decide (0 < aa) = true := decide_eq_true c2
    clear c2
    obtain ⟨ji3, hji3⟩ : ∃ j_ : Int, (wrap64 (aa - 1)) = j_ := ⟨_, rfl⟩
    replace H : (if 0 ≤ (ji3) then (if (ji3) < (l0.length : Int) then (if (rd l0 (ji3)) = 0 then (nat_short.l0 k1 l0 ji3) else (if 0 ≤ aa then (if aa ≤ (l0.length : Int) then (some (l0.take (aa : Int).toNat)) else (none)) else (none))) else (none)) else (none)) = some r := by first | (rw [hji3] at H; exact H) | (simp only [hji3] at H ⊢; exact H)
    have hji3w : (IntKind.i64.wrap (aa - 1)) = ji3 := (i64_w _).trans hji3
    by_cases c4 : 0 ≤ (ji3)
    ·
     rw [if_pos c4] at H
     have aD : decide (0 ≤ (ji3)) = true := decide_eq_true c4
     clear c4
     by_cases c5 : (ji3) < (l0.length : Int)
     ·
      rw [if_pos c5] at H
      have aE : decide ((ji3) < (l0.length : Int)) = true := decide_eq_true c5
      clear c5
      by_cases c6 : (rd l0 (ji3)) = 0
      ·
       rw [if_pos c6] at H
       have aq : ((rd l0 (ji3)) == 0) = true := beq_iff_eq.mpr c6
       have au : ((rd l0 (ji3)) != 0) = false := bne_eq_false_iff_eq.mpr c6
       clear c6
       have H' := am H
       clear H
       have p252 : 0 ≤ ((ji3) : Int) := of_decide_eq_true (by first | (with_reducible assumption) | assumption)
       have q252 : (ji3) < (l0.length : Int) := of_decide_eq_true (by first | (with_reducible assumption) | assumption)
       obtain ⟨ad252, e252, ag⟩ := Kd.at_int (Kd.V_reads' ad.out).2.2 (ji3) p252 q252
       cases e252
       replace p252 := eq_true p252
       replace q252 := eq_true q252
       go_wp2
       go_roundg k1
       case measure => have := HK1.out; omega
       case rel => exact ⟨(ji3), (by first | rfl | (simp; done) | (simp only [← hji3] <;> (first | rfl | simp)) | (simp [*]; done)), H', ⟨by have := HK1.out; omega⟩, ⟨by (with_reducible repeat (first | apply Kd.V_alloc | apply Kd.V_drewN | apply Kd.V_drew)); exact ad.out⟩, ⟨by repeat (first | (with_reducible first | exact HB.out | apply below_alloc | apply pw_below_drewN | apply below_drew1) | exact HB.out)⟩⟩
      ·
       rw [if_neg c6] at H
       have aq : ((rd l0 (ji3)) == 0) = false := beq_eq_false_iff_ne.mpr c6
       have au : ((rd l0 (ji3)) != 0) = true := bne_iff_ne.mpr c6
       by_cases c7 : 0 ≤ aa
       ·
        rw [if_pos c7] at H
        have aF := eq_true c7
        have aG : decide (0 ≤ aa) = true := decide_eq_true c7
        clear c7
        by_cases c8 : aa ≤ (l0.length : Int)
        ·
         rw [if_pos c8] at H
         have aH := eq_true c8
         have aI : decide (aa ≤ (l0.length : Int)) = true := decide_eq_true c8
         clear c8
         obtain ⟨ae, ab⟩ : ∃ y_ : List Int, y_ = (l0.take (aa : Int).toNat) := ⟨_, rfl⟩
         replace H : (some ae) = some r := by first | (rw [ab]; with_reducible exact H) | (have H2_ := (Option.bind_some _ _).symm.trans H; rw [ab]; with_reducible exact H2_) | (have H2_ := (Option.bind_some _ _).symm.trans H; with_reducible exact H2_) | with_reducible exact H | (rw [ab]; exact H) | exact H
         have ah := am ab
         clear ab
         obtain rfl := Option.some.inj H
         have p252 : 0 ≤ ((ji3) : Int) := of_decide_eq_true (by first | (with_reducible assumption) | assumption)
         have q252 : (ji3) < (l0.length : Int) := of_decide_eq_true (by first | (with_reducible assumption) | assumption)
         obtain ⟨ad252, e252, ag⟩ := Kd.at_int (Kd.V_reads' ad.out).2.2 (ji3) p252 q252
         cases e252
         replace p252 := eq_true p252
         replace q252 := eq_true q252
         have q9 : (aa : Int) ≤ ((l0.length : Int) : Int) := of_decide_eq_true (by first | (with_reducible assumption) | assumption)
         obtain ⟨i09, hi09, _, hsz9, _⟩ := info_parts info48
         have hroom9 : l0.length ≤ c0 := (Kd.V_reads' ad.out).2.1
         have hC9 : Kd.F (Kd.int .u32) _ _ (some ad252) l0.length l0 := (Kd.V_at (base := w.heap.size) ad.out).2.2
         have hcut9 := cut_cap (P := Try.prog) 42 48 .i64 Try.underlying42 hi09 (some ad252) l0.length c0 aa (of_decide_eq_true (by first | (with_reducible assumption) | assumption)) q9 hroom9
         have hr9 := Kd.F_take (m := (aa : Int).toNat) hC9 (by omega)
         have av : ae.length = (aa : Int).toNat := (by rw [ah.out, List.length_take]; omega)
         rw [← ah.out] at hr9
         rw [← av] at hcut9
         have ak := am (show Kd.V (Kd.int .u32) 48 _ w.heap.size _ (.slice (some ad252) ae.length ae.length) ae from Kd.V_mk (by omega) hr9)
         have aw := am (show ae.length ≤ ae.length from by omega)
         clear hr9 hC9 hroom9 hi09 hsz9
         have KY9 := am av
         clear av
         replace q9 := eq_true q9
         go_wp2
         go_ret
         exact ⟨_, by first | rfl | (simp [errW_none, errW_some] <;> rfl) | (simp only [← hji3]; first | rfl | (simp [errW_none, errW_some] <;> rfl)) | (simp [*, errW_none, errW_some] <;> rfl), by (with_reducible repeat (first | apply Kd.V_alloc | apply Kd.V_drewN | apply Kd.V_drew)); exact ak.out, by repeat (first | (with_reducible first | exact HB.out | apply below_alloc | apply pw_below_drewN | apply below_drew1) | exact HB.out)⟩
        ·
         rw [if_neg c8] at H
         exact absurd H (by simp)
       ·
        rw [if_neg c7] at H
        exact absurd H (by simp)
     ·
      rw [if_neg c5] at H
      exact absurd H (by simp)
    ·
     rw [if_neg c4] at H
     exact absurd H (by simp)
   ·
    rw [if_neg c2] at H
    have ap : decide (0 < aa) = false := decide_eq_false c2
    clear c2
    by_cases al : 0 ≤ aa
    ·
     rw [if_pos al] at H
     have ax := eq_true al
     have ay : decide (0 ≤ aa) = true := decide_eq_true al
     clear al
     by_cases an : aa ≤ (l0.length : Int)
     ·
      rw [if_pos an] at H
      have az := eq_true an
      have aA : decide (aa ≤ (l0.length : Int)) = true := decide_eq_true an
      clear an
      obtain ⟨af, ac⟩ : ∃ y_ : List Int, y_ = (l0.take (aa : Int).toNat) := ⟨_, rfl⟩
      replace H : (some af) = some r := by first | (rw [ac]; with_reducible exact H) | (have H2_ := (Option.bind_some _ _).symm.trans H; rw [ac]; with_reducible exact H2_) | (have H2_ := (Option.bind_some _ _).symm.trans H; with_reducible exact H2_) | with_reducible exact H | (rw [ac]; exact H) | exact H
      have ai := am ac
      clear ac
      obtain rfl := Option.some.inj H
      have q12 : (aa : Int) ≤ ((l0.length : Int) : Int) := of_decide_eq_true (by first | (with_reducible assumption) | assumption)
      obtain ⟨i012, hi012, _, hsz12, _⟩ := info_parts info48
      have hroom12 : l0.length ≤ c0 := (Kd.V_reads' ad.out).2.1
      have hC12 : Kd.F (Kd.int .u32) _ _ A0 l0.length l0 := (Kd.V_at (base := w.heap.size) ad.out).2.2
      have hcut12 := cut_cap (P := Try.prog) 42 48 .i64 Try.underlying42 hi012 A0 l0.length c0 aa (of_decide_eq_true (by first | (with_reducible assumption) | assumption)) q12 hroom12
      have hr12 := Kd.F_take (m := (aa : Int).toNat) hC12 (by omega)
      have aj : af.length = (aa : Int).toNat := (by rw [ai.out, List.length_take]; omega)
      rw [← ai.out] at hr12
      rw [← aj] at hcut12
      have ao := am (show Kd.V (Kd.int .u32) 48 _ w.heap.size _ (.slice A0 af.length af.length) af from Kd.V_mk (by omega) hr12)
      have aB := am (show af.length ≤ af.length from by omega)
      clear hr12 hC12 hroom12 hi012 hsz12
      have KY12 := am aj
      clear aj
      replace q12 := eq_true q12
      go_wp2
      go_ret
      exact ⟨_, by first | rfl | (simp [errW_none, errW_some] <;> rfl) | (simp [*, errW_none, errW_some] <;> rfl), by (with_reducible repeat (first | apply Kd.V_alloc | apply Kd.V_drewN | apply Kd.V_drew)); exact ao.out, by repeat (first | (with_reducible first | exact HB.out | apply below_alloc | apply pw_below_drewN | apply below_drew1) | exact HB.out)⟩
     ·
      rw [if_neg an] at H
      exact absurd H (by simp)
    ·
     rw [if_neg al] at H
     exact absurd H (by simp)
def nat_Trim.f (k : Nat) (l0 : List Int) : Option (List Int) := (nat_short.f k l0).bind fun t263 => (if ([] : List Int).length + t263.length < 35184372088832 then (some (([] : List Int) ++ t263)) else (none))
theorem nat_Trim.calls (k : Nat) (A0 : Option Addr) (c0 : Nat) (l0 : List Int) (r : List Int) (w : World) (hr0 : Kd.C (Kd.int .u32) w A0 l0.length l0) (hc0 : l0.length ≤ c0) (h : nat_Trim.f k l0 = some r) :
 Calls Try.prog 177 #[.slice A0 l0.length c0] w fun e w' => ∃ v0_ : Value, e = .returned (v0_) ∧ Kd.R (Kd.int .u32) 48 w' w.heap.size (fun _ => True) v0_ r ∧ Below w.heap.size w w' := by
 have ah := am hr0
 have ai := am hc0
 clear hr0 hc0
 have HB := am (Below.refl w.heap.size w)
 have H : ((nat_short.f k l0).bind fun ab => (if ([] : List Int).length + ab.length < 35184372088832 then (some (([] : List Int) ++ ab)) else (none))) = some r := h
 clear h
 obtain ⟨ab, A2, H⟩ := bs H
 (try dsimp -simprocs only at H)
 by_cases c3 : ([] : List Int).length + ab.length < 35184372088832
 ·
  rw [if_pos c3] at H
  have LMc3 := am c3
  clear c3
  obtain ⟨af, aa⟩ : ∃ y_ : List Int, y_ = (([] : List Int) ++ ab) := ⟨_, rfl⟩
  replace H : (some af) = some r := by first | (rw [aa]; with_reducible exact H) | (have H2_ := (Option.bind_some _ _).symm.trans H; rw [aa]; with_reducible exact H2_) | (have H2_ := (Option.bind_some _ _).symm.trans H; with_reducible exact H2_) | with_reducible exact H | (rw [aa]; exact H) | exact H
  have ad := am aa
  clear aa
  obtain rfl := Option.some.inj H
  go_enter Try.func177, Try.ntmps177
  go_wp2_with (first | ((with_reducible refine gate_callee (f := 179) rfl ?_); refine goesL_ (some 4) rfl rfl Try.func179 (by kernel_rfl) rfl #[.slice A0 l0.length c0] rfl lu ?_; (with_reducible refine (nat_short.calls k (fun k_ => k_ < w.heap.size) _ _ l0 ab _ ?side1 A2.out).mono ?_); (case side1 => exact Kd.V_mk ai.out (Kd.F_below (Kd.C_F (Kd.heap_int .u32) ah.out) (bu HB.out))); rintro e w4 ⟨aj, rfl, ag, hb⟩; refine ⟨_, rfl, ?_⟩; have ac := am (Kd.V_lower (Kd.V_mono (ok' := fun k_ => True) ag (fun k_ hk_ => trivial)) (below_size (bu HB.out))); replace HB := be HB hb; (try clear hb); (try clear ag); obtain ⟨an, ao, ak⟩ := Kd.V_slice ac.out; subst ak) | ((with_reducible refine gate_builtin (b := .append) (xs := #[.const (.slice none 0 0), .tmp 4]) rfl ?_); at_builtin; refine Kd.R_append_rows (Kd.int .u32) (w0 := w) w.heap.size rfl (.const (.slice none 0 0)) (.tmp 4) 42 48 (.int .u32 0) 4 rfl Try.underlying42 info48 rfl (by decide) (by omega) (.slice none 0 0) ([] : List Int) ab _ _ _ (fun _ => True) (fun _ => False) rfl rfl ?aO ?aR (fun _ _ h => h) (fun _ h => h.elim) ?aF ?aB ?aS ?aL ?_; (case aR => exact cu (Kd.V_reads' ac.out).2.2); (case aB => exact (bu HB.out)); (case aF => exact (fun _ _ => trivial)); (case aO => exact ((Kd.R_nil _ _ _ _ (fun _ => True)))); (case aS => exact (below_size (bu HB.out))); (case aL => have := LMc3.out; omega); intro al w5 ho hb hg hat; rw [← ad.out] at ho; replace ac := am (Kd.V_afterv (Kd.V_apart_nil (vu ac.out)) hg hat); replace HB := am (hb); have ae := am (ho); clear ho hb hg hat))
  go_ret
  exact ⟨_, by first | rfl | (simp [errW_none, errW_some] <;> rfl) | (simp [*, errW_none, errW_some] <;> rfl), by (with_reducible repeat (first | apply Kd.R_alloc | apply Kd.R_drewN | apply Kd.R_drew)); exact ae.out, by repeat (first | (with_reducible first | exact HB.out | apply below_alloc | apply pw_below_drewN | apply below_drew1) | exact HB.out)⟩
 ·
  rw [if_neg c3] at H
  exact absurd H (by simp)
def nat_Of.f (k : Nat) (a0 : Int) : Option (List Int) := (nat_Trim.f k (([(a0) % 4294967296, (a0 / 4294967296) % 4294967296] : List Int))).bind fun t272 => (some t272)
theorem nat_Of.calls (k : Nat) (a0 : Int) (r : List Int) (w : World) (h : nat_Of.f k a0 = some r) :
 Calls Try.prog 141 #[.int .u64 a0] w fun e w' => ∃ v0_ : Value, e = .returned (v0_) ∧ Kd.R (Kd.int .u32) 48 w' w.heap.size (fun _ => True) v0_ r ∧ Below w.heap.size w w' := by
 have HB := am (Below.refl w.heap.size w)
 have H : ((nat_Trim.f k (([(a0) % 4294967296, (a0 / 4294967296) % 4294967296] : List Int))).bind fun ac => (some ac)) = some r := h
 clear h
 obtain ⟨ae, ab⟩ : ∃ y_ : List Int, y_ = (([(a0) % 4294967296, (a0 / 4294967296) % 4294967296] : List Int)) := ⟨_, rfl⟩
 rw [← ab] at H
 have ad := am ab
 clear ab
 obtain ⟨ac, A2, H⟩ := bs H
 replace H : (some ac) = some r := H
 obtain rfl := Option.some.inj H
 go_enter Try.func141, Try.ntmps141
 go_wp2_with (first | ((with_reducible refine gate_dst (N := 8) rfl ?_); refine Kd.R_lit (Kd.int .u32) _ 48 ?hg (N := 8) ?hd (xs := ([(a0) % 4294967296, (a0 / 4294967296) % 4294967296] : List Int)) (inner := [.int .u32 ((a0) % 4294967296), .int .u32 ((a0 / 4294967296) % 4294967296)]) (ok := fun _ => True) (okp := fun _ => True) ?hr ?hp (fun _ hk => hk) trivial (Below.refl _ _) (Nat.le_refl _) (by simp) ?_; (case hd => rfl); (case hg => rfl); (case hr => first | (go_simp; done) | (go_simp; rfl)); (case hp => exact (Reps.one (show Kd.M (Kd.int .u32) _ _ _ ((a0) % 4294967296) [.int .u32 ((a0) % 4294967296)] from rfl) (Reps.one (show Kd.M (Kd.int .u32) _ _ _ ((a0 / 4294967296) % 4294967296) [.int .u32 ((a0 / 4294967296) % 4294967296)] from rfl) (Reps.none _ _)))); intro ai w3 af hb hg_ hnew_; clear hg_ hnew_; (first | rw [← ad.out] at af | (simp only [Int.reduceToNat] at af; rw [← ad.out] at af)); have aa := am (Kd.R_lower af (below_size (bu HB.out))); replace HB := be HB hb; clear hb af; obtain ⟨aj, ak, al⟩ := Kd.R_slice aa.out; subst al) | ((with_reducible refine gate_callee (f := 177) rfl ?_); refine goesL_ (some 9) rfl rfl Try.func177 (by kernel_rfl) rfl #[.slice aj ae.length ak] rfl lu ?_; (with_reducible refine (nat_Trim.calls k _ _ ae ac _ ?side1 ?side2 A2.out).mono ?_); (case side1 => exact cu (Kd.R_reads' aa.out).2.2); (case side2 => exact (Kd.R_reads' aa.out).2.1); rintro e w6 ⟨an, rfl, ah, hb⟩; refine ⟨_, rfl, ?_⟩; have ag := am (Kd.R_lower (Kd.R_new' ah (Kd.R_lt (by (with_reducible repeat (first | apply Kd.R_alloc | apply Kd.R_drewN | apply Kd.R_drew)); exact aa.out))) (below_size (bu HB.out))); replace aa := am (Kd.R_elder' (by (with_reducible repeat (first | apply Kd.R_alloc | apply Kd.R_drewN | apply Kd.R_drew)); exact aa.out) (Kd.R_base ah) hb); replace HB := be HB hb; (try clear hb); (try clear hk); (try clear ah)))
 go_ret
 exact ⟨_, by first | rfl | (simp [errW_none, errW_some] <;> rfl) | (simp [*, errW_none, errW_some] <;> rfl), by (with_reducible repeat (first | apply Kd.R_alloc | apply Kd.R_drewN | apply Kd.R_drew)); exact Kd.R_mono ag.out (fun _ hk => trivial), by repeat (first | (with_reducible first | exact HB.out | apply below_alloc | apply pw_below_drewN | apply below_drew1) | exact HB.out)⟩
def semiring_Leasts_One.f (k : Nat)  : Option (Int × List Int) := (nat_Of.f k 1).bind fun t498 => (some (0, t498))
theorem semiring_Leasts_One.calls (k : Nat)  (r1 : Int) (r2 : List Int) (w : World) (h : semiring_Leasts_One.f k  = some (r1, r2)) :
 Calls Try.prog 63 #[.agg #[]] w fun e w' => ∃ v1_ : Value, e = .returned (.agg #[.int .i64 r1, v1_]) ∧ Kd.R (Kd.int .u32) 48 w' w.heap.size (fun _ => True) v1_ r2 ∧ Below w.heap.size w w' := by
 have ax := Try.underlying54
 have ay := Try.underlying53
 have HB := am (Below.refl w.heap.size w)
 have H : ((nat_Of.f k 1).bind fun ae => (some (0, ae))) = some (r1, r2) := h
 clear h
 obtain ⟨ae, A2, H⟩ := bs H
 replace H : (some (0, ae)) = some (r1, r2) := H
 simp only [Option.some.injEq, Prod.mk.injEq] at H
 obtain ⟨rfl, rfl⟩ := H
 go_enter Try.func63, Try.ntmps63
 go_wp2_with (first | ((with_reducible refine gate_dst (N := 1) rfl ?_); refine box_event ?hg (N := 1) ?hd (cs := #[]) (t := 54) ?hr ?_; (case hd => rfl); (case hg => rfl); (case hr => first | (go_simp; done) | (go_simp; rfl)); intro ao hg w3 hbox hb; have ab := am (hbox); have ap := ng hg (bu HB.out); have ac := ng hg (bu HB.out); replace HB := be HB hb; clear hb hbox hg) | ((with_reducible refine gate_dst (N := 2) rfl ?_); refine box_event ?hg (N := 2) ?hd (cs := #[.int .i64 0, .slice none 0 0]) (t := 53) ?hr ?_; (case hd => rfl); (case hg => rfl); (case hr => first | (go_simp; done) | (go_simp; rfl)); intro ad hg w4 hbox hb; have aa := am (hbox); have aq := ng hg (bu1 HB.out ac.out); have ah := ng hg (bu1 HB.out ac.out); replace HB := be1 HB ac hb; have af := nl hg ab; have ag := nr hg ab; replace ab := kb ab hb; clear hb hbox hg) | ((with_reducible refine gate_callee (f := 141) rfl ?_); refine goesL_ (some 3) rfl rfl Try.func141 (by kernel_rfl) rfl #[.int .u64 1] rfl lu ?_; (with_reducible refine (nat_Of.calls k 1 ae _ A2.out).mono ?_); rintro e w5 ⟨az, rfl, au, hb⟩; refine ⟨_, rfl, ?_⟩; have ai := am (Kd.R_lower au (below_size (bu2 HB.out ac.out ah.out))); replace ab := kb ab hb; replace aa := kb aa hb; replace HB := be2 HB ac ah hb; (try clear hb); (try clear au); obtain ⟨av, aw, aA⟩ := Kd.R_slice ai.out; subst aA; have aB := ag.out; have aC := af.out; have aj : w5.cell? ⟨ad, 0, none⟩ = some (.int .i64 0) := bc aa 0; have ak : w5.cell? ⟨ad, 1, none⟩ = some (.slice none 0 0) := bc aa 1; have al := blk_frozen aa.out 0; have an := blk_frozen aa.out 1))
 refine bodyPost_ret (results_cell_row rfl _ _ ad 53 #[.int .i64 0, .slice av ae.length aw] (0, 0) _ rfl (by (with_reducible repeat (first | refine blk_drewN ?_ _ | refine blk_drew ?_ | refine blk_alloc ?_ _)); refine blk_put (cs := #[.int .i64 0, .slice none 0 0]) ?_ 1 _ rfl; (with_reducible repeat (first | refine blk_drewN ?_ _ | refine blk_drew ?_ | refine blk_alloc ?_ _)); refine blk_put (cs := #[.int .i64 0, .slice none 0 0]) ?_ 0 _ rfl; (with_reducible repeat (first | refine blk_drewN ?_ _ | refine blk_drew ?_ | refine blk_alloc ?_ _)); exact aa.out) Try.underlying53 rfl (by kernel_rfl)) rfl ?_
 exact ⟨_, by first | rfl | (simp [errW_none, errW_some] <;> rfl) | (simp [*, errW_none, errW_some] <;> rfl), by (with_reducible repeat (first | apply Kd.R_alloc | apply Kd.R_drewN | apply Kd.R_drew)); exact Kd.R_mono (Kd.R_far (p := ⟨ad, 1, none⟩) (Kd.R_far (p := ⟨ad, 0, none⟩) (Kd.R_types ai.out aa.out (by decide)) (fun _ hk => hk.2) (.int .i64 0)) (fun _ hk => hk.2) (.slice av ae.length aw)) (fun _ hk => trivial), by repeat (first | (with_reducible first | exact HB.out | apply below_alloc | apply pw_below_drewN | apply below_drew1 | refine below_set ?_ ac.out | refine below_set ?_ ah.out) | exact HB.out)⟩
mutual
def nat_plus.j0 : Nat → List Int → List Int → Option (List Int)
 | 0, _, _ => none
 | k + 1, x0, x1 => if 0 ≤ (wrap64 ((x0.length : Int) + 1)) then (if (wrap64 ((x0.length : Int) + 1) : Int).toNat ≤ 70368744177664 then (nat_plus.l0 k x0 x1 (List.replicate (wrap64 ((x0.length : Int) + 1) : Int).toNat 0) 0 (x0.length : Int) 0) else (none)) else (none)
def nat_plus.l0 : Nat → List Int → List Int → List Int → Int → Int → Int → Option (List Int)
 | 0, _, _, _, _, _, _ => none
 | k + 1, x0, x1, x5, x6, x21, x22 => if x22 < x21 then (if 0 ≤ x22 then (if x22 < (x0.length : Int) then (if x22 < (x1.length : Int) then (if x22 < (x5.length : Int) then (nat_plus.l0 k x0 x1 (x5.set (x22 : Int).toNat ((IntKind.u64.wrap ((IntKind.u64.wrap ((IntKind.u64.wrap (rd x0 x22)) + x6)) + (IntKind.u64.wrap (rd x1 x22)))) % 4294967296)) ((IntKind.u64.wrap ((IntKind.u64.wrap ((IntKind.u64.wrap (rd x0 x22)) + x6)) + (IntKind.u64.wrap (rd x1 x22)))) / 4294967296) x21 (wrap64 (x22 + 1))) else (none)) else (if x22 < (x5.length : Int) then (nat_plus.l0 k x0 x1 (x5.set (x22 : Int).toNat ((IntKind.u64.wrap ((IntKind.u64.wrap (rd x0 x22)) + x6)) % 4294967296)) ((IntKind.u64.wrap ((IntKind.u64.wrap (rd x0 x22)) + x6)) / 4294967296) x21 (wrap64 (x22 + 1))) else (none))) else (none)) else (none)) else (if 0 ≤ (x0.length : Int) then (if (x0.length : Int) < (x5.length : Int) then ((nat_short.f k (x5.set ((x0.length : Int) : Int).toNat ((x6) % 4294967296))).bind fun t291 => (some t291)) else (none)) else (none))
end
def nat_plus.f (k : Nat) (l0 : List Int) (l1 : List Int) : Option (List Int) := if (l0.length : Int) < (l1.length : Int) then (nat_plus.j0 k l1 l0) else (nat_plus.j0 k l0 l1)
theorem nat_plus.calls (k : Nat) (P0_ : Nat → Prop) (A0 : Option Addr) (c0 : Nat) (l0 : List Int) (P1_ : Nat → Prop) (A1 : Option Addr) (c1 : Nat) (l1 : List Int) (r : List Int) (w : World) (hs0 : Kd.V (Kd.int .u32) 48 w w.heap.size (fun k_ => P0_ k_) (.slice A0 l0.length c0) l0) (hs1 : Kd.V (Kd.int .u32) 48 w w.heap.size (fun k_ => P1_ k_) (.slice A1 l1.length c1) l1) (h : nat_plus.f k l0 l1 = some r) :
 Calls Try.prog 178 #[.slice A0 l0.length c0, .slice A1 l1.length c1] w fun e w' => ∃ v0_ : Value, e = .returned (v0_) ∧ Kd.V (Kd.int .u32) 48 w' w.heap.size (fun k_ => ((P0_ k_ ∨ P1_ k_) ∨ w.heap.size ≤ k_)) v0_ r ∧ Below w.heap.size w w' := by
 have bl := am (show Kd.V (Kd.int .u32) 48 w w.heap.size (fun k_ => ((P0_ k_ ∨ P1_ k_) ∨ w.heap.size ≤ k_)) (.slice A0 l0.length c0) l0 from Kd.V_mono hs0 (fun k_ hk => .inl (.inl hk)))
 have bm := am (show Kd.V (Kd.int .u32) 48 w w.heap.size (fun k_ => ((P0_ k_ ∨ P1_ k_) ∨ w.heap.size ≤ k_)) (.slice A1 l1.length c1) l1 from Kd.V_mono hs1 (fun k_ hk => .inl (.inr hk)))
 have HB := am (Below.refl w.heap.size w)
 have H : (if (l0.length : Int) < (l1.length : Int) then (nat_plus.j0 k l1 l0) else (nat_plus.j0 k l0 l1)) = some r := h
 clear h
 have a5 := am H
 clear H
 go_enter Try.func178, Try.ntmps178
 go_upto_if 13 with (fail)
 go_cut [0, 1] (fun v0 v1 wc => ∃ (kq : Nat) (ab : List Int) (ae : List Int), Aside0 (nat_plus.j0 kq ab ae = some r) ∧ Aside0 (kq ≤ k) ∧ Aside0 (Kd.V (Kd.int .u32) 48 wc w.heap.size (fun k_ => ((P0_ k_ ∨ P1_ k_) ∨ w.heap.size ≤ k_)) v0 ab) ∧ Aside0 (Kd.V (Kd.int .u32) 48 wc w.heap.size (fun k_ => ((P0_ k_ ∨ P1_ k_) ∨ w.heap.size ≤ k_)) v1 ae) ∧ Aside0 (Below w.heap.size w wc))
 case first =>
  have H := a5.out
  clear a5
  by_cases c4 : (l0.length : Int) < (l1.length : Int)
  ·
   rw [if_pos c4] at H
   have an : decide ((l0.length : Int) < (l1.length : Int)) = true := decide_eq_true c4
   have au : decide (l0.length < l1.length) = true := decide_eq_true (Int.ofNat_lt.mp c4)
   clear c4
   (first | rw [an] | rw [au] | (simp only [i64_w, i32_w]; rw [an]) | skip)
   have H' := am H
   clear H
   go_wp2
   go_meet
   case rel => exact ⟨_, (l1), (l0), H', ⟨by first | omega | exact Nat.le_refl _⟩, ⟨by (with_reducible repeat (first | apply Kd.V_alloc | apply Kd.V_drewN | apply Kd.V_drew)); exact bm.out⟩, ⟨by (with_reducible repeat (first | apply Kd.V_alloc | apply Kd.V_drewN | apply Kd.V_drew)); exact bl.out⟩, ⟨by repeat (first | (with_reducible first | exact HB.out | apply below_alloc | apply pw_below_drewN | apply below_drew1) | exact HB.out)⟩⟩
  ·
   rw [if_neg c4] at H
   have an : decide ((l0.length : Int) < (l1.length : Int)) = false := decide_eq_false c4
   have au : decide (l0.length < l1.length) = false := decide_eq_false (fun h => c4 (Int.ofNat_lt.mpr h))
   clear c4
   (first | rw [an] | rw [au] | (simp only [i64_w, i32_w]; rw [an]) | skip)
   have H' := am H
   clear H
   go_wp2
   go_meet
   case rel => exact ⟨_, (l0), (l1), H', ⟨by first | omega | exact Nat.le_refl _⟩, ⟨by (with_reducible repeat (first | apply Kd.V_alloc | apply Kd.V_drewN | apply Kd.V_drew)); exact bl.out⟩, ⟨by (with_reducible repeat (first | apply Kd.V_alloc | apply Kd.V_drewN | apply Kd.V_drew)); exact bm.out⟩, ⟨by repeat (first | (with_reducible first | exact HB.out | apply below_alloc | apply pw_below_drewN | apply below_drew1) | exact HB.out)⟩⟩
 case rest =>
  clear a5
  try clear c1
  try clear p2
  try clear c4
  try clear an
  try clear au
  obtain ⟨kq, ab, ae, HA, HJ2, af, ag, HB⟩ := hcut
  cases kq with
  | zero => exact absurd HA.out (by simp [nat_plus.j0])
  | succ kj2 =>
   have H := HA.out
   clear HA
   simp only [nat_plus.j0] at H
   obtain ⟨ji5, hji5⟩ : ∃ j_ : Int, (wrap64 ((ab.length : Int) + 1)) = j_ := ⟨_, rfl⟩
   replace H : (if 0 ≤ (ji5) then (if (ji5 : Int).toNat ≤ 70368744177664 then (nat_plus.l0 kj2 ab ae (List.replicate (ji5 : Int).toNat 0) 0 (ab.length : Int) 0) else (none)) else (none)) = some r := by first | (rw [hji5] at H; exact H) | (simp only [hji5] at H ⊢; exact H)
   have hji5w : (IntKind.i64.wrap ((ab.length : Int) + 1)) = ji5 := (i64_w _).trans hji5
   by_cases c6 : 0 ≤ (ji5)
   ·
    rw [if_pos c6] at H
    have a6 := eq_true c6
    have a7 : decide (0 ≤ (ji5)) = true := decide_eq_true c6
    clear c6
    by_cases c7 : (ji5 : Int).toNat ≤ 70368744177664
    ·
     rw [if_pos c7] at H
     have a8 := eq_true c7
     have a9 : decide ((ji5 : Int).toNat ≤ 70368744177664) = true := decide_eq_true c7
     clear c7
     obtain ⟨aK, ai⟩ : ∃ y_ : List Int, y_ = (List.replicate (ji5 : Int).toNat 0) := ⟨_, rfl⟩
     replace H : (nat_plus.l0 kj2 ab ae aK 0 (ab.length : Int) 0) = some r := by first | (rw [ai]; with_reducible exact H) | (have H2_ := (Option.bind_some _ _).symm.trans H; rw [ai]; with_reducible exact H2_) | (have H2_ := (Option.bind_some _ _).symm.trans H; with_reducible exact H2_) | with_reducible exact H | (rw [ai]; exact H) | exact H
     have az := am ai
     clear ai
     have H' := am H
     clear H
     obtain ⟨bA, bB, bC⟩ := Kd.V_slice af.out
     subst bC
     go_wp2_with (first | ((with_reducible refine gate_dst (N := 19) rfl ?_); refine Kd.R_make (Kd.int .u32) _ 48 rfl (N := 19) rfl 42 _ _ rfl ji5 rfl rfl Try.underlying42 (.int .u32 0) 4 info48 rfl (by decide) (by omega) 0 (ok := fun _ => True) (okp := fun _ => True) rfl (fun _ hk => hk) trivial (of_decide_eq_true (by first | (with_reducible assumption) | assumption)) (Nat.le_trans (Nat.mul_le_mul_right _ (of_decide_eq_true (by first | (with_reducible assumption) | assumption) : ji5.toNat ≤ 70368744177664)) (by omega)) (Below.refl _ _) (Nat.le_refl _) ?_; intro aA w9 ao hb hg_ hnew_; clear hg_ hnew_; (first | rw [← az.out] at ao | (simp only [Int.reduceToNat] at ao; rw [← az.out] at ao)); replace af := am (Kd.V_elder' (vu af.out) (Kd.R_base ao) hb); replace ag := am (Kd.V_elder' (vu ag.out) (Kd.R_base ao) hb); have aL := am (Kd.R_lower (Kd.R_newM (M := fun k_ => (w.heap.size ≤ k_)) ao (below_size (bu HB.out)) (fun k_ h_ => h_)) (below_size (bu HB.out))); replace HB := be HB hb; clear hb ao))
     go_loopg [6, 22] kj2 (fun kq v6 bD w' => ∃ (ac : List Int) (ah : Int) (aa : Int), v6 = .int .u64 ah ∧ bD = .int .i64 aa ∧ Aside0 (nat_plus.l0 kq ab ae ac ah (ab.length : Int) aa = some r) ∧ Aside0 (kq ≤ kj2) ∧ Aside0 (Kd.V (Kd.int .u32) 48 w' w.heap.size (fun k_ => ((P0_ k_ ∨ P1_ k_) ∨ w.heap.size ≤ k_) ∧ some k_ ≠ (aA : Value).ownBlock) (.slice bA ab.length bB) ab) ∧ Aside0 (Kd.V (Kd.int .u32) 48 w' w.heap.size (fun k_ => ((P0_ k_ ∨ P1_ k_) ∨ w.heap.size ≤ k_) ∧ some k_ ≠ (aA : Value).ownBlock) u1 ae) ∧ Aside0 (Kd.R (Kd.int .u32) 48 w' w.heap.size (fun k_ => (w.heap.size ≤ k_)) aA ac) ∧ Aside0 (Below w.heap.size w w'))
     case atStart => exact ⟨(aK), (0), (0), (by first | rfl | (simp; done) | (simp [*]; done)), (by first | rfl | (simp; done) | (simp [*]; done)), H', ⟨Nat.le_refl _⟩, ⟨by (with_reducible repeat (first | apply Kd.V_alloc | apply Kd.V_drewN | apply Kd.V_drew)); exact af.out⟩, ⟨by (with_reducible repeat (first | apply Kd.V_alloc | apply Kd.V_drewN | apply Kd.V_drew)); exact ag.out⟩, ⟨by (with_reducible repeat (first | apply Kd.R_alloc | apply Kd.R_drewN | apply Kd.R_drew)); exact Kd.R_mono aL.out (fun _ hk => hk.1)⟩, ⟨by repeat (first | (with_reducible first | exact HB.out | apply below_alloc | apply pw_below_drewN | apply below_drew1) | exact HB.out)⟩⟩
     case round =>
      clear H'
      try clear c1
      try clear p2
      try clear c4
      try clear an
      try clear au
      try clear c6
      try clear a6
      try clear a7
      try clear p6
      try clear c7
      try clear a8
      try clear a9
      try clear p2
      obtain ⟨ac, ah, aa, rfl, rfl, HA, HK2, af, ag, ad, HB⟩ := hrel
      cases gk with
      | zero => exact absurd HA.out (by simp [nat_plus.l0])
      | succ k2 =>
       have H := HA.out
       clear HA
       simp only [nat_plus.l0] at H
       by_cases aI : aa < (ab.length : Int)
       ·
        rw [if_pos aI] at H
        have aM : decide (aa < (ab.length : Int)) = true := decide_eq_true aI
        clear aI
        by_cases aZ : 0 ≤ aa
        ·
         rw [if_pos aZ] at H
         have bn : decide (0 ≤ aa) = true := decide_eq_true aZ
         clear aZ
         by_cases a0 : aa < (ab.length : Int)
         ·
          rw [if_pos a0] at H
          have bo : decide (aa < (ab.length : Int)) = true := decide_eq_true a0
          clear a0
          by_cases aJ : aa < (ae.length : Int)
          ·
           rw [if_pos aJ] at H
           have aN : decide (aa < (ae.length : Int)) = true := decide_eq_true aJ
           clear aJ
           by_cases a1 : aa < (ac.length : Int)
           ·
            rw [if_pos a1] at H
            have bp : decide (aa < (ac.length : Int)) = true := decide_eq_true a1
            clear a1
            obtain ⟨aB, aj⟩ : ∃ y_ : List Int, y_ = (ac.set (aa : Int).toNat ((IntKind.u64.wrap ((IntKind.u64.wrap ((IntKind.u64.wrap (rd ab aa)) + ah)) + (IntKind.u64.wrap (rd ae aa)))) % 4294967296)) := ⟨_, rfl⟩
            replace H : (nat_plus.l0 k2 ab ae aB ((IntKind.u64.wrap ((IntKind.u64.wrap ((IntKind.u64.wrap (rd ab aa)) + ah)) + (IntKind.u64.wrap (rd ae aa)))) / 4294967296) (ab.length : Int) (wrap64 (aa + 1))) = some r := by first | (rw [aj]; with_reducible exact H) | (have H2_ := (Option.bind_some _ _).symm.trans H; rw [aj]; with_reducible exact H2_) | (have H2_ := (Option.bind_some _ _).symm.trans H; with_reducible exact H2_) | with_reducible exact H | (rw [aj]; exact H) | exact H
            have aO := am aj
            clear aj
            have H' := am H
            clear H
            have p286 : 0 ≤ (aa : Int) := of_decide_eq_true (by first | (with_reducible assumption) | assumption)
            have q286 : aa < (ab.length : Int) := of_decide_eq_true (by first | (with_reducible assumption) | assumption)
            obtain ⟨ad286, e286, ax⟩ := Kd.at_int (Kd.V_reads' af.out).2.2 aa p286 q286
            cases e286
            replace p286 := eq_true p286
            replace q286 := eq_true q286
            obtain ⟨bE, bF, ba⟩ := Kd.V_slice ag.out
            subst ba
            have p287 : 0 ≤ (aa : Int) := of_decide_eq_true (by first | (with_reducible assumption) | assumption)
            have q287 : aa < (ae.length : Int) := of_decide_eq_true (by first | (with_reducible assumption) | assumption)
            obtain ⟨ad287, e287, a2⟩ := Kd.at_int (Kd.V_reads' ag.out).2.2 aa p287 q287
            cases e287
            replace p287 := eq_true p287
            replace q287 := eq_true q287
            have p16 : 0 ≤ (aa : Int) := of_decide_eq_true (by first | (with_reducible assumption) | assumption)
            have q16 : (aa : Int) < ((ac.length : Int) : Int) := of_decide_eq_true (by first | (with_reducible assumption) | assumption)
            obtain ⟨go16, av, aP, aQ, gl16, cl16, HG16⟩ := Kd.R_form ad.out (by omega)
            (first | cases aP | (injection aP with ea_ en_ ec_; (first | subst ea_ | (injection ea_ with ea_; subst ea_)); subst ec_; clear en_))
            have GB16 := am aQ
            have GG16 := am HG16
            clear aQ gl16 HG16
            obtain ⟨bb, bd⟩ := Kd.R_celln 0 ad.out (aa : Int) p16 q16
            replace p16 := eq_true p16
            replace q16 := eq_true q16
            have aC := Kd.R_putg ad.out (aa : Int) ((IntKind.u64.wrap ((IntKind.u64.wrap ((IntKind.u64.wrap (rd ab aa)) + ah)) + (IntKind.u64.wrap (rd ae aa)))) % 4294967296)
            go_wp2_with (first | ((with_reducible refine gate_store (t := 48) (p := 47) rfl ?_); refine store_event (t := 48) (p := 47) (v := ?vo_w19) (w1 := (wr.setCell ⟨go16, (aa : Int).toNat, none⟩ (.int .u32 ((IntKind.u64.wrap ((IntKind.u64.wrap ((IntKind.u64.wrap (rd ab aa)) + ah)) + (IntKind.u64.wrap (rd ae aa)))) % 4294967296)))) ?hg ?ho ?hn ?hr ?_; (case ho => rfl); (case hg => rfl); (case hn => rfl); (case hr => first | (go_simp; done) | (go_simp; rfl)); intro bf hw; have hg : wr.grownBy bf (some go16) := (by rw [hw]; exact aC.2); have hp_ : Kd.R (Kd.int .u32) 48 bf w.heap.size (fun k_ => (w.heap.size ≤ k_)) (.slice (some ⟨go16, 0, none⟩) ac.length av) aB := (by rw [hw, aO.out]; exact aC.1); clear aC; replace af := am (Kd.V_afterv (v := (.slice (some ⟨go16, 0, none⟩) ac.length av)) (v1 := (.slice (some ⟨go16, 0, none⟩) ac.length av)) (ok := (fun k_ => ((P0_ k_ ∨ P1_ k_) ∨ w.heap.size ≤ k_))) (vu af.out) hg (.inl rfl)); replace ag := am (Kd.V_afterv (v := (.slice (some ⟨go16, 0, none⟩) ac.length av)) (v1 := (.slice (some ⟨go16, 0, none⟩) ac.length av)) (ok := (fun k_ => ((P0_ k_ ∨ P1_ k_) ∨ w.heap.size ≤ k_))) (vu ag.out) hg (.inl rfl)); replace ad := am (hp_); replace HB := am ((by rw [hw]; exact below_set (HB.out) GB16.out : Below w.heap.size w bf)); clear hg hw hp_))
            go_roundg k2
            case measure => have := HJ2.out; have := HK2.out; omega
            case rel => exact ⟨(aB), ((IntKind.u64.wrap ((IntKind.u64.wrap ((IntKind.u64.wrap (rd ab aa)) + ah)) + (IntKind.u64.wrap (rd ae aa)))) / 4294967296), (wrap64 (aa + 1)), (by first | rfl | (simp; done) | (simp [*]; done)), (by first | rfl | (simp; done) | (simp [*]; done)), H', ⟨by have := HJ2.out; have := HK2.out; omega⟩, ⟨by (with_reducible repeat (first | apply Kd.V_alloc | apply Kd.V_drewN | apply Kd.V_drew)); exact af.out⟩, ⟨by (with_reducible repeat (first | apply Kd.V_alloc | apply Kd.V_drewN | apply Kd.V_drew)); exact ag.out⟩, ⟨by (with_reducible repeat (first | apply Kd.R_alloc | apply Kd.R_drewN | apply Kd.R_drew)); exact ad.out⟩, ⟨by repeat (first | (with_reducible first | exact HB.out | apply below_alloc | apply pw_below_drewN | apply below_drew1) | exact HB.out)⟩⟩
           ·
            rw [if_neg a1] at H
            exact absurd H (by simp)
          ·
           rw [if_neg aJ] at H
           have aN : decide (aa < (ae.length : Int)) = false := decide_eq_false aJ
           clear aJ
           by_cases a3 : aa < (ac.length : Int)
           ·
            rw [if_pos a3] at H
            have bq : decide (aa < (ac.length : Int)) = true := decide_eq_true a3
            clear a3
            obtain ⟨aD, ak⟩ : ∃ y_ : List Int, y_ = (ac.set (aa : Int).toNat ((IntKind.u64.wrap ((IntKind.u64.wrap (rd ab aa)) + ah)) % 4294967296)) := ⟨_, rfl⟩
            replace H : (nat_plus.l0 k2 ab ae aD ((IntKind.u64.wrap ((IntKind.u64.wrap (rd ab aa)) + ah)) / 4294967296) (ab.length : Int) (wrap64 (aa + 1))) = some r := by first | (rw [ak]; with_reducible exact H) | (have H2_ := (Option.bind_some _ _).symm.trans H; rw [ak]; with_reducible exact H2_) | (have H2_ := (Option.bind_some _ _).symm.trans H; with_reducible exact H2_) | with_reducible exact H | (rw [ak]; exact H) | exact H
            have aR := am ak
            clear ak
            have H' := am H
            clear H
            have p286 : 0 ≤ (aa : Int) := of_decide_eq_true (by first | (with_reducible assumption) | assumption)
            have q286 : aa < (ab.length : Int) := of_decide_eq_true (by first | (with_reducible assumption) | assumption)
            obtain ⟨ad286, e286, ax⟩ := Kd.at_int (Kd.V_reads' af.out).2.2 aa p286 q286
            cases e286
            replace p286 := eq_true p286
            replace q286 := eq_true q286
            obtain ⟨bG, bH, bg⟩ := Kd.V_slice ag.out
            subst bg
            have p21 : 0 ≤ (aa : Int) := of_decide_eq_true (by first | (with_reducible assumption) | assumption)
            have q21 : (aa : Int) < ((ac.length : Int) : Int) := of_decide_eq_true (by first | (with_reducible assumption) | assumption)
            obtain ⟨go21, aw, aS, aT, gl21, cl21, HG21⟩ := Kd.R_form ad.out (by omega)
            (first | cases aS | (injection aS with ea_ en_ ec_; (first | subst ea_ | (injection ea_ with ea_; subst ea_)); subst ec_; clear en_))
            have GB21 := am aT
            have GG21 := am HG21
            clear aT gl21 HG21
            obtain ⟨bh, bi⟩ := Kd.R_celln 0 ad.out (aa : Int) p21 q21
            replace p21 := eq_true p21
            replace q21 := eq_true q21
            have aE := Kd.R_putg ad.out (aa : Int) ((IntKind.u64.wrap ((IntKind.u64.wrap (rd ab aa)) + ah)) % 4294967296)
            go_wp2_with (first | ((with_reducible refine gate_store (t := 48) (p := 47) rfl ?_); refine store_event (t := 48) (p := 47) (v := ?vo_w24) (w1 := (wr.setCell ⟨go21, (aa : Int).toNat, none⟩ (.int .u32 ((IntKind.u64.wrap ((IntKind.u64.wrap (rd ab aa)) + ah)) % 4294967296)))) ?hg ?ho ?hn ?hr ?_; (case ho => rfl); (case hg => rfl); (case hn => rfl); (case hr => first | (go_simp; done) | (go_simp; rfl)); intro bj hw; have hg : wr.grownBy bj (some go21) := (by rw [hw]; exact aE.2); have hp_ : Kd.R (Kd.int .u32) 48 bj w.heap.size (fun k_ => (w.heap.size ≤ k_)) (.slice (some ⟨go21, 0, none⟩) ac.length aw) aD := (by rw [hw, aR.out]; exact aE.1); clear aE; replace af := am (Kd.V_afterv (v := (.slice (some ⟨go21, 0, none⟩) ac.length aw)) (v1 := (.slice (some ⟨go21, 0, none⟩) ac.length aw)) (ok := (fun k_ => ((P0_ k_ ∨ P1_ k_) ∨ w.heap.size ≤ k_))) (vu af.out) hg (.inl rfl)); replace ag := am (Kd.V_afterv (v := (.slice (some ⟨go21, 0, none⟩) ac.length aw)) (v1 := (.slice (some ⟨go21, 0, none⟩) ac.length aw)) (ok := (fun k_ => ((P0_ k_ ∨ P1_ k_) ∨ w.heap.size ≤ k_))) (vu ag.out) hg (.inl rfl)); replace ad := am (hp_); replace HB := am ((by rw [hw]; exact below_set (HB.out) GB21.out : Below w.heap.size w bj)); clear hg hw hp_))
            go_roundg k2
            case measure => have := HJ2.out; have := HK2.out; omega
            case rel => exact ⟨(aD), ((IntKind.u64.wrap ((IntKind.u64.wrap (rd ab aa)) + ah)) / 4294967296), (wrap64 (aa + 1)), (by first | rfl | (simp; done) | (simp [*]; done)), (by first | rfl | (simp; done) | (simp [*]; done)), H', ⟨by have := HJ2.out; have := HK2.out; omega⟩, ⟨by (with_reducible repeat (first | apply Kd.V_alloc | apply Kd.V_drewN | apply Kd.V_drew)); exact af.out⟩, ⟨by (with_reducible repeat (first | apply Kd.V_alloc | apply Kd.V_drewN | apply Kd.V_drew)); exact ag.out⟩, ⟨by (with_reducible repeat (first | apply Kd.R_alloc | apply Kd.R_drewN | apply Kd.R_drew)); exact ad.out⟩, ⟨by repeat (first | (with_reducible first | exact HB.out | apply below_alloc | apply pw_below_drewN | apply below_drew1) | exact HB.out)⟩⟩
           ·
            rw [if_neg a3] at H
            exact absurd H (by simp)
         ·
          rw [if_neg a0] at H
          exact absurd H (by simp)
        ·
         rw [if_neg aZ] at H
         exact absurd H (by simp)
       ·
        rw [if_neg aI] at H
        have aM : decide (aa < (ab.length : Int)) = false := decide_eq_false aI
        clear aI
        by_cases a4 : 0 ≤ (ab.length : Int)
        ·
         rw [if_pos a4] at H
         have br : decide (0 ≤ (ab.length : Int)) = true := decide_eq_true a4
         have bv : decide (0 ≤ ab.length) = true := decide_eq_true (by omega)
         clear a4
         by_cases aU : (ab.length : Int) < (ac.length : Int)
         ·
          rw [if_pos aU] at H
          have bw : decide ((ab.length : Int) < (ac.length : Int)) = true := decide_eq_true aU
          have bx : decide (ab.length < ac.length) = true := decide_eq_true (Int.ofNat_lt.mp aU)
          clear aU
          obtain ⟨aq, al⟩ : ∃ y_ : List Int, y_ = (ac.set ((ab.length : Int) : Int).toNat ((ah) % 4294967296)) := ⟨_, rfl⟩
          replace H : ((nat_short.f k2 aq).bind fun ay => (some ay)) = some r := by first | (rw [al]; with_reducible exact H) | (have H2_ := (Option.bind_some _ _).symm.trans H; rw [al]; with_reducible exact H2_) | (have H2_ := (Option.bind_some _ _).symm.trans H; with_reducible exact H2_) | with_reducible exact H | (rw [al]; exact H) | exact H
          have aV := am al
          clear al
          obtain ⟨ay, bI, H⟩ := bs H
          replace H : (some ay) = some r := H
          obtain rfl := Option.some.inj H
          have p27 : 0 ≤ ((ab.length : Int) : Int) := of_decide_eq_true (by first | (with_reducible assumption) | assumption)
          have q27 : ((ab.length : Int) : Int) < ((ac.length : Int) : Int) := of_decide_eq_true (by first | (with_reducible assumption) | assumption)
          obtain ⟨go27, ap, aW, aX, gl27, cl27, HG27⟩ := Kd.R_form ad.out (by omega)
          (first | cases aW | (injection aW with ea_ en_ ec_; (first | subst ea_ | (injection ea_ with ea_; subst ea_)); subst ec_; clear en_))
          have GB27 := am aX
          have GG27 := am HG27
          clear aX gl27 HG27
          obtain ⟨aF, aG⟩ := Kd.R_celln 0 ad.out ((ab.length : Int) : Int) p27 q27
          (try simp only [Go.IntWalk.toNatUp] at aF aG)
          replace p27 := eq_true p27
          replace q27 := eq_true q27
          have aH := Kd.R_putg ad.out ((ab.length : Int) : Int) ((ah) % 4294967296)
          go_wp2_with (first | ((with_reducible refine gate_store (t := 48) (p := 56) rfl ?_); refine store_event (t := 48) (p := 56) (v := ?vo_w30) (w1 := (wr.setCell ⟨go27, ((ab.length : Int) : Int).toNat, none⟩ (.int .u32 ((ah) % 4294967296)))) ?hg ?ho ?hn ?hr ?_; (case ho => rfl); (case hg => rfl); (case hn => rfl); (case hr => first | (go_simp; done) | (go_simp; rfl)); intro bk hw; have hg : wr.grownBy bk (some go27) := (by rw [hw]; exact aH.2); have hp_ : Kd.R (Kd.int .u32) 48 bk w.heap.size (fun k_ => (w.heap.size ≤ k_)) (.slice (some ⟨go27, 0, none⟩) ac.length ap) aq := (by rw [hw, aV.out]; exact aH.1); clear aH; replace af := am (Kd.V_afterv (v := (.slice (some ⟨go27, 0, none⟩) ac.length ap)) (v1 := (.slice (some ⟨go27, 0, none⟩) ac.length ap)) (ok := (fun k_ => ((P0_ k_ ∨ P1_ k_) ∨ w.heap.size ≤ k_))) (vu af.out) hg (.inl rfl)); replace ag := am (Kd.V_afterv (v := (.slice (some ⟨go27, 0, none⟩) ac.length ap)) (v1 := (.slice (some ⟨go27, 0, none⟩) ac.length ap)) (ok := (fun k_ => ((P0_ k_ ∨ P1_ k_) ∨ w.heap.size ≤ k_))) (vu ag.out) hg (.inl rfl)); replace ad := am (hp_); replace HB := am ((by rw [hw]; exact below_set (HB.out) GB27.out : Below w.heap.size w bk)); clear hg hw hp_) | ((with_reducible refine gate_callee (f := 179) rfl ?_); refine goesL_ (some 58) rfl rfl Try.func179 (by kernel_rfl) rfl #[.slice (some ⟨go27, 0, none⟩) aq.length ap] rfl (by (try simp only [List.map_toArray, List.map_cons, List.map_nil]); first | done | (rw [show aq.length = ac.length from (Kd.R_reads' ad.out).1.symm] <;> rfl) | rfl | (simp only [List.length_drop, List.length_take]; rfl)) ?_; (with_reducible refine (nat_short.calls k2 (fun k_ => some k_ = (.slice (some ⟨go27, 0, none⟩) ac.length ap : Value).ownBlock) _ _ aq ay _ ?side1 bI.out).mono ?_); (case side1 => rw [show aq.length = ac.length from (Kd.R_reads' ad.out).1.symm]; exact Kd.R_V (Kd.R_tight rfl (ad.out))); rintro e bK ⟨bJ, rfl, bz, hb⟩; refine ⟨_, rfl, ?_⟩; replace af := kv af hb; replace ag := kv ag hb; have aY := am (Kd.V_lower (Kd.V_mono (ok' := fun k_ => ((P0_ k_ ∨ P1_ k_) ∨ w.heap.size ≤ k_)) bz (fun k_ hk_ => Or.elim hk_ (fun hs_ => (.inr (((ad.out).1 k_ hs_.symm)))) (fun hn_ => (.inr (Nat.le_trans (below_size (bu HB.out)) hn_))))) (below_size (bu HB.out))); replace ad := am (Kd.R_below (by (with_reducible repeat (first | apply Kd.R_alloc | apply Kd.R_drewN | apply Kd.R_drew)); exact ad.out) hb); replace HB := be HB hb; (try clear hb); (try clear bz)))
          go_ret
          exact ⟨_, by first | rfl | (simp [errW_none, errW_some] <;> rfl) | (simp only [← hji5]; first | rfl | (simp [errW_none, errW_some] <;> rfl)) | (simp [*, errW_none, errW_some] <;> rfl), by (with_reducible repeat (first | apply Kd.V_alloc | apply Kd.V_drewN | apply Kd.V_drew)); exact aY.out, by repeat (first | (with_reducible first | exact HB.out | apply below_alloc | apply pw_below_drewN | apply below_drew1) | exact HB.out)⟩
         ·
          rw [if_neg aU] at H
          exact absurd H (by simp)
        ·
         rw [if_neg a4] at H
         exact absurd H (by simp)
    ·
     rw [if_neg c7] at H
     exact absurd H (by simp)
   ·
    rw [if_neg c6] at H
    exact absurd H (by simp)
def nat_Add.l0 : Nat → List Int → List (List Int) → Int → Int → Option (List Int)
 | 0, _, _, _, _ => none
 | k + 1, x3, x6, x7, x8 => if x8 < x7 then (if 0 ≤ x8 then (if x8 < (x6.length : Int) then ((nat_short.f k (rd_L4 x6 x8)).bind fun t295 => ((nat_plus.f k x3 t295).bind fun t298 => (nat_Add.l0 k t298 x6 x7 (wrap64 (x8 + 1))))) else (none)) else (none)) else ((nat_Trim.f k x3).bind fun t301 => (some t301))
def nat_Add.f (k : Nat) (l0 : List (List Int)) : Option (List Int) := nat_Add.l0 k ([] : List Int) l0 (l0.length : Int) 0
theorem nat_Add.calls (k : Nat) (A0 : Option Addr) (c0 : Nat) (l0 : List (List Int)) (r : List Int) (w : World) (hr0 : Kd.C (Kd.slice 48 (Kd.int .u32)) w A0 l0.length l0) (hc0 : l0.length ≤ c0) (h : nat_Add.f k l0 = some r) :
 Calls Try.prog 142 #[.slice A0 l0.length c0] w fun e w' => ∃ v0_ : Value, e = .returned (v0_) ∧ Kd.R (Kd.int .u32) 48 w' w.heap.size (fun _ => True) v0_ r ∧ Below w.heap.size w w' := by
 have ax := am hr0
 have aK := am hc0
 clear hr0 hc0
 have HB := am (Below.refl w.heap.size w)
 have H : (nat_Add.l0 k ([] : List Int) l0 (l0.length : Int) 0) = some r := h
 clear h
 have H' := am H
 clear H
 go_enter Try.func142, Try.ntmps142
 go_wp2
 go_loopg [3, 8] k (fun kq v3 v8 w' => ∃ (ad : List Int) (aa : Int), v8 = .int .i64 aa ∧ Aside0 (nat_Add.l0 kq ad l0 (l0.length : Int) aa = some r) ∧ Aside0 (kq ≤ k) ∧ Aside0 (Kd.V (Kd.int .u32) 48 w' w.heap.size (fun _ => True) v3 ad) ∧ Aside0 (Below w.heap.size w w'))
 case atStart => exact ⟨(([] : List Int)), (0), (by first | rfl | (simp; done) | (simp [*]; done)), H', ⟨Nat.le_refl _⟩, ⟨Kd.V_nil _ _ _ _ _⟩, ⟨by repeat (first | (with_reducible first | exact HB.out | apply below_alloc | apply pw_below_drewN | apply below_drew1) | exact HB.out)⟩⟩
 case round =>
  clear H'
  try clear c1
  obtain ⟨ad, aa, rfl, HA, HK1, ab, HB⟩ := hrel
  cases gk with
  | zero => exact absurd HA.out (by simp [nat_Add.l0])
  | succ k1 =>
   have H := HA.out
   clear HA
   simp only [nat_Add.l0] at H
   by_cases c2 : aa < (l0.length : Int)
   ·
    rw [if_pos c2] at H
    have aq : decide (aa < (l0.length : Int)) = true := decide_eq_true c2
    clear c2
    by_cases c3 : 0 ≤ aa
    ·
     rw [if_pos c3] at H
     have ay : decide (0 ≤ aa) = true := decide_eq_true c3
     clear c3
     by_cases c4 : aa < (l0.length : Int)
     ·
      rw [if_pos c4] at H
      have az : decide (aa < (l0.length : Int)) = true := decide_eq_true c4
      clear c4
      obtain ⟨ai, A5, H⟩ := bs H
      (try dsimp -simprocs only at H)
      obtain ⟨al, A6, H⟩ := bs H
      (try dsimp -simprocs only at H)
      have H' := am H
      clear H
      have p294 : 0 ≤ (aa : Int) := of_decide_eq_true (by first | (with_reducible assumption) | assumption)
      have q294 : aa < (l0.length : Int) := of_decide_eq_true (by first | (with_reducible assumption) | assumption)
      obtain ⟨ad294, aj, ak, e294, ac, hl294_0, hi294_0⟩ := at_L4 ax.out aa p294 q294
      cases e294
      replace ac := (HB.out.cell (World.block_lt_of_cell? w _ ac)).trans ac
      have af := am hi294_0
      have ag := am hl294_0
      clear hi294_0 hl294_0
      replace p294 := eq_true p294
      replace q294 := eq_true q294
      go_wp2_with (first | ((with_reducible refine gate_callee (f := 179) rfl ?_); refine goesL_ (some 14) rfl rfl Try.func179 (by kernel_rfl) rfl #[.slice aj (rd_L4 l0 aa).length ak] rfl lu ?_; (with_reducible refine (nat_short.calls k1 (fun k_ => k_ < w.heap.size) _ _ (rd_L4 l0 aa) ai _ ?side1 A5.out).mono ?_); (case side1 => exact Kd.V_mk ag.out (Kd.F_below (Kd.C_F (Kd.heap_int .u32) af.out) (bu HB.out))); rintro e w7 ⟨aA, rfl, ah, hb⟩; refine ⟨_, rfl, ?_⟩; replace ab := kv ab hb; have ae := am (Kd.V_lower (Kd.V_mono (ok' := fun k_ => True) ah (fun k_ hk_ => trivial)) (below_size (bu HB.out))); replace HB := be HB hb; (try clear hb); (try clear ah); obtain ⟨aB, aC, aD⟩ := Kd.V_slice ab.out; subst aD; obtain ⟨aE, aF, aG⟩ := Kd.V_slice ae.out; subst aG) | ((with_reducible refine gate_callee (f := 178) rfl ?_); refine goesL_ (some 15) rfl rfl Try.func178 (by kernel_rfl) rfl #[.slice aB ad.length aC, .slice aE ai.length aF] rfl lu ?_; (with_reducible refine (nat_plus.calls k1 (fun k_ => True) _ _ ad (fun k_ => True) _ _ ai al _ ?side1 ?side2 A6.out).mono ?_); (case side1 => exact vz ab.out); (case side2 => exact vz ae.out); rintro e aL ⟨aH, rfl, ah, hb⟩; refine ⟨_, rfl, ?_⟩; replace ab := kv ab hb; replace ae := kv ae hb; have an := am (Kd.V_lower (Kd.V_mono (ok' := fun k_ => True) ah (fun k_ hk_ => trivial)) (below_size (bu HB.out))); replace HB := be HB hb; (try clear hb); (try clear ah)))
      go_roundg k1
      case measure => have := HK1.out; omega
      case rel => exact ⟨(al), (wrap64 (aa + 1)), (by first | rfl | (simp; done) | (simp [*]; done)), H', ⟨by have := HK1.out; omega⟩, ⟨by (with_reducible repeat (first | apply Kd.V_alloc | apply Kd.V_drewN | apply Kd.V_drew)); exact an.out⟩, ⟨by repeat (first | (with_reducible first | exact HB.out | apply below_alloc | apply pw_below_drewN | apply below_drew1) | exact HB.out)⟩⟩
     ·
      rw [if_neg c4] at H
      exact absurd H (by simp)
    ·
     rw [if_neg c3] at H
     exact absurd H (by simp)
   ·
    rw [if_neg c2] at H
    have aq : decide (aa < (l0.length : Int)) = false := decide_eq_false c2
    clear c2
    obtain ⟨ao, aI, H⟩ := bs H
    replace H : (some ao) = some r := H
    obtain rfl := Option.some.inj H
    obtain ⟨au, av, aw⟩ := Kd.V_slice ab.out
    subst aw
    go_wp2_with (first | ((with_reducible refine gate_callee (f := 177) rfl ?_); refine goesL_ (some 18) rfl rfl Try.func177 (by kernel_rfl) rfl #[.slice au ad.length av] rfl lu ?_; (with_reducible refine (nat_Trim.calls k1 _ _ ad ao _ ?side1 ?side2 aI.out).mono ?_); (case side1 => exact cu (Kd.V_reads' ab.out).2.2); (case side2 => exact (Kd.V_reads' ab.out).2.1); rintro e aM ⟨aJ, rfl, ah, hb⟩; refine ⟨_, rfl, ?_⟩; replace ab := am (Kd.V_elder' (vu ab.out) (Kd.R_base ah) hb); have ap := am (Kd.R_lower ah (below_size (bu HB.out))); replace HB := be HB hb; (try clear hb); (try clear ah)))
    go_ret
    exact ⟨_, by first | rfl | (simp [errW_none, errW_some] <;> rfl) | (simp [*, errW_none, errW_some] <;> rfl), by (with_reducible repeat (first | apply Kd.R_alloc | apply Kd.R_drewN | apply Kd.R_drew)); exact ap.out, by repeat (first | (with_reducible first | exact HB.out | apply below_alloc | apply pw_below_drewN | apply below_drew1) | exact HB.out)⟩
def semiring_least.f (k : Nat) (a0_0 : Int) (l0_1 : List Int) : Option (Int × List Int) := (nat_Trim.f k l0_1).bind fun t503 => (if (t503.length : Int) = 0 then ((semiring_never.f).bind fun bt506 => (some (bt506.1, bt506.2))) else (if a0_0 ≥ 4611686018427387904 then ((semiring_never.f).bind fun bt510 => (some (bt510.1, bt510.2))) else (some (mx a0_0 0, t503))))
theorem semiring_least.calls (k : Nat) (a0_0 : Int) (A0_1 : Option Addr) (c0_1 : Nat) (l0_1 : List Int) (r1 : Int) (r2 : List Int) (w : World) (hr0_1 : Kd.C (Kd.int .u32) w A0_1 l0_1.length l0_1) (hc0_1 : l0_1.length ≤ c0_1) (h : semiring_least.f k a0_0 l0_1 = some (r1, r2)) :
 Calls Try.prog 148 #[.agg #[.int .i64 a0_0, .slice A0_1 l0_1.length c0_1]] w fun e w' => ∃ v1_ : Value, e = .returned (.agg #[.int .i64 r1, v1_]) ∧ Kd.V (Kd.int .u32) 48 w' w.heap.size (fun k_ => (w.heap.size ≤ k_)) v1_ r2 ∧ Below w.heap.size w w' := by
 have bD := Try.underlying53
 have an := am hr0_1
 have al := am hc0_1
 clear hr0_1 hc0_1
 have HB := am (Below.refl w.heap.size w)
 have H : ((nat_Trim.f k l0_1).bind fun aj => (if (aj.length : Int) = 0 then ((semiring_never.f).bind fun aq => (some (aq.1, aq.2))) else (if a0_0 ≥ 4611686018427387904 then ((semiring_never.f).bind fun au => (some (au.1, au.2))) else (some (mx a0_0 0, aj))))) = some (r1, r2) := h
 clear h
 obtain ⟨aj, A2, H⟩ := bs H
 (try dsimp -simprocs only at H)
 by_cases c3 : (aj.length : Int) = 0
 ·
  rw [if_pos c3] at H
  have a7 : ((aj.length : Int) == 0) = true := beq_iff_eq.mpr c3
  have a8 : ((aj.length : Int) != 0) = false := bne_eq_false_iff_eq.mpr c3
  clear c3
  obtain ⟨⟨ao, az⟩, A4, H⟩ := bs H
  replace H : (some (ao, az)) = some (r1, r2) := H
  simp only [Option.some.injEq, Prod.mk.injEq] at H
  obtain ⟨rfl, rfl⟩ := H
  go_enter Try.func148, Try.ntmps148
  go_wp2_with (first | ((with_reducible refine gate_dst (N := 1) rfl ?_); refine box_event ?hg (N := 1) ?hd (cs := #[.int .i64 a0_0, .slice A0_1 l0_1.length c0_1]) (t := 53) ?hr ?_; (case hd => rfl); (case hg => rfl); (case hr => first | (go_simp; done) | (go_simp; rfl)); intro ad hg w5 hbox hb; have aa := am (hbox); have av := ng hg (bu HB.out); have ac := ng hg (bu HB.out); replace HB := be HB hb; clear hb hbox hg) | ((with_reducible refine gate_dst (N := 2) rfl ?_); refine box_event ?hg (N := 2) ?hd (cs := #[.int .i64 0, .slice none 0 0]) (t := 53) ?hr ?_; (case hd => rfl); (case hg => rfl); (case hr => first | (go_simp; done) | (go_simp; rfl)); intro ae hg w6 hbox hb; have ab := am (hbox); have aw := ng hg (bu1 HB.out ac.out); have af := ng hg (bu1 HB.out ac.out); replace HB := be1 HB ac hb; have ag := nl hg aa; have ah := nr hg aa; replace aa := kb aa hb; clear hb hbox hg; have bE := ag.out; have bF := ah.out; have a9 : w6.cell? ⟨ad, 0, none⟩ = some (.int .i64 a0_0) := bc aa 0; have ba : w6.cell? ⟨ad, 1, none⟩ = some (.slice A0_1 l0_1.length c0_1) := bc aa 1; have bb := blk_frozen aa.out 0; have bd := blk_frozen aa.out 1) | ((with_reducible refine gate_callee (f := 177) rfl ?_); refine goesL_ (some 6) rfl rfl Try.func177 (by kernel_rfl) rfl #[.slice A0_1 l0_1.length c0_1] rfl lu ?_; (with_reducible refine (nat_Trim.calls k _ _ l0_1 aj _ ?side1 ?side2 A2.out).mono ?_); (case side1 => repeat (first | exact (Kd.C_below an.out HB.out) | (with_reducible refine Kd.C_alloc ?_ _) | (with_reducible refine Kd.C_drewN ?_ _) | (with_reducible refine Kd.C_drew ?_))); (case side2 => first | exact al.out | exact vz al.out); rintro e w9 ⟨aC, rfl, ak, hb⟩; refine ⟨_, rfl, ?_⟩; replace ak := R_V_base rfl ak; have ai := ar0 w.heap.size (ok' := fun k_ => (w.heap.size ≤ k_) ∧ k_ ≠ ad ∧ k_ ≠ ae) ak (fa (fz2 HB ac af) (fa (fb aa) (fb ab))); replace aa := kb aa hb; replace ab := kb ab hb; replace HB := be2 HB ac af hb; (try clear hb); (try clear ak); obtain ⟨bG, bH, bf⟩ := Kd.V_slice ai.out; subst bf) | ((with_reducible refine gate_callee (f := 147) rfl ?_); refine goesL_ (some 15) rfl rfl Try.func147 (by kernel_rfl) rfl #[] rfl lu ?_; (with_reducible refine (semiring_never.calls  ao az _ A4.out).mono ?_); rintro e bq ⟨bI, rfl, ak, hb⟩; refine ⟨_, rfl, ?_⟩; replace ak := R_V_base rfl ak; replace ai := kv ai hb; have ax := ar0 w.heap.size (ok' := fun k_ => (w.heap.size ≤ k_) ∧ k_ ≠ ad ∧ k_ ≠ ae) ak (fa (fz2 HB ac af) (fa (fb aa) (fb ab))); replace aa := kb aa hb; replace ab := kb ab hb; replace HB := be2 HB ac af hb; (try clear hb); (try clear ak); have aE : bq.cell? ⟨ae, 0, none⟩ = some (.int .i64 0) := bc ab 0; have aF : bq.cell? ⟨ae, 1, none⟩ = some (.slice none 0 0) := bc ab 1; have aG := blk_frozen ab.out 0; have aH := blk_frozen ab.out 1; obtain ⟨bg, bh, bi⟩ := Kd.V_slice ax.out; subst bi))
  refine bodyPost_ret (results_cell_row rfl _ _ ae 53 #[.int .i64 ao, .slice bg az.length bh] (0, 0) _ rfl (by (with_reducible repeat (first | refine blk_drewN ?_ _ | refine blk_drew ?_ | refine blk_alloc ?_ _)); refine blk_put (cs := #[.int .i64 ao, .slice none 0 0]) ?_ 1 _ rfl; (with_reducible repeat (first | refine blk_drewN ?_ _ | refine blk_drew ?_ | refine blk_alloc ?_ _)); refine blk_put (cs := #[.int .i64 0, .slice none 0 0]) ?_ 0 _ rfl; (with_reducible repeat (first | refine blk_drewN ?_ _ | refine blk_drew ?_ | refine blk_alloc ?_ _)); exact ab.out) Try.underlying53 rfl (by kernel_rfl)) rfl ?_
  exact ⟨_, by first | rfl | (simp [errW_none, errW_some] <;> rfl) | (simp [*, errW_none, errW_some] <;> rfl), by exact vf ax.out, by repeat (first | (with_reducible first | exact HB.out | apply below_alloc | apply pw_below_drewN | apply below_drew1 | refine below_set ?_ ac.out | refine below_set ?_ af.out) | exact HB.out)⟩
 ·
  rw [if_neg c3] at H
  have a7 : ((aj.length : Int) == 0) = false := beq_eq_false_iff_ne.mpr c3
  have a8 : ((aj.length : Int) != 0) = true := bne_iff_ne.mpr c3
  have bJ : ¬ (aj = []) := fun h_ => c3 (by rw [h_]; rfl)
  by_cases aB : a0_0 ≥ 4611686018427387904
  ·
   rw [if_pos aB] at H
   have aD : decide (4611686018427387904 ≤ a0_0) = true := decide_eq_true aB
   clear aB
   obtain ⟨⟨ap, aA⟩, bK, H⟩ := bs H
   replace H : (some (ap, aA)) = some (r1, r2) := H
   simp only [Option.some.injEq, Prod.mk.injEq] at H
   obtain ⟨rfl, rfl⟩ := H
   go_enter Try.func148, Try.ntmps148
   go_wp2_with (first | ((with_reducible refine gate_dst (N := 1) rfl ?_); refine box_event ?hg (N := 1) ?hd (cs := #[.int .i64 a0_0, .slice A0_1 l0_1.length c0_1]) (t := 53) ?hr ?_; (case hd => rfl); (case hg => rfl); (case hr => first | (go_simp; done) | (go_simp; rfl)); intro ad hg bO hbox hb; have aa := am (hbox); have av := ng hg (bu HB.out); have ac := ng hg (bu HB.out); replace HB := be HB hb; clear hb hbox hg) | ((with_reducible refine gate_dst (N := 2) rfl ?_); refine box_event ?hg (N := 2) ?hd (cs := #[.int .i64 0, .slice none 0 0]) (t := 53) ?hr ?_; (case hd => rfl); (case hg => rfl); (case hr => first | (go_simp; done) | (go_simp; rfl)); intro ae hg br hbox hb; have ab := am (hbox); have aw := ng hg (bu1 HB.out ac.out); have af := ng hg (bu1 HB.out ac.out); replace HB := be1 HB ac hb; have ag := nl hg aa; have ah := nr hg aa; replace aa := kb aa hb; clear hb hbox hg; have bv := ag.out; have bw := ah.out; have aI : br.cell? ⟨ad, 0, none⟩ = some (.int .i64 a0_0) := bc aa 0; have aJ : br.cell? ⟨ad, 1, none⟩ = some (.slice A0_1 l0_1.length c0_1) := bc aa 1; have aK := blk_frozen aa.out 0; have aL := blk_frozen aa.out 1) | ((with_reducible refine gate_callee (f := 177) rfl ?_); refine goesL_ (some 6) rfl rfl Try.func177 (by kernel_rfl) rfl #[.slice A0_1 l0_1.length c0_1] rfl lu ?_; (with_reducible refine (nat_Trim.calls k _ _ l0_1 aj _ ?side1 ?side2 A2.out).mono ?_); (case side1 => repeat (first | exact (Kd.C_below an.out HB.out) | (with_reducible refine Kd.C_alloc ?_ _) | (with_reducible refine Kd.C_drewN ?_ _) | (with_reducible refine Kd.C_drew ?_))); (case side2 => first | exact al.out | exact vz al.out); rintro e bx ⟨aC, rfl, ak, hb⟩; refine ⟨_, rfl, ?_⟩; replace ak := R_V_base rfl ak; have ai := ar0 w.heap.size (ok' := fun k_ => (w.heap.size ≤ k_) ∧ k_ ≠ ad ∧ k_ ≠ ae) ak (fa (fz2 HB ac af) (fa (fb aa) (fb ab))); replace aa := kb aa hb; replace ab := kb ab hb; replace HB := be2 HB ac af hb; (try clear hb); (try clear ak); obtain ⟨bL, bM, bj⟩ := Kd.V_slice ai.out; subst bj; have aM : bx.cell? ⟨ad, 0, none⟩ = some (.int .i64 a0_0) := bc aa 0; have aN : bx.cell? ⟨ad, 1, none⟩ = some (.slice A0_1 l0_1.length c0_1) := bc aa 1; have aO := blk_frozen aa.out 0; have aP := blk_frozen aa.out 1) | ((with_reducible refine gate_callee (f := 147) rfl ?_); refine goesL_ (some 15) rfl rfl Try.func147 (by kernel_rfl) rfl #[] rfl lu ?_; (with_reducible refine (semiring_never.calls  ap aA _ bK.out).mono ?_); rintro e bz ⟨bN, rfl, ak, hb⟩; refine ⟨_, rfl, ?_⟩; replace ak := R_V_base rfl ak; replace ai := kv ai hb; have ay := ar0 w.heap.size (ok' := fun k_ => (w.heap.size ≤ k_) ∧ k_ ≠ ad ∧ k_ ≠ ae) ak (fa (fz2 HB ac af) (fa (fb aa) (fb ab))); replace aa := kb aa hb; replace ab := kb ab hb; replace HB := be2 HB ac af hb; (try clear hb); (try clear ak); have aQ : bz.cell? ⟨ae, 0, none⟩ = some (.int .i64 0) := bc ab 0; have aR : bz.cell? ⟨ae, 1, none⟩ = some (.slice none 0 0) := bc ab 1; have aS := blk_frozen ab.out 0; have aT := blk_frozen ab.out 1; obtain ⟨bk, bl, bm⟩ := Kd.V_slice ay.out; subst bm))
   refine bodyPost_ret (results_cell_row rfl _ _ ae 53 #[.int .i64 ap, .slice bk aA.length bl] (0, 0) _ rfl (by (with_reducible repeat (first | refine blk_drewN ?_ _ | refine blk_drew ?_ | refine blk_alloc ?_ _)); refine blk_put (cs := #[.int .i64 ap, .slice none 0 0]) ?_ 1 _ rfl; (with_reducible repeat (first | refine blk_drewN ?_ _ | refine blk_drew ?_ | refine blk_alloc ?_ _)); refine blk_put (cs := #[.int .i64 0, .slice none 0 0]) ?_ 0 _ rfl; (with_reducible repeat (first | refine blk_drewN ?_ _ | refine blk_drew ?_ | refine blk_alloc ?_ _)); exact ab.out) Try.underlying53 rfl (by kernel_rfl)) rfl ?_
   exact ⟨_, by first | rfl | (simp [errW_none, errW_some] <;> rfl) | (simp [*, errW_none, errW_some] <;> rfl), by exact vf ay.out, by repeat (first | (with_reducible first | exact HB.out | apply below_alloc | apply pw_below_drewN | apply below_drew1 | refine below_set ?_ ac.out | refine below_set ?_ af.out) | exact HB.out)⟩
  ·
   rw [if_neg aB] at H
   have aD : decide (4611686018427387904 ≤ a0_0) = false := decide_eq_false aB
   clear aB
   obtain ⟨ji26, hji26⟩ : ∃ j_ : Int, (mx a0_0 0) = j_ := ⟨_, rfl⟩
   replace H : (some (ji26, aj)) = some (r1, r2) := by first | (rw [hji26] at H; exact H) | (simp only [hji26] at H ⊢; exact H)
   (try rw [hji26] at A2)
   (try (have hji26l : 0 ≤ ji26 := by (rw [← hji26]; unfold mx; (repeat' split) <;> omega)))
   (try (have hji26m : 0 ≤ ji26 := by omega))
   have hji26_ : (if a0_0 < 0 then 0 else a0_0) = ji26 := hji26
   simp only [Option.some.injEq, Prod.mk.injEq] at H
   obtain ⟨rfl, rfl⟩ := H
   go_enter Try.func148, Try.ntmps148
   go_wp2_with (first | ((with_reducible refine gate_dst (N := 1) rfl ?_); refine box_event ?hg (N := 1) ?hd (cs := #[.int .i64 a0_0, .slice A0_1 l0_1.length c0_1]) (t := 53) ?hr ?_; (case hd => rfl); (case hg => rfl); (case hr => first | (go_simp; done) | (go_simp; rfl)); intro ad hg bP hbox hb; have aa := am (hbox); have av := ng hg (bu HB.out); have ac := ng hg (bu HB.out); replace HB := be HB hb; clear hb hbox hg) | ((with_reducible refine gate_dst (N := 2) rfl ?_); refine box_event ?hg (N := 2) ?hd (cs := #[.int .i64 0, .slice none 0 0]) (t := 53) ?hr ?_; (case hd => rfl); (case hg => rfl); (case hr => first | (go_simp; done) | (go_simp; rfl)); intro ae hg bA hbox hb; have ab := am (hbox); have aw := ng hg (bu1 HB.out ac.out); have af := ng hg (bu1 HB.out ac.out); replace HB := be1 HB ac hb; have ag := nl hg aa; have ah := nr hg aa; replace aa := kb aa hb; clear hb hbox hg; have bB := ag.out; have bC := ah.out; have aU : bA.cell? ⟨ad, 0, none⟩ = some (.int .i64 a0_0) := bc aa 0; have aV : bA.cell? ⟨ad, 1, none⟩ = some (.slice A0_1 l0_1.length c0_1) := bc aa 1; have aW := blk_frozen aa.out 0; have aX := blk_frozen aa.out 1) | ((with_reducible refine gate_callee (f := 177) rfl ?_); refine goesL_ (some 6) rfl rfl Try.func177 (by kernel_rfl) rfl #[.slice A0_1 l0_1.length c0_1] rfl lu ?_; (with_reducible refine (nat_Trim.calls k _ _ l0_1 aj _ ?side1 ?side2 A2.out).mono ?_); (case side1 => repeat (first | exact (Kd.C_below an.out HB.out) | (with_reducible refine Kd.C_alloc ?_ _) | (with_reducible refine Kd.C_drewN ?_ _) | (with_reducible refine Kd.C_drew ?_))); (case side2 => first | exact al.out | exact vz al.out); rintro e aY ⟨aC, rfl, ak, hb⟩; refine ⟨_, rfl, ?_⟩; replace ak := R_V_base rfl ak; have ai := ar0 w.heap.size (ok' := fun k_ => (w.heap.size ≤ k_) ∧ k_ ≠ ad ∧ k_ ≠ ae) ak (fa (fz2 HB ac af) (fa (fb aa) (fb ab))); replace aa := kb aa hb; replace ab := kb ab hb; replace HB := be2 HB ac af hb; (try clear hb); (try clear ak); obtain ⟨bn, bo, bp⟩ := Kd.V_slice ai.out; subst bp; have aZ : aY.cell? ⟨ad, 0, none⟩ = some (.int .i64 a0_0) := bc aa 0; have a0 : aY.cell? ⟨ad, 1, none⟩ = some (.slice A0_1 l0_1.length c0_1) := bc aa 1; have a1 := blk_frozen aa.out 0; have a2 := blk_frozen aa.out 1; have a3 : aY.cell? ⟨ae, 0, none⟩ = some (.int .i64 0) := bc ab 0; have a4 : aY.cell? ⟨ae, 1, none⟩ = some (.slice none 0 0) := bc ab 1; have a5 := blk_frozen ab.out 0; have a6 := blk_frozen ab.out 1))
   refine bodyPost_ret (results_cell_row rfl _ _ ae 53 #[.int .i64 ji26, .slice bn aj.length bo] (0, 0) _ rfl (by (with_reducible repeat (first | refine blk_drewN ?_ _ | refine blk_drew ?_ | refine blk_alloc ?_ _)); refine blk_put (cs := #[.int .i64 ji26, .slice none 0 0]) ?_ 1 _ rfl; (with_reducible repeat (first | refine blk_drewN ?_ _ | refine blk_drew ?_ | refine blk_alloc ?_ _)); refine blk_put (cs := #[.int .i64 0, .slice none 0 0]) ?_ 0 _ rfl; (with_reducible repeat (first | refine blk_drewN ?_ _ | refine blk_drew ?_ | refine blk_alloc ?_ _)); exact ab.out) Try.underlying53 rfl (by kernel_rfl)) rfl ?_
   exact ⟨_, by first | rfl | (simp [errW_none, errW_some] <;> rfl) | (simp only [← hji26]; first | rfl | (simp [errW_none, errW_some] <;> rfl)) | (simp [*, errW_none, errW_some] <;> rfl), by exact vf ai.out, by repeat (first | (with_reducible first | exact HB.out | apply below_alloc | apply pw_below_drewN | apply below_drew1 | refine below_set ?_ ac.out | refine below_set ?_ af.out) | exact HB.out)⟩
def semiring_Leasts_Add.f (k : Nat)  (a1_0 : Int) (l1_1 : List Int) (a2_0 : Int) (l2_1 : List Int) : Option (Int × List Int) := (semiring_least.f k a1_0 l1_1).bind fun bt518 => ((semiring_least.f k a2_0 l2_1).bind fun bt522 => (if bt518.1 < bt522.1 then (some (bt518.1, bt518.2)) else (if bt518.1 > bt522.1 then (some (bt522.1, bt522.2)) else (if bt518.1 = 4611686018427387904 then ((semiring_never.f).bind fun bt528 => (some (bt528.1, bt528.2))) else ((nat_Add.f k (([bt518.2, bt522.2] : List (List Int)))).bind fun t535 => (some (bt518.1, t535)))))))
def semiring_Leasts_Add.T1 : Bool × List (List Nat × List Nat) := (true, [([], []), ([0], [0]), ([], []), ([2, 1], [2]), ([], []), ([], []), ([4, 1, 3, 0, 1, 4, 5], [1, 4]), ([5, 3, 6, 0, 1, 2, 3, 4, 5, 6], [3, 5])])
def semiring_Leasts_Add.B1 : List Nat := [0, 1, 0, 7, 0, 0, 63, 127]
theorem semiring_Leasts_Add.tab1 : rtab .any (opsOf Try.f64 1) = semiring_Leasts_Add.T1 := by kernel_rfl
theorem semiring_Leasts_Add.bits1 : waitsOk semiring_Leasts_Add.T1.2 semiring_Leasts_Add.B1 = true := by kernel_rfl
def semiring_Leasts_Add.T8 : Bool × List (List Nat × List Nat) := (true, [([], []), ([0], [0]), ([], []), ([2], [2]), ([], []), ([4], [4]), ([3, 5], [3, 5]), ([6], [6]), ([1, 7], [1, 7]), ([8, 7, 0, 1, 2, 3, 4, 5, 6, 7, 8], [8])])
def semiring_Leasts_Add.B8 : List Nat := [0, 1, 0, 4, 0, 16, 60, 124, 255, 511]
theorem semiring_Leasts_Add.tab8 : rtab .any (opsOf Try.f64 8) = semiring_Leasts_Add.T8 := by kernel_rfl
theorem semiring_Leasts_Add.bits8 : waitsOk semiring_Leasts_Add.T8.2 semiring_Leasts_Add.B8 = true := by kernel_rfl
theorem semiring_Leasts_Add.calls (k : Nat)  (a1_0 : Int) (A1_1 : Option Addr) (c1_1 : Nat) (l1_1 : List Int) (a2_0 : Int) (A2_1 : Option Addr) (c2_1 : Nat) (l2_1 : List Int) (r1 : Int) (r2 : List Int) (w : World) (hr1_1 : Kd.C (Kd.int .u32) w A1_1 l1_1.length l1_1) (hc1_1 : l1_1.length ≤ c1_1) (hr2_1 : Kd.C (Kd.int .u32) w A2_1 l2_1.length l2_1) (hc2_1 : l2_1.length ≤ c2_1) (h : semiring_Leasts_Add.f k a1_0 l1_1 a2_0 l2_1 = some (r1, r2)) :
 Calls Try.prog 64 #[.agg #[], .agg #[.int .i64 a1_0, .slice A1_1 l1_1.length c1_1], .agg #[.int .i64 a2_0, .slice A2_1 l2_1.length c2_1]] w fun e w' => ∃ v1_ : Value, e = .returned (.agg #[.int .i64 r1, v1_]) ∧ Kd.V (Kd.int .u32) 48 w' w.heap.size (fun k_ => (w.heap.size ≤ k_)) v1_ r2 ∧ Below w.heap.size w w' := by
 have dK := Try.underlying54
 have dL := Try.underlying53
 have bU := am hr1_1
 have bx := am hc1_1
 clear hr1_1 hc1_1
 have bV := am hr2_1
 have bz := am hc2_1
 clear hr2_1 hc2_1
 have HB := am (Below.refl w.heap.size w)
 have H : ((semiring_least.f k a1_0 l1_1).bind fun bB => ((semiring_least.f k a2_0 l2_1).bind fun bQ => (if bB.1 < bQ.1 then (some (bB.1, bB.2)) else (if bB.1 > bQ.1 then (some (bQ.1, bQ.2)) else (if bB.1 = 4611686018427387904 then ((semiring_never.f).bind fun bZ => (some (bZ.1, bZ.2))) else ((nat_Add.f k (([bB.2, bQ.2] : List (List Int)))).bind fun bS => (some (bB.1, bS)))))))) = some (r1, r2) := h
 clear h
 obtain ⟨⟨aQ, aT⟩, A4, H⟩ := bs H
 (try dsimp -simprocs only at H)
 obtain ⟨⟨a0, a1⟩, A5, H⟩ := bs H
 (try dsimp -simprocs only at H)
 go_enter Try.func64, Try.ntmps64
 try go_wp2_with (first | ((with_reducible refine gate_dst (N := 3) rfl ?_); refine box_event ?hg (N := 3) ?hd (cs := #[]) (t := 54) ?hr ?_; (case hd => rfl); (case hg => rfl); (case hr => first | (go_simp; done) | (go_simp; rfl)); intro aD hg w7 hbox hb; have ad := am (hbox); have c8 := ng hg (bu HB.out); have ag := ng hg (bu HB.out); replace HB := be HB hb; clear hb hbox hg) | ((with_reducible refine gate_dst (N := 4) rfl ?_); refine box_event ?hg (N := 4) ?hd (cs := #[.int .i64 a1_0, .slice A1_1 l1_1.length c1_1]) (t := 53) ?hr ?_; (case hd => rfl); (case hg => rfl); (case hr => first | (go_simp; done) | (go_simp; rfl)); intro ae hg w8 hbox hb; have aa := am (hbox); have c9 := ng hg (bu1 HB.out ag.out); have ah := ng hg (bu1 HB.out ag.out); replace HB := be1 HB ag hb; have ca := nl hg ad; have cb := nr hg ad; replace ad := kb ad hb; clear hb hbox hg) | ((with_reducible refine gate_dst (N := 5) rfl ?_); refine box_event ?hg (N := 5) ?hd (cs := #[.int .i64 a2_0, .slice A2_1 l2_1.length c2_1]) (t := 53) ?hr ?_; (case hd => rfl); (case hg => rfl); (case hr => first | (go_simp; done) | (go_simp; rfl)); intro af hg w9 hbox hb; have ab := am (hbox); have da := ng hg (bu2 HB.out ag.out ah.out); have al := ng hg (bu2 HB.out ag.out ah.out); replace HB := be2 HB ag ah hb; have cc := nl hg ad; have cd := nr hg ad; replace ad := kb ad hb; have ce := nl hg aa; have cf := nr hg aa; replace aa := kb aa hb; clear hb hbox hg) | ((with_reducible refine gate_dst (N := 6) rfl ?_); refine box_event ?hg (N := 6) ?hd (cs := #[.int .i64 0, .slice none 0 0]) (t := 53) ?hr ?_; (case hd => rfl); (case hg => rfl); (case hr => first | (go_simp; done) | (go_simp; rfl)); intro ai hg dM hbox hb; have ac := am (hbox); have db := ng hg (bu3 HB.out ag.out ah.out al.out); have an := ng hg (bu3 HB.out ag.out ah.out al.out); replace HB := be3 HB ag ah al hb; have ba := nl hg ad; have bb := nr hg ad; replace ad := kb ad hb; have bd := nl hg aa; have bf := nr hg aa; replace aa := kb aa hb; have bg := nl hg ab; have bh := nr hg ab; replace ab := kb ab hb; clear hb hbox hg))
 replace ad := am (blk_drew ad.out)
 replace aa := am (blk_drew aa.out)
 replace ab := am (blk_drew ab.out)
 replace ac := am (blk_drew ac.out)
 replace HB := am (below_drew1 HB.out)
 refine start_ (n := 8) (S := fun w' => w'.cell? ⟨ae, 0, none⟩ = some (.int .i64 a1_0) ∧ w'.cell? ⟨ae, 1, none⟩ = some (.slice A1_1 l1_1.length c1_1) ∧ w'.cell? ⟨af, 0, none⟩ = some (.int .i64 a2_0) ∧ w'.cell? ⟨af, 1, none⟩ = some (.slice A2_1 l2_1.length c2_1)) (ds := []) #[false, false, false, false, false, false, false, false] (by kernel_rfl) rfl rfl ⟨bc aa 0, bc aa 1, bc ab 0, bc ab 1⟩ (fun hHeld => ?_); refine with_tabW semiring_Leasts_Add.tab1 semiring_Leasts_Add.bits1 (fun HT_ HW_ => ?_)
 generalize dM.drew = dS at ad aa ab ac HB hHeld ⊢
 refine tq 0 (some 9) #[true, false, false, false, false, false, false, false] HT_ HW_ hHeld ?_
 refine tq 2 (some 11) #[true, false, true, false, false, false, false, false] HT_ HW_ hHeld ?_
 refine join_ (σ := Value × Value × Nat × Nat) 2 #[true, true, true, true, true, true, false, false] (fun s_ => [(10, .agg #[.int .i64 aQ, s_.1]), (12, .agg #[.int .i64 a0, s_.2.1]), (7, .pointer (some ⟨s_.2.2.1, 0, none⟩)), (8, .pointer (some ⟨s_.2.2.2, 0, none⟩))]) (fun s_ w' => (w'.cell? ⟨ae, 0, none⟩ = some (.int .i64 a1_0) ∧ w'.cell? ⟨ae, 1, none⟩ = some (.slice A1_1 l1_1.length c1_1) ∧ w'.cell? ⟨af, 0, none⟩ = some (.int .i64 a2_0) ∧ w'.cell? ⟨af, 1, none⟩ = some (.slice A2_1 l2_1.length c2_1)) ∧ (Kd.V (Kd.int .u32) 48 w' w.heap.size (fun k_ => (w.heap.size ≤ k_) ∧ k_ ≠ aD ∧ k_ ≠ ae ∧ k_ ≠ af ∧ k_ ≠ ai ∧ k_ ≠ s_.2.2.1 ∧ k_ ≠ s_.2.2.2) s_.1 aT) ∧ (Kd.V (Kd.int .u32) 48 w' w.heap.size (fun k_ => (w.heap.size ≤ k_) ∧ k_ ≠ aD ∧ k_ ≠ ae ∧ k_ ≠ af ∧ k_ ≠ ai ∧ k_ ≠ s_.2.2.1 ∧ k_ ≠ s_.2.2.2) s_.2.1 a1) ∧ (w'.heap[aD]? = some (.cells #[] 54 (0, 0))) ∧ (w'.heap[ae]? = some (.cells #[.int .i64 a1_0, .slice A1_1 l1_1.length c1_1] 53 (0, 0))) ∧ (w'.heap[af]? = some (.cells #[.int .i64 a2_0, .slice A2_1 l2_1.length c2_1] 53 (0, 0))) ∧ (w'.heap[ai]? = some (.cells #[.int .i64 0, .slice none 0 0] 53 (0, 0))) ∧ (w'.heap[s_.2.2.1]? = some (.cells #[.int .i64 0, .slice none 0 0] 53 (0, 0))) ∧ (w'.heap[s_.2.2.2]? = some (.cells #[.int .i64 0, .slice none 0 0] 53 (0, 0))) ∧ (w.heap.size ≤ s_.2.2.1) ∧ (w.heap.size ≤ s_.2.2.1) ∧ (aD ≠ s_.2.2.1) ∧ (s_.2.2.1 ≠ aD) ∧ (ae ≠ s_.2.2.1) ∧ (s_.2.2.1 ≠ ae) ∧ (af ≠ s_.2.2.1) ∧ (s_.2.2.1 ≠ af) ∧ (ai ≠ s_.2.2.1) ∧ (s_.2.2.1 ≠ ai) ∧ (s_.2.2.2 ≠ s_.2.2.1) ∧ (s_.2.2.1 ≠ s_.2.2.2) ∧ (w.heap.size ≤ s_.2.2.2) ∧ (w.heap.size ≤ s_.2.2.2) ∧ (aD ≠ s_.2.2.2) ∧ (s_.2.2.2 ≠ aD) ∧ (ae ≠ s_.2.2.2) ∧ (s_.2.2.2 ≠ ae) ∧ (af ≠ s_.2.2.2) ∧ (s_.2.2.2 ≠ af) ∧ (ai ≠ s_.2.2.2) ∧ (s_.2.2.2 ≠ ai) ∧ (Below w.heap.size w w')) ?_ ?_
 rotate_left
 ·
  intro hJ1_3_4_5
  refine join_ (σ := Value × Value × Nat) 3 #[true, true, true, true, true, false, false, false] (fun s_ => [(10, .agg #[.int .i64 aQ, s_.1]), (12, .agg #[.int .i64 a0, s_.2.1]), (7, .pointer (some ⟨s_.2.2, 0, none⟩))]) (fun s_ w' => (w'.cell? ⟨ae, 0, none⟩ = some (.int .i64 a1_0) ∧ w'.cell? ⟨ae, 1, none⟩ = some (.slice A1_1 l1_1.length c1_1) ∧ w'.cell? ⟨af, 0, none⟩ = some (.int .i64 a2_0) ∧ w'.cell? ⟨af, 1, none⟩ = some (.slice A2_1 l2_1.length c2_1)) ∧ (Kd.V (Kd.int .u32) 48 w' w.heap.size (fun k_ => (w.heap.size ≤ k_) ∧ k_ ≠ aD ∧ k_ ≠ ae ∧ k_ ≠ af ∧ k_ ≠ ai ∧ k_ ≠ s_.2.2) s_.1 aT) ∧ (Kd.V (Kd.int .u32) 48 w' w.heap.size (fun k_ => (w.heap.size ≤ k_) ∧ k_ ≠ aD ∧ k_ ≠ ae ∧ k_ ≠ af ∧ k_ ≠ ai ∧ k_ ≠ s_.2.2) s_.2.1 a1) ∧ (w'.heap[aD]? = some (.cells #[] 54 (0, 0))) ∧ (w'.heap[ae]? = some (.cells #[.int .i64 a1_0, .slice A1_1 l1_1.length c1_1] 53 (0, 0))) ∧ (w'.heap[af]? = some (.cells #[.int .i64 a2_0, .slice A2_1 l2_1.length c2_1] 53 (0, 0))) ∧ (w'.heap[ai]? = some (.cells #[.int .i64 0, .slice none 0 0] 53 (0, 0))) ∧ (w'.heap[s_.2.2]? = some (.cells #[.int .i64 0, .slice none 0 0] 53 (0, 0))) ∧ (w.heap.size ≤ s_.2.2) ∧ (w.heap.size ≤ s_.2.2) ∧ (aD ≠ s_.2.2) ∧ (s_.2.2 ≠ aD) ∧ (ae ≠ s_.2.2) ∧ (s_.2.2 ≠ ae) ∧ (af ≠ s_.2.2) ∧ (s_.2.2 ≠ af) ∧ (ai ≠ s_.2.2) ∧ (s_.2.2 ≠ ai) ∧ (Below w.heap.size w w')) ?_ ?_
  rotate_left
  ·
   intro hJ1_3_4
   refine join_ (σ := Value × Value × Nat) 3 #[true, true, true, true, false, true, false, false] (fun s_ => [(10, .agg #[.int .i64 aQ, s_.1]), (12, .agg #[.int .i64 a0, s_.2.1]), (8, .pointer (some ⟨s_.2.2, 0, none⟩))]) (fun s_ w' => (w'.cell? ⟨ae, 0, none⟩ = some (.int .i64 a1_0) ∧ w'.cell? ⟨ae, 1, none⟩ = some (.slice A1_1 l1_1.length c1_1) ∧ w'.cell? ⟨af, 0, none⟩ = some (.int .i64 a2_0) ∧ w'.cell? ⟨af, 1, none⟩ = some (.slice A2_1 l2_1.length c2_1)) ∧ (Kd.V (Kd.int .u32) 48 w' w.heap.size (fun k_ => (w.heap.size ≤ k_) ∧ k_ ≠ aD ∧ k_ ≠ ae ∧ k_ ≠ af ∧ k_ ≠ ai ∧ k_ ≠ s_.2.2) s_.1 aT) ∧ (Kd.V (Kd.int .u32) 48 w' w.heap.size (fun k_ => (w.heap.size ≤ k_) ∧ k_ ≠ aD ∧ k_ ≠ ae ∧ k_ ≠ af ∧ k_ ≠ ai ∧ k_ ≠ s_.2.2) s_.2.1 a1) ∧ (w'.heap[aD]? = some (.cells #[] 54 (0, 0))) ∧ (w'.heap[ae]? = some (.cells #[.int .i64 a1_0, .slice A1_1 l1_1.length c1_1] 53 (0, 0))) ∧ (w'.heap[af]? = some (.cells #[.int .i64 a2_0, .slice A2_1 l2_1.length c2_1] 53 (0, 0))) ∧ (w'.heap[ai]? = some (.cells #[.int .i64 0, .slice none 0 0] 53 (0, 0))) ∧ (w'.heap[s_.2.2]? = some (.cells #[.int .i64 0, .slice none 0 0] 53 (0, 0))) ∧ (w.heap.size ≤ s_.2.2) ∧ (w.heap.size ≤ s_.2.2) ∧ (aD ≠ s_.2.2) ∧ (s_.2.2 ≠ aD) ∧ (ae ≠ s_.2.2) ∧ (s_.2.2 ≠ ae) ∧ (af ≠ s_.2.2) ∧ (s_.2.2 ≠ af) ∧ (ai ≠ s_.2.2) ∧ (s_.2.2 ≠ ai) ∧ (Below w.heap.size w w')) ?_ ?_
   rotate_left
   ·
    intro hJ1_3_5
    refine join_ (σ := Value × Nat × Nat) 3 #[true, true, true, false, true, true, false, false] (fun s_ => [(10, .agg #[.int .i64 aQ, s_.1]), (7, .pointer (some ⟨s_.2.1, 0, none⟩)), (8, .pointer (some ⟨s_.2.2, 0, none⟩))]) (fun s_ w' => (w'.cell? ⟨ae, 0, none⟩ = some (.int .i64 a1_0) ∧ w'.cell? ⟨ae, 1, none⟩ = some (.slice A1_1 l1_1.length c1_1) ∧ w'.cell? ⟨af, 0, none⟩ = some (.int .i64 a2_0) ∧ w'.cell? ⟨af, 1, none⟩ = some (.slice A2_1 l2_1.length c2_1)) ∧ (Kd.V (Kd.int .u32) 48 w' w.heap.size (fun k_ => (w.heap.size ≤ k_) ∧ k_ ≠ aD ∧ k_ ≠ ae ∧ k_ ≠ af ∧ k_ ≠ ai ∧ k_ ≠ s_.2.1 ∧ k_ ≠ s_.2.2) s_.1 aT) ∧ (w'.heap[aD]? = some (.cells #[] 54 (0, 0))) ∧ (w'.heap[ae]? = some (.cells #[.int .i64 a1_0, .slice A1_1 l1_1.length c1_1] 53 (0, 0))) ∧ (w'.heap[af]? = some (.cells #[.int .i64 a2_0, .slice A2_1 l2_1.length c2_1] 53 (0, 0))) ∧ (w'.heap[ai]? = some (.cells #[.int .i64 0, .slice none 0 0] 53 (0, 0))) ∧ (w'.heap[s_.2.1]? = some (.cells #[.int .i64 0, .slice none 0 0] 53 (0, 0))) ∧ (w'.heap[s_.2.2]? = some (.cells #[.int .i64 0, .slice none 0 0] 53 (0, 0))) ∧ (w.heap.size ≤ s_.2.1) ∧ (w.heap.size ≤ s_.2.1) ∧ (aD ≠ s_.2.1) ∧ (s_.2.1 ≠ aD) ∧ (ae ≠ s_.2.1) ∧ (s_.2.1 ≠ ae) ∧ (af ≠ s_.2.1) ∧ (s_.2.1 ≠ af) ∧ (ai ≠ s_.2.1) ∧ (s_.2.1 ≠ ai) ∧ (s_.2.2 ≠ s_.2.1) ∧ (s_.2.1 ≠ s_.2.2) ∧ (w.heap.size ≤ s_.2.2) ∧ (w.heap.size ≤ s_.2.2) ∧ (aD ≠ s_.2.2) ∧ (s_.2.2 ≠ aD) ∧ (ae ≠ s_.2.2) ∧ (s_.2.2 ≠ ae) ∧ (af ≠ s_.2.2) ∧ (s_.2.2 ≠ af) ∧ (ai ≠ s_.2.2) ∧ (s_.2.2 ≠ ai) ∧ (Below w.heap.size w w')) ?_ ?_
    rotate_left
    ·
     intro hJ1_4_5
     refine join_ (σ := Value × Value) 4 #[true, true, true, true, false, false, false, false] (fun s_ => [(10, .agg #[.int .i64 aQ, s_.1]), (12, .agg #[.int .i64 a0, s_.2])]) (fun s_ w' => (w'.cell? ⟨ae, 0, none⟩ = some (.int .i64 a1_0) ∧ w'.cell? ⟨ae, 1, none⟩ = some (.slice A1_1 l1_1.length c1_1) ∧ w'.cell? ⟨af, 0, none⟩ = some (.int .i64 a2_0) ∧ w'.cell? ⟨af, 1, none⟩ = some (.slice A2_1 l2_1.length c2_1)) ∧ (Kd.V (Kd.int .u32) 48 w' w.heap.size (fun k_ => (w.heap.size ≤ k_) ∧ k_ ≠ aD ∧ k_ ≠ ae ∧ k_ ≠ af ∧ k_ ≠ ai) s_.1 aT) ∧ (Kd.V (Kd.int .u32) 48 w' w.heap.size (fun k_ => (w.heap.size ≤ k_) ∧ k_ ≠ aD ∧ k_ ≠ ae ∧ k_ ≠ af ∧ k_ ≠ ai) s_.2 a1) ∧ (w'.heap[aD]? = some (.cells #[] 54 (0, 0))) ∧ (w'.heap[ae]? = some (.cells #[.int .i64 a1_0, .slice A1_1 l1_1.length c1_1] 53 (0, 0))) ∧ (w'.heap[af]? = some (.cells #[.int .i64 a2_0, .slice A2_1 l2_1.length c2_1] 53 (0, 0))) ∧ (w'.heap[ai]? = some (.cells #[.int .i64 0, .slice none 0 0] 53 (0, 0))) ∧ (Below w.heap.size w w')) ?_ ?_
     rotate_left
     ·
      intro hJ1_3
      refine join_ (σ := Value × Nat) 4 #[true, true, true, false, true, false, false, false] (fun s_ => [(10, .agg #[.int .i64 aQ, s_.1]), (7, .pointer (some ⟨s_.2, 0, none⟩))]) (fun s_ w' => (w'.cell? ⟨ae, 0, none⟩ = some (.int .i64 a1_0) ∧ w'.cell? ⟨ae, 1, none⟩ = some (.slice A1_1 l1_1.length c1_1) ∧ w'.cell? ⟨af, 0, none⟩ = some (.int .i64 a2_0) ∧ w'.cell? ⟨af, 1, none⟩ = some (.slice A2_1 l2_1.length c2_1)) ∧ (Kd.V (Kd.int .u32) 48 w' w.heap.size (fun k_ => (w.heap.size ≤ k_) ∧ k_ ≠ aD ∧ k_ ≠ ae ∧ k_ ≠ af ∧ k_ ≠ ai ∧ k_ ≠ s_.2) s_.1 aT) ∧ (w'.heap[aD]? = some (.cells #[] 54 (0, 0))) ∧ (w'.heap[ae]? = some (.cells #[.int .i64 a1_0, .slice A1_1 l1_1.length c1_1] 53 (0, 0))) ∧ (w'.heap[af]? = some (.cells #[.int .i64 a2_0, .slice A2_1 l2_1.length c2_1] 53 (0, 0))) ∧ (w'.heap[ai]? = some (.cells #[.int .i64 0, .slice none 0 0] 53 (0, 0))) ∧ (w'.heap[s_.2]? = some (.cells #[.int .i64 0, .slice none 0 0] 53 (0, 0))) ∧ (w.heap.size ≤ s_.2) ∧ (w.heap.size ≤ s_.2) ∧ (aD ≠ s_.2) ∧ (s_.2 ≠ aD) ∧ (ae ≠ s_.2) ∧ (s_.2 ≠ ae) ∧ (af ≠ s_.2) ∧ (s_.2 ≠ af) ∧ (ai ≠ s_.2) ∧ (s_.2 ≠ ai) ∧ (Below w.heap.size w w')) ?_ ?_
      rotate_left
      ·
       intro hJ1_4
       refine join_ (σ := Value × Nat) 4 #[true, true, true, false, false, true, false, false] (fun s_ => [(10, .agg #[.int .i64 aQ, s_.1]), (8, .pointer (some ⟨s_.2, 0, none⟩))]) (fun s_ w' => (w'.cell? ⟨ae, 0, none⟩ = some (.int .i64 a1_0) ∧ w'.cell? ⟨ae, 1, none⟩ = some (.slice A1_1 l1_1.length c1_1) ∧ w'.cell? ⟨af, 0, none⟩ = some (.int .i64 a2_0) ∧ w'.cell? ⟨af, 1, none⟩ = some (.slice A2_1 l2_1.length c2_1)) ∧ (Kd.V (Kd.int .u32) 48 w' w.heap.size (fun k_ => (w.heap.size ≤ k_) ∧ k_ ≠ aD ∧ k_ ≠ ae ∧ k_ ≠ af ∧ k_ ≠ ai ∧ k_ ≠ s_.2) s_.1 aT) ∧ (w'.heap[aD]? = some (.cells #[] 54 (0, 0))) ∧ (w'.heap[ae]? = some (.cells #[.int .i64 a1_0, .slice A1_1 l1_1.length c1_1] 53 (0, 0))) ∧ (w'.heap[af]? = some (.cells #[.int .i64 a2_0, .slice A2_1 l2_1.length c2_1] 53 (0, 0))) ∧ (w'.heap[ai]? = some (.cells #[.int .i64 0, .slice none 0 0] 53 (0, 0))) ∧ (w'.heap[s_.2]? = some (.cells #[.int .i64 0, .slice none 0 0] 53 (0, 0))) ∧ (w.heap.size ≤ s_.2) ∧ (w.heap.size ≤ s_.2) ∧ (aD ≠ s_.2) ∧ (s_.2 ≠ aD) ∧ (ae ≠ s_.2) ∧ (s_.2 ≠ ae) ∧ (af ≠ s_.2) ∧ (s_.2 ≠ af) ∧ (ai ≠ s_.2) ∧ (s_.2 ≠ ai) ∧ (Below w.heap.size w w')) ?_ ?_
       rotate_left
       ·
        intro hJ1_5
        refine join_ (σ := Nat × Nat) 4 #[true, false, true, false, true, true, false, false] (fun s_ => [(7, .pointer (some ⟨s_.1, 0, none⟩)), (8, .pointer (some ⟨s_.2, 0, none⟩))]) (fun s_ w' => (w'.cell? ⟨ae, 0, none⟩ = some (.int .i64 a1_0) ∧ w'.cell? ⟨ae, 1, none⟩ = some (.slice A1_1 l1_1.length c1_1) ∧ w'.cell? ⟨af, 0, none⟩ = some (.int .i64 a2_0) ∧ w'.cell? ⟨af, 1, none⟩ = some (.slice A2_1 l2_1.length c2_1)) ∧ (w'.heap[aD]? = some (.cells #[] 54 (0, 0))) ∧ (w'.heap[ae]? = some (.cells #[.int .i64 a1_0, .slice A1_1 l1_1.length c1_1] 53 (0, 0))) ∧ (w'.heap[af]? = some (.cells #[.int .i64 a2_0, .slice A2_1 l2_1.length c2_1] 53 (0, 0))) ∧ (w'.heap[ai]? = some (.cells #[.int .i64 0, .slice none 0 0] 53 (0, 0))) ∧ (w'.heap[s_.1]? = some (.cells #[.int .i64 0, .slice none 0 0] 53 (0, 0))) ∧ (w'.heap[s_.2]? = some (.cells #[.int .i64 0, .slice none 0 0] 53 (0, 0))) ∧ (w.heap.size ≤ s_.1) ∧ (w.heap.size ≤ s_.1) ∧ (aD ≠ s_.1) ∧ (s_.1 ≠ aD) ∧ (ae ≠ s_.1) ∧ (s_.1 ≠ ae) ∧ (af ≠ s_.1) ∧ (s_.1 ≠ af) ∧ (ai ≠ s_.1) ∧ (s_.1 ≠ ai) ∧ (s_.2 ≠ s_.1) ∧ (s_.1 ≠ s_.2) ∧ (w.heap.size ≤ s_.2) ∧ (w.heap.size ≤ s_.2) ∧ (aD ≠ s_.2) ∧ (s_.2 ≠ aD) ∧ (ae ≠ s_.2) ∧ (s_.2 ≠ ae) ∧ (af ≠ s_.2) ∧ (s_.2 ≠ af) ∧ (ai ≠ s_.2) ∧ (s_.2 ≠ ai) ∧ (Below w.heap.size w w')) ?_ ?_
        rotate_left
        ·
         intro hJ4_5
         refine join_ (σ := Value) 5 #[true, true, true, false, false, false, false, false] (fun s_ => [(10, .agg #[.int .i64 aQ, s_])]) (fun s_ w' => (w'.cell? ⟨ae, 0, none⟩ = some (.int .i64 a1_0) ∧ w'.cell? ⟨ae, 1, none⟩ = some (.slice A1_1 l1_1.length c1_1) ∧ w'.cell? ⟨af, 0, none⟩ = some (.int .i64 a2_0) ∧ w'.cell? ⟨af, 1, none⟩ = some (.slice A2_1 l2_1.length c2_1)) ∧ (Kd.V (Kd.int .u32) 48 w' w.heap.size (fun k_ => (w.heap.size ≤ k_) ∧ k_ ≠ aD ∧ k_ ≠ ae ∧ k_ ≠ af ∧ k_ ≠ ai) s_ aT) ∧ (w'.heap[aD]? = some (.cells #[] 54 (0, 0))) ∧ (w'.heap[ae]? = some (.cells #[.int .i64 a1_0, .slice A1_1 l1_1.length c1_1] 53 (0, 0))) ∧ (w'.heap[af]? = some (.cells #[.int .i64 a2_0, .slice A2_1 l2_1.length c2_1] 53 (0, 0))) ∧ (w'.heap[ai]? = some (.cells #[.int .i64 0, .slice none 0 0] 53 (0, 0))) ∧ (Below w.heap.size w w')) ?_ ?_
         rotate_left
         ·
          intro hJ1
          refine join_ (σ := Nat) 5 #[true, false, true, false, true, false, false, false] (fun s_ => [(7, .pointer (some ⟨s_, 0, none⟩))]) (fun s_ w' => (w'.cell? ⟨ae, 0, none⟩ = some (.int .i64 a1_0) ∧ w'.cell? ⟨ae, 1, none⟩ = some (.slice A1_1 l1_1.length c1_1) ∧ w'.cell? ⟨af, 0, none⟩ = some (.int .i64 a2_0) ∧ w'.cell? ⟨af, 1, none⟩ = some (.slice A2_1 l2_1.length c2_1)) ∧ (w'.heap[aD]? = some (.cells #[] 54 (0, 0))) ∧ (w'.heap[ae]? = some (.cells #[.int .i64 a1_0, .slice A1_1 l1_1.length c1_1] 53 (0, 0))) ∧ (w'.heap[af]? = some (.cells #[.int .i64 a2_0, .slice A2_1 l2_1.length c2_1] 53 (0, 0))) ∧ (w'.heap[ai]? = some (.cells #[.int .i64 0, .slice none 0 0] 53 (0, 0))) ∧ (w'.heap[s_]? = some (.cells #[.int .i64 0, .slice none 0 0] 53 (0, 0))) ∧ (w.heap.size ≤ s_) ∧ (w.heap.size ≤ s_) ∧ (aD ≠ s_) ∧ (s_ ≠ aD) ∧ (ae ≠ s_) ∧ (s_ ≠ ae) ∧ (af ≠ s_) ∧ (s_ ≠ af) ∧ (ai ≠ s_) ∧ (s_ ≠ ai) ∧ (Below w.heap.size w w')) ?_ ?_
          rotate_left
          ·
           intro hJ4
           refine join_ (σ := Nat) 5 #[true, false, true, false, false, true, false, false] (fun s_ => [(8, .pointer (some ⟨s_, 0, none⟩))]) (fun s_ w' => (w'.cell? ⟨ae, 0, none⟩ = some (.int .i64 a1_0) ∧ w'.cell? ⟨ae, 1, none⟩ = some (.slice A1_1 l1_1.length c1_1) ∧ w'.cell? ⟨af, 0, none⟩ = some (.int .i64 a2_0) ∧ w'.cell? ⟨af, 1, none⟩ = some (.slice A2_1 l2_1.length c2_1)) ∧ (w'.heap[aD]? = some (.cells #[] 54 (0, 0))) ∧ (w'.heap[ae]? = some (.cells #[.int .i64 a1_0, .slice A1_1 l1_1.length c1_1] 53 (0, 0))) ∧ (w'.heap[af]? = some (.cells #[.int .i64 a2_0, .slice A2_1 l2_1.length c2_1] 53 (0, 0))) ∧ (w'.heap[ai]? = some (.cells #[.int .i64 0, .slice none 0 0] 53 (0, 0))) ∧ (w'.heap[s_]? = some (.cells #[.int .i64 0, .slice none 0 0] 53 (0, 0))) ∧ (w.heap.size ≤ s_) ∧ (w.heap.size ≤ s_) ∧ (aD ≠ s_) ∧ (s_ ≠ aD) ∧ (ae ≠ s_) ∧ (s_ ≠ ae) ∧ (af ≠ s_) ∧ (s_ ≠ af) ∧ (ai ≠ s_) ∧ (s_ ≠ ai) ∧ (Below w.heap.size w w')) ?_ ?_
           rotate_left
           ·
            intro hJ5
            refine three_ (i := 1) (j := 4) (k := 5) (Ni := some 10) (Nj := some 7) (Nk := some 8) #[true, true, true, false, false, false, false, false] #[true, false, true, false, true, false, false, false] #[true, false, true, false, false, true, false, false] rfl rfl rfl rfl rfl rfl (three_of HT_.out (by kernel_rfl)) (by decide) (by decide) (by decide) (fun K hK => ?_) (fun K hK => ?_) (fun K hK => ?_)
            ·
             skip
             refine goes_ Try.func148 (by kernel_rfl) rfl #[.agg #[.int .i64 a1_0, .slice A1_1 l1_1.length c1_1]] (by rfl) rfl rfl lu ?_
             with_reducible refine (semiring_least.calls k a1_0 _ _ l1_1 aQ aT _ ?side1 ?side2 A4.out).mono ?_
             (case side1 => repeat (first | exact (Kd.C_below bU.out HB.out) | (with_reducible refine Kd.C_alloc ?_ _) | (with_reducible refine Kd.C_drewN ?_ _) | (with_reducible refine Kd.C_drew ?_)))
             (case side2 => first | exact bx.out | exact vz bx.out)
             rintro e dc ⟨a2, rfl, br, hb⟩
             refine ⟨_, rfl, ?_⟩
             have aE := ar0 w.heap.size (ok' := fun k_ => (w.heap.size ≤ k_) ∧ k_ ≠ aD ∧ k_ ≠ ae ∧ k_ ≠ af ∧ k_ ≠ ai) br (fa (fz4 HB ag ah al an) (fa (fb ad) (fa (fb aa) (fa (fb ab) (fb ac)))))
             replace ad := kb ad hb
             replace aa := kb aa hb
             replace ab := kb ab hb
             replace ac := kb ac hb
             replace HB := be4 HB ag ah al an hb
             (try clear hb)
             (try clear hb2)
             (try clear hk)
             (try clear hi)
             (try clear br)
             refine hK.out _ _ ⟨bc aa 0, bc aa 1, bc ab 0, bc ab 1⟩ (fun hHeld => ?_)
             clear hK K
             refine nq 10 ?_
             exact norm_ (by first | (simp only [putAll, Act.put, List.setIfInBounds_toArray, List.set_cons_zero, List.set_cons_succ]; done) | (simp only [putAll, Act.put, List.setIfInBounds_toArray, List.set_cons_zero, List.set_cons_succ]; rfl)) (hJ1 (a2) _ ⟨hHeld, (vu aE.out), (ku ad.out), (ku aa.out), (ku ab.out), (ku ac.out), (bu4 HB.out ag.out ah.out al.out an.out)⟩)
            ·
             skip
             refine box_step ?hg (N := 7) ?hd (cs := #[.int .i64 0, .slice none 0 0]) (t := 53) ?hr ?_; (case hd => rfl); (case hg => rfl); (case hr => first | (go_simp; done) | (go_simp; rfl))
             intro av hg dc hbox hb
             have az := am (hbox)
             have aR := ng hg (bu4 HB.out ag.out ah.out al.out an.out)
             have aF := ng hg (bu4 HB.out ag.out ah.out al.out an.out)
             replace HB := be4 HB ag ah al an hb
             have aB := nl hg ad
             have aH := nr hg ad
             replace ad := kb ad hb
             have ao := nl hg aa
             have aI := nr hg aa
             replace aa := kb aa hb
             have ap := nl hg ab
             have aJ := nr hg ab
             replace ab := kb ab hb
             have aj := nl hg ac
             have ax := nr hg ac
             replace ac := kb ac hb
             clear hb hbox hg
             refine hK.out _ _ ⟨bc aa 0, bc aa 1, bc ab 0, bc ab 1⟩ (fun hHeld => ?_)
             clear hK K
             refine nq 7 ?_
             exact norm_ (by first | (simp only [putAll, Act.put, List.setIfInBounds_toArray, List.set_cons_zero, List.set_cons_succ]; done) | (simp only [putAll, Act.put, List.setIfInBounds_toArray, List.set_cons_zero, List.set_cons_succ]; rfl)) (hJ4 (av) _ ⟨hHeld, (ku ad.out), (ku aa.out), (ku ab.out), (ku ac.out), (ku az.out), aR.out, aF.out, aB.out, aH.out, ao.out, aI.out, ap.out, aJ.out, aj.out, ax.out, (bu5 HB.out ag.out ah.out al.out an.out aF.out)⟩)
            ·
             skip
             refine box_step ?hg (N := 8) ?hd (cs := #[.int .i64 0, .slice none 0 0]) (t := 53) ?hr ?_; (case hd => rfl); (case hg => rfl); (case hr => first | (go_simp; done) | (go_simp; rfl))
             intro aw hg dc hbox hb
             have aA := am (hbox)
             have aS := ng hg (bu4 HB.out ag.out ah.out al.out an.out)
             have aG := ng hg (bu4 HB.out ag.out ah.out al.out an.out)
             replace HB := be4 HB ag ah al an hb
             have aC := nl hg ad
             have aK := nr hg ad
             replace ad := kb ad hb
             have aq := nl hg aa
             have aL := nr hg aa
             replace aa := kb aa hb
             have au := nl hg ab
             have aM := nr hg ab
             replace ab := kb ab hb
             have ak := nl hg ac
             have ay := nr hg ac
             replace ac := kb ac hb
             clear hb hbox hg
             refine hK.out _ _ ⟨bc aa 0, bc aa 1, bc ab 0, bc ab 1⟩ (fun hHeld => ?_)
             clear hK K
             refine nq 8 ?_
             exact norm_ (by first | (simp only [putAll, Act.put, List.setIfInBounds_toArray, List.set_cons_zero, List.set_cons_succ]; done) | (simp only [putAll, Act.put, List.setIfInBounds_toArray, List.set_cons_zero, List.set_cons_succ]; rfl)) (hJ5 (aw) _ ⟨hHeld, (ku ad.out), (ku aa.out), (ku ab.out), (ku ac.out), (ku aA.out), aS.out, aG.out, aC.out, aK.out, aq.out, aL.out, au.out, aM.out, ak.out, ay.out, (bu5 HB.out ag.out ah.out al.out an.out aG.out)⟩)
           ·
            skip
            rintro aw bW ⟨hS_, a4, a5, a6, a7, a8, a9, bm, bo, bp, bq, aU, aV, aW, aX, aY, aZ⟩
            (try dsimp -simprocs only at a4 a5 a6 a7 a8 a9 bm bo bp bq aU aV aW aX aY aZ)
            clear ad aa ab ac HB
            have ad := Aside0.mk a4
            have aa := Aside0.mk a5
            have ab := Aside0.mk a6
            have ac := Aside0.mk a7
            have aA := Aside0.mk a8
            have aS := Aside0.mk a9
            have aG := Aside0.mk bm
            have aC := Aside0.mk bo
            have aK := Aside0.mk bp
            have aq := Aside0.mk bq
            have aL := Aside0.mk aU
            have au := Aside0.mk aV
            have aM := Aside0.mk aW
            have ak := Aside0.mk aX
            have ay := Aside0.mk aY
            have HB := Aside0.mk aZ
            clear a4 a5 a6 a7 a8 a9 bm bo bp bq aU aV aW aX aY aZ
            have hHeld : bW.cell? ⟨ae, 0, none⟩ = some (.int .i64 a1_0) ∧ bW.cell? ⟨ae, 1, none⟩ = some (.slice A1_1 l1_1.length c1_1) ∧ bW.cell? ⟨af, 0, none⟩ = some (.int .i64 a2_0) ∧ bW.cell? ⟨af, 1, none⟩ = some (.slice A2_1 l2_1.length c2_1) := hS_
            refine norm_ (a' := ?_) ?_ ?_
            rotate_left
            ·
             simp only [putAll, Act.put, List.setIfInBounds_toArray, List.set_cons_zero, List.set_cons_succ]
             rfl
            refine two_ (i := 1) (j := 4) (Ni := some 10) (Nj := some 7) #[true, true, true, false, false, true, false, false] #[true, false, true, false, true, true, false, false] rfl rfl rfl rfl (two_of HT_.out (by kernel_rfl)) (by decide) (by decide) (fun K hK => ?_) (fun K hK => ?_)
            ·
             skip
             refine goes_ Try.func148 (by kernel_rfl) rfl #[.agg #[.int .i64 a1_0, .slice A1_1 l1_1.length c1_1]] (by rfl) rfl rfl lu ?_
             with_reducible refine (semiring_least.calls k a1_0 _ _ l1_1 aQ aT _ ?side1 ?side2 A4.out).mono ?_
             (case side1 => repeat (first | exact (Kd.C_below bU.out HB.out) | (with_reducible refine Kd.C_alloc ?_ _) | (with_reducible refine Kd.C_drewN ?_ _) | (with_reducible refine Kd.C_drew ?_)))
             (case side2 => first | exact bx.out | exact vz bx.out)
             rintro e bA ⟨a2, rfl, br, hb⟩
             refine ⟨_, rfl, ?_⟩
             have aE := ar0 w.heap.size (ok' := fun k_ => (w.heap.size ≤ k_) ∧ k_ ≠ aD ∧ k_ ≠ ae ∧ k_ ≠ af ∧ k_ ≠ ai ∧ k_ ≠ aw) br (fa (fz5 HB ag ah al an aG) (fa (fb ad) (fa (fb aa) (fa (fb ab) (fa (fb ac) (fb aA))))))
             replace ad := kb ad hb
             replace aa := kb aa hb
             replace ab := kb ab hb
             replace ac := kb ac hb
             replace aA := kb aA hb
             replace HB := be5 HB ag ah al an aG hb
             (try clear hb)
             (try clear hb2)
             (try clear hk)
             (try clear hi)
             (try clear br)
             refine hK.out _ _ ⟨bc aa 0, bc aa 1, bc ab 0, bc ab 1⟩ (fun hHeld => ?_)
             clear hK K
             refine nq 10 ?_
             exact norm_ (by first | (simp only [putAll, Act.put, List.setIfInBounds_toArray, List.set_cons_zero, List.set_cons_succ]; done) | (simp only [putAll, Act.put, List.setIfInBounds_toArray, List.set_cons_zero, List.set_cons_succ]; rfl)) (hJ1_5 (a2, aw) _ ⟨hHeld, (vu aE.out), (ku ad.out), (ku aa.out), (ku ab.out), (ku ac.out), (ku aA.out), aS.out, aG.out, aC.out, aK.out, aq.out, aL.out, au.out, aM.out, ak.out, ay.out, (bu5 HB.out ag.out ah.out al.out an.out aG.out)⟩)
            ·
             skip
             refine box_step ?hg (N := 7) ?hd (cs := #[.int .i64 0, .slice none 0 0]) (t := 53) ?hr ?_; (case hd => rfl); (case hg => rfl); (case hr => first | (go_simp; done) | (go_simp; rfl))
             intro av hg bA hbox hb
             have az := am (hbox)
             have aR := ng hg (bu5 HB.out ag.out ah.out al.out an.out aG.out)
             have aF := ng hg (bu5 HB.out ag.out ah.out al.out an.out aG.out)
             replace HB := be5 HB ag ah al an aG hb
             have aB := nl hg ad
             have aH := nr hg ad
             replace ad := kb ad hb
             have ao := nl hg aa
             have aI := nr hg aa
             replace aa := kb aa hb
             have ap := nl hg ab
             have aJ := nr hg ab
             replace ab := kb ab hb
             have aj := nl hg ac
             have ax := nr hg ac
             replace ac := kb ac hb
             have aN := nl hg aA
             have aO := nr hg aA
             replace aA := kb aA hb
             clear hb hbox hg
             refine hK.out _ _ ⟨bc aa 0, bc aa 1, bc ab 0, bc ab 1⟩ (fun hHeld => ?_)
             clear hK K
             refine nq 7 ?_
             exact norm_ (by first | (simp only [putAll, Act.put, List.setIfInBounds_toArray, List.set_cons_zero, List.set_cons_succ]; done) | (simp only [putAll, Act.put, List.setIfInBounds_toArray, List.set_cons_zero, List.set_cons_succ]; rfl)) (hJ4_5 (av, aw) _ ⟨hHeld, (ku ad.out), (ku aa.out), (ku ab.out), (ku ac.out), (ku az.out), (ku aA.out), aR.out, aF.out, aB.out, aH.out, ao.out, aI.out, ap.out, aJ.out, aj.out, ax.out, aN.out, aO.out, aS.out, aG.out, aC.out, aK.out, aq.out, aL.out, au.out, aM.out, ak.out, ay.out, (bu6 HB.out ag.out ah.out al.out an.out aG.out aF.out)⟩)
          ·
           skip
           rintro av bW ⟨hS_, a4, a5, a6, a7, a8, a9, bm, bo, bp, bq, aU, aV, aW, aX, aY, aZ⟩
           (try dsimp -simprocs only at a4 a5 a6 a7 a8 a9 bm bo bp bq aU aV aW aX aY aZ)
           clear ad aa ab ac HB
           have ad := Aside0.mk a4
           have aa := Aside0.mk a5
           have ab := Aside0.mk a6
           have ac := Aside0.mk a7
           have az := Aside0.mk a8
           have aR := Aside0.mk a9
           have aF := Aside0.mk bm
           have aB := Aside0.mk bo
           have aH := Aside0.mk bp
           have ao := Aside0.mk bq
           have aI := Aside0.mk aU
           have ap := Aside0.mk aV
           have aJ := Aside0.mk aW
           have aj := Aside0.mk aX
           have ax := Aside0.mk aY
           have HB := Aside0.mk aZ
           clear a4 a5 a6 a7 a8 a9 bm bo bp bq aU aV aW aX aY aZ
           have hHeld : bW.cell? ⟨ae, 0, none⟩ = some (.int .i64 a1_0) ∧ bW.cell? ⟨ae, 1, none⟩ = some (.slice A1_1 l1_1.length c1_1) ∧ bW.cell? ⟨af, 0, none⟩ = some (.int .i64 a2_0) ∧ bW.cell? ⟨af, 1, none⟩ = some (.slice A2_1 l2_1.length c2_1) := hS_
           refine norm_ (a' := ?_) ?_ ?_
           rotate_left
           ·
            simp only [putAll, Act.put, List.setIfInBounds_toArray, List.set_cons_zero, List.set_cons_succ]
            rfl
           refine two_ (i := 1) (j := 5) (Ni := some 10) (Nj := some 8) #[true, true, true, false, true, false, false, false] #[true, false, true, false, true, true, false, false] rfl rfl rfl rfl (two_of HT_.out (by kernel_rfl)) (by decide) (by decide) (fun K hK => ?_) (fun K hK => ?_)
           ·
            skip
            refine goes_ Try.func148 (by kernel_rfl) rfl #[.agg #[.int .i64 a1_0, .slice A1_1 l1_1.length c1_1]] (by rfl) rfl rfl lu ?_
            with_reducible refine (semiring_least.calls k a1_0 _ _ l1_1 aQ aT _ ?side1 ?side2 A4.out).mono ?_
            (case side1 => repeat (first | exact (Kd.C_below bU.out HB.out) | (with_reducible refine Kd.C_alloc ?_ _) | (with_reducible refine Kd.C_drewN ?_ _) | (with_reducible refine Kd.C_drew ?_)))
            (case side2 => first | exact bx.out | exact vz bx.out)
            rintro e bA ⟨a2, rfl, br, hb⟩
            refine ⟨_, rfl, ?_⟩
            have aE := ar0 w.heap.size (ok' := fun k_ => (w.heap.size ≤ k_) ∧ k_ ≠ aD ∧ k_ ≠ ae ∧ k_ ≠ af ∧ k_ ≠ ai ∧ k_ ≠ av) br (fa (fz5 HB ag ah al an aF) (fa (fb ad) (fa (fb aa) (fa (fb ab) (fa (fb ac) (fb az))))))
            replace ad := kb ad hb
            replace aa := kb aa hb
            replace ab := kb ab hb
            replace ac := kb ac hb
            replace az := kb az hb
            replace HB := be5 HB ag ah al an aF hb
            (try clear hb)
            (try clear hb2)
            (try clear hk)
            (try clear hi)
            (try clear br)
            refine hK.out _ _ ⟨bc aa 0, bc aa 1, bc ab 0, bc ab 1⟩ (fun hHeld => ?_)
            clear hK K
            refine nq 10 ?_
            exact norm_ (by first | (simp only [putAll, Act.put, List.setIfInBounds_toArray, List.set_cons_zero, List.set_cons_succ]; done) | (simp only [putAll, Act.put, List.setIfInBounds_toArray, List.set_cons_zero, List.set_cons_succ]; rfl)) (hJ1_4 (a2, av) _ ⟨hHeld, (vu aE.out), (ku ad.out), (ku aa.out), (ku ab.out), (ku ac.out), (ku az.out), aR.out, aF.out, aB.out, aH.out, ao.out, aI.out, ap.out, aJ.out, aj.out, ax.out, (bu5 HB.out ag.out ah.out al.out an.out aF.out)⟩)
           ·
            skip
            refine box_step ?hg (N := 8) ?hd (cs := #[.int .i64 0, .slice none 0 0]) (t := 53) ?hr ?_; (case hd => rfl); (case hg => rfl); (case hr => first | (go_simp; done) | (go_simp; rfl))
            intro aw hg bA hbox hb
            have aA := am (hbox)
            have aS := ng hg (bu5 HB.out ag.out ah.out al.out an.out aF.out)
            have aG := ng hg (bu5 HB.out ag.out ah.out al.out an.out aF.out)
            replace HB := be5 HB ag ah al an aF hb
            have aC := nl hg ad
            have aK := nr hg ad
            replace ad := kb ad hb
            have aq := nl hg aa
            have aL := nr hg aa
            replace aa := kb aa hb
            have au := nl hg ab
            have aM := nr hg ab
            replace ab := kb ab hb
            have ak := nl hg ac
            have ay := nr hg ac
            replace ac := kb ac hb
            have aO := nl hg az
            have aN := nr hg az
            replace az := kb az hb
            clear hb hbox hg
            refine hK.out _ _ ⟨bc aa 0, bc aa 1, bc ab 0, bc ab 1⟩ (fun hHeld => ?_)
            clear hK K
            refine nq 8 ?_
            exact norm_ (by first | (simp only [putAll, Act.put, List.setIfInBounds_toArray, List.set_cons_zero, List.set_cons_succ]; done) | (simp only [putAll, Act.put, List.setIfInBounds_toArray, List.set_cons_zero, List.set_cons_succ]; rfl)) (hJ4_5 (av, aw) _ ⟨hHeld, (ku ad.out), (ku aa.out), (ku ab.out), (ku ac.out), (ku az.out), (ku aA.out), aR.out, aF.out, aB.out, aH.out, ao.out, aI.out, ap.out, aJ.out, aj.out, ax.out, aN.out, aO.out, aS.out, aG.out, aC.out, aK.out, aq.out, aL.out, au.out, aM.out, ak.out, ay.out, (bu6 HB.out ag.out ah.out al.out an.out aF.out aG.out)⟩)
         ·
          skip
          rintro a2 bW ⟨hS_, a4, a5, a6, a7, a8, a9⟩
          (try dsimp -simprocs only at a4 a5 a6 a7 a8 a9)
          clear ad aa ab ac HB
          have aE := Aside0.mk a4
          have ad := Aside0.mk a5
          have aa := Aside0.mk a6
          have ab := Aside0.mk a7
          have ac := Aside0.mk a8
          have HB := Aside0.mk a9
          clear a4 a5 a6 a7 a8 a9
          have hHeld : bW.cell? ⟨ae, 0, none⟩ = some (.int .i64 a1_0) ∧ bW.cell? ⟨ae, 1, none⟩ = some (.slice A1_1 l1_1.length c1_1) ∧ bW.cell? ⟨af, 0, none⟩ = some (.int .i64 a2_0) ∧ bW.cell? ⟨af, 1, none⟩ = some (.slice A2_1 l2_1.length c2_1) := hS_
          refine norm_ (a' := ?_) ?_ ?_
          rotate_left
          ·
           simp only [putAll, Act.put, List.setIfInBounds_toArray, List.set_cons_zero, List.set_cons_succ]
           rfl
          refine three_ (i := 3) (j := 4) (k := 5) (Ni := some 12) (Nj := some 7) (Nk := some 8) #[true, true, true, true, false, false, false, false] #[true, true, true, false, true, false, false, false] #[true, true, true, false, false, true, false, false] rfl rfl rfl rfl rfl rfl (three_of HT_.out (by kernel_rfl)) (by decide) (by decide) (by decide) (fun K hK => ?_) (fun K hK => ?_) (fun K hK => ?_)
          ·
           skip
           refine goes_ Try.func148 (by kernel_rfl) rfl #[.agg #[.int .i64 a2_0, .slice A2_1 l2_1.length c2_1]] (by rfl) rfl rfl lu ?_
           with_reducible refine (semiring_least.calls k a2_0 _ _ l2_1 a0 a1 _ ?side1 ?side2 A5.out).mono ?_
           (case side1 => repeat (first | exact (Kd.C_below bV.out HB.out) | (with_reducible refine Kd.C_alloc ?_ _) | (with_reducible refine Kd.C_drewN ?_ _) | (with_reducible refine Kd.C_drew ?_)))
           (case side2 => first | exact bz.out | exact vz bz.out)
           rintro e bA ⟨bv, rfl, br, hb⟩
           refine ⟨_, rfl, ?_⟩
           replace aE := kv aE hb
           have aP := ar0 w.heap.size (ok' := fun k_ => (w.heap.size ≤ k_) ∧ k_ ≠ aD ∧ k_ ≠ ae ∧ k_ ≠ af ∧ k_ ≠ ai) br (fa (fz4 HB ag ah al an) (fa (fb ad) (fa (fb aa) (fa (fb ab) (fb ac)))))
           replace ad := kb ad hb
           replace aa := kb aa hb
           replace ab := kb ab hb
           replace ac := kb ac hb
           replace HB := be4 HB ag ah al an hb
           (try clear hb)
           (try clear hb2)
           (try clear hk)
           (try clear hi)
           (try clear br)
           refine hK.out _ _ ⟨bc aa 0, bc aa 1, bc ab 0, bc ab 1⟩ (fun hHeld => ?_)
           clear hK K
           refine nq 12 ?_
           exact norm_ (by first | (simp only [putAll, Act.put, List.setIfInBounds_toArray, List.set_cons_zero, List.set_cons_succ]; done) | (simp only [putAll, Act.put, List.setIfInBounds_toArray, List.set_cons_zero, List.set_cons_succ]; rfl)) (hJ1_3 (a2, bv) _ ⟨hHeld, (vu aE.out), (vu aP.out), (ku ad.out), (ku aa.out), (ku ab.out), (ku ac.out), (bu4 HB.out ag.out ah.out al.out an.out)⟩)
          ·
           skip
           refine box_step ?hg (N := 7) ?hd (cs := #[.int .i64 0, .slice none 0 0]) (t := 53) ?hr ?_; (case hd => rfl); (case hg => rfl); (case hr => first | (go_simp; done) | (go_simp; rfl))
           intro av hg bA hbox hb
           replace aE := ke aE hg hb
           have az := am (hbox)
           have aR := ng hg (bu4 HB.out ag.out ah.out al.out an.out)
           have aF := ng hg (bu4 HB.out ag.out ah.out al.out an.out)
           replace HB := be4 HB ag ah al an hb
           have aB := nl hg ad
           have aH := nr hg ad
           replace ad := kb ad hb
           have ao := nl hg aa
           have aI := nr hg aa
           replace aa := kb aa hb
           have ap := nl hg ab
           have aJ := nr hg ab
           replace ab := kb ab hb
           have aj := nl hg ac
           have ax := nr hg ac
           replace ac := kb ac hb
           clear hb hbox hg
           refine hK.out _ _ ⟨bc aa 0, bc aa 1, bc ab 0, bc ab 1⟩ (fun hHeld => ?_)
           clear hK K
           refine nq 7 ?_
           exact norm_ (by first | (simp only [putAll, Act.put, List.setIfInBounds_toArray, List.set_cons_zero, List.set_cons_succ]; done) | (simp only [putAll, Act.put, List.setIfInBounds_toArray, List.set_cons_zero, List.set_cons_succ]; rfl)) (hJ1_4 (a2, av) _ ⟨hHeld, (vz aE.out), (ku ad.out), (ku aa.out), (ku ab.out), (ku ac.out), (ku az.out), aR.out, aF.out, aB.out, aH.out, ao.out, aI.out, ap.out, aJ.out, aj.out, ax.out, (bu5 HB.out ag.out ah.out al.out an.out aF.out)⟩)
          ·
           skip
           refine box_step ?hg (N := 8) ?hd (cs := #[.int .i64 0, .slice none 0 0]) (t := 53) ?hr ?_; (case hd => rfl); (case hg => rfl); (case hr => first | (go_simp; done) | (go_simp; rfl))
           intro aw hg bA hbox hb
           replace aE := ke aE hg hb
           have aA := am (hbox)
           have aS := ng hg (bu4 HB.out ag.out ah.out al.out an.out)
           have aG := ng hg (bu4 HB.out ag.out ah.out al.out an.out)
           replace HB := be4 HB ag ah al an hb
           have aC := nl hg ad
           have aK := nr hg ad
           replace ad := kb ad hb
           have aq := nl hg aa
           have aL := nr hg aa
           replace aa := kb aa hb
           have au := nl hg ab
           have aM := nr hg ab
           replace ab := kb ab hb
           have ak := nl hg ac
           have ay := nr hg ac
           replace ac := kb ac hb
           clear hb hbox hg
           refine hK.out _ _ ⟨bc aa 0, bc aa 1, bc ab 0, bc ab 1⟩ (fun hHeld => ?_)
           clear hK K
           refine nq 8 ?_
           exact norm_ (by first | (simp only [putAll, Act.put, List.setIfInBounds_toArray, List.set_cons_zero, List.set_cons_succ]; done) | (simp only [putAll, Act.put, List.setIfInBounds_toArray, List.set_cons_zero, List.set_cons_succ]; rfl)) (hJ1_5 (a2, aw) _ ⟨hHeld, (vz aE.out), (ku ad.out), (ku aa.out), (ku ab.out), (ku ac.out), (ku aA.out), aS.out, aG.out, aC.out, aK.out, aq.out, aL.out, au.out, aM.out, ak.out, ay.out, (bu5 HB.out ag.out ah.out al.out an.out aG.out)⟩)
        ·
         skip
         rintro ⟨av, aw⟩ bA ⟨hS_, a4, a5, a6, a7, a8, a9, bm, bo, bp, bq, aU, aV, aW, aX, aY, aZ, a3, bn, bC, bD, bE, bF, bG, bH, bI, bJ, bK, bL, bM⟩
         (try dsimp -simprocs only at a4 a5 a6 a7 a8 a9 bm bo bp bq aU aV aW aX aY aZ a3 bn bC bD bE bF bG bH bI bJ bK bL bM)
         clear ad aa ab ac HB
         have ad := Aside0.mk a4
         have aa := Aside0.mk a5
         have ab := Aside0.mk a6
         have ac := Aside0.mk a7
         have az := Aside0.mk a8
         have aA := Aside0.mk a9
         have aR := Aside0.mk bm
         have aF := Aside0.mk bo
         have aB := Aside0.mk bp
         have aH := Aside0.mk bq
         have ao := Aside0.mk aU
         have aI := Aside0.mk aV
         have ap := Aside0.mk aW
         have aJ := Aside0.mk aX
         have aj := Aside0.mk aY
         have ax := Aside0.mk aZ
         have aN := Aside0.mk a3
         have aO := Aside0.mk bn
         have aS := Aside0.mk bC
         have aG := Aside0.mk bD
         have aC := Aside0.mk bE
         have aK := Aside0.mk bF
         have aq := Aside0.mk bG
         have aL := Aside0.mk bH
         have au := Aside0.mk bI
         have aM := Aside0.mk bJ
         have ak := Aside0.mk bK
         have ay := Aside0.mk bL
         have HB := Aside0.mk bM
         clear a4 a5 a6 a7 a8 a9 bm bo bp bq aU aV aW aX aY aZ a3 bn bC bD bE bF bG bH bI bJ bK bL bM
         have hHeld : bA.cell? ⟨ae, 0, none⟩ = some (.int .i64 a1_0) ∧ bA.cell? ⟨ae, 1, none⟩ = some (.slice A1_1 l1_1.length c1_1) ∧ bA.cell? ⟨af, 0, none⟩ = some (.int .i64 a2_0) ∧ bA.cell? ⟨af, 1, none⟩ = some (.slice A2_1 l2_1.length c2_1) := hS_
         refine norm_ (a' := ?_) ?_ ?_
         rotate_left
         ·
          simp only [putAll, Act.put, List.setIfInBounds_toArray, List.set_cons_zero, List.set_cons_succ]
          rfl
         refine one_ (i := 1) (N := some 10) #[true, true, true, false, true, true, false, false] rfl rfl (one_of HT_.out (by kernel_rfl)) (by decide) (fun K hK => ?_)
         refine goes_ Try.func148 (by kernel_rfl) rfl #[.agg #[.int .i64 a1_0, .slice A1_1 l1_1.length c1_1]] (by rfl) rfl rfl lu ?_
         with_reducible refine (semiring_least.calls k a1_0 _ _ l1_1 aQ aT _ ?side1 ?side2 A4.out).mono ?_
         (case side1 => repeat (first | exact (Kd.C_below bU.out HB.out) | (with_reducible refine Kd.C_alloc ?_ _) | (with_reducible refine Kd.C_drewN ?_ _) | (with_reducible refine Kd.C_drew ?_)))
         (case side2 => first | exact bx.out | exact vz bx.out)
         rintro e bO ⟨a2, rfl, br, hb⟩
         refine ⟨_, rfl, ?_⟩
         have aE := ar0 w.heap.size (ok' := fun k_ => (w.heap.size ≤ k_) ∧ k_ ≠ aD ∧ k_ ≠ ae ∧ k_ ≠ af ∧ k_ ≠ ai ∧ k_ ≠ av ∧ k_ ≠ aw) br (fa (fz6 HB ag ah al an aF aG) (fa (fb ad) (fa (fb aa) (fa (fb ab) (fa (fb ac) (fa (fb az) (fb aA)))))))
         replace ad := kb ad hb
         replace aa := kb aa hb
         replace ab := kb ab hb
         replace ac := kb ac hb
         replace az := kb az hb
         replace aA := kb aA hb
         replace HB := be6 HB ag ah al an aF aG hb
         (try clear hb)
         (try clear hb2)
         (try clear hk)
         (try clear hi)
         (try clear br)
         refine hK.out _ _ ⟨bc aa 0, bc aa 1, bc ab 0, bc ab 1⟩ (fun hHeld => ?_)
         clear hK K
         refine nq 10 ?_
         exact norm_ (by first | (simp only [putAll, Act.put, List.setIfInBounds_toArray, List.set_cons_zero, List.set_cons_succ]; done) | (simp only [putAll, Act.put, List.setIfInBounds_toArray, List.set_cons_zero, List.set_cons_succ]; rfl)) (hJ1_4_5 (a2, av, aw) _ ⟨hHeld, (vu aE.out), (ku ad.out), (ku aa.out), (ku ab.out), (ku ac.out), (ku az.out), (ku aA.out), aR.out, aF.out, aB.out, aH.out, ao.out, aI.out, ap.out, aJ.out, aj.out, ax.out, aN.out, aO.out, aS.out, aG.out, aC.out, aK.out, aq.out, aL.out, au.out, aM.out, ak.out, ay.out, (bu6 HB.out ag.out ah.out al.out an.out aF.out aG.out)⟩)
       ·
        skip
        rintro ⟨a2, aw⟩ bA ⟨hS_, a4, a5, a6, a7, a8, a9, bm, bo, bp, bq, aU, aV, aW, aX, aY, aZ, a3⟩
        (try dsimp -simprocs only at a4 a5 a6 a7 a8 a9 bm bo bp bq aU aV aW aX aY aZ a3)
        clear ad aa ab ac HB
        have aE := Aside0.mk a4
        have ad := Aside0.mk a5
        have aa := Aside0.mk a6
        have ab := Aside0.mk a7
        have ac := Aside0.mk a8
        have aA := Aside0.mk a9
        have aS := Aside0.mk bm
        have aG := Aside0.mk bo
        have aC := Aside0.mk bp
        have aK := Aside0.mk bq
        have aq := Aside0.mk aU
        have aL := Aside0.mk aV
        have au := Aside0.mk aW
        have aM := Aside0.mk aX
        have ak := Aside0.mk aY
        have ay := Aside0.mk aZ
        have HB := Aside0.mk a3
        clear a4 a5 a6 a7 a8 a9 bm bo bp bq aU aV aW aX aY aZ a3
        have hHeld : bA.cell? ⟨ae, 0, none⟩ = some (.int .i64 a1_0) ∧ bA.cell? ⟨ae, 1, none⟩ = some (.slice A1_1 l1_1.length c1_1) ∧ bA.cell? ⟨af, 0, none⟩ = some (.int .i64 a2_0) ∧ bA.cell? ⟨af, 1, none⟩ = some (.slice A2_1 l2_1.length c2_1) := hS_
        refine norm_ (a' := ?_) ?_ ?_
        rotate_left
        ·
         simp only [putAll, Act.put, List.setIfInBounds_toArray, List.set_cons_zero, List.set_cons_succ]
         rfl
        refine two_ (i := 3) (j := 4) (Ni := some 12) (Nj := some 7) #[true, true, true, true, false, true, false, false] #[true, true, true, false, true, true, false, false] rfl rfl rfl rfl (two_of HT_.out (by kernel_rfl)) (by decide) (by decide) (fun K hK => ?_) (fun K hK => ?_)
        ·
         skip
         refine goes_ Try.func148 (by kernel_rfl) rfl #[.agg #[.int .i64 a2_0, .slice A2_1 l2_1.length c2_1]] (by rfl) rfl rfl lu ?_
         with_reducible refine (semiring_least.calls k a2_0 _ _ l2_1 a0 a1 _ ?side1 ?side2 A5.out).mono ?_
         (case side1 => repeat (first | exact (Kd.C_below bV.out HB.out) | (with_reducible refine Kd.C_alloc ?_ _) | (with_reducible refine Kd.C_drewN ?_ _) | (with_reducible refine Kd.C_drew ?_)))
         (case side2 => first | exact bz.out | exact vz bz.out)
         rintro e bO ⟨bv, rfl, br, hb⟩
         refine ⟨_, rfl, ?_⟩
         replace aE := kv aE hb
         have aP := ar0 w.heap.size (ok' := fun k_ => (w.heap.size ≤ k_) ∧ k_ ≠ aD ∧ k_ ≠ ae ∧ k_ ≠ af ∧ k_ ≠ ai ∧ k_ ≠ aw) br (fa (fz5 HB ag ah al an aG) (fa (fb ad) (fa (fb aa) (fa (fb ab) (fa (fb ac) (fb aA))))))
         replace ad := kb ad hb
         replace aa := kb aa hb
         replace ab := kb ab hb
         replace ac := kb ac hb
         replace aA := kb aA hb
         replace HB := be5 HB ag ah al an aG hb
         (try clear hb)
         (try clear hb2)
         (try clear hk)
         (try clear hi)
         (try clear br)
         refine hK.out _ _ ⟨bc aa 0, bc aa 1, bc ab 0, bc ab 1⟩ (fun hHeld => ?_)
         clear hK K
         refine nq 12 ?_
         exact norm_ (by first | (simp only [putAll, Act.put, List.setIfInBounds_toArray, List.set_cons_zero, List.set_cons_succ]; done) | (simp only [putAll, Act.put, List.setIfInBounds_toArray, List.set_cons_zero, List.set_cons_succ]; rfl)) (hJ1_3_5 (a2, bv, aw) _ ⟨hHeld, (vu aE.out), (vu aP.out), (ku ad.out), (ku aa.out), (ku ab.out), (ku ac.out), (ku aA.out), aS.out, aG.out, aC.out, aK.out, aq.out, aL.out, au.out, aM.out, ak.out, ay.out, (bu5 HB.out ag.out ah.out al.out an.out aG.out)⟩)
        ·
         skip
         refine box_step ?hg (N := 7) ?hd (cs := #[.int .i64 0, .slice none 0 0]) (t := 53) ?hr ?_; (case hd => rfl); (case hg => rfl); (case hr => first | (go_simp; done) | (go_simp; rfl))
         intro av hg bO hbox hb
         replace aE := ke aE hg hb
         have az := am (hbox)
         have aR := ng hg (bu5 HB.out ag.out ah.out al.out an.out aG.out)
         have aF := ng hg (bu5 HB.out ag.out ah.out al.out an.out aG.out)
         replace HB := be5 HB ag ah al an aG hb
         have aB := nl hg ad
         have aH := nr hg ad
         replace ad := kb ad hb
         have ao := nl hg aa
         have aI := nr hg aa
         replace aa := kb aa hb
         have ap := nl hg ab
         have aJ := nr hg ab
         replace ab := kb ab hb
         have aj := nl hg ac
         have ax := nr hg ac
         replace ac := kb ac hb
         have aN := nl hg aA
         have aO := nr hg aA
         replace aA := kb aA hb
         clear hb hbox hg
         refine hK.out _ _ ⟨bc aa 0, bc aa 1, bc ab 0, bc ab 1⟩ (fun hHeld => ?_)
         clear hK K
         refine nq 7 ?_
         exact norm_ (by first | (simp only [putAll, Act.put, List.setIfInBounds_toArray, List.set_cons_zero, List.set_cons_succ]; done) | (simp only [putAll, Act.put, List.setIfInBounds_toArray, List.set_cons_zero, List.set_cons_succ]; rfl)) (hJ1_4_5 (a2, av, aw) _ ⟨hHeld, (vz aE.out), (ku ad.out), (ku aa.out), (ku ab.out), (ku ac.out), (ku az.out), (ku aA.out), aR.out, aF.out, aB.out, aH.out, ao.out, aI.out, ap.out, aJ.out, aj.out, ax.out, aN.out, aO.out, aS.out, aG.out, aC.out, aK.out, aq.out, aL.out, au.out, aM.out, ak.out, ay.out, (bu6 HB.out ag.out ah.out al.out an.out aG.out aF.out)⟩)
      ·
       skip
       rintro ⟨a2, av⟩ bA ⟨hS_, a4, a5, a6, a7, a8, a9, bm, bo, bp, bq, aU, aV, aW, aX, aY, aZ, a3⟩
       (try dsimp -simprocs only at a4 a5 a6 a7 a8 a9 bm bo bp bq aU aV aW aX aY aZ a3)
       clear ad aa ab ac HB
       have aE := Aside0.mk a4
       have ad := Aside0.mk a5
       have aa := Aside0.mk a6
       have ab := Aside0.mk a7
       have ac := Aside0.mk a8
       have az := Aside0.mk a9
       have aR := Aside0.mk bm
       have aF := Aside0.mk bo
       have aB := Aside0.mk bp
       have aH := Aside0.mk bq
       have ao := Aside0.mk aU
       have aI := Aside0.mk aV
       have ap := Aside0.mk aW
       have aJ := Aside0.mk aX
       have aj := Aside0.mk aY
       have ax := Aside0.mk aZ
       have HB := Aside0.mk a3
       clear a4 a5 a6 a7 a8 a9 bm bo bp bq aU aV aW aX aY aZ a3
       have hHeld : bA.cell? ⟨ae, 0, none⟩ = some (.int .i64 a1_0) ∧ bA.cell? ⟨ae, 1, none⟩ = some (.slice A1_1 l1_1.length c1_1) ∧ bA.cell? ⟨af, 0, none⟩ = some (.int .i64 a2_0) ∧ bA.cell? ⟨af, 1, none⟩ = some (.slice A2_1 l2_1.length c2_1) := hS_
       refine norm_ (a' := ?_) ?_ ?_
       rotate_left
       ·
        simp only [putAll, Act.put, List.setIfInBounds_toArray, List.set_cons_zero, List.set_cons_succ]
        rfl
       refine two_ (i := 3) (j := 5) (Ni := some 12) (Nj := some 8) #[true, true, true, true, true, false, false, false] #[true, true, true, false, true, true, false, false] rfl rfl rfl rfl (two_of HT_.out (by kernel_rfl)) (by decide) (by decide) (fun K hK => ?_) (fun K hK => ?_)
       ·
        skip
        refine goes_ Try.func148 (by kernel_rfl) rfl #[.agg #[.int .i64 a2_0, .slice A2_1 l2_1.length c2_1]] (by rfl) rfl rfl lu ?_
        with_reducible refine (semiring_least.calls k a2_0 _ _ l2_1 a0 a1 _ ?side1 ?side2 A5.out).mono ?_
        (case side1 => repeat (first | exact (Kd.C_below bV.out HB.out) | (with_reducible refine Kd.C_alloc ?_ _) | (with_reducible refine Kd.C_drewN ?_ _) | (with_reducible refine Kd.C_drew ?_)))
        (case side2 => first | exact bz.out | exact vz bz.out)
        rintro e bO ⟨bv, rfl, br, hb⟩
        refine ⟨_, rfl, ?_⟩
        replace aE := kv aE hb
        have aP := ar0 w.heap.size (ok' := fun k_ => (w.heap.size ≤ k_) ∧ k_ ≠ aD ∧ k_ ≠ ae ∧ k_ ≠ af ∧ k_ ≠ ai ∧ k_ ≠ av) br (fa (fz5 HB ag ah al an aF) (fa (fb ad) (fa (fb aa) (fa (fb ab) (fa (fb ac) (fb az))))))
        replace ad := kb ad hb
        replace aa := kb aa hb
        replace ab := kb ab hb
        replace ac := kb ac hb
        replace az := kb az hb
        replace HB := be5 HB ag ah al an aF hb
        (try clear hb)
        (try clear hb2)
        (try clear hk)
        (try clear hi)
        (try clear br)
        refine hK.out _ _ ⟨bc aa 0, bc aa 1, bc ab 0, bc ab 1⟩ (fun hHeld => ?_)
        clear hK K
        refine nq 12 ?_
        exact norm_ (by first | (simp only [putAll, Act.put, List.setIfInBounds_toArray, List.set_cons_zero, List.set_cons_succ]; done) | (simp only [putAll, Act.put, List.setIfInBounds_toArray, List.set_cons_zero, List.set_cons_succ]; rfl)) (hJ1_3_4 (a2, bv, av) _ ⟨hHeld, (vu aE.out), (vu aP.out), (ku ad.out), (ku aa.out), (ku ab.out), (ku ac.out), (ku az.out), aR.out, aF.out, aB.out, aH.out, ao.out, aI.out, ap.out, aJ.out, aj.out, ax.out, (bu5 HB.out ag.out ah.out al.out an.out aF.out)⟩)
       ·
        skip
        refine box_step ?hg (N := 8) ?hd (cs := #[.int .i64 0, .slice none 0 0]) (t := 53) ?hr ?_; (case hd => rfl); (case hg => rfl); (case hr => first | (go_simp; done) | (go_simp; rfl))
        intro aw hg bO hbox hb
        replace aE := ke aE hg hb
        have aA := am (hbox)
        have aS := ng hg (bu5 HB.out ag.out ah.out al.out an.out aF.out)
        have aG := ng hg (bu5 HB.out ag.out ah.out al.out an.out aF.out)
        replace HB := be5 HB ag ah al an aF hb
        have aC := nl hg ad
        have aK := nr hg ad
        replace ad := kb ad hb
        have aq := nl hg aa
        have aL := nr hg aa
        replace aa := kb aa hb
        have au := nl hg ab
        have aM := nr hg ab
        replace ab := kb ab hb
        have ak := nl hg ac
        have ay := nr hg ac
        replace ac := kb ac hb
        have aO := nl hg az
        have aN := nr hg az
        replace az := kb az hb
        clear hb hbox hg
        refine hK.out _ _ ⟨bc aa 0, bc aa 1, bc ab 0, bc ab 1⟩ (fun hHeld => ?_)
        clear hK K
        refine nq 8 ?_
        exact norm_ (by first | (simp only [putAll, Act.put, List.setIfInBounds_toArray, List.set_cons_zero, List.set_cons_succ]; done) | (simp only [putAll, Act.put, List.setIfInBounds_toArray, List.set_cons_zero, List.set_cons_succ]; rfl)) (hJ1_4_5 (a2, av, aw) _ ⟨hHeld, (vz aE.out), (ku ad.out), (ku aa.out), (ku ab.out), (ku ac.out), (ku az.out), (ku aA.out), aR.out, aF.out, aB.out, aH.out, ao.out, aI.out, ap.out, aJ.out, aj.out, ax.out, aN.out, aO.out, aS.out, aG.out, aC.out, aK.out, aq.out, aL.out, au.out, aM.out, ak.out, ay.out, (bu6 HB.out ag.out ah.out al.out an.out aF.out aG.out)⟩)
     ·
      skip
      rintro ⟨a2, bv⟩ bA ⟨hS_, a4, a5, a6, a7, a8, a9, bm⟩
      (try dsimp -simprocs only at a4 a5 a6 a7 a8 a9 bm)
      clear ad aa ab ac HB
      have aE := Aside0.mk a4
      have aP := Aside0.mk a5
      have ad := Aside0.mk a6
      have aa := Aside0.mk a7
      have ab := Aside0.mk a8
      have ac := Aside0.mk a9
      have HB := Aside0.mk bm
      clear a4 a5 a6 a7 a8 a9 bm
      have hHeld : bA.cell? ⟨ae, 0, none⟩ = some (.int .i64 a1_0) ∧ bA.cell? ⟨ae, 1, none⟩ = some (.slice A1_1 l1_1.length c1_1) ∧ bA.cell? ⟨af, 0, none⟩ = some (.int .i64 a2_0) ∧ bA.cell? ⟨af, 1, none⟩ = some (.slice A2_1 l2_1.length c2_1) := hS_
      refine norm_ (a' := ?_) ?_ ?_
      rotate_left
      ·
       simp only [putAll, Act.put, List.setIfInBounds_toArray, List.set_cons_zero, List.set_cons_succ]
       rfl
      refine two_ (i := 4) (j := 5) (Ni := some 7) (Nj := some 8) #[true, true, true, true, true, false, false, false] #[true, true, true, true, false, true, false, false] rfl rfl rfl rfl (two_of HT_.out (by kernel_rfl)) (by decide) (by decide) (fun K hK => ?_) (fun K hK => ?_)
      ·
       skip
       refine box_step ?hg (N := 7) ?hd (cs := #[.int .i64 0, .slice none 0 0]) (t := 53) ?hr ?_; (case hd => rfl); (case hg => rfl); (case hr => first | (go_simp; done) | (go_simp; rfl))
       intro av hg bO hbox hb
       replace aE := ke aE hg hb
       replace aP := ke aP hg hb
       have az := am (hbox)
       have aR := ng hg (bu4 HB.out ag.out ah.out al.out an.out)
       have aF := ng hg (bu4 HB.out ag.out ah.out al.out an.out)
       replace HB := be4 HB ag ah al an hb
       have aB := nl hg ad
       have aH := nr hg ad
       replace ad := kb ad hb
       have ao := nl hg aa
       have aI := nr hg aa
       replace aa := kb aa hb
       have ap := nl hg ab
       have aJ := nr hg ab
       replace ab := kb ab hb
       have aj := nl hg ac
       have ax := nr hg ac
       replace ac := kb ac hb
       clear hb hbox hg
       refine hK.out _ _ ⟨bc aa 0, bc aa 1, bc ab 0, bc ab 1⟩ (fun hHeld => ?_)
       clear hK K
       refine nq 7 ?_
       exact norm_ (by first | (simp only [putAll, Act.put, List.setIfInBounds_toArray, List.set_cons_zero, List.set_cons_succ]; done) | (simp only [putAll, Act.put, List.setIfInBounds_toArray, List.set_cons_zero, List.set_cons_succ]; rfl)) (hJ1_3_4 (a2, bv, av) _ ⟨hHeld, (vz aE.out), (vz aP.out), (ku ad.out), (ku aa.out), (ku ab.out), (ku ac.out), (ku az.out), aR.out, aF.out, aB.out, aH.out, ao.out, aI.out, ap.out, aJ.out, aj.out, ax.out, (bu5 HB.out ag.out ah.out al.out an.out aF.out)⟩)
      ·
       skip
       refine box_step ?hg (N := 8) ?hd (cs := #[.int .i64 0, .slice none 0 0]) (t := 53) ?hr ?_; (case hd => rfl); (case hg => rfl); (case hr => first | (go_simp; done) | (go_simp; rfl))
       intro aw hg bO hbox hb
       replace aE := ke aE hg hb
       replace aP := ke aP hg hb
       have aA := am (hbox)
       have aS := ng hg (bu4 HB.out ag.out ah.out al.out an.out)
       have aG := ng hg (bu4 HB.out ag.out ah.out al.out an.out)
       replace HB := be4 HB ag ah al an hb
       have aC := nl hg ad
       have aK := nr hg ad
       replace ad := kb ad hb
       have aq := nl hg aa
       have aL := nr hg aa
       replace aa := kb aa hb
       have au := nl hg ab
       have aM := nr hg ab
       replace ab := kb ab hb
       have ak := nl hg ac
       have ay := nr hg ac
       replace ac := kb ac hb
       clear hb hbox hg
       refine hK.out _ _ ⟨bc aa 0, bc aa 1, bc ab 0, bc ab 1⟩ (fun hHeld => ?_)
       clear hK K
       refine nq 8 ?_
       exact norm_ (by first | (simp only [putAll, Act.put, List.setIfInBounds_toArray, List.set_cons_zero, List.set_cons_succ]; done) | (simp only [putAll, Act.put, List.setIfInBounds_toArray, List.set_cons_zero, List.set_cons_succ]; rfl)) (hJ1_3_5 (a2, bv, aw) _ ⟨hHeld, (vz aE.out), (vz aP.out), (ku ad.out), (ku aa.out), (ku ab.out), (ku ac.out), (ku aA.out), aS.out, aG.out, aC.out, aK.out, aq.out, aL.out, au.out, aM.out, ak.out, ay.out, (bu5 HB.out ag.out ah.out al.out an.out aG.out)⟩)
    ·
     skip
     rintro ⟨a2, av, aw⟩ bO ⟨hS_, a4, a5, a6, a7, a8, a9, bm, bo, bp, bq, aU, aV, aW, aX, aY, aZ, a3, bn, bC, bD, bE, bF, bG, bH, bI, bJ, bK, bL, bM, bT⟩
     (try dsimp -simprocs only at a4 a5 a6 a7 a8 a9 bm bo bp bq aU aV aW aX aY aZ a3 bn bC bD bE bF bG bH bI bJ bK bL bM bT)
     clear ad aa ab ac HB
     have aE := Aside0.mk a4
     have ad := Aside0.mk a5
     have aa := Aside0.mk a6
     have ab := Aside0.mk a7
     have ac := Aside0.mk a8
     have az := Aside0.mk a9
     have aA := Aside0.mk bm
     have aR := Aside0.mk bo
     have aF := Aside0.mk bp
     have aB := Aside0.mk bq
     have aH := Aside0.mk aU
     have ao := Aside0.mk aV
     have aI := Aside0.mk aW
     have ap := Aside0.mk aX
     have aJ := Aside0.mk aY
     have aj := Aside0.mk aZ
     have ax := Aside0.mk a3
     have aN := Aside0.mk bn
     have aO := Aside0.mk bC
     have aS := Aside0.mk bD
     have aG := Aside0.mk bE
     have aC := Aside0.mk bF
     have aK := Aside0.mk bG
     have aq := Aside0.mk bH
     have aL := Aside0.mk bI
     have au := Aside0.mk bJ
     have aM := Aside0.mk bK
     have ak := Aside0.mk bL
     have ay := Aside0.mk bM
     have HB := Aside0.mk bT
     clear a4 a5 a6 a7 a8 a9 bm bo bp bq aU aV aW aX aY aZ a3 bn bC bD bE bF bG bH bI bJ bK bL bM bT
     have hHeld : bO.cell? ⟨ae, 0, none⟩ = some (.int .i64 a1_0) ∧ bO.cell? ⟨ae, 1, none⟩ = some (.slice A1_1 l1_1.length c1_1) ∧ bO.cell? ⟨af, 0, none⟩ = some (.int .i64 a2_0) ∧ bO.cell? ⟨af, 1, none⟩ = some (.slice A2_1 l2_1.length c2_1) := hS_
     refine norm_ (a' := ?_) ?_ ?_
     rotate_left
     ·
      simp only [putAll, Act.put, List.setIfInBounds_toArray, List.set_cons_zero, List.set_cons_succ]
      rfl
     refine one_ (i := 3) (N := some 12) #[true, true, true, true, true, true, false, false] rfl rfl (one_of HT_.out (by kernel_rfl)) (by decide) (fun K hK => ?_)
     refine goes_ Try.func148 (by kernel_rfl) rfl #[.agg #[.int .i64 a2_0, .slice A2_1 l2_1.length c2_1]] (by rfl) rfl rfl lu ?_
     with_reducible refine (semiring_least.calls k a2_0 _ _ l2_1 a0 a1 _ ?side1 ?side2 A5.out).mono ?_
     (case side1 => repeat (first | exact (Kd.C_below bV.out HB.out) | (with_reducible refine Kd.C_alloc ?_ _) | (with_reducible refine Kd.C_drewN ?_ _) | (with_reducible refine Kd.C_drew ?_)))
     (case side2 => first | exact bz.out | exact vz bz.out)
     rintro e bw ⟨bv, rfl, br, hb⟩
     refine ⟨_, rfl, ?_⟩
     replace aE := kv aE hb
     have aP := ar0 w.heap.size (ok' := fun k_ => (w.heap.size ≤ k_) ∧ k_ ≠ aD ∧ k_ ≠ ae ∧ k_ ≠ af ∧ k_ ≠ ai ∧ k_ ≠ av ∧ k_ ≠ aw) br (fa (fz6 HB ag ah al an aF aG) (fa (fb ad) (fa (fb aa) (fa (fb ab) (fa (fb ac) (fa (fb az) (fb aA)))))))
     replace ad := kb ad hb
     replace aa := kb aa hb
     replace ab := kb ab hb
     replace ac := kb ac hb
     replace az := kb az hb
     replace aA := kb aA hb
     replace HB := be6 HB ag ah al an aF aG hb
     (try clear hb)
     (try clear hb2)
     (try clear hk)
     (try clear hi)
     (try clear br)
     refine hK.out _ _ ⟨bc aa 0, bc aa 1, bc ab 0, bc ab 1⟩ (fun hHeld => ?_)
     clear hK K
     refine nq 12 ?_
     exact norm_ (by first | (simp only [putAll, Act.put, List.setIfInBounds_toArray, List.set_cons_zero, List.set_cons_succ]; done) | (simp only [putAll, Act.put, List.setIfInBounds_toArray, List.set_cons_zero, List.set_cons_succ]; rfl)) (hJ1_3_4_5 (a2, bv, av, aw) _ ⟨hHeld, (vu aE.out), (vu aP.out), (ku ad.out), (ku aa.out), (ku ab.out), (ku ac.out), (ku az.out), (ku aA.out), aR.out, aF.out, aB.out, aH.out, ao.out, aI.out, ap.out, aJ.out, aj.out, ax.out, aN.out, aO.out, aS.out, aG.out, aC.out, aK.out, aq.out, aL.out, au.out, aM.out, ak.out, ay.out, (bu6 HB.out ag.out ah.out al.out an.out aF.out aG.out)⟩)
   ·
    skip
    rintro ⟨a2, bv, aw⟩ bO ⟨hS_, a4, a5, a6, a7, a8, a9, bm, bo, bp, bq, aU, aV, aW, aX, aY, aZ, a3, bn⟩
    (try dsimp -simprocs only at a4 a5 a6 a7 a8 a9 bm bo bp bq aU aV aW aX aY aZ a3 bn)
    clear ad aa ab ac HB
    have aE := Aside0.mk a4
    have aP := Aside0.mk a5
    have ad := Aside0.mk a6
    have aa := Aside0.mk a7
    have ab := Aside0.mk a8
    have ac := Aside0.mk a9
    have aA := Aside0.mk bm
    have aS := Aside0.mk bo
    have aG := Aside0.mk bp
    have aC := Aside0.mk bq
    have aK := Aside0.mk aU
    have aq := Aside0.mk aV
    have aL := Aside0.mk aW
    have au := Aside0.mk aX
    have aM := Aside0.mk aY
    have ak := Aside0.mk aZ
    have ay := Aside0.mk a3
    have HB := Aside0.mk bn
    clear a4 a5 a6 a7 a8 a9 bm bo bp bq aU aV aW aX aY aZ a3 bn
    have hHeld : bO.cell? ⟨ae, 0, none⟩ = some (.int .i64 a1_0) ∧ bO.cell? ⟨ae, 1, none⟩ = some (.slice A1_1 l1_1.length c1_1) ∧ bO.cell? ⟨af, 0, none⟩ = some (.int .i64 a2_0) ∧ bO.cell? ⟨af, 1, none⟩ = some (.slice A2_1 l2_1.length c2_1) := hS_
    refine norm_ (a' := ?_) ?_ ?_
    rotate_left
    ·
     simp only [putAll, Act.put, List.setIfInBounds_toArray, List.set_cons_zero, List.set_cons_succ]
     rfl
    refine one_ (i := 4) (N := some 7) #[true, true, true, true, true, true, false, false] rfl rfl (one_of HT_.out (by kernel_rfl)) (by decide) (fun K hK => ?_)
    refine box_step ?hg (N := 7) ?hd (cs := #[.int .i64 0, .slice none 0 0]) (t := 53) ?hr ?_; (case hd => rfl); (case hg => rfl); (case hr => first | (go_simp; done) | (go_simp; rfl))
    intro av hg bw hbox hb
    replace aE := ke aE hg hb
    replace aP := ke aP hg hb
    have az := am (hbox)
    have aR := ng hg (bu5 HB.out ag.out ah.out al.out an.out aG.out)
    have aF := ng hg (bu5 HB.out ag.out ah.out al.out an.out aG.out)
    replace HB := be5 HB ag ah al an aG hb
    have aB := nl hg ad
    have aH := nr hg ad
    replace ad := kb ad hb
    have ao := nl hg aa
    have aI := nr hg aa
    replace aa := kb aa hb
    have ap := nl hg ab
    have aJ := nr hg ab
    replace ab := kb ab hb
    have aj := nl hg ac
    have ax := nr hg ac
    replace ac := kb ac hb
    have aN := nl hg aA
    have aO := nr hg aA
    replace aA := kb aA hb
    clear hb hbox hg
    refine hK.out _ _ ⟨bc aa 0, bc aa 1, bc ab 0, bc ab 1⟩ (fun hHeld => ?_)
    clear hK K
    refine nq 7 ?_
    exact norm_ (by first | (simp only [putAll, Act.put, List.setIfInBounds_toArray, List.set_cons_zero, List.set_cons_succ]; done) | (simp only [putAll, Act.put, List.setIfInBounds_toArray, List.set_cons_zero, List.set_cons_succ]; rfl)) (hJ1_3_4_5 (a2, bv, av, aw) _ ⟨hHeld, (vz aE.out), (vz aP.out), (ku ad.out), (ku aa.out), (ku ab.out), (ku ac.out), (ku az.out), (ku aA.out), aR.out, aF.out, aB.out, aH.out, ao.out, aI.out, ap.out, aJ.out, aj.out, ax.out, aN.out, aO.out, aS.out, aG.out, aC.out, aK.out, aq.out, aL.out, au.out, aM.out, ak.out, ay.out, (bu6 HB.out ag.out ah.out al.out an.out aG.out aF.out)⟩)
  ·
   skip
   rintro ⟨a2, bv, av⟩ bO ⟨hS_, a4, a5, a6, a7, a8, a9, bm, bo, bp, bq, aU, aV, aW, aX, aY, aZ, a3, bn⟩
   (try dsimp -simprocs only at a4 a5 a6 a7 a8 a9 bm bo bp bq aU aV aW aX aY aZ a3 bn)
   clear ad aa ab ac HB
   have aE := Aside0.mk a4
   have aP := Aside0.mk a5
   have ad := Aside0.mk a6
   have aa := Aside0.mk a7
   have ab := Aside0.mk a8
   have ac := Aside0.mk a9
   have az := Aside0.mk bm
   have aR := Aside0.mk bo
   have aF := Aside0.mk bp
   have aB := Aside0.mk bq
   have aH := Aside0.mk aU
   have ao := Aside0.mk aV
   have aI := Aside0.mk aW
   have ap := Aside0.mk aX
   have aJ := Aside0.mk aY
   have aj := Aside0.mk aZ
   have ax := Aside0.mk a3
   have HB := Aside0.mk bn
   clear a4 a5 a6 a7 a8 a9 bm bo bp bq aU aV aW aX aY aZ a3 bn
   have hHeld : bO.cell? ⟨ae, 0, none⟩ = some (.int .i64 a1_0) ∧ bO.cell? ⟨ae, 1, none⟩ = some (.slice A1_1 l1_1.length c1_1) ∧ bO.cell? ⟨af, 0, none⟩ = some (.int .i64 a2_0) ∧ bO.cell? ⟨af, 1, none⟩ = some (.slice A2_1 l2_1.length c2_1) := hS_
   refine norm_ (a' := ?_) ?_ ?_
   rotate_left
   ·
    simp only [putAll, Act.put, List.setIfInBounds_toArray, List.set_cons_zero, List.set_cons_succ]
    rfl
   refine one_ (i := 5) (N := some 8) #[true, true, true, true, true, true, false, false] rfl rfl (one_of HT_.out (by kernel_rfl)) (by decide) (fun K hK => ?_)
   refine box_step ?hg (N := 8) ?hd (cs := #[.int .i64 0, .slice none 0 0]) (t := 53) ?hr ?_; (case hd => rfl); (case hg => rfl); (case hr => first | (go_simp; done) | (go_simp; rfl))
   intro aw hg bw hbox hb
   replace aE := ke aE hg hb
   replace aP := ke aP hg hb
   have aA := am (hbox)
   have aS := ng hg (bu5 HB.out ag.out ah.out al.out an.out aF.out)
   have aG := ng hg (bu5 HB.out ag.out ah.out al.out an.out aF.out)
   replace HB := be5 HB ag ah al an aF hb
   have aC := nl hg ad
   have aK := nr hg ad
   replace ad := kb ad hb
   have aq := nl hg aa
   have aL := nr hg aa
   replace aa := kb aa hb
   have au := nl hg ab
   have aM := nr hg ab
   replace ab := kb ab hb
   have ak := nl hg ac
   have ay := nr hg ac
   replace ac := kb ac hb
   have aO := nl hg az
   have aN := nr hg az
   replace az := kb az hb
   clear hb hbox hg
   refine hK.out _ _ ⟨bc aa 0, bc aa 1, bc ab 0, bc ab 1⟩ (fun hHeld => ?_)
   clear hK K
   refine nq 8 ?_
   exact norm_ (by first | (simp only [putAll, Act.put, List.setIfInBounds_toArray, List.set_cons_zero, List.set_cons_succ]; done) | (simp only [putAll, Act.put, List.setIfInBounds_toArray, List.set_cons_zero, List.set_cons_succ]; rfl)) (hJ1_3_4_5 (a2, bv, av, aw) _ ⟨hHeld, (vz aE.out), (vz aP.out), (ku ad.out), (ku aa.out), (ku ab.out), (ku ac.out), (ku az.out), (ku aA.out), aR.out, aF.out, aB.out, aH.out, ao.out, aI.out, ap.out, aJ.out, aj.out, ax.out, aN.out, aO.out, aS.out, aG.out, aC.out, aK.out, aq.out, aL.out, au.out, aM.out, ak.out, ay.out, (bu6 HB.out ag.out ah.out al.out an.out aF.out aG.out)⟩)
 rintro ⟨a2, bv, av, aw⟩ bw ⟨hS_, a4, a5, a6, a7, a8, a9, bm, bo, bp, bq, aU, aV, aW, aX, aY, aZ, a3, bn, bC, bD, bE, bF, bG, bH, bI, bJ, bK, bL, bM, bT, b7⟩
 (try dsimp -simprocs only at a4 a5 a6 a7 a8 a9 bm bo bp bq aU aV aW aX aY aZ a3 bn bC bD bE bF bG bH bI bJ bK bL bM bT b7)
 clear ad aa ab ac HB
 have aE := Aside0.mk a4
 have aP := Aside0.mk a5
 have ad := Aside0.mk a6
 have aa := Aside0.mk a7
 have ab := Aside0.mk a8
 have ac := Aside0.mk a9
 have az := Aside0.mk bm
 have aA := Aside0.mk bo
 have aR := Aside0.mk bp
 have aF := Aside0.mk bq
 have aB := Aside0.mk aU
 have aH := Aside0.mk aV
 have ao := Aside0.mk aW
 have aI := Aside0.mk aX
 have ap := Aside0.mk aY
 have aJ := Aside0.mk aZ
 have aj := Aside0.mk a3
 have ax := Aside0.mk bn
 have aN := Aside0.mk bC
 have aO := Aside0.mk bD
 have aS := Aside0.mk bE
 have aG := Aside0.mk bF
 have aC := Aside0.mk bG
 have aK := Aside0.mk bH
 have aq := Aside0.mk bI
 have aL := Aside0.mk bJ
 have au := Aside0.mk bK
 have aM := Aside0.mk bL
 have ak := Aside0.mk bM
 have ay := Aside0.mk bT
 have HB := Aside0.mk b7
 clear a4 a5 a6 a7 a8 a9 bm bo bp bq aU aV aW aX aY aZ a3 bn bC bD bE bF bG bH bI bJ bK bL bM bT b7
 have hHeld : bw.cell? ⟨ae, 0, none⟩ = some (.int .i64 a1_0) ∧ bw.cell? ⟨ae, 1, none⟩ = some (.slice A1_1 l1_1.length c1_1) ∧ bw.cell? ⟨af, 0, none⟩ = some (.int .i64 a2_0) ∧ bw.cell? ⟨af, 1, none⟩ = some (.slice A2_1 l2_1.length c2_1) := hS_
 obtain ⟨bi, bj, ch⟩ := Kd.V_slice aE.out
 (first | subst ch | (injection ch with f1_ f2_ f3_; have f4_ := f1_.symm; have f5_ := f3_.symm; clear f1_ f2_ f3_; subst f4_; subst f5_))
 obtain ⟨bk, bl, ci⟩ := Kd.V_slice aP.out
 (first | subst ci | (injection ci with f1_ f2_ f3_; have f4_ := f1_.symm; have f5_ := f3_.symm; clear f1_ f2_ f3_; subst f4_; subst f5_))
 refine norm_ (a' := ?_) ?_ ?_
 rotate_left
 ·
  simp only [putAll, Act.put, List.setIfInBounds_toArray, List.set_cons_zero, List.set_cons_succ]
  rfl
 refine one_ (i := 6) (N := none) #[true, true, true, true, true, true, true, false] rfl rfl (one_of HT_.out (by kernel_rfl)) (by decide) (fun K hK => ?_)
 have hs17 : bw.cell? ⟨av, 0, none⟩ = some (.int .i64 0) := bc az 0
 have hfs17 := blk_frozen az.out 0
 have hns17_0 := aB.out
 have hns17_1 := ao.out
 have hns17_2 := ap.out
 have hns17_3 := aj.out
 have hns17_5 := aN.out
 have hms17_0 := aH.out
 have hms17_1 := aI.out
 have hms17_2 := aJ.out
 have hms17_3 := ax.out
 have hms17_5 := aO.out
 have hs19 : bw.cell? ⟨av, 1, none⟩ = some (.slice none 0 0) := bc az 1
 have hfs19 := blk_frozen az.out 1
 have hns19_0 := aB.out
 have hns19_1 := ao.out
 have hns19_2 := ap.out
 have hns19_3 := aj.out
 have hns19_5 := aN.out
 have hms19_0 := aH.out
 have hms19_1 := aI.out
 have hms19_2 := aJ.out
 have hms19_3 := ax.out
 have hms19_5 := aO.out
 refine skip_ (w1 := ?_) (by rfl) rfl ?_ ?_
 rotate_left
 ·
  go_simp
  rfl
 refine hK.out _ _ ⟨((cell_far (p := ⟨av, _, none⟩) ao.out _).trans (((cell_far (p := ⟨av, _, none⟩) ao.out _).trans (hHeld.1)))), ((cell_far (p := ⟨av, _, none⟩) ao.out _).trans (((cell_far (p := ⟨av, _, none⟩) ao.out _).trans (hHeld.2.1)))), ((cell_far (p := ⟨av, _, none⟩) ap.out _).trans (((cell_far (p := ⟨av, _, none⟩) ap.out _).trans (hHeld.2.2.1)))), ((cell_far (p := ⟨av, _, none⟩) ap.out _).trans (((cell_far (p := ⟨av, _, none⟩) ap.out _).trans (hHeld.2.2.2))))⟩ (fun hHeld => ?_)
 clear hK K
 refine one_ (i := 7) (N := none) #[true, true, true, true, true, true, true, true] rfl rfl (one_of HT_.out (by kernel_rfl)) (by decide) (fun K hK => ?_)
 have hs20 : bw.cell? ⟨aw, 0, none⟩ = some (.int .i64 0) := bc aA 0
 have hfs20 := blk_frozen aA.out 0
 have hns20_0 := aC.out
 have hns20_1 := aq.out
 have hns20_2 := au.out
 have hns20_3 := ak.out
 have hns20_4 := aO.out
 have hms20_0 := aK.out
 have hms20_1 := aL.out
 have hms20_2 := aM.out
 have hms20_3 := ay.out
 have hms20_4 := aN.out
 have hs22 : bw.cell? ⟨aw, 1, none⟩ = some (.slice none 0 0) := bc aA 1
 have hfs22 := blk_frozen aA.out 1
 have hns22_0 := aC.out
 have hns22_1 := aq.out
 have hns22_2 := au.out
 have hns22_3 := ak.out
 have hns22_4 := aO.out
 have hms22_0 := aK.out
 have hms22_1 := aL.out
 have hms22_2 := aM.out
 have hms22_3 := ay.out
 have hms22_4 := aN.out
 refine skip_ (w1 := ?_) (by rfl) rfl ?_ ?_
 rotate_left
 ·
  go_simp
  rfl
 refine hK.out _ _ ⟨((cell_far (p := ⟨aw, _, none⟩) aq.out _).trans (((cell_far (p := ⟨aw, _, none⟩) aq.out _).trans (hHeld.1)))), ((cell_far (p := ⟨aw, _, none⟩) aq.out _).trans (((cell_far (p := ⟨aw, _, none⟩) aq.out _).trans (hHeld.2.1)))), ((cell_far (p := ⟨aw, _, none⟩) au.out _).trans (((cell_far (p := ⟨aw, _, none⟩) au.out _).trans (hHeld.2.2.1)))), ((cell_far (p := ⟨aw, _, none⟩) au.out _).trans (((cell_far (p := ⟨aw, _, none⟩) au.out _).trans (hHeld.2.2.2))))⟩ (fun hHeld => ?_)
 clear hK K
 refine done_ (done_of HT_.out (by kernel_rfl)) ?_
 have dd := aH.out
 have de := aB.out
 have df := aI.out
 have dg := ao.out
 have dh := aJ.out
 have di := ap.out
 have dj := ax.out
 have dk := aj.out
 have dl := aO.out
 have dm := aN.out
 have cy : bw.cell? ⟨av, 0, none⟩ = some (.int .i64 0) := bc az 0
 have cz : bw.cell? ⟨av, 1, none⟩ = some (.slice none 0 0) := bc az 1
 have cA := blk_frozen az.out 0
 have cB := blk_frozen az.out 1
 have dn := aK.out
 have dp := aC.out
 have dq := aL.out
 have dr := aq.out
 have dt := aM.out
 have du := au.out
 have dv := ay.out
 have dw := ak.out
 have cC : bw.cell? ⟨aw, 0, none⟩ = some (.int .i64 0) := bc aA 0
 have cD : bw.cell? ⟨aw, 1, none⟩ = some (.slice none 0 0) := bc aA 1
 have cE := blk_frozen aA.out 0
 have cF := blk_frozen aA.out 1
 by_cases c6 : aQ < a0
 ·
  rw [if_pos c6] at H
  have cO : decide (aQ < a0) = true := decide_eq_true c6
  clear c6
  simp only [Option.some.injEq, Prod.mk.injEq] at H
  obtain ⟨rfl, rfl⟩ := H
  have dx := bb.out
  have dy := ba.out
  have dz := bf.out
  have dA := bd.out
  have dB := bh.out
  have dC := bg.out
  have cG : bw.cell? ⟨ai, 0, none⟩ = some (.int .i64 0) := bc ac 0
  have cH : bw.cell? ⟨ai, 1, none⟩ = some (.slice none 0 0) := bc ac 1
  have cI := blk_frozen ac.out 0
  have cJ := blk_frozen ac.out 1
  try go_wp2
  refine bodyPost_ret (results_cell_row rfl _ _ ai 53 #[.int .i64 aQ, .slice bi aT.length bj] (0, 0) _ rfl (by (with_reducible repeat (first | refine blk_drewN ?_ _ | refine blk_drew ?_ | refine blk_alloc ?_ _)); refine blk_put (cs := #[.int .i64 aQ, .slice none 0 0]) ?_ 1 _ rfl; (with_reducible repeat (first | refine blk_drewN ?_ _ | refine blk_drew ?_ | refine blk_alloc ?_ _)); refine blk_put (cs := #[.int .i64 0, .slice none 0 0]) ?_ 0 _ rfl; (with_reducible repeat (first | refine blk_drewN ?_ _ | refine blk_drew ?_ | refine blk_alloc ?_ _)); refine blk_far ?_ ak.out _; (with_reducible repeat (first | refine blk_drewN ?_ _ | refine blk_drew ?_ | refine blk_alloc ?_ _)); refine blk_far ?_ ak.out _; (with_reducible repeat (first | refine blk_drewN ?_ _ | refine blk_drew ?_ | refine blk_alloc ?_ _)); refine blk_far ?_ aj.out _; (with_reducible repeat (first | refine blk_drewN ?_ _ | refine blk_drew ?_ | refine blk_alloc ?_ _)); refine blk_far ?_ aj.out _; (with_reducible repeat (first | refine blk_drewN ?_ _ | refine blk_drew ?_ | refine blk_alloc ?_ _)); exact ac.out) Try.underlying53 rfl (by kernel_rfl)) rfl ?_
  exact ⟨_, by first | rfl | (simp [errW_none, errW_some] <;> rfl) | (simp [*, errW_none, errW_some] <;> rfl), by exact vg aE.out, by repeat (first | (with_reducible first | exact HB.out | apply below_alloc | apply pw_below_drewN | apply below_drew1 | refine below_set ?_ ag.out | refine below_set ?_ ah.out | refine below_set ?_ al.out | refine below_set ?_ an.out | refine below_set ?_ aF.out | refine below_set ?_ aG.out) | exact HB.out)⟩
 ·
  rw [if_neg c6] at H
  have cO : decide (aQ < a0) = false := decide_eq_false c6
  clear c6
  by_cases cg : aQ > a0
  ·
   rw [if_pos cg] at H
   have cj : decide (a0 < aQ) = true := decide_eq_true cg
   clear cg
   simp only [Option.some.injEq, Prod.mk.injEq] at H
   obtain ⟨rfl, rfl⟩ := H
   have dD := bb.out
   have dE := ba.out
   have dF := bf.out
   have dG := bd.out
   have dH := bh.out
   have dI := bg.out
   have cK : bw.cell? ⟨ai, 0, none⟩ = some (.int .i64 0) := bc ac 0
   have cL : bw.cell? ⟨ai, 1, none⟩ = some (.slice none 0 0) := bc ac 1
   have cM := blk_frozen ac.out 0
   have cN := blk_frozen ac.out 1
   try go_wp2
   refine bodyPost_ret (results_cell_row rfl _ _ ai 53 #[.int .i64 a0, .slice bk a1.length bl] (0, 0) _ rfl (by (with_reducible repeat (first | refine blk_drewN ?_ _ | refine blk_drew ?_ | refine blk_alloc ?_ _)); refine blk_put (cs := #[.int .i64 a0, .slice none 0 0]) ?_ 1 _ rfl; (with_reducible repeat (first | refine blk_drewN ?_ _ | refine blk_drew ?_ | refine blk_alloc ?_ _)); refine blk_put (cs := #[.int .i64 0, .slice none 0 0]) ?_ 0 _ rfl; (with_reducible repeat (first | refine blk_drewN ?_ _ | refine blk_drew ?_ | refine blk_alloc ?_ _)); refine blk_far ?_ ak.out _; (with_reducible repeat (first | refine blk_drewN ?_ _ | refine blk_drew ?_ | refine blk_alloc ?_ _)); refine blk_far ?_ ak.out _; (with_reducible repeat (first | refine blk_drewN ?_ _ | refine blk_drew ?_ | refine blk_alloc ?_ _)); refine blk_far ?_ aj.out _; (with_reducible repeat (first | refine blk_drewN ?_ _ | refine blk_drew ?_ | refine blk_alloc ?_ _)); refine blk_far ?_ aj.out _; (with_reducible repeat (first | refine blk_drewN ?_ _ | refine blk_drew ?_ | refine blk_alloc ?_ _)); exact ac.out) Try.underlying53 rfl (by kernel_rfl)) rfl ?_
   exact ⟨_, by first | rfl | (simp [errW_none, errW_some] <;> rfl) | (simp [*, errW_none, errW_some] <;> rfl), by exact vg aP.out, by repeat (first | (with_reducible first | exact HB.out | apply below_alloc | apply pw_below_drewN | apply below_drew1 | refine below_set ?_ ag.out | refine below_set ?_ ah.out | refine below_set ?_ al.out | refine below_set ?_ an.out | refine below_set ?_ aF.out | refine below_set ?_ aG.out) | exact HB.out)⟩
  ·
   rw [if_neg cg] at H
   have cj : decide (a0 < aQ) = false := decide_eq_false cg
   clear cg
   by_cases b8 : aQ = 4611686018427387904
   ·
    rw [if_pos b8] at H
    have ck : (aQ == 4611686018427387904) = true := beq_iff_eq.mpr b8
    have cl : (aQ != 4611686018427387904) = false := bne_eq_false_iff_eq.mpr b8
    clear b8
    obtain ⟨⟨bX, b9⟩, dN, H⟩ := bs H
    replace H : (some (bX, b9)) = some (r1, r2) := H
    simp only [Option.some.injEq, Prod.mk.injEq] at H
    obtain ⟨rfl, rfl⟩ := H
    try go_wp2_with (first | ((with_reducible refine gate_callee (f := 147) rfl ?_); refine goesL_ (some 31) rfl rfl Try.func147 (by kernel_rfl) rfl #[] rfl lu ?_; (with_reducible refine (semiring_never.calls  bX b9 _ dN.out).mono ?_); rintro e dJ ⟨dO, rfl, br, hb⟩; refine ⟨_, rfl, ?_⟩; replace br := R_V_base rfl br; replace aE := am (Kd.V_below (by (with_reducible repeat (first | apply Kd.V_alloc | apply Kd.V_drewN | apply Kd.V_drew)); exact (Kd.V_mono (Kd.V_mono (Kd.V_far (p := ⟨aw, 1, none⟩) (Kd.V_far (p := ⟨aw, 0, none⟩) (Kd.V_far (p := ⟨av, 1, none⟩) (Kd.V_far (p := ⟨av, 0, none⟩) (Kd.V_mono (Kd.V_mono aE.out (fun k_ hk => (⟨hk, hk.2.2.2.2.2.1⟩ : _ ∧ k_ ≠ av))) (fun k_ hk => (⟨hk, hk.1.2.2.2.2.2.2⟩ : _ ∧ k_ ≠ aw))) (fun _ hk => hk.1.2) (.int .i64 aQ)) (fun _ hk => hk.1.2) (.slice bi aT.length bj)) (fun _ hk => hk.2) (.int .i64 a0)) (fun _ hk => hk.2) (.slice bk a1.length bl)) (fun _ h_ => h_.1)) (fun _ h_ => h_.1))) hb); replace aP := am (Kd.V_below (by (with_reducible repeat (first | apply Kd.V_alloc | apply Kd.V_drewN | apply Kd.V_drew)); exact (Kd.V_mono (Kd.V_mono (Kd.V_far (p := ⟨aw, 1, none⟩) (Kd.V_far (p := ⟨aw, 0, none⟩) (Kd.V_far (p := ⟨av, 1, none⟩) (Kd.V_far (p := ⟨av, 0, none⟩) (Kd.V_mono (Kd.V_mono aP.out (fun k_ hk => (⟨hk, hk.2.2.2.2.2.1⟩ : _ ∧ k_ ≠ av))) (fun k_ hk => (⟨hk, hk.1.2.2.2.2.2.2⟩ : _ ∧ k_ ≠ aw))) (fun _ hk => hk.1.2) (.int .i64 aQ)) (fun _ hk => hk.1.2) (.slice bi aT.length bj)) (fun _ hk => hk.2) (.int .i64 a0)) (fun _ hk => hk.2) (.slice bk a1.length bl)) (fun _ h_ => h_.1)) (fun _ h_ => h_.1))) hb); have b0 := ar0 w.heap.size (ok' := fun k_ => (w.heap.size ≤ k_) ∧ k_ ≠ aD ∧ k_ ≠ ae ∧ k_ ≠ af ∧ k_ ≠ ai ∧ k_ ≠ av ∧ k_ ≠ aw) br (fa (fz6 HB ag ah al an aF aG) (fa (fs ad) (fa (fs aa) (fa (fs ab) (fa (fs ac) (fa (fs az) (fs aA))))))); replace ad := am (blk_below (g := aD) (o := .cells #[] 54 (0, 0)) (by (with_reducible repeat (first | refine blk_drewN ?_ _ | refine blk_drew ?_ | refine blk_alloc ?_ _)); refine blk_far ?_ aC.out _; (with_reducible repeat (first | refine blk_drewN ?_ _ | refine blk_drew ?_ | refine blk_alloc ?_ _)); refine blk_far ?_ aC.out _; (with_reducible repeat (first | refine blk_drewN ?_ _ | refine blk_drew ?_ | refine blk_alloc ?_ _)); refine blk_far ?_ aB.out _; (with_reducible repeat (first | refine blk_drewN ?_ _ | refine blk_drew ?_ | refine blk_alloc ?_ _)); refine blk_far ?_ aB.out _; (with_reducible repeat (first | refine blk_drewN ?_ _ | refine blk_drew ?_ | refine blk_alloc ?_ _)); exact ad.out) hb); replace aa := am (blk_below (g := ae) (o := .cells #[.int .i64 a1_0, .slice A1_1 l1_1.length c1_1] 53 (0, 0)) (by (with_reducible repeat (first | refine blk_drewN ?_ _ | refine blk_drew ?_ | refine blk_alloc ?_ _)); refine blk_far ?_ aq.out _; (with_reducible repeat (first | refine blk_drewN ?_ _ | refine blk_drew ?_ | refine blk_alloc ?_ _)); refine blk_far ?_ aq.out _; (with_reducible repeat (first | refine blk_drewN ?_ _ | refine blk_drew ?_ | refine blk_alloc ?_ _)); refine blk_far ?_ ao.out _; (with_reducible repeat (first | refine blk_drewN ?_ _ | refine blk_drew ?_ | refine blk_alloc ?_ _)); refine blk_far ?_ ao.out _; (with_reducible repeat (first | refine blk_drewN ?_ _ | refine blk_drew ?_ | refine blk_alloc ?_ _)); exact aa.out) hb); replace ab := am (blk_below (g := af) (o := .cells #[.int .i64 a2_0, .slice A2_1 l2_1.length c2_1] 53 (0, 0)) (by (with_reducible repeat (first | refine blk_drewN ?_ _ | refine blk_drew ?_ | refine blk_alloc ?_ _)); refine blk_far ?_ au.out _; (with_reducible repeat (first | refine blk_drewN ?_ _ | refine blk_drew ?_ | refine blk_alloc ?_ _)); refine blk_far ?_ au.out _; (with_reducible repeat (first | refine blk_drewN ?_ _ | refine blk_drew ?_ | refine blk_alloc ?_ _)); refine blk_far ?_ ap.out _; (with_reducible repeat (first | refine blk_drewN ?_ _ | refine blk_drew ?_ | refine blk_alloc ?_ _)); refine blk_far ?_ ap.out _; (with_reducible repeat (first | refine blk_drewN ?_ _ | refine blk_drew ?_ | refine blk_alloc ?_ _)); exact ab.out) hb); replace ac := am (blk_below (g := ai) (o := .cells #[.int .i64 0, .slice none 0 0] 53 (0, 0)) (by (with_reducible repeat (first | refine blk_drewN ?_ _ | refine blk_drew ?_ | refine blk_alloc ?_ _)); refine blk_far ?_ ak.out _; (with_reducible repeat (first | refine blk_drewN ?_ _ | refine blk_drew ?_ | refine blk_alloc ?_ _)); refine blk_far ?_ ak.out _; (with_reducible repeat (first | refine blk_drewN ?_ _ | refine blk_drew ?_ | refine blk_alloc ?_ _)); refine blk_far ?_ aj.out _; (with_reducible repeat (first | refine blk_drewN ?_ _ | refine blk_drew ?_ | refine blk_alloc ?_ _)); refine blk_far ?_ aj.out _; (with_reducible repeat (first | refine blk_drewN ?_ _ | refine blk_drew ?_ | refine blk_alloc ?_ _)); exact ac.out) hb); replace az := am (blk_below (g := av) (o := .cells #[.int .i64 aQ, .slice bi aT.length bj] 53 (0, 0)) (by (with_reducible repeat (first | refine blk_drewN ?_ _ | refine blk_drew ?_ | refine blk_alloc ?_ _)); refine blk_far ?_ aO.out _; (with_reducible repeat (first | refine blk_drewN ?_ _ | refine blk_drew ?_ | refine blk_alloc ?_ _)); refine blk_far ?_ aO.out _; (with_reducible repeat (first | refine blk_drewN ?_ _ | refine blk_drew ?_ | refine blk_alloc ?_ _)); refine blk_put (cs := #[.int .i64 aQ, .slice none 0 0]) ?_ 1 _ rfl; (with_reducible repeat (first | refine blk_drewN ?_ _ | refine blk_drew ?_ | refine blk_alloc ?_ _)); refine blk_put (cs := #[.int .i64 0, .slice none 0 0]) ?_ 0 _ rfl; (with_reducible repeat (first | refine blk_drewN ?_ _ | refine blk_drew ?_ | refine blk_alloc ?_ _)); exact az.out) hb); replace aA := am (blk_below (g := aw) (o := .cells #[.int .i64 a0, .slice bk a1.length bl] 53 (0, 0)) (by (with_reducible repeat (first | refine blk_drewN ?_ _ | refine blk_drew ?_ | refine blk_alloc ?_ _)); refine blk_put (cs := #[.int .i64 a0, .slice none 0 0]) ?_ 1 _ rfl; (with_reducible repeat (first | refine blk_drewN ?_ _ | refine blk_drew ?_ | refine blk_alloc ?_ _)); refine blk_put (cs := #[.int .i64 0, .slice none 0 0]) ?_ 0 _ rfl; (with_reducible repeat (first | refine blk_drewN ?_ _ | refine blk_drew ?_ | refine blk_alloc ?_ _)); refine blk_far ?_ aN.out _; (with_reducible repeat (first | refine blk_drewN ?_ _ | refine blk_drew ?_ | refine blk_alloc ?_ _)); refine blk_far ?_ aN.out _; (with_reducible repeat (first | refine blk_drewN ?_ _ | refine blk_drew ?_ | refine blk_alloc ?_ _)); exact aA.out) hb); replace HB := be6 HB ag ah al an aF aG hb; (try clear hb); (try clear hk); (try clear br); have cP := bb.out; have cQ := ba.out; have cR := bf.out; have cS := bd.out; have cT := bh.out; have cU := bg.out; have cm : dJ.cell? ⟨ai, 0, none⟩ = some (.int .i64 0) := bc ac 0; have cn : dJ.cell? ⟨ai, 1, none⟩ = some (.slice none 0 0) := bc ac 1; have co := blk_frozen ac.out 0; have cp := blk_frozen ac.out 1; obtain ⟨cq, cr, ct⟩ := Kd.V_slice b0.out; subst ct))
    refine bodyPost_ret (results_cell_row rfl _ _ ai 53 #[.int .i64 bX, .slice cq b9.length cr] (0, 0) _ rfl (by (with_reducible repeat (first | refine blk_drewN ?_ _ | refine blk_drew ?_ | refine blk_alloc ?_ _)); refine blk_put (cs := #[.int .i64 bX, .slice none 0 0]) ?_ 1 _ rfl; (with_reducible repeat (first | refine blk_drewN ?_ _ | refine blk_drew ?_ | refine blk_alloc ?_ _)); refine blk_put (cs := #[.int .i64 0, .slice none 0 0]) ?_ 0 _ rfl; (with_reducible repeat (first | refine blk_drewN ?_ _ | refine blk_drew ?_ | refine blk_alloc ?_ _)); exact ac.out) Try.underlying53 rfl (by kernel_rfl)) rfl ?_
    exact ⟨_, by first | rfl | (simp [errW_none, errW_some] <;> rfl) | (simp [*, errW_none, errW_some] <;> rfl), by exact vg b0.out, by repeat (first | (with_reducible first | exact HB.out | apply below_alloc | apply pw_below_drewN | apply below_drew1 | refine below_set ?_ ag.out | refine below_set ?_ ah.out | refine below_set ?_ al.out | refine below_set ?_ an.out | refine below_set ?_ aF.out | refine below_set ?_ aG.out) | exact HB.out)⟩
   ·
    rw [if_neg b8] at H
    have ck : (aQ == 4611686018427387904) = false := beq_eq_false_iff_ne.mpr b8
    have cl : (aQ != 4611686018427387904) = true := bne_iff_ne.mpr b8
    obtain ⟨bY, bR⟩ : ∃ y_ : List (List Int), y_ = (([aT, a1] : List (List Int))) := ⟨_, rfl⟩
    replace H : ((nat_Add.f k bY).bind fun bS => (some (aQ, bS))) = some (r1, r2) := by first | (rw [bR]; with_reducible exact H) | (have H2_ := (Option.bind_some _ _).symm.trans H; rw [bR]; with_reducible exact H2_) | (have H2_ := (Option.bind_some _ _).symm.trans H; with_reducible exact H2_) | with_reducible exact H | (rw [bR]; exact H) | exact H
    have b1 := am bR
    clear bR
    obtain ⟨bS, cV, H⟩ := bs H
    replace H : (some (aQ, bS)) = some (r1, r2) := H
    simp only [Option.some.injEq, Prod.mk.injEq] at H
    obtain ⟨rfl, rfl⟩ := H
    try go_wp2
    have cW : Aside0 (Kd.V (Kd.int .u32) 48 ((((bw.setCell ⟨av, 0, none⟩ (.int .i64 aQ)).setCell ⟨av, 1, none⟩ (.slice bi aT.length bj)).setCell ⟨aw, 0, none⟩ (.int .i64 a0)).setCell ⟨aw, 1, none⟩ (.slice bk a1.length bl)) w.heap.size (fun k_ => (w.heap.size ≤ k_) ∧ k_ ≠ aD ∧ k_ ≠ ae ∧ k_ ≠ af ∧ k_ ≠ ai ∧ k_ ≠ av ∧ k_ ≠ aw) (.slice bi aT.length bj) aT) := ⟨by exact vg aE.out⟩
    have cX : Aside0 (Kd.V (Kd.int .u32) 48 ((((bw.setCell ⟨av, 0, none⟩ (.int .i64 aQ)).setCell ⟨av, 1, none⟩ (.slice bi aT.length bj)).setCell ⟨aw, 0, none⟩ (.int .i64 a0)).setCell ⟨aw, 1, none⟩ (.slice bk a1.length bl)) w.heap.size (fun k_ => (w.heap.size ≤ k_) ∧ k_ ≠ aD ∧ k_ ≠ ae ∧ k_ ≠ af ∧ k_ ≠ ai ∧ k_ ≠ av ∧ k_ ≠ aw) (.slice bk a1.length bl) a1) := ⟨by exact vg aP.out⟩
    have cY : Aside0 (((((bw.setCell ⟨av, 0, none⟩ (.int .i64 aQ)).setCell ⟨av, 1, none⟩ (.slice bi aT.length bj)).setCell ⟨aw, 0, none⟩ (.int .i64 a0)).setCell ⟨aw, 1, none⟩ (.slice bk a1.length bl)).heap[aD]? = some (.cells #[] 54 (0, 0))) := ⟨by (with_reducible repeat (first | refine blk_drewN ?_ _ | refine blk_drew ?_ | refine blk_alloc ?_ _)); refine blk_far ?_ aC.out _; (with_reducible repeat (first | refine blk_drewN ?_ _ | refine blk_drew ?_ | refine blk_alloc ?_ _)); refine blk_far ?_ aC.out _; (with_reducible repeat (first | refine blk_drewN ?_ _ | refine blk_drew ?_ | refine blk_alloc ?_ _)); refine blk_far ?_ aB.out _; (with_reducible repeat (first | refine blk_drewN ?_ _ | refine blk_drew ?_ | refine blk_alloc ?_ _)); refine blk_far ?_ aB.out _; (with_reducible repeat (first | refine blk_drewN ?_ _ | refine blk_drew ?_ | refine blk_alloc ?_ _)); exact ad.out⟩
    have cZ : Aside0 (((((bw.setCell ⟨av, 0, none⟩ (.int .i64 aQ)).setCell ⟨av, 1, none⟩ (.slice bi aT.length bj)).setCell ⟨aw, 0, none⟩ (.int .i64 a0)).setCell ⟨aw, 1, none⟩ (.slice bk a1.length bl)).heap[ae]? = some (.cells #[.int .i64 a1_0, .slice A1_1 l1_1.length c1_1] 53 (0, 0))) := ⟨by (with_reducible repeat (first | refine blk_drewN ?_ _ | refine blk_drew ?_ | refine blk_alloc ?_ _)); refine blk_far ?_ aq.out _; (with_reducible repeat (first | refine blk_drewN ?_ _ | refine blk_drew ?_ | refine blk_alloc ?_ _)); refine blk_far ?_ aq.out _; (with_reducible repeat (first | refine blk_drewN ?_ _ | refine blk_drew ?_ | refine blk_alloc ?_ _)); refine blk_far ?_ ao.out _; (with_reducible repeat (first | refine blk_drewN ?_ _ | refine blk_drew ?_ | refine blk_alloc ?_ _)); refine blk_far ?_ ao.out _; (with_reducible repeat (first | refine blk_drewN ?_ _ | refine blk_drew ?_ | refine blk_alloc ?_ _)); exact aa.out⟩
    have c0 : Aside0 (((((bw.setCell ⟨av, 0, none⟩ (.int .i64 aQ)).setCell ⟨av, 1, none⟩ (.slice bi aT.length bj)).setCell ⟨aw, 0, none⟩ (.int .i64 a0)).setCell ⟨aw, 1, none⟩ (.slice bk a1.length bl)).heap[af]? = some (.cells #[.int .i64 a2_0, .slice A2_1 l2_1.length c2_1] 53 (0, 0))) := ⟨by (with_reducible repeat (first | refine blk_drewN ?_ _ | refine blk_drew ?_ | refine blk_alloc ?_ _)); refine blk_far ?_ au.out _; (with_reducible repeat (first | refine blk_drewN ?_ _ | refine blk_drew ?_ | refine blk_alloc ?_ _)); refine blk_far ?_ au.out _; (with_reducible repeat (first | refine blk_drewN ?_ _ | refine blk_drew ?_ | refine blk_alloc ?_ _)); refine blk_far ?_ ap.out _; (with_reducible repeat (first | refine blk_drewN ?_ _ | refine blk_drew ?_ | refine blk_alloc ?_ _)); refine blk_far ?_ ap.out _; (with_reducible repeat (first | refine blk_drewN ?_ _ | refine blk_drew ?_ | refine blk_alloc ?_ _)); exact ab.out⟩
    have c1 : Aside0 (((((bw.setCell ⟨av, 0, none⟩ (.int .i64 aQ)).setCell ⟨av, 1, none⟩ (.slice bi aT.length bj)).setCell ⟨aw, 0, none⟩ (.int .i64 a0)).setCell ⟨aw, 1, none⟩ (.slice bk a1.length bl)).heap[ai]? = some (.cells #[.int .i64 0, .slice none 0 0] 53 (0, 0))) := ⟨by (with_reducible repeat (first | refine blk_drewN ?_ _ | refine blk_drew ?_ | refine blk_alloc ?_ _)); refine blk_far ?_ ak.out _; (with_reducible repeat (first | refine blk_drewN ?_ _ | refine blk_drew ?_ | refine blk_alloc ?_ _)); refine blk_far ?_ ak.out _; (with_reducible repeat (first | refine blk_drewN ?_ _ | refine blk_drew ?_ | refine blk_alloc ?_ _)); refine blk_far ?_ aj.out _; (with_reducible repeat (first | refine blk_drewN ?_ _ | refine blk_drew ?_ | refine blk_alloc ?_ _)); refine blk_far ?_ aj.out _; (with_reducible repeat (first | refine blk_drewN ?_ _ | refine blk_drew ?_ | refine blk_alloc ?_ _)); exact ac.out⟩
    have c2 : Aside0 (((((bw.setCell ⟨av, 0, none⟩ (.int .i64 aQ)).setCell ⟨av, 1, none⟩ (.slice bi aT.length bj)).setCell ⟨aw, 0, none⟩ (.int .i64 a0)).setCell ⟨aw, 1, none⟩ (.slice bk a1.length bl)).heap[av]? = some (.cells #[.int .i64 aQ, .slice bi aT.length bj] 53 (0, 0))) := ⟨by (with_reducible repeat (first | refine blk_drewN ?_ _ | refine blk_drew ?_ | refine blk_alloc ?_ _)); refine blk_far ?_ aO.out _; (with_reducible repeat (first | refine blk_drewN ?_ _ | refine blk_drew ?_ | refine blk_alloc ?_ _)); refine blk_far ?_ aO.out _; (with_reducible repeat (first | refine blk_drewN ?_ _ | refine blk_drew ?_ | refine blk_alloc ?_ _)); refine blk_put (cs := #[.int .i64 aQ, .slice none 0 0]) ?_ 1 _ rfl; (with_reducible repeat (first | refine blk_drewN ?_ _ | refine blk_drew ?_ | refine blk_alloc ?_ _)); refine blk_put (cs := #[.int .i64 0, .slice none 0 0]) ?_ 0 _ rfl; (with_reducible repeat (first | refine blk_drewN ?_ _ | refine blk_drew ?_ | refine blk_alloc ?_ _)); exact az.out⟩
    have c3 : Aside0 (((((bw.setCell ⟨av, 0, none⟩ (.int .i64 aQ)).setCell ⟨av, 1, none⟩ (.slice bi aT.length bj)).setCell ⟨aw, 0, none⟩ (.int .i64 a0)).setCell ⟨aw, 1, none⟩ (.slice bk a1.length bl)).heap[aw]? = some (.cells #[.int .i64 a0, .slice bk a1.length bl] 53 (0, 0))) := ⟨by (with_reducible repeat (first | refine blk_drewN ?_ _ | refine blk_drew ?_ | refine blk_alloc ?_ _)); refine blk_put (cs := #[.int .i64 a0, .slice none 0 0]) ?_ 1 _ rfl; (with_reducible repeat (first | refine blk_drewN ?_ _ | refine blk_drew ?_ | refine blk_alloc ?_ _)); refine blk_put (cs := #[.int .i64 0, .slice none 0 0]) ?_ 0 _ rfl; (with_reducible repeat (first | refine blk_drewN ?_ _ | refine blk_drew ?_ | refine blk_alloc ?_ _)); refine blk_far ?_ aN.out _; (with_reducible repeat (first | refine blk_drewN ?_ _ | refine blk_drew ?_ | refine blk_alloc ?_ _)); refine blk_far ?_ aN.out _; (with_reducible repeat (first | refine blk_drewN ?_ _ | refine blk_drew ?_ | refine blk_alloc ?_ _)); exact aA.out⟩
    have c4 : Aside0 (Below w.heap.size w ((((bw.setCell ⟨av, 0, none⟩ (.int .i64 aQ)).setCell ⟨av, 1, none⟩ (.slice bi aT.length bj)).setCell ⟨aw, 0, none⟩ (.int .i64 a0)).setCell ⟨aw, 1, none⟩ (.slice bk a1.length bl))) := ⟨by repeat (first | (with_reducible first | exact HB.out | apply below_alloc | apply pw_below_drewN | apply below_drew1 | refine below_set ?_ ag.out | refine below_set ?_ ah.out | refine below_set ?_ al.out | refine below_set ?_ an.out | refine below_set ?_ aF.out | refine below_set ?_ aG.out) | exact HB.out)⟩
    (try clear aE)
    (try clear aP)
    (try clear ad)
    (try clear aa)
    (try clear ab)
    (try clear ac)
    (try clear az)
    (try clear aA)
    (try clear HB)
    generalize ((((bw.setCell ⟨av, 0, none⟩ (.int .i64 aQ)).setCell ⟨av, 1, none⟩ (.slice bi aT.length bj)).setCell ⟨aw, 0, none⟩ (.int .i64 a0)).setCell ⟨aw, 1, none⟩ (.slice bk a1.length bl)) = c5 at cW cX cY cZ c0 c1 c2 c3 c4 ⊢
    have aE := cW
    have aP := cX
    have ad := cY
    have aa := cZ
    have ab := c0
    have ac := c1
    have az := c2
    have aA := c3
    have HB := c4
    clear cW cX cY cZ c0 c1 c2 c3 c4
    replace aE := am (Kd.V_drew aE.out)
    replace aP := am (Kd.V_drew aP.out)
    replace ad := am (blk_drew ad.out)
    replace aa := am (blk_drew aa.out)
    replace ab := am (blk_drew ab.out)
    replace ac := am (blk_drew ac.out)
    replace az := am (blk_drew az.out)
    replace aA := am (blk_drew aA.out)
    replace HB := am (below_drew1 HB.out)
    refine start_ (n := 10) (S := fun w' => w'.cell? ⟨av, 0, none⟩ = some (.int .i64 aQ) ∧ w'.cell? ⟨av, 1, none⟩ = some (.slice bi aT.length bj) ∧ w'.cell? ⟨aw, 0, none⟩ = some (.int .i64 a0) ∧ w'.cell? ⟨aw, 1, none⟩ = some (.slice bk a1.length bl)) (ds := []) #[false, false, false, false, false, false, false, false, false, false] (by kernel_rfl) rfl rfl ⟨bc az 0, bc az 1, bc aA 0, bc aA 1⟩ (fun hHeld => ?_); refine with_tabW semiring_Leasts_Add.tab8 semiring_Leasts_Add.bits8 (fun HT_ HW_ => ?_)
    generalize c5.drew = c7 at aE aP ad aa ab ac az aA HB hHeld ⊢
    refine pq 0 (some 32) #[true, false, false, false, false, false, false, false, false, false] HT_ ?_
    refine pq 2 (some 34) #[true, false, true, false, false, false, false, false, false, false] HT_ ?_
    refine pq 4 (some 36) #[true, false, true, false, true, false, false, false, false, false] HT_ ?_
    refine tq 1 (some 33) #[true, true, true, false, true, false, false, false, false, false] HT_ HW_ hHeld ?_
    refine tq 3 (some 35) #[true, true, true, true, true, false, false, false, false, false] HT_ HW_ hHeld ?_
    refine tq 5 (some 37) #[true, true, true, true, true, true, false, false, false, false] HT_ HW_ hHeld ?_
    refine one_ (i := 6) (N := some 38) #[true, true, true, true, true, true, true, false, false, false] rfl rfl (one_of HT_.out (by kernel_rfl)) (by decide) (fun K hK => ?_)
    refine Kd.N_lit_step (Kd.slice 48 (Kd.int .u32)) _ 42 ?hg (N' := 38) ?hd (xs := ([aT, a1] : List (List Int))) (inner := [.slice bi aT.length bj, .slice bk a1.length bl]) (ok := (fun k_ => (w.heap.size ≤ k_) ∧ k_ ≠ aD ∧ k_ ≠ ae ∧ k_ ≠ af ∧ k_ ≠ ai ∧ k_ ≠ av ∧ k_ ≠ aw)) (okp := (fun k_ => (w.heap.size ≤ k_) ∧ k_ ≠ aD ∧ k_ ≠ ae ∧ k_ ≠ af ∧ k_ ≠ ai ∧ k_ ≠ av ∧ k_ ≠ aw)) ?hr ?hp (fun _ hk => hk) ((show ∀ k_, c7.heap.size ≤ k_ → (fun k_ => (w.heap.size ≤ k_) ∧ k_ ≠ aD ∧ k_ ≠ ae ∧ k_ ≠ af ∧ k_ ≠ ai ∧ k_ ≠ av ∧ k_ ≠ aw) k_ from fun k_ hk => ⟨(Nat.le_trans (below_size (bu6 HB.out ag.out ah.out al.out an.out aF.out aG.out)) hk), Kd.freshB (g := aD) (o := .cells #[] 54 (0, 0)) (ku ad.out) k_ hk, Kd.freshB (g := ae) (o := .cells #[.int .i64 a1_0, .slice A1_1 l1_1.length c1_1] 53 (0, 0)) (ku aa.out) k_ hk, Kd.freshB (g := af) (o := .cells #[.int .i64 a2_0, .slice A2_1 l2_1.length c2_1] 53 (0, 0)) (ku ab.out) k_ hk, Kd.freshB (g := ai) (o := .cells #[.int .i64 0, .slice none 0 0] 53 (0, 0)) (ku ac.out) k_ hk, Kd.freshB (g := av) (o := .cells #[.int .i64 aQ, .slice bi aT.length bj] 53 (0, 0)) (ku az.out) k_ hk, Kd.freshB (g := aw) (o := .cells #[.int .i64 a0, .slice bk a1.length bl] 53 (0, 0)) (ku aA.out) k_ hk⟩) _ (Nat.le_refl _)) (Below.refl _ _) (Nat.le_refl _) (by simp) ?_; (case hd => rfl); (case hg => rfl); (case hr => first | (go_simp; done) | (go_simp; rfl)); (case hp => exact (Reps.one (show Kd.FK (Kd.slice 48 (Kd.int .u32)) _ _ aT [.slice bi aT.length bj] from (Kd.FK_slice_mk (Kd.V_reads' (vy ((fun k_ => (w.heap.size ≤ k_) ∧ k_ ≠ aD ∧ k_ ≠ ae ∧ k_ ≠ af ∧ k_ ≠ ai ∧ k_ ≠ av ∧ k_ ≠ aw)) aE.out)).2.1 (Kd.V_F (vy ((fun k_ => (w.heap.size ≤ k_) ∧ k_ ≠ aD ∧ k_ ≠ ae ∧ k_ ≠ af ∧ k_ ≠ ai ∧ k_ ≠ av ∧ k_ ≠ aw)) aE.out)))) (Reps.one (show Kd.FK (Kd.slice 48 (Kd.int .u32)) _ _ a1 [.slice bk a1.length bl] from (Kd.FK_slice_mk (Kd.V_reads' (vy ((fun k_ => (w.heap.size ≤ k_) ∧ k_ ≠ aD ∧ k_ ≠ ae ∧ k_ ≠ af ∧ k_ ≠ ai ∧ k_ ≠ av ∧ k_ ≠ aw)) aP.out)).2.1 (Kd.V_F (vy ((fun k_ => (w.heap.size ≤ k_) ∧ k_ ≠ aD ∧ k_ ≠ ae ∧ k_ ≠ af ∧ k_ ≠ ai ∧ k_ ≠ av ∧ k_ ≠ aw)) aP.out)))) (Reps.none _ _))))
    intro dP dQ bN hb hg_ hnew_
    clear hg_ hnew_
    (first | rw [← b1.out] at bN | (simp only [Int.reduceToNat] at bN; rw [← b1.out] at bN))
    replace aE := el aE bN hb
    replace aP := el aP bN hb
    have bP := am (Kd.N_lower bN (below_size (bu6 HB.out ag.out ah.out al.out an.out aF.out aG.out)))
    replace ad := kb ad hb
    replace aa := kb aa hb
    replace ab := kb ab hb
    replace ac := kb ac hb
    replace az := kb az hb
    replace aA := kb aA hb
    replace HB := be6 HB ag ah al an aF aG hb
    clear hb bN
    obtain ⟨b2, b3, b4⟩ := Kd.N_slice bP.out
    (first | subst b4 | (injection b4 with f1_ f2_ f3_; have f4_ := f1_.symm; have f5_ := f3_.symm; clear f1_ f2_ f3_; subst f4_; subst f5_))
    refine hK.out _ _ ⟨bc az 0, bc az 1, bc aA 0, bc aA 1⟩ (fun hHeld => ?_)
    clear hK K
    refine nq 38 ?_
    refine one_ (i := 7) (N := some 39) #[true, true, true, true, true, true, true, true, false, false] rfl rfl (one_of HT_.out (by kernel_rfl)) (by decide) (fun K hK => ?_)
    refine goes_ Try.func142 (by kernel_rfl) rfl #[.slice b2 bY.length b3] (by rfl) rfl rfl lu ?_
    with_reducible refine (nat_Add.calls k _ _ bY bS _ ?side1 ?side2 cV.out).mono ?_
    (case side1 => exact cu (Kd.N_reads' bP.out).2.2)
    (case side2 => exact (Kd.N_reads' bP.out).2.1)
    rintro e cv ⟨dR, rfl, br, hb⟩
    refine ⟨_, rfl, ?_⟩
    replace br := R_V_base rfl br
    replace aE := kv aE hb
    replace aP := kv aP hb
    have b5 := ar0 w.heap.size (ok' := fun k_ => (w.heap.size ≤ k_) ∧ some k_ ≠ (.slice b2 bY.length b3 : Value).ownBlock ∧ k_ ≠ aD ∧ k_ ≠ ae ∧ k_ ≠ af ∧ k_ ≠ ai ∧ k_ ≠ av ∧ k_ ≠ aw) br (fa (fz6 HB ag ah al an aF aG) (fa (fo bP) (fa (fb ad) (fa (fb aa) (fa (fb ab) (fa (fb ac) (fa (fb az) (fb aA))))))))
    replace bP := kn bP hb
    replace ad := kb ad hb
    replace aa := kb aa hb
    replace ab := kb ab hb
    replace ac := kb ac hb
    replace az := kb az hb
    replace aA := kb aA hb
    replace HB := be6 HB ag ah al an aF aG hb
    (try clear hb)
    (try clear hb2)
    (try clear hk)
    (try clear hi)
    (try clear br)
    obtain ⟨cw, cx, b6⟩ := Kd.V_slice b5.out
    (first | subst b6 | (injection b6 with f1_ f2_ f3_; have f4_ := f1_.symm; have f5_ := f3_.symm; clear f1_ f2_ f3_; subst f4_; subst f5_))
    refine hK.out _ _ ⟨bc az 0, bc az 1, bc aA 0, bc aA 1⟩ (fun hHeld => ?_)
    clear hK K
    refine nq 39 ?_
    refine pq 8 (some 40) #[true, true, true, true, true, true, true, true, true, false] HT_ ?_
    refine one_ (i := 9) (N := none) #[true, true, true, true, true, true, true, true, true, true] rfl rfl (one_of HT_.out (by kernel_rfl)) (by decide) (fun K hK => ?_)
    have hs140 : cv.cell? ⟨ai, 0, none⟩ = some (.int .i64 0) := bc ac 0
    have hfs140 := blk_frozen ac.out 0
    have hns140_0 := ba.out
    have hns140_1 := bd.out
    have hns140_2 := bg.out
    have hns140_4 := ax.out
    have hns140_5 := ay.out
    have hms140_0 := bb.out
    have hms140_1 := bf.out
    have hms140_2 := bh.out
    have hms140_4 := aj.out
    have hms140_5 := ak.out
    have hs141 : cv.cell? ⟨ai, 1, none⟩ = some (.slice none 0 0) := bc ac 1
    have hfs141 := blk_frozen ac.out 1
    have hns141_0 := ba.out
    have hns141_1 := bd.out
    have hns141_2 := bg.out
    have hns141_4 := ax.out
    have hns141_5 := ay.out
    have hms141_0 := bb.out
    have hms141_1 := bf.out
    have hms141_2 := bh.out
    have hms141_4 := aj.out
    have hms141_5 := ak.out
    refine skip_ (w1 := ?_) (by rfl) rfl ?_ ?_
    rotate_left
    ·
     go_simp
     rfl
    refine hK.out _ _ ⟨((cell_far (p := ⟨ai, _, none⟩) ax.out _).trans (((cell_far (p := ⟨ai, _, none⟩) ax.out _).trans (hHeld.1)))), ((cell_far (p := ⟨ai, _, none⟩) ax.out _).trans (((cell_far (p := ⟨ai, _, none⟩) ax.out _).trans (hHeld.2.1)))), ((cell_far (p := ⟨ai, _, none⟩) ay.out _).trans (((cell_far (p := ⟨ai, _, none⟩) ay.out _).trans (hHeld.2.2.1)))), ((cell_far (p := ⟨ai, _, none⟩) ay.out _).trans (((cell_far (p := ⟨ai, _, none⟩) ay.out _).trans (hHeld.2.2.2))))⟩ (fun hHeld => ?_)
    clear hK K
    refine done_ (done_of HT_.out (by kernel_rfl)) ?_
    try go_wp2
    refine bodyPost_ret (results_cell_row rfl _ _ ai 53 #[.int .i64 aQ, .slice cw bS.length cx] (0, 0) _ rfl (by (with_reducible repeat (first | refine blk_drewN ?_ _ | refine blk_drew ?_ | refine blk_alloc ?_ _)); refine blk_put (cs := #[.int .i64 aQ, .slice none 0 0]) ?_ 1 _ rfl; (with_reducible repeat (first | refine blk_drewN ?_ _ | refine blk_drew ?_ | refine blk_alloc ?_ _)); refine blk_put (cs := #[.int .i64 0, .slice none 0 0]) ?_ 0 _ rfl; (with_reducible repeat (first | refine blk_drewN ?_ _ | refine blk_drew ?_ | refine blk_alloc ?_ _)); exact ac.out) Try.underlying53 rfl (by kernel_rfl)) rfl ?_
    exact ⟨_, by first | rfl | (simp [errW_none, errW_some] <;> rfl) | (simp [*, errW_none, errW_some] <;> rfl), by exact vg b5.out, by repeat (first | (with_reducible first | exact HB.out | apply below_alloc | apply pw_below_drewN | apply below_drew1 | refine below_set ?_ ag.out | refine below_set ?_ ah.out | refine below_set ?_ al.out | refine below_set ?_ an.out | refine below_set ?_ aF.out | refine below_set ?_ aG.out) | exact HB.out)⟩
end Go.Proofs.Ytecfdemglbfnoaa.PT
end
