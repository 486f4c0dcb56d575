/- Walks and plain facts for the law RationalDots, several texts in one: each theorem says what it shows; no condition beyond those that it names. -/
import Derived.Test.YtecfdemglbfnoaaRows
import Derived.JoinedOf
import Derived.Test.YtecfdemglbfnoaaProg
import Derived.Test.YtecfdemglbfnoaaMRationalDotsA
section
namespace Go.Proofs.Ytecfdemglbfnoaa
open Go
namespace Facts
theorem words_cons (r : List Char) : ∀ w : List Char, (w.all fun c => c != Char.ofNat 32) = true → wordsSigns (w ++ Char.ofNat 32 :: r) = w :: wordsSigns r
  | [], _ => by simp only [List.nil_append]; rfl
  | c :: w, h => by
    simp only [List.all_cons, Bool.and_eq_true, bne_iff_ne, ne_eq] at h
    have ih := words_cons r w h.2
    rw [List.cons_append, wordsSigns.eq_3 _ _ (fun e => h.1 e), ih]
def w1 : List Char := List.map Char.ofNat [104, 97, 114, 110, 101, 115, 115]
def w2 : List Char := List.map Char.ofNat [53, 97, 57, 56, 102, 50, 48, 57, 48, 98, 53, 98, 49, 55, 100, 56, 49, 53, 98, 55, 99, 52, 53, 48, 101, 56, 51, 100, 50, 98, 49, 52, 55, 51, 101, 102, 
  56, 50, 54, 55, 52, 51, 49, 57, 100, 52, 54, 56, 57, 49, 97, 97, 102, 99, 100, 102, 55, 100, 57, 97, 99, 54, 51, 98]
def w3 : List Char := List.map Char.ofNat [99, 117, 116]
def w4 : List Char := List.map Char.ofNat [97, 116, 32, 99, 111, 100, 101, 119, 114, 105, 103, 104, 116, 47, 99, 111, 100, 101, 119, 114, 105, 103, 104, 116, 108, 97, 119, 52, 54, 46, 83, 101, 
  109, 105, 114, 105, 110, 103, 66, 111, 111, 108, 101, 97, 110, 115, 32, 99, 111, 100, 101, 119, 114, 105, 103, 104, 116, 47, 99, 111, 100, 101, 119, 
  114, 105, 103, 104, 116, 108, 97, 119, 52, 54, 46, 83, 101, 109, 105, 114, 105, 110, 103, 67, 111, 115, 116, 115, 32, 99, 111, 100, 101, 119, 114, 105, 
  103, 104, 116, 47, 99, 111, 100, 101, 119, 114, 105, 103, 104, 116, 108, 97, 119, 52, 54, 46, 83, 101, 109, 105, 114, 105, 110, 103, 71, 97, 105, 110, 
  115, 32, 99, 111, 100, 101, 119, 114, 105, 103, 104, 116, 47, 99, 111, 100, 101, 119, 114, 105, 103, 104, 116, 108, 97, 119, 52, 54, 46, 83, 101, 109, 
  105, 114, 105, 110, 103, 83, 104, 97, 112, 101, 115, 32, 99, 111, 100, 101, 119, 114, 105, 103, 104, 116, 47, 99, 111, 100, 101, 119, 114, 105, 103, 
  104, 116, 108, 97, 119, 52, 54, 46, 83, 101, 109, 105, 114, 105, 110, 103, 67, 111, 117, 110, 116, 115, 32, 99, 111, 100, 101, 119, 114, 105, 103, 104, 
  116, 47, 99, 111, 100, 101, 119, 114, 105, 103, 104, 116, 108, 97, 119, 52, 54, 46, 83, 101, 109, 105, 114, 105, 110, 103, 76, 101, 97, 115, 116, 115, 
  32, 99, 111, 100, 101, 119, 114, 105, 103, 104, 116, 47, 99, 111, 100, 101, 119, 114, 105, 103, 104, 116, 108, 97, 119, 52, 54, 46, 83, 101, 109, 105, 
  114, 105, 110, 103, 69, 110, 117, 109, 101, 114, 97, 116, 111, 114, 115, 32, 99, 111, 100, 101, 119, 114, 105, 103, 104, 116, 47, 99, 111, 100, 101, 
  119, 114, 105, 103, 104, 116, 108, 97, 119, 48, 50, 46, 82, 97, 116, 105, 111, 110, 97, 108, 82, 97, 116, 105, 111, 115, 32, 99, 111, 100, 101, 119, 
  114, 105, 103, 104, 116, 47, 99, 111, 100, 101, 119, 114, 105, 103, 104, 116, 108, 97, 119, 48, 50, 46, 82, 97, 116, 105, 111, 110, 97, 108, 77, 97, 
  107, 101, 115, 32, 99, 111, 100, 101, 119, 114, 105, 103, 104, 116, 47, 99, 111, 100, 101, 119, 114, 105, 103, 104, 116, 108, 97, 119, 48, 50, 46, 82, 
  97, 116, 105, 111, 110, 97, 108, 70, 111, 114, 109, 115, 32, 99, 111, 100, 101, 119, 114, 105, 103, 104, 116, 47, 99, 111, 100, 101, 119, 114, 105, 
  103, 104, 116, 108, 97, 119, 48, 50, 46, 82, 97, 116, 105, 111, 110, 97, 108, 68, 105, 118, 105, 100, 101, 115, 32, 99, 111, 100, 101, 119, 114, 105, 
  103, 104, 116, 47, 99, 111, 100, 101, 119, 114, 105, 103, 104, 116, 108, 97, 119, 48, 50, 46, 82, 97, 116, 105, 111, 110, 97, 108, 80, 111, 119, 101, 
  114, 115, 32, 99, 111, 100, 101, 119, 114, 105, 103, 104, 116, 47, 99, 111, 100, 101, 119, 114, 105, 103, 104, 116, 108, 97, 119, 48, 50, 46, 82, 97, 
  116, 105, 111, 110, 97, 108, 76, 105, 115, 116, 115, 32, 99, 111, 100, 101, 119, 114, 105, 103, 104, 116, 47, 99, 111, 100, 101, 119, 114, 105, 103, 
  104, 116, 108, 97, 119, 48, 50, 46, 82, 97, 116, 105, 111, 110, 97, 108, 68, 111, 116, 115, 32, 99, 111, 100, 101, 119, 114, 105, 103, 104, 116, 47, 
  99, 111, 100, 101, 119, 114, 105, 103, 104, 116, 108, 97, 119, 48, 50, 46, 82, 97, 116, 105, 111, 110, 97, 108, 69, 120, 112, 111, 110, 101, 110, 116, 
  115, 32, 99, 111, 100, 101, 119, 114, 105, 103, 104, 116, 47, 99, 111, 100, 101, 119, 114, 105, 103, 104, 116, 108, 97, 119, 48, 50, 46, 82, 97, 116, 
  105, 111, 110, 97, 108, 79, 114, 100, 101, 114, 115, 32, 99, 111, 100, 101, 119, 114, 105, 103, 104, 116, 47, 99, 111, 100, 101, 119, 114, 105, 103, 
  104, 116, 108, 97, 119, 48, 50, 46, 82, 97, 116, 105, 111, 110, 97, 108, 70, 105, 101, 108, 100, 32, 99, 111, 100, 101, 119, 114, 105, 103, 104, 116, 
  47, 99, 111, 100, 101, 119, 114, 105, 103, 104, 116, 108, 97, 119, 48, 50, 46, 82, 97, 116, 105, 111, 110, 97, 108, 70, 108, 111, 111, 114, 115, 32, 
  99, 111, 100, 101, 119, 114, 105, 103, 104, 116, 47, 99, 111, 100, 101, 119, 114, 105, 103, 104, 116, 108, 97, 119, 48, 50, 46, 82, 97, 116, 105, 111, 
  110, 97, 108, 83, 99, 104, 119, 97, 114, 122, 32, 99, 111, 100, 101, 119, 114, 105, 103, 104, 116, 47, 99, 111, 100, 101, 119, 114, 105, 103, 104, 116, 
  108, 97, 119, 52, 54, 46, 83, 101, 109, 105, 114, 105, 110, 103, 70, 114, 97, 99, 116, 105, 111, 110, 115, 32, 99, 111, 100, 101, 119, 114, 105, 103, 
  104, 116, 47, 99, 111, 100, 101, 119, 114, 105, 103, 104, 116, 108, 97, 119, 52, 54, 46, 83, 101, 109, 105, 114, 105, 110, 103, 83, 117, 109, 115, 32, 
  99, 111, 100, 101, 119, 114, 105, 103, 104, 116, 47, 99, 111, 100, 101, 119, 114, 105, 103, 104, 116, 108, 97, 119, 52, 54, 46, 83, 101, 109, 105, 114, 
  105, 110, 103, 67, 111, 117, 110, 116, 115, 80, 97, 116, 104, 115, 32, 99, 111, 100, 101, 119, 114, 105, 103, 104, 116, 47, 99, 111, 100, 101, 119, 
  114, 105, 103, 104, 116, 108, 97, 119, 52, 54, 46, 83, 101, 109, 105, 114, 105, 110, 103, 76, 101, 97, 115, 116, 80, 97, 116, 104, 115, 32, 99, 111, 
  100, 101, 119, 114, 105, 103, 104, 116, 47, 99, 111, 100, 101, 119, 114, 105, 103, 104, 116, 108, 97, 119, 52, 54, 46, 83, 101, 109, 105, 114, 105, 
  110, 103, 83, 104, 111, 114, 116, 101, 115, 116, 32, 99, 111, 100, 101, 119, 114, 105, 103, 104, 116, 47, 99, 111, 100, 101, 119, 114, 105, 103, 104, 
  116, 108, 97, 119, 52, 54, 46, 83, 101, 109, 105, 114, 105, 110, 103, 77, 101, 101, 116, 115]
theorem io : Try.prog.initOrder = String.ofList (w1 ++ Char.ofNat 32 :: (w2 ++ Char.ofNat 32 :: (w3 ++ Char.ofNat 32 :: w4))) := by kernel_rfl
theorem iol : wordsSigns Try.prog.initOrder.toList = w1 :: w2 :: w3 :: wordsSigns w4 := by
  rw [io, String.toList_ofList, words_cons _ w1 (by kernel_rfl), words_cons _ w2 (by kernel_rfl), words_cons _ w3 (by kernel_rfl)]
theorem behind : behindMainWord (wordsSigns Try.prog.initOrder.toList) = w3 :: wordsSigns w4 := by
  rw [iol]
  show (if (w1 == "harness".toList || w1 == "ownmain".toList) && isSumSigns w2 then w3 :: wordsSigns w4 else w1 :: w2 :: w3 :: wordsSigns w4) = _
  rw [if_pos (by kernel_rfl)]
theorem strip (l : List (List Char)) : stripLifts liftWords (w3 :: l) = ([], w3 :: l) := by kernel_rfl
theorem is_cut : (w3 == "cut".toList) = true := by kernel_rfl
theorem no_gc : (w3 == "gc".toList) = false := by kernel_rfl
theorem no_spec : (w3 == "spec".toList) = false := by kernel_rfl
theorem no_carried : (w3 == "carried".toList) = false := by kernel_rfl
theorem enter_of (P : Program) (l : List (List Char)) (h : behindMainWord (wordsSigns P.initOrder.toList) = w3 :: l) (hr : P.doorFits [] = true) (h1 : P.laysLater = false) (h2 : P.bearsReflect = false) : P.mayEnter = true := by
  have hc : (some w3 == some "cut".toList) = true := is_cut
  unfold Program.mayEnter; rw [h]
  simp only [strip, List.head?_cons, hc, h1, h2, hr]; simp
theorem lifts_of (P : Program) (l : List (List Char)) (h : behindMainWord (wordsSigns P.initOrder.toList) = w3 :: l) : P.liftsFinal = false := by
  have hc : (some w3 == some "cut".toList) = true := is_cut
  have hk : (some w3 == some "carried".toList) = false := no_carried
  unfold Program.liftsFinal Program.headLifts; rw [h]
  simp only [strip, List.head?_cons, hc, hk]; rfl
theorem make_of (P : Program) (l : List (List Char)) (h : behindMainWord (wordsSigns P.initOrder.toList) = w3 :: l) : P.make = some .cut := by
  unfold Program.make; rw [h]
  simp only [no_gc, no_spec, is_cut, Bool.or_self, Bool.false_eq_true, if_false, Bool.true_or, if_true]
theorem enter : Try.prog.mayEnter = true := enter_of _ _ behind (by kernel_rfl) (by kernel_rfl) (by kernel_rfl)
theorem lifts : Try.prog.liftsFinal = false := lifts_of _ _ behind
theorem make : Try.prog.make = some .cut := make_of _ _ behind
theorem own : ownKnob Try.prog.godebug = none := by kernel_rfl
theorem laid : laidOutB Try.prog = true := by kernel_rfl
theorem band {a b : Bool} (h : a = true) (h' : b = true) : (a && b) = true := by rw [h, h']; rfl
end Facts
end Go.Proofs.Ytecfdemglbfnoaa
end
section
namespace Go.Proofs.Ytecfdemglbfnoaa.PT
open Go.RowKit Go.Proofs.YtecfdemglbfnoaaW.PrintWords
theorem cut_cap {P : Program} (t e : TypeId) (kh : IntKind) {i : TypeInfo} (ht : P.underlying t = some (.slice e)) (hi : P.info? e = some i) (A : Option Addr) (n c : Nat) (j : Int) (h0 : 0 ≤ j) (hm : j ≤ n) (hc : n ≤ c) :
    ∀ W : World, (Instr.slice t (.slice A n c) none (some (.int kh j)) (some (.int kh j))).run P W = .ok (.slice A j.toNat j.toNat) W := by
  intro W
  have hel : P.elem t = e := by simp [Program.elem, ht]
  have hu : P.underlying t = some (.slice (P.elem t)) := by rw [hel]; exact ht
  have ha : (A.map fun x => x.add 0) = A := by cases A <;> simp [Addr.add]
  have h1 : (j.toNat : Int) = j := Int.toNat_of_nonneg h0
  simp [Instr.slice, run_underlying hu, Instr.sliceBounds, run_sliceBound, hel, sizeOf, typeInfo, hi, Result.andThen, ha, h1, (by omega : j ≤ (c : Int)), (by omega : 0 ≤ j)]
theorem reads_len {α : Type} {Rr : α → List Value → Prop} {sz : Nat} {W : World} {A : Option Addr} {n m : Nat} {ys : List α} (h : n = m) (hr : ReadsRow Rr sz W A n ys) : ReadsRow Rr sz W A m ys := h ▸ hr
theorem R_V_base {α : Type} {d : Kd α} {e : Nat} {w : World} {base : Nat} {ok : Nat → Prop} {v : Value} {xs : List α} (hE : d.E = []) (h : d.R e w base ok v xs) : Kd.V d e w base (fun k_ => base ≤ k_) v xs :=
  Kd.V_mono (Kd.R_V (Kd.R_tight hE h)) (fun k_ hk_ => Kd.R_base h k_ hk_.symm)
end Go.Proofs.Ytecfdemglbfnoaa.PT
end
section
namespace Go.Proofs.Ytecfdemglbfnoaa.PT
def valn : List Int → Nat
  | [] => 0
  | x :: xs => x.toNat + 4294967296 * valn xs
def padn : Nat → Nat → List Int
  | 0, _ => []
  | n + 1, m => (m % 4294967296 : Nat) :: padn n (m / 4294967296)
end Go.Proofs.Ytecfdemglbfnoaa.PT
namespace Go.Proofs.Ytecfdemglbfnoaa.Num
open Go.RowKit Go.Proofs.Ytecfdemglbfnoaa.PT Go.Proofs.YtecfdemglbfnoaaW.PrintWords
def pw (n : Nat) : Nat := if h : n = 0 then 1 else pw (n - 1) * 4294967296
termination_by n
decreasing_by omega
theorem pw_zero : pw 0 = 1 := by rw [pw]; simp
theorem pw_succ (n : Nat) : pw (n + 1) = pw n * 4294967296 := by rw [pw]; simp
theorem pw_eq (n : Nat) : pw n = 4294967296 ^ n := by
  induction n with
  | zero => exact pw_zero
  | succ n ih => rw [pw_succ, ih, Nat.pow_succ]
theorem pw_pos (n : Nat) : 0 < pw n := by rw [pw_eq]; exact Nat.pow_pos (by decide)
theorem pw_mono {m n : Nat} (h : m ≤ n) : pw m ≤ pw n := by rw [pw_eq, pw_eq]; exact Nat.pow_le_pow_right (by decide) h
theorem pw_add (m n : Nat) : pw (m + n) = pw m * pw n := by rw [pw_eq, pw_eq, pw_eq]; exact Nat.pow_add ..
def U (l : List Int) : Prop := ∀ x ∈ l, 0 ≤ x ∧ x < 4294967296
def lb (n : Nat) : List Int := if h : n = 0 then [] else ((n % 4294967296 : Nat) : Int) :: lb (n / 4294967296)
termination_by n
decreasing_by omega
theorem lb_zero : lb 0 = [] := by rw [lb]; simp
theorem lb_pos {n : Nat} (h : n ≠ 0) : lb n = ((n % 4294967296 : Nat) : Int) :: lb (n / 4294967296) := by rw [lb]; simp [h]
theorem U_nil : U [] := by intro x hx; cases hx
theorem U_cons {x : Int} {l : List Int} (h : 0 ≤ x ∧ x < 4294967296) (hl : U l) : U (x :: l) := by
  intro y hy
  rcases List.mem_cons.1 hy with rfl | hy
  · exact h
  · exact hl y hy
theorem U_tail {x : Int} {l : List Int} (h : U (x :: l)) : U l := fun y hy => h y (List.mem_cons_of_mem _ hy)
theorem U_head {x : Int} {l : List Int} (h : U (x :: l)) : 0 ≤ x ∧ x < 4294967296 := h x (List.mem_cons_self ..)
theorem U_take {l : List Int} (h : U l) (n : Nat) : U (l.take n) := fun x hx => h x (List.mem_of_mem_take hx)
theorem U_drop {l : List Int} (h : U l) (n : Nat) : U (l.drop n) := fun x hx => h x (List.mem_of_mem_drop hx)
theorem U_append {a b : List Int} (ha : U a) (hb : U b) : U (a ++ b) := by
  intro x hx
  rcases List.mem_append.1 hx with h | h
  · exact ha x h
  · exact hb x h
theorem U_set {l : List Int} (h : U l) {d : Int} (hd : 0 ≤ d ∧ d < 4294967296) (i : Nat) : U (l.set i d) := by
  intro x hx
  rcases List.mem_or_eq_of_mem_set hx with h' | rfl
  · exact h x h'
  · exact hd
theorem U_replicate (n : Nat) : U (List.replicate n 0) := by
  intro x hx
  rw [List.eq_of_mem_replicate hx]; omega
theorem U_rd {l : List Int} (h : U l) (i : Int) : 0 ≤ rd l i ∧ rd l i < 4294967296 := by
  unfold rd
  by_cases hi : i.toNat < l.length
  · rw [List.getD_eq_getElem?_getD, List.getElem?_eq_getElem hi]; exact h _ (List.getElem_mem hi)
  · rw [List.getD_eq_getElem?_getD, List.getElem?_eq_none (by omega)]; simp
theorem U_lb (n : Nat) : U (lb n) := by
  induction n using Nat.strongRecOn with
  | ind n ih =>
    by_cases h : n = 0
    · subst h; rw [lb_zero]; exact U_nil
    · rw [lb_pos h]; exact U_cons (by omega) (ih _ (by omega))
theorem valn_nil : valn [] = 0 := rfl
theorem valn_cons (x : Int) (l : List Int) : valn (x :: l) = x.toNat + 4294967296 * valn l := rfl
theorem valn_lb (n : Nat) : valn (lb n) = n := by
  induction n using Nat.strongRecOn with
  | ind n ih =>
    by_cases h : n = 0
    · subst h; rw [lb_zero]; rfl
    · rw [lb_pos h, valn_cons, ih _ (by omega)]; omega
theorem lb_eq_nil {n : Nat} : lb n = [] ↔ n = 0 := by
  constructor
  · intro h; have := valn_lb n; rw [h] at this; exact this.symm
  · rintro rfl; exact lb_zero
theorem valn_append (a b : List Int) : valn (a ++ b) = valn a + pw a.length * valn b := by
  induction a with
  | nil => simp [valn_nil, pw_zero]
  | cons x a ih => rw [List.cons_append, valn_cons, ih, valn_cons, List.length_cons, pw_succ, Nat.mul_add, Nat.add_assoc, Nat.mul_comm (pw a.length) 4294967296, Nat.mul_assoc]
theorem valn_lt {l : List Int} (h : U l) : valn l < pw l.length := by
  induction l with
  | nil => simp [valn_nil, pw_zero]
  | cons x l ih =>
    have hx := U_head h
    have := ih (U_tail h)
    rw [valn_cons, List.length_cons, pw_succ]
    omega
theorem valn_replicate (n : Nat) : valn (List.replicate n 0) = 0 := by
  induction n with
  | zero => rfl
  | succ n ih => rw [List.replicate_succ, valn_cons, ih]; rfl
theorem valn_take_drop (l : List Int) (n : Nat) (h : n ≤ l.length) : valn l = valn (l.take n) + pw n * valn (l.drop n) := by
  conv => lhs; rw [← List.take_append_drop n l]
  rw [valn_append, List.length_take, Nat.min_eq_left h]
theorem rd_eq (l : List Int) (i : Nat) (h : i < l.length) : rd l (i : Int) = l[i] := by simp [rd, h]
theorem rd_ge (l : List Int) (i : Nat) (h : l.length ≤ i) : rd l (i : Int) = 0 := by simp [rd, h]
theorem take_rd (l : List Int) (i : Nat) (h : i < l.length) : l.take (i + 1) = l.take i ++ [rd l (i : Int)] := by
  rw [rd_eq l i h, List.take_add_one, List.getElem?_eq_getElem h]; rfl
theorem drop_rd (l : List Int) (i : Nat) (h : i < l.length) : l.drop i = rd l (i : Int) :: l.drop (i + 1) := by
  rw [rd_eq l i h]; exact List.drop_eq_getElem_cons h
theorem valn_take_succ (l : List Int) (i : Nat) : valn (l.take (i + 1)) = valn (l.take i) + pw i * (rd l (i : Int)).toNat := by
  by_cases h : i < l.length
  · rw [take_rd l i h, valn_append, List.length_take, Nat.min_eq_left (by omega), valn_cons, valn_nil]; simp
  · rw [rd_ge l i (by omega), List.take_of_length_le (by omega), List.take_of_length_le (by omega)]; simp
theorem valn_set_take (z : List Int) (i : Nat) (d : Int) (h : i < z.length) : valn ((z.set i d).take (i + 1)) = valn (z.take i) + pw i * d.toNat := by
  rw [valn_take_succ, List.take_set_of_le (Nat.le_refl _), rd_eq _ _ (by simpa using h), List.getElem_set_self]
theorem valn_drop_rd (l : List Int) (i : Nat) : valn (l.drop i) = (rd l (i : Int)).toNat + 4294967296 * valn (l.drop (i + 1)) := by
  by_cases h : i < l.length
  · rw [drop_rd l i h, valn_cons]
  · rw [rd_ge l i (by omega), List.drop_eq_nil_of_le (by omega), List.drop_eq_nil_of_le (by omega)]; rfl
theorem valn_set (z : List Int) (i : Nat) (d : Int) (h : i < z.length) : valn (z.set i d) + pw i * (rd z (i : Int)).toNat = valn z + pw i * d.toNat := by
  have h1 := valn_take_drop z (i + 1) (by omega)
  have h2 := valn_take_drop (z.set i d) (i + 1) (by rw [List.length_set]; omega)
  rw [valn_set_take z i d h, List.drop_set_of_lt (by omega)] at h2
  rw [valn_take_succ] at h1
  omega
theorem rd_set_eq (z : List Int) (i : Nat) (d : Int) (h : i < z.length) : rd (z.set i d) (i : Int) = d := by
  rw [rd_eq _ _ (by simpa using h), List.getElem_set_self]
theorem lb_valn {l : List Int} (h : U l) (hl : l = [] ∨ l.getLast? ≠ some 0) : lb (valn l) = l := by
  induction l with
  | nil => exact lb_zero
  | cons x l ih =>
    have hx := U_head h
    have key : l = [] ∨ l.getLast? ≠ some 0 := by
      by_cases e : l = []
      · exact .inl e
      · right
        rcases hl with h' | h'
        · exact absurd h' (by simp)
        · rw [List.getLast?_cons] at h'
          cases hl2 : l.getLast? with
          | none => simp
          | some y => rw [hl2] at h'; simpa using h'
    have ih := ih (U_tail h) key
    have hne : valn (x :: l) ≠ 0 := by
      rw [valn_cons]
      by_cases e : l = []
      · subst e
        have : x ≠ 0 := by
          rintro rfl
          rcases hl with h' | h'
          · cases h'
          · exact h' rfl
        omega
      · have : valn l ≠ 0 := by
          intro h0
          rw [h0, lb_zero] at ih
          exact e ih.symm
        omega
    rw [lb_pos hne, valn_cons]
    have e1 : (x.toNat + 4294967296 * valn l) / 4294967296 = valn l := by omega
    have e2 : (((x.toNat + 4294967296 * valn l) % 4294967296 : Nat) : Int) = x := by omega
    rw [e1, e2, ih]
theorem lb_last (n : Nat) : lb n = [] ∨ (lb n).getLast? ≠ some 0 := by
  induction n using Nat.strongRecOn with
  | ind n ih =>
    by_cases h : n = 0
    · exact .inl (by rw [h, lb_zero])
    · right
      rw [lb_pos h, List.getLast?_cons]
      rcases ih (n / 4294967296) (by omega) with h' | h'
      · rw [h']
        have := lb_eq_nil.1 h'
        simp; omega
      · cases hl2 : (lb (n / 4294967296)).getLast? with
        | none =>
          have : lb (n / 4294967296) = [] := by simpa using hl2
          have := lb_eq_nil.1 this
          simp; omega
        | some y => rw [hl2] at h'; simpa using h'
theorem valn_take_of_zero (l : List Int) (n : Nat) (h : n ≤ l.length) (hz : valn (l.drop n) = 0) : valn (l.take n) = valn l := by
  rw [valn_take_drop l n h, hz]; simp
theorem lb_len_le {n : Nat} : ∀ {m : Nat}, n < pw m → (lb n).length ≤ m := by
  induction n using Nat.strongRecOn with
  | ind n ih =>
    intro m hm
    by_cases h : n = 0
    · rw [h, lb_zero]; simp
    · rw [lb_pos h, List.length_cons]
      cases m with
      | zero => rw [pw_zero] at hm; omega
      | succ m =>
        have : n / 4294967296 < pw m := by
          rw [pw_succ] at hm
          exact (Nat.div_lt_iff_lt_mul (by omega)).2 hm
        have := ih _ (by omega) this
        omega
theorem lb_len {l : List Int} (h : U l) : (lb (valn l)).length ≤ l.length := lb_len_le (valn_lt h)
theorem lt_pow_len (n : Nat) : n < pw (lb n).length := by
  have := valn_lt (U_lb n); rwa [valn_lb] at this
theorem pow_len_le {n : Nat} (h : n ≠ 0) : pw ((lb n).length - 1) ≤ n := by
  induction n using Nat.strongRecOn with
  | ind n ih =>
    rw [lb_pos h, List.length_cons, Nat.add_sub_cancel]
    by_cases h2 : n / 4294967296 = 0
    · rw [h2, lb_zero, List.length_nil, pw_zero]; omega
    · have := ih (n / 4294967296) (by omega) h2
      cases hL : (lb (n / 4294967296)).length with
      | zero => rw [pw_zero]; omega
      | succ m =>
        rw [hL, Nat.add_sub_cancel] at this
        rw [pw_succ]; omega
theorem len_lt_of_lt {m n : Nat} (h : (lb m).length < (lb n).length) : m < n := by
  by_cases h0 : n = 0
  · rw [h0, lb_zero] at h; simp at h
  have h1 := lt_pow_len m
  have h2 := pow_len_le h0
  have h3 : pw (lb m).length ≤ pw ((lb n).length - 1) := pw_mono (by omega)
  omega
theorem rd_lb_last {n : Nat} (h : n ≠ 0) : rd (lb n) (((lb n).length - 1 : Nat) : Int) ≠ 0 := by
  have hne : lb n ≠ [] := fun e => h (lb_eq_nil.1 e)
  have hlen : 0 < (lb n).length := List.length_pos_iff.2 hne
  rcases lb_last n with h' | h'
  · exact absurd h' hne
  · rw [rd_eq _ _ (by omega)]
    rw [List.getLast?_eq_getElem?, List.getElem?_eq_getElem (by omega)] at h'
    intro e; exact h' (by rw [e])
theorem padn_len (n m : Nat) : (padn n m).length = n := by
  induction n generalizing m with
  | zero => rfl
  | succ n ih => simp [padn, ih]
theorem U_padn (n m : Nat) : U (padn n m) := by
  induction n generalizing m with
  | zero => exact U_nil
  | succ n ih => exact U_cons (by omega) (ih _)
theorem valn_padn (n m : Nat) : valn (padn n m) = m % pw n := by
  induction n generalizing m with
  | zero => simp [padn, valn_nil, pw_zero, Nat.mod_one]
  | succ n ih =>
    rw [padn, valn_cons, ih, pw_succ, Nat.mul_comm (pw n), Nat.mod_mul]
    omega
theorem valn_padn_lt {n m : Nat} (h : m < pw n) : valn (padn n m) = m := by rw [valn_padn, Nat.mod_eq_of_lt h]
theorem padn_mod (n a b : Nat) : padn n (a + pw n * b) = padn n a := by
  induction n generalizing a with
  | zero => rfl
  | succ n ih =>
    rw [padn, padn, pw_succ, Nat.mul_right_comm]
    have e1 : (a + pw n * b * 4294967296) % 4294967296 = a % 4294967296 := by omega
    have e2 : (a + pw n * b * 4294967296) / 4294967296 = a / 4294967296 + pw n * b := by omega
    rw [e1, e2, ih]
theorem padn_valn {l : List Int} (h : U l) : padn l.length (valn l) = l := by
  induction l with
  | nil => rfl
  | cons x l ih =>
    have hx := U_head h
    rw [List.length_cons, padn, valn_cons]
    have e1 : (x.toNat + 4294967296 * valn l) / 4294967296 = valn l := by omega
    have e2 : (((x.toNat + 4294967296 * valn l) % 4294967296 : Nat) : Int) = x := by omega
    rw [e1, e2, ih (U_tail h)]
end Go.Proofs.Ytecfdemglbfnoaa.Num
end
section
namespace Go.Proofs.Ytecfdemglbfnoaa.PT
open Go.RowKit Go.Proofs.YtecfdemglbfnoaaW.PrintWords Go.Proofs.YtecfdemglbfnoaaW.PrintLast Go.Proofs.YtecfdemglbfnoaaW.PrintMore
theorem vu {p q : Prop} (h : p) (f : p → q := by intro h_; (with_reducible repeat (first | apply Kd.V_alloc | apply Kd.V_drewN | apply Kd.V_drew)); exact h_) : q := f h
theorem nu {p q : Prop} (h : p) (f : p → q := by intro h_; (with_reducible repeat (first | apply Kd.N_alloc | apply Kd.N_drewN | apply Kd.N_drew)); exact h_) : q := f h
theorem ku {p q : Prop} (h : p) (f : p → q := by intro h_; (with_reducible repeat (first | refine blk_drewN ?_ _ | refine blk_drew ?_ | refine blk_alloc ?_ _)); exact h_) : q := f h
theorem bu {p q : Prop} (h : p) (f : p → q := by intro h_; repeat (first | (with_reducible first | exact h_ | apply below_alloc | apply pw_below_drewN | apply below_drew1) | exact h_)) : q := f h
theorem bu1 {p q p1 : Prop} (h : p) (g1 : p1) (f : p → p1 → q := by intro h_ g1_; repeat (first | (with_reducible first | exact h_ | apply below_alloc | apply pw_below_drewN | apply below_drew1 | refine below_set ?_ g1_) | exact h_)) : q := f h g1
theorem bu2 {p q p1 p2 : Prop} (h : p) (g1 : p1) (g2 : p2) (f : p → p1 → p2 → q := by intro h_ g1_ g2_; repeat (first | (with_reducible first | exact h_ | apply below_alloc | apply pw_below_drewN | apply below_drew1 | refine below_set ?_ g1_ | refine below_set ?_ g2_) | exact h_)) : q := f h g1 g2
theorem bu3 {p q p1 p2 p3 : Prop} (h : p) (g1 : p1) (g2 : p2) (g3 : p3) (f : p → p1 → p2 → p3 → q := by intro h_ g1_ g2_ g3_; repeat (first | (with_reducible first | exact h_ | apply below_alloc | apply pw_below_drewN | apply below_drew1 | refine below_set ?_ g1_ | refine below_set ?_ g2_ | refine below_set ?_ g3_) | exact h_)) : q := f h g1 g2 g3
theorem lu {q : Prop} (f : q := by (try simp only [List.map_toArray, List.map_cons, List.map_nil]); first | done | rfl | (simp only [List.length_drop, List.length_take]; rfl)) : q := f
end Go.Proofs.Ytecfdemglbfnoaa.PT
end
section
namespace Go.Proofs.Ytecfdemglbfnoaa.PT
open Go.RowKit Go.Proofs.YtecfdemglbfnoaaW.PrintWords Go.Proofs.YtecfdemglbfnoaaW.PrintLast Go.Proofs.YtecfdemglbfnoaaW.PrintMore
theorem farA {α : Type} {d : Kd α} {e : Nat} {W : World} {base : Nat} {ok : Nat → Prop} {v : Value} {xs : List α} {p : Addr} {u : Value} (h : Kd.V d e W base ok v xs) (hok : ∀ k, ok k → k ≠ p.block := by
  intro k_ hk_
  (try simp only [and_assoc] at hk_)
  (repeat (have hc_ := hk_.1; replace hk_ := hk_.2))
  assumption) : Kd.V d e (W.setCell p u) base ok v xs := Kd.V_far h hok u
section
variable {α : Type} {d : Kd α} {e : Nat} {W w1 : World} {base : Nat} {ok ok' : Nat → Prop} {v : Value} {xs : List α}
theorem vz (h : Kd.V d e W base ok v xs) (f : Kd.V d e W base ok v xs → Kd.V d e w1 base ok v xs := by
  intro h_
  (with_reducible repeat (first | apply Kd.V_alloc | apply Kd.V_drewN | apply Kd.V_drew))
  exact h_) (m : ∀ k, ok k → ok' k := by
  first
  | (intro k_ hk_; exact hk_)
  | (intro k_ hk_
     (try simp only [and_assoc] at hk_)
     (repeat (have hc_ := hk_.1; replace hk_ := hk_.2))
     (repeat' apply And.intro) <;> assumption)) : Kd.V d e w1 base ok' v xs := Kd.V_mono (f h) m
theorem vr {A : Option Addr} {n c : Nat} (h : Kd.V d e W base ok (.slice A n c) xs) (f : Kd.V d e W base ok (.slice A n c) xs → Kd.V d e w1 base ok (.slice A n c) xs := by
  intro h_
  (iterate 16 (try (first | exact h_ | (with_reducible first | apply Kd.V_alloc | apply Kd.V_drewN | apply Kd.V_drew) | refine farA ?_)))) : d.C w1 A xs.length xs := (Kd.V_reads' (f h)).2.2
theorem vy (ok' : Nat → Prop) (h : Kd.V d e W base ok v xs) (m : ∀ k, ok k → ok' k := by
  first
  | (intro k_ hk_; exact hk_)
  | (intro k_ hk_
     (try simp only [and_assoc] at hk_)
     (repeat (have hc_ := hk_.1; replace hk_ := hk_.2))
     (repeat' apply And.intro) <;> assumption)) : Kd.V d e W base ok' v xs := Kd.V_mono h m
theorem vf (h : Kd.V d e W base ok v xs) (f : Kd.V d e W base ok v xs → Kd.V d e w1 base ok v xs := by
  intro h_
  (iterate 16 (try (first | exact h_ | (with_reducible first | apply Kd.V_alloc | apply Kd.V_drewN | apply Kd.V_drew) | refine farA ?_)))) (m : ∀ k, ok k → ok' k := by
  first
  | (intro k_ hk_; exact hk_)
  | (intro k_ hk_
     (try simp only [and_assoc] at hk_)
     (repeat (have hc_ := hk_.1; replace hk_ := hk_.2))
     (repeat' apply And.intro) <;> assumption)) : Kd.V d e w1 base ok' v xs := Kd.V_mono (f h) m
end
theorem kf {p q p1 : Prop} (g : p1) (h : p) (f : p1 → p → q := by
  intro g_ h_
  (repeat (first | (with_reducible first | refine blk_drewN ?_ _ | refine blk_drew ?_ | refine blk_alloc ?_ _) | refine blk_far ?_ g_ _))
  exact h_) : q := f g h
theorem cu {p q : Prop} (h : p) (f : p → q := by
  intro h_
  repeat (first | exact h_ | (with_reducible refine Kd.C_alloc ?_ _) | (with_reducible refine Kd.C_drewN ?_ _) | (with_reducible refine Kd.C_drew ?_))) : q := f h
section
variable {W0 W w1 : World} {g : Nat} {o : Obj}
theorem kb (h : Aside0 (W0.heap[g]? = some o)) (hb : Below W.heap.size W w1) (f : W0.heap[g]? = some o → W.heap[g]? = some o := by
  intro h_; (with_reducible repeat (first | refine blk_drewN ?_ _ | refine blk_drew ?_ | refine blk_alloc ?_ _)); exact h_) : Aside0 (w1.heap[g]? = some o) := ⟨blk_below (f h.out) hb⟩
theorem nl {a : Nat} (hg : a = W.heap.size) (h : Aside0 (W0.heap[g]? = some o)) (f : W0.heap[g]? = some o → W.heap[g]? = some o := by
  intro h_; (with_reducible repeat (first | refine blk_drewN ?_ _ | refine blk_drew ?_ | refine blk_alloc ?_ _)); exact h_) : Aside0 (g ≠ a) := ⟨by rw [hg]; exact Nat.ne_of_lt (blk_lt (f h.out))⟩
theorem nr {a : Nat} (hg : a = W.heap.size) (h : Aside0 (W0.heap[g]? = some o)) (f : W0.heap[g]? = some o → W.heap[g]? = some o := by
  intro h_; (with_reducible repeat (first | refine blk_drewN ?_ _ | refine blk_drew ?_ | refine blk_alloc ?_ _)); exact h_) : Aside0 (a ≠ g) := ⟨by rw [hg]; exact Nat.ne_of_gt (blk_lt (f h.out))⟩
theorem ng {a : Nat} {w : World} (hg : a = W.heap.size) (h : Below w.heap.size w W) : Aside0 (w.heap.size ≤ a) := ⟨by rw [hg]; exact below_size h⟩
theorem fb (h : Aside0 (W0.heap[g]? = some o)) (f : W0.heap[g]? = some o → W.heap[g]? = some o := by
  intro h_; (with_reducible repeat (first | refine blk_drewN ?_ _ | refine blk_drew ?_ | refine blk_alloc ?_ _)); exact h_) : ∀ k, W.heap.size ≤ k → k ≠ g := Kd.freshB (f h.out)
theorem bc {t : TypeId} {cs : Array Value} (h : Aside0 (W.heap[g]? = some (.cells cs t (0, 0)))) (i : Nat) {x : Value} (e : cs[i]? = some x := by rfl) : W.cell? ⟨g, i, none⟩ = some x := (blk_cell h.out i).trans e
end
theorem f0 {n a : Nat} (h : a ≤ n) : ∀ k, n ≤ k → a ≤ k := fun _ hk => Nat.le_trans h hk
theorem fa {n : Nat} {A B : Nat → Prop} (h1 : ∀ k, n ≤ k → A k) (h2 : ∀ k, n ≤ k → B k) : ∀ k, n ≤ k → A k ∧ B k := fun k hk => ⟨h1 k hk, h2 k hk⟩
section
variable {α : Type} {d : Kd α} {e : Nat} {W W0 w1 : World} {base : Nat} {ok ok' : Nat → Prop} {v : Value} {xs : List α}
theorem kv (h : Aside0 (Kd.V d e W0 base ok v xs)) (hb : Below W.heap.size W w1) (f : Kd.V d e W0 base ok v xs → Kd.V d e W base ok v xs := by
  intro h_; (with_reducible repeat (first | apply Kd.V_alloc | apply Kd.V_drewN | apply Kd.V_drew)); exact h_) : Aside0 (Kd.V d e w1 base ok v xs) := ⟨Kd.V_below (f h.out) hb⟩
theorem ke {a : Nat} (h : Aside0 (Kd.V d e W0 base ok v xs)) (hg : a = W.heap.size) (hb : Below W.heap.size W w1) (f : Kd.V d e W0 base ok v xs → Kd.V d e W base ok v xs := by
  intro h_; (with_reducible repeat (first | apply Kd.V_alloc | apply Kd.V_drewN | apply Kd.V_drew)); exact h_) : Aside0 (Kd.V d e w1 base (fun k => ok k ∧ k ≠ a) v xs) := ⟨Kd.V_below (Kd.V_elderB (f h.out) a (Nat.le_of_eq hg.symm)) hb⟩
theorem ar (base' : Nat) {n : Nat} {S R : Nat → Prop} (h : Kd.V d e w1 base (fun k => S k ∨ n ≤ k) v xs) (hN : ∀ k, n ≤ k → R k) (hS : ∀ k, S k → ok' k := by
    intro k_ hk_
    (repeat' first | ((try simp only [and_assoc] at hk_); (repeat (have hc_ := hk_.1; replace hk_ := hk_.2)); ((repeat' apply And.intro) <;> assumption); done) | (refine Or.elim hk_ ?_ ?_ <;> intro hk_))) (hF : ∀ k, n ≤ k → R k → ok' k := by
    intro k_ hn_ hk_
    (repeat (have hc_ := hk_.1; replace hk_ := hk_.2))
    (repeat' apply And.intro) <;> first | assumption | (apply Or.inr; assumption)) : Aside0 (Kd.V d e w1 base' ok' v xs) :=
  ⟨Kd.V_mono h (fun k hk => hk.elim (hS k) (fun hn => hF k hn (hN k hn)))⟩
theorem ar0 (base' : Nat) {n : Nat} {R : Nat → Prop} (h : Kd.V d e w1 base (fun k => n ≤ k) v xs) (hN : ∀ k, n ≤ k → R k) (hF : ∀ k, n ≤ k → R k → ok' k := by
    intro k_ hn_ hk_
    (repeat (have hc_ := hk_.1; replace hk_ := hk_.2))
    (repeat' apply And.intro) <;> first | assumption | (apply Or.inr; assumption)) : Aside0 (Kd.V d e w1 base' ok' v xs) :=
  ⟨Kd.V_mono h (fun k hn => hF k hn (hN k hn))⟩
end
section
variable {P : Program} {md : Region.Mode} {ops : Array Oper} {Q : Exit → Act → World → Prop} {S : World → Prop} {ds : List Nat} {T : Bool × List (List Nat × List Nat)} {oi : Oper} {v : Value} {fuel : Nat} {l : Array Bool} {a a' : Act} {w : World}
theorem pq (i : Nat) (N : Option Tmp) (l' : Array Bool) (hT : Aside0 (rtab md ops = T)) (h : wpAnyLast P md ops Q S ds fuel l' a' w)
    (hi : ops[i]? = some oi := by rfl) (hN : oi.dst = N := by rfl) (hc : anyT T l.toList l'.toList i = true := by kernel_rfl) (hQ : ∀ c a w, Q (.panic c) (a.put oi.dst v) w → Q (.panic c) a w := by exact fun _ _ _ h => h)
    (hy : Yields P ops oi v a := by refine Or.inl ⟨by rfl, ?_⟩; intro w'; go_simp; with_reducible rfl)
    (ha : a.put N v = a' := by simp only [Act.put, List.setIfInBounds_toArray, List.set_cons_zero, List.set_cons_succ, i64_w, i32_w]; rfl) : wpAnyLast P md ops Q S ds (fuel + 1) l a w :=
  pure_ l' hi hN (any_of hT.out hc) hQ hy ha h
theorem tq {B : List Nat} (i : Nat) (N : Option Tmp) (l' : Array Bool) (hT : Aside0 (rtab md ops = T)) (hB : Aside0 (waitsOk T.2 B = true)) (hS : S w) (h : wpAnyLast P md ops Q S ds fuel l' a' w)
    (hi : ops[i]? = some oi := by rfl) (hN : oi.dst = N := by rfl) (hc : takeW T B ds l.toList l'.toList i = true := by kernel_rfl) (hQ : ∀ c a w, Q (.panic c) (a.put oi.dst v) w → Q (.panic c) a w := by exact fun _ _ _ h => h)
    (hy : YieldsIf P ops S oi v a := by refine Or.inl ⟨by rfl, ?_⟩; intro w' hs_; (repeat (have hc_ := hs_.1; replace hs_ := hs_.2)); go_simp; with_reducible rfl)
    (ha : a.put N v = a' := by simp only [Act.put, List.setIfInBounds_toArray, List.set_cons_zero, List.set_cons_succ, i64_w, i32_w]; rfl) : wpAnyLast P md ops Q S ds (fuel + 1) l a w :=
  take_ l' hi hN (take_ofW hT.out hB.out hc) hQ hy hS ha h
theorem nq (n : Nat) {a0 : Act} {v0 : Value} (h : wpAnyLast P md ops Q S ds fuel l a' w) (ha : a0.put (some n) v0 = a' := by simp only [Act.put, List.setIfInBounds_toArray, List.set_cons_zero, List.set_cons_succ, i64_w, i32_w]; rfl) : wpAnyLast P md ops Q S ds fuel l (a0.put (some n) v0) w := norm_ ha h
end
end Go.Proofs.Ytecfdemglbfnoaa.PT
end
section
namespace Go.Proofs.Ytecfdemglbfnoaa.PT
open Go.RowKit Go.Proofs.YtecfdemglbfnoaaW.PrintWords Go.Proofs.YtecfdemglbfnoaaW.PrintLast Go.Proofs.YtecfdemglbfnoaaW.PrintMore
theorem farN {α : Type} {d : Kd α} {e : Nat} {W : World} {base : Nat} {ok : Nat → Prop} {v : Value} {xs : List α} {p : Addr} {u : Value} (h : Kd.N d e W base ok v xs) (hok : ∀ k, ok k → k ≠ p.block := by
  intro k_ hk_
  (try simp only [and_assoc] at hk_)
  (repeat (have hc_ := hk_.1; replace hk_ := hk_.2))
  assumption) : Kd.N d e (W.setCell p u) base ok v xs := Kd.N_far h hok u
section
variable {α : Type} {d : Kd α} {e : Nat} {W0 W w1 : World} {base : Nat} {ok : Nat → Prop} {v : Value} {xs : List α}
theorem fo (h : Aside0 (Kd.N d e W0 base ok v xs)) (f : Kd.N d e W0 base ok v xs → Kd.N d e W base ok v xs := by
  intro h_
  (iterate 16 (try (first | exact h_ | (with_reducible first | apply Kd.N_alloc | apply Kd.N_drewN | apply Kd.N_drew) | refine farN ?_)))) : ∀ k, W.heap.size ≤ k → some k ≠ v.ownBlock := Kd.fresh' (Kd.N_lt (f h.out))
theorem kx (h : Aside0 (Kd.V d e W0 base ok v xs)) (hb : Below W.heap.size W w1) (f : Kd.V d e W0 base ok v xs → Kd.V d e W base ok v xs := by
  intro h_
  (iterate 16 (try (first | exact h_ | (with_reducible first | apply Kd.V_alloc | apply Kd.V_drewN | apply Kd.V_drew) | refine farA ?_)))) : Aside0 (Kd.V d e w1 base ok v xs) := ⟨Kd.V_below (f h.out) hb⟩
theorem kn (h : Aside0 (Kd.N d e W0 base ok v xs)) (hb : Below W.heap.size W w1) (f : Kd.N d e W0 base ok v xs → Kd.N d e W base ok v xs := by
  intro h_
  (iterate 16 (try (first | exact h_ | (with_reducible first | apply Kd.N_alloc | apply Kd.N_drewN | apply Kd.N_drew) | refine farN ?_)))) : Aside0 (Kd.N d e w1 base ok v xs) := ⟨Kd.N_below (f h.out) hb⟩
theorem fs {g : Nat} {o : Obj} (h : Aside0 (W0.heap[g]? = some o)) (f : g < W0.heap.size → g < W.heap.size := by
  intro h_
  first | exact h_ | (simp; exact h_) | (simp; omega)) : ∀ k, W.heap.size ≤ k → k ≠ g := fun k hk e => by have := f (blk_lt h.out); omega
end
end Go.Proofs.Ytecfdemglbfnoaa.PT
end
section
namespace Go.Proofs.Ytecfdemglbfnoaa.PT
open Go.RowKit Go.Proofs.YtecfdemglbfnoaaW.PrintWords Go.Proofs.YtecfdemglbfnoaaW.PrintLast Go.Proofs.YtecfdemglbfnoaaW.PrintMore
theorem am {p : Prop} (h : p) : Aside0 p := ⟨h⟩
theorem bs {α β : Type} {x : Option α} {f : α → Option β} {b : β} (h : x.bind f = some b) : ∃ a, Aside0 (x = some a) ∧ f a = some b := by
  obtain ⟨a, h1, h2⟩ := Option.bind_eq_some_iff.mp h
  exact ⟨a, ⟨h1⟩, h2⟩
theorem el {α β : Type} {d : Kd α} {d' : Kd β} {e e' : Nat} {W0 W w1 w2 : World} {base : Nat} {ok ok' : Nat → Prop} {v u : Value} {xs : List α} {ys : List β} (h : Aside0 (Kd.V d e W0 base ok v xs)) (ho : Kd.N d' e' w2 W.heap.size ok' u ys) (hb : Below W.heap.size W w1) (f : Kd.V d e W0 base ok v xs → Kd.V d e W base ok v xs := by
  intro h_; (with_reducible repeat (first | apply Kd.V_alloc | apply Kd.V_drewN | apply Kd.V_drew)); exact h_) : Aside0 (Kd.V d e w1 base (fun k => ok k ∧ some k ≠ u.ownBlock) v xs) := ⟨Kd.V_elder' (f h.out) (Kd.N_base ho) hb⟩
theorem en {α β : Type} {d : Kd α} {d' : Kd β} {e e' : Nat} {W0 W w1 w2 : World} {base : Nat} {ok ok' : Nat → Prop} {v u : Value} {xs : List α} {ys : List β} (h : Aside0 (Kd.N d e W0 base ok v xs)) (ho : Kd.N d' e' w2 W.heap.size ok' u ys) (hb : Below W.heap.size W w1) (f : Kd.N d e W0 base ok v xs → Kd.N d e W base ok v xs := by
  intro h_; (with_reducible repeat (first | apply Kd.N_alloc | apply Kd.N_drewN | apply Kd.N_drew)); exact h_) : Aside0 (Kd.N d e w1 base (fun k => ok k ∧ some k ≠ u.ownBlock) v xs) := ⟨Kd.N_elder' (f h.out) (Kd.N_base ho) hb⟩
theorem kp {p q : Prop} (h : p) (f : p → q := by
  intro h_; (with_reducible repeat (first | refine blk_drewN ?_ _ | refine blk_drew ?_ | refine blk_alloc ?_ _)); exact blk_put (blk_put (blk_put h_ 0 _ rfl) 1 _ rfl) 2 _ rfl) : q := f h
theorem be {w W0 W w1 : World} (h : Aside0 (Below w.heap.size w W0)) (hb : Below W.heap.size W w1) (f : Below w.heap.size w W0 → Below w.heap.size w W := by intro h_; repeat (first | (with_reducible first | exact h_ | apply below_alloc | apply pw_below_drewN | apply below_drew1) | exact h_)) : Aside0 (Below w.heap.size w w1) := ⟨below_step (f h.out) hb⟩
theorem fz {w W0 W : World} (h : Aside0 (Below w.heap.size w W0)) (f : Below w.heap.size w W0 → Below w.heap.size w W := by intro h_; repeat (first | (with_reducible first | exact h_ | apply below_alloc | apply pw_below_drewN | apply below_drew1) | exact h_)) : ∀ k, W.heap.size ≤ k → w.heap.size ≤ k := f0 (below_size (f h.out))
theorem be1 {w W0 W w1 : World} {p1 : Prop} (h : Aside0 (Below w.heap.size w W0)) (g1 : Aside0 p1) (hb : Below W.heap.size W w1) (f : Below w.heap.size w W0 → p1 → Below w.heap.size w W := by intro h_ g1_; repeat (first | (with_reducible first | exact h_ | apply below_alloc | apply pw_below_drewN | apply below_drew1 | refine below_set ?_ g1_) | exact h_)) : Aside0 (Below w.heap.size w w1) := ⟨below_step (f h.out g1.out) hb⟩
theorem fz1 {w W0 W : World} {p1 : Prop} (h : Aside0 (Below w.heap.size w W0)) (g1 : Aside0 p1) (f : Below w.heap.size w W0 → p1 → Below w.heap.size w W := by intro h_ g1_; repeat (first | (with_reducible first | exact h_ | apply below_alloc | apply pw_below_drewN | apply below_drew1 | refine below_set ?_ g1_) | exact h_)) : ∀ k, W.heap.size ≤ k → w.heap.size ≤ k := f0 (below_size (f h.out g1.out))
theorem be2 {w W0 W w1 : World} {p1 p2 : Prop} (h : Aside0 (Below w.heap.size w W0)) (g1 : Aside0 p1) (g2 : Aside0 p2) (hb : Below W.heap.size W w1) (f : Below w.heap.size w W0 → p1 → p2 → Below w.heap.size w W := by intro h_ g1_ g2_; repeat (first | (with_reducible first | exact h_ | apply below_alloc | apply pw_below_drewN | apply below_drew1 | refine below_set ?_ g1_ | refine below_set ?_ g2_) | exact h_)) : Aside0 (Below w.heap.size w w1) := ⟨below_step (f h.out g1.out g2.out) hb⟩
theorem fz2 {w W0 W : World} {p1 p2 : Prop} (h : Aside0 (Below w.heap.size w W0)) (g1 : Aside0 p1) (g2 : Aside0 p2) (f : Below w.heap.size w W0 → p1 → p2 → Below w.heap.size w W := by intro h_ g1_ g2_; repeat (first | (with_reducible first | exact h_ | apply below_alloc | apply pw_below_drewN | apply below_drew1 | refine below_set ?_ g1_ | refine below_set ?_ g2_) | exact h_)) : ∀ k, W.heap.size ≤ k → w.heap.size ≤ k := f0 (below_size (f h.out g1.out g2.out))
theorem be3 {w W0 W w1 : World} {p1 p2 p3 : Prop} (h : Aside0 (Below w.heap.size w W0)) (g1 : Aside0 p1) (g2 : Aside0 p2) (g3 : Aside0 p3) (hb : Below W.heap.size W w1) (f : Below w.heap.size w W0 → p1 → p2 → p3 → Below w.heap.size w W := by intro h_ g1_ g2_ g3_; repeat (first | (with_reducible first | exact h_ | apply below_alloc | apply pw_below_drewN | apply below_drew1 | refine below_set ?_ g1_ | refine below_set ?_ g2_ | refine below_set ?_ g3_) | exact h_)) : Aside0 (Below w.heap.size w w1) := ⟨below_step (f h.out g1.out g2.out g3.out) hb⟩
theorem fz3 {w W0 W : World} {p1 p2 p3 : Prop} (h : Aside0 (Below w.heap.size w W0)) (g1 : Aside0 p1) (g2 : Aside0 p2) (g3 : Aside0 p3) (f : Below w.heap.size w W0 → p1 → p2 → p3 → Below w.heap.size w W := by intro h_ g1_ g2_ g3_; repeat (first | (with_reducible first | exact h_ | apply below_alloc | apply pw_below_drewN | apply below_drew1 | refine below_set ?_ g1_ | refine below_set ?_ g2_ | refine below_set ?_ g3_) | exact h_)) : ∀ k, W.heap.size ≤ k → w.heap.size ≤ k := f0 (below_size (f h.out g1.out g2.out g3.out))
theorem bx {W : World} {g : Nat} {t : TypeId} {a b c : Value} (h : Aside0 (W.heap[g]? = some (.cells #[a, b, c] t (0, 0)))) :
    W.cell? ⟨g, 0, none⟩ = some a ∧ W.cell? ⟨g, 1, none⟩ = some b ∧ W.cell? ⟨g, 2, none⟩ = some c := ⟨bc h 0, bc h 1, bc h 2⟩
theorem bz {W : World} {g : Nat} {t : TypeId} {a b c : Value} (h : Aside0 (W.heap[g]? = some (.cells #[a, b, c] t (0, 0)))) :
    W.cell? ⟨g, 0, none⟩ = some a ∧ W.cell? ⟨g, 1, none⟩ = some b ∧ W.cell? ⟨g, 2, none⟩ = some c ∧ W.frozen? ⟨g, 0, none⟩ = false ∧ W.frozen? ⟨g, 1, none⟩ = false ∧ W.frozen? ⟨g, 2, none⟩ = false :=
  ⟨bc h 0, bc h 1, bc h 2, blk_frozen h.out 0, blk_frozen h.out 1, blk_frozen h.out 2⟩
end Go.Proofs.Ytecfdemglbfnoaa.PT
end
section
namespace Go.Proofs.Ytecfdemglbfnoaa.PT
open Go.RowKit Go.Proofs.YtecfdemglbfnoaaW.PrintWords Go.Proofs.YtecfdemglbfnoaaW.PrintLast Go.Proofs.YtecfdemglbfnoaaW.PrintMore
attribute [local go_sem] max2_int min2_int max_two min_two max_three min_three max_four min_four
set_option linter.unusedVariables false
set_option linter.unusedSimpArgs false
set_option maxHeartbeats 8000000
set_option maxRecDepth 100000
def errW : Option Int → Value
 | none => .nilIface
 | some c => .iface 0 (.int .i64 c)
theorem errW_none : errW none = .nilIface := rfl
theorem errW_some (c : Int) : errW (some c) = .iface 0 (.int .i64 c) := rfl
theorem info48 : (Try.prog.info? 48).map (fun i => (i.zero, i.size, i.bytes)) = some (some (.int .u32 0), 1, 4) := by kernel_rfl
structure S124 where
 f0 : Int
 f1 : Int
 f2 : Int
def rd_L4 (xs : List (List Int)) (i : Int) : (List Int) := xs.getD i.toNat ([] : List Int)
theorem at_L4 {w : World} {A : Option Addr} {n : Nat} {xs : List (List Int)} (h : Kd.C (Kd.slice 48 (Kd.int .u32)) w A n xs) (i : Int) (h0 : 0 ≤ i) (h1 : i < n) : ∃ ad A0 c0, A = some ad ∧ w.cell? (ad.add i.toNat) = some (.slice A0 (rd_L4 xs i).length c0) ∧ (rd_L4 xs i).length ≤ c0 ∧ (Kd.int .u32).C w A0 (rd_L4 xs i).length (rd_L4 xs i) := by
 obtain ⟨ad, c, e, _, hK, hc0⟩ := Kd.C_get h ([] : List Int) i h0 h1
 have hc : ∀ j u, c[j]? = some u → w.cell? (ad.add (i.toNat * 1 + j)) = some u := hc0
 obtain ⟨A0, c0, rfl, l0, g0⟩ := hK
 exact ⟨ad, A0, c0, e, by have hq := hc 0 _ rfl; rwa [Nat.mul_one, Nat.add_zero] at hq, l0, g0⟩
structure S67 where
 f0 : Bool
 f1 : (List Int)
 f2 : (List Int)
def z67 : S67 := ⟨false, ([] : List Int), ([] : List Int)⟩
def k67 : Kd S67 := Kd.iso (Kd.pair Kd.bool (Kd.pair (Kd.slice 48 (Kd.int .u32)) (Kd.slice 48 (Kd.int .u32)))) (fun x : S67 => (x.f0, x.f1, x.f2))
theorem k67_heap : Kd.Heap k67 := Kd.heap_iso _ (Kd.heap_pair Kd.heap_bool (Kd.heap_pair (Kd.heap_slice 48 (Kd.heap_int .u32)) (Kd.heap_slice 48 (Kd.heap_int .u32))))
theorem k67_open {w : World} {x : S67} {cs : List Value} (h : k67.K w x cs) : ∃ A1 c1 A2 c2, cs = [.bool x.f0, .slice A1 x.f1.length c1, .slice A2 x.f2.length c2] ∧ x.f1.length ≤ c1 ∧ (Kd.int .u32).C w A1 x.f1.length x.f1 ∧ x.f2.length ≤ c2 ∧ (Kd.int .u32).C w A2 x.f2.length x.f2 := by
 obtain ⟨_, _, rfl, rfl, ⟨_, _, rfl, ⟨A1, c1, rfl, l1, g1⟩, ⟨A2, c2, rfl, l2, g2⟩⟩⟩ := h
 exact ⟨A1, c1, A2, c2, rfl, l1, g1, l2, g2⟩
theorem k67_mk (w : World) (x : S67) {A1 : Option Addr} {c1 : Nat} (l1 : x.f1.length ≤ c1) (g1 : (Kd.int .u32).C w A1 x.f1.length x.f1) {A2 : Option Addr} {c2 : Nat} (l2 : x.f2.length ≤ c2) (g2 : (Kd.int .u32).C w A2 x.f2.length x.f2) : k67.K w x [.bool x.f0, .slice A1 x.f1.length c1, .slice A2 x.f2.length c2] := ⟨[.bool x.f0], [.slice A1 x.f1.length c1, .slice A2 x.f2.length c2], rfl, rfl, ⟨[.slice A1 x.f1.length c1], [.slice A2 x.f2.length c2], rfl, ⟨A1, c1, rfl, l1, g1⟩, ⟨A2, c2, rfl, l2, g2⟩⟩⟩
theorem k67_openF {W : World} {ok : Nat → Prop} {x : S67} {cs : List Value} (h : Kd.FK k67 W ok x cs) : ∃ A1 c1 A2 c2, cs = [.bool x.f0, .slice A1 x.f1.length c1, .slice A2 x.f2.length c2] ∧ x.f1.length ≤ c1 ∧ Kd.F (Kd.int .u32) W ok A1 x.f1.length x.f1 ∧ x.f2.length ≤ c2 ∧ Kd.F (Kd.int .u32) W ok A2 x.f2.length x.f2 := by
 obtain ⟨A1, c1, A2, c2, rfl, l1, _, l2, _⟩ := k67_open (Kd.FK_now h)
 exact ⟨A1, c1, A2, c2, rfl, l1, (fun W' hW => by obtain ⟨A1_, c1_, A2_, c2_, he, l1_, g1_, l2_, g2_⟩ := k67_open (h W' hW); injection (Option.some.inj (show some (Value.slice A1 x.f1.length c1) = some (Value.slice A1_ x.f1.length c1_) from congrArg (fun l => l[1]?) he)) with ha_ _ _; rw [ha_]; exact g1_), l2, (fun W' hW => by obtain ⟨A1_, c1_, A2_, c2_, he, l1_, g1_, l2_, g2_⟩ := k67_open (h W' hW); injection (Option.some.inj (show some (Value.slice A2 x.f2.length c2) = some (Value.slice A2_ x.f2.length c2_) from congrArg (fun l => l[2]?) he)) with ha_ _ _; rw [ha_]; exact g2_)⟩
theorem k67_mkF (W : World) (ok : Nat → Prop) (x : S67) {A1 : Option Addr} {c1 : Nat} (l1 : x.f1.length ≤ c1) (g1 : Kd.F (Kd.int .u32) W ok A1 x.f1.length x.f1) {A2 : Option Addr} {c2 : Nat} (l2 : x.f2.length ≤ c2) (g2 : Kd.F (Kd.int .u32) W ok A2 x.f2.length x.f2) : Kd.FK k67 W ok x [.bool x.f0, .slice A1 x.f1.length c1, .slice A2 x.f2.length c2] := fun W2 hW => k67_mk W2 x l1 (g1 W2 hW) l2 (g2 W2 hW)
def rd_T67 (xs : List S67) (i : Int) : S67 := xs.getD i.toNat z67
theorem at_T67 {w : World} {A : Option Addr} {n : Nat} {xs : List S67} (h : Kd.C k67 w A n xs) (i : Int) (h0 : 0 ≤ i) (h1 : i < n) : ∃ ad A1 c1 A2 c2, A = some ad ∧ w.cell? (ad.add (i.toNat * 3)) = some (.bool (rd_T67 xs i).f0) ∧ w.cell? ⟨(ad.add (i.toNat * 3)).block, (ad.add (i.toNat * 3)).off + 1, none⟩ = some (.slice A1 (rd_T67 xs i).f1.length c1) ∧ w.cell? ⟨(ad.add (i.toNat * 3)).block, (ad.add (i.toNat * 3)).off + 2, none⟩ = some (.slice A2 (rd_T67 xs i).f2.length c2) ∧ (rd_T67 xs i).f1.length ≤ c1 ∧ (Kd.int .u32).C w A1 (rd_T67 xs i).f1.length (rd_T67 xs i).f1 ∧ (rd_T67 xs i).f2.length ≤ c2 ∧ (Kd.int .u32).C w A2 (rd_T67 xs i).f2.length (rd_T67 xs i).f2 := by
 obtain ⟨ad, c, e, _, hK, hc0⟩ := Kd.C_get h z67 i h0 h1
 have hc : ∀ j u, c[j]? = some u → w.cell? (ad.add (i.toNat * 3 + j)) = some u := hc0
 obtain ⟨A1, c1, A2, c2, rfl, l1, g1, l2, g2⟩ := k67_open hK
 exact ⟨ad, A1, c1, A2, c2, e, hc 0 _ rfl, by rw [← add_field _ _ 1 (by omega)]; exact hc 1 _ rfl, by rw [← add_field _ _ 2 (by omega)]; exact hc 2 _ rfl, l1, g1, l2, g2⟩
structure S53 where
 f0 : Int
 f1 : (List Int)
def codewrightref02_Nil.f (a0_0 : Bool) (l0_1 : List Int) (l0_2 : List Int) : Option (Bool) := if a0_0 = true then (some false) else (if (l0_1.length : Int) = 0 then (some ((l0_2.length : Int) == 0)) else (some false))
theorem codewrightref02_Nil.calls (a0_0 : Bool) (A0_1 : Option Addr) (c0_1 : Nat) (l0_1 : List Int) (A0_2 : Option Addr) (c0_2 : Nat) (l0_2 : List Int) (r : Bool) (w : World) (hr0_1 : Kd.C (Kd.int .u32) w A0_1 l0_1.length l0_1) (hc0_1 : l0_1.length ≤ c0_1) (hr0_2 : Kd.C (Kd.int .u32) w A0_2 l0_2.length l0_2) (hc0_2 : l0_2.length ≤ c0_2) (h : codewrightref02_Nil.f a0_0 l0_1 l0_2 = some r) :
 Calls Try.prog 82 #[.agg #[.bool a0_0, .slice A0_1 l0_1.length c0_1, .slice A0_2 l0_2.length c0_2]] w fun e w' => e = .returned (.bool r) ∧ Below w.heap.size w w' := by
 have aG := Try.underlying67
 have aC := am hr0_1
 have aD := am hc0_1
 clear hr0_1 hc0_1
 have aE := am hr0_2
 have aF := am hc0_2
 clear hr0_2 hc0_2
 have HB := am (Below.refl w.heap.size w)
 have H : (if a0_0 = true then (some false) else (if (l0_1.length : Int) = 0 then (some ((l0_2.length : Int) == 0)) else (some false))) = some r := h
 clear h
 by_cases c2 : a0_0 = true
 ·
  subst c2
  have H1 : (some false) = some r := by rw [if_pos rfl] at H; exact H
  clear H
  have H := H1
  clear H1
  obtain rfl := Option.some.inj H
  go_enter Try.func82, Try.ntmps82
  go_wp2_with (first | ((with_reducible refine gate_dst (N := 1) rfl ?_); (try (refine gate_guard (by rfl) ?_; dsimp only)); refine box_event ?hg (N := 1) ?hd (cs := #[.bool true, .slice A0_1 l0_1.length c0_1, .slice A0_2 l0_2.length c0_2]) (t := 67) ?hr ?_; (case hd => rfl); (case hg => rfl); (case hr => first | (go_simp; done) | (go_simp; rfl)); intro ac hg w3 hbox hb; have aa := am (hbox); have ad := ng hg (bu HB.out); have ab := ng hg (bu HB.out); replace HB := be HB hb; clear hb hbox hg; obtain ⟨ae, af, ag, ah, ai, aj⟩ := bz aa))
  go_ret
  exact ⟨by first | rfl | (simp [errW_none, errW_some] <;> rfl) | (simp [*, errW_none, errW_some] <;> rfl), by repeat (first | (with_reducible first | exact HB.out | apply below_alloc | apply pw_below_drewN | apply below_drew1 | refine below_set ?_ ab.out) | exact HB.out)⟩
 ·
  replace c2 := Bool.eq_false_iff.mpr c2
  subst c2
  have H1 : (if (l0_1.length : Int) = 0 then (some ((l0_2.length : Int) == 0)) else (some false)) = some r := by rw [if_neg (show ¬ (false = true) by decide)] at H; exact H
  clear H
  have H := H1
  clear H1
  by_cases c5 : (l0_1.length : Int) = 0
  ·
   rw [if_pos c5] at H
   have ak : ((l0_1.length : Int) == 0) = true := beq_iff_eq.mpr c5
   have al : ((l0_1.length : Int) != 0) = false := bne_eq_false_iff_eq.mpr c5
   clear c5
   obtain rfl := Option.some.inj H
   go_enter Try.func82, Try.ntmps82
   go_wp2_with (first | ((with_reducible refine gate_dst (N := 1) rfl ?_); (try (refine gate_guard (by rfl) ?_; dsimp only)); refine box_event ?hg (N := 1) ?hd (cs := #[.bool false, .slice A0_1 l0_1.length c0_1, .slice A0_2 l0_2.length c0_2]) (t := 67) ?hr ?_; (case hd => rfl); (case hg => rfl); (case hr => first | (go_simp; done) | (go_simp; rfl)); intro ac hg w6 hbox hb; have aa := am (hbox); have ad := ng hg (bu HB.out); have ab := ng hg (bu HB.out); replace HB := be HB hb; clear hb hbox hg; obtain ⟨an, ao, ap, aq, au, av⟩ := bz aa))
   go_ret
   exact ⟨by first | rfl | (simp [errW_none, errW_some] <;> rfl) | (simp [*, errW_none, errW_some] <;> rfl), by repeat (first | (with_reducible first | exact HB.out | apply below_alloc | apply pw_below_drewN | apply below_drew1 | refine below_set ?_ ab.out) | exact HB.out)⟩
  ·
   rw [if_neg c5] at H
   have ak : ((l0_1.length : Int) == 0) = false := beq_eq_false_iff_ne.mpr c5
   have al : ((l0_1.length : Int) != 0) = true := bne_iff_ne.mpr c5
   have aH : ¬ (l0_1 = []) := fun h_ => c5 (by rw [h_]; rfl)
   obtain rfl := Option.some.inj H
   go_enter Try.func82, Try.ntmps82
   go_wp2_with (first | ((with_reducible refine gate_dst (N := 1) rfl ?_); (try (refine gate_guard (by rfl) ?_; dsimp only)); refine box_event ?hg (N := 1) ?hd (cs := #[.bool false, .slice A0_1 l0_1.length c0_1, .slice A0_2 l0_2.length c0_2]) (t := 67) ?hr ?_; (case hd => rfl); (case hg => rfl); (case hr => first | (go_simp; done) | (go_simp; rfl)); intro ac hg w8 hbox hb; have aa := am (hbox); have ad := ng hg (bu HB.out); have ab := ng hg (bu HB.out); replace HB := be HB hb; clear hb hbox hg; obtain ⟨aw, ax, ay, az, aA, aB⟩ := bz aa))
   go_ret
   exact ⟨by first | rfl | (simp [errW_none, errW_some] <;> rfl) | (simp [*, errW_none, errW_some] <;> rfl), by repeat (first | (with_reducible first | exact HB.out | apply below_alloc | apply pw_below_drewN | apply below_drew1 | refine below_set ?_ ab.out) | exact HB.out)⟩
def codewrightref01_Same.l0 : Nat → List Int → List Int → Int → Option (Bool)
 | 0, _, _, _ => none
 | k + 1, x0, x1, x5 => if x5 < (x0.length : Int) then (if 0 ≤ x5 then (if x5 < (x1.length : Int) then (if (rd x0 x5) = (rd x1 x5) then (codewrightref01_Same.l0 k x0 x1 (wrap64 (x5 + 1))) else (some false)) else (none)) else (none)) else (some true)
def codewrightref01_Same.f (k : Nat) (l0 : List Int) (l1 : List Int) : Option (Bool) := if (l0.length : Int) = (l1.length : Int) then (codewrightref01_Same.l0 k l0 l1 0) else (some false)
theorem codewrightref01_Same.calls (k : Nat) (A0 : Option Addr) (c0 : Nat) (l0 : List Int) (A1 : Option Addr) (c1 : Nat) (l1 : List Int) (r : Bool) (w : World) (hr0 : Kd.C (Kd.int .u32) w A0 l0.length l0) (hc0 : l0.length ≤ c0) (hr1 : Kd.C (Kd.int .u32) w A1 l1.length l1) (hc1 : l1.length ≤ c1) (h : codewrightref01_Same.f k l0 l1 = some r) :
 Calls Try.prog 51 #[.slice A0 l0.length c0, .slice A1 l1.length c1] w fun e w' => e = .returned (.bool r) ∧ Drawn0 w w' := by
 have aj := am hr0
 have ao := am hc0
 clear hr0 hc0
 have ak := am hr1
 have ap := am hc1
 clear hr1 hc1
 have H : (if (l0.length : Int) = (l1.length : Int) then (codewrightref01_Same.l0 k l0 l1 0) else (some false)) = some r := h
 clear h
 by_cases c3 : (l0.length : Int) = (l1.length : Int)
 ·
  rw [if_pos c3] at H
  have ad : ((l0.length : Int) == (l1.length : Int)) = true := beq_iff_eq.mpr c3
  have ae : ((l0.length : Int) != (l1.length : Int)) = false := bne_eq_false_iff_eq.mpr c3
  have af : (l0.length == l1.length) = true := by first | simpa using c3 | (simp at c3 ⊢; omega)
  clear c3
  have H' := am H
  clear H
  go_enter Try.func51, Try.ntmps51
  go_wp2
  repeat (go_quiet (fail); try go_wp2)
  go_loopg [5] k (fun kq v5 w' => ∃ (aa : Int), v5 = .int .i64 aa ∧ Aside0 (codewrightref01_Same.l0 kq l0 l1 aa = some r) ∧ Aside0 (kq ≤ k) ∧ Drawn0 w w')
  case atStart => exact ⟨(0), (by first | rfl | (simp; done) | (simp [*]; done)), H', ⟨Nat.le_refl _⟩, by repeat (first | exact Drawn0.refl _ | apply Drawn0.step)⟩
  case round =>
   clear H'
   try clear c1
   try clear p2
   try clear c3
   try clear ad
   try clear ae
   try clear af
   obtain ⟨aa, rfl, HA, HK1, ⟨m1, rfl⟩⟩ := hrel
   cases gk with
   | zero => exact absurd HA.out (by simp [codewrightref01_Same.l0])
   | succ k1 =>
    have H := HA.out
    clear HA
    simp only [codewrightref01_Same.l0] at H
    by_cases c4 : aa < (l0.length : Int)
    ·
     rw [if_pos c4] at H
     have ag : decide (aa < (l0.length : Int)) = true := decide_eq_true c4
     clear c4
     by_cases c5 : 0 ≤ aa
     ·
      rw [if_pos c5] at H
      have al : decide (0 ≤ aa) = true := decide_eq_true c5
      clear c5
      by_cases c6 : aa < (l1.length : Int)
      ·
       rw [if_pos c6] at H
       have an : decide (aa < (l1.length : Int)) = true := decide_eq_true c6
       clear c6
       by_cases c7 : (rd l0 aa) = (rd l1 aa)
       ·
        rw [if_pos c7] at H
        have ah : ((rd l0 aa) == (rd l1 aa)) = true := beq_iff_eq.mpr c7
        have ai : ((rd l0 aa) != (rd l1 aa)) = false := bne_eq_false_iff_eq.mpr c7
        clear c7
        have H' := am H
        clear H
        have p250 : 0 ≤ (aa : Int) := of_decide_eq_true (by first | (with_reducible assumption) | assumption)
        have q250 : aa < (l0.length : Int) := of_decide_eq_true (by first | (with_reducible assumption) | assumption)
        obtain ⟨ad250, e250, ab⟩ := Kd.at_int aj.out aa p250 q250
        cases e250
        replace p250 := eq_true p250
        replace q250 := eq_true q250
        have p251 : 0 ≤ (aa : Int) := of_decide_eq_true (by first | (with_reducible assumption) | assumption)
        have q251 : aa < (l1.length : Int) := of_decide_eq_true (by first | (with_reducible assumption) | assumption)
        obtain ⟨ad251, e251, ac⟩ := Kd.at_int ak.out aa p251 q251
        cases e251
        replace p251 := eq_true p251
        replace q251 := eq_true q251
        go_wp2
        repeat (go_quiet (fail); try go_wp2)
        go_roundg k1
        case measure => have := HK1.out; omega
        case rel => exact ⟨(wrap64 (aa + 1)), (by first | rfl | (simp; done) | (simp [*]; done)), H', ⟨by have := HK1.out; omega⟩, by repeat (first | exact Drawn0.refl _ | apply Drawn0.step)⟩
       ·
        rw [if_neg c7] at H
        have ah : ((rd l0 aa) == (rd l1 aa)) = false := beq_eq_false_iff_ne.mpr c7
        have ai : ((rd l0 aa) != (rd l1 aa)) = true := bne_iff_ne.mpr c7
        obtain rfl := Option.some.inj H
        have p250 : 0 ≤ (aa : Int) := of_decide_eq_true (by first | (with_reducible assumption) | assumption)
        have q250 : aa < (l0.length : Int) := of_decide_eq_true (by first | (with_reducible assumption) | assumption)
        obtain ⟨ad250, e250, ab⟩ := Kd.at_int aj.out aa p250 q250
        cases e250
        replace p250 := eq_true p250
        replace q250 := eq_true q250
        have p251 : 0 ≤ (aa : Int) := of_decide_eq_true (by first | (with_reducible assumption) | assumption)
        have q251 : aa < (l1.length : Int) := of_decide_eq_true (by first | (with_reducible assumption) | assumption)
        obtain ⟨ad251, e251, ac⟩ := Kd.at_int ak.out aa p251 q251
        cases e251
        replace p251 := eq_true p251
        replace q251 := eq_true q251
        go_wp2
        repeat (go_quiet (fail); try go_wp2)
        go_ret
        exact ⟨by first | rfl | (simp; done) | (simp [*]; done), by repeat (first | exact Drawn0.refl _ | apply Drawn0.step)⟩
      ·
       rw [if_neg c6] at H
       exact absurd H (by simp)
     ·
      rw [if_neg c5] at H
      exact absurd H (by simp)
    ·
     rw [if_neg c4] at H
     have ag : decide (aa < (l0.length : Int)) = false := decide_eq_false c4
     clear c4
     obtain rfl := Option.some.inj H
     go_wp2
     repeat (go_quiet (fail); try go_wp2)
     go_ret
     exact ⟨by first | rfl | (simp; done) | (simp [*]; done), by repeat (first | exact Drawn0.refl _ | apply Drawn0.step)⟩
 ·
  rw [if_neg c3] at H
  have ad : ((l0.length : Int) == (l1.length : Int)) = false := beq_eq_false_iff_ne.mpr c3
  have ae : ((l0.length : Int) != (l1.length : Int)) = true := bne_iff_ne.mpr c3
  have af : (l0.length == l1.length) = false := by first | simpa using c3 | (simp at c3 ⊢; omega)
  obtain rfl := Option.some.inj H
  go_enter Try.func51, Try.ntmps51
  go_wp2
  repeat (go_quiet (fail); try go_wp2)
  go_ret
  exact ⟨by first | rfl | (simp; done) | (simp [*]; done), by repeat (first | exact Drawn0.refl _ | apply Drawn0.step)⟩
def codewrightref02_Same.f (k : Nat) (a0_0 : Bool) (l0_1 : List Int) (l0_2 : List Int) (a1_0 : Bool) (l1_1 : List Int) (l1_2 : List Int) : Option (Bool) := if (a0_0 == a1_0) = true then ((codewrightref01_Same.f k l0_1 l1_1).bind fun t1147 => (if t1147 = true then ((codewrightref01_Same.f k l0_2 l1_2).bind fun t1148 => (some t1148)) else (some false))) else (some false)
theorem codewrightref02_Same.calls (k : Nat) (a0_0 : Bool) (A0_1 : Option Addr) (c0_1 : Nat) (l0_1 : List Int) (A0_2 : Option Addr) (c0_2 : Nat) (l0_2 : List Int) (a1_0 : Bool) (A1_1 : Option Addr) (c1_1 : Nat) (l1_1 : List Int) (A1_2 : Option Addr) (c1_2 : Nat) (l1_2 : List Int) (r : Bool) (w : World) (hr0_1 : Kd.C (Kd.int .u32) w A0_1 l0_1.length l0_1) (hc0_1 : l0_1.length ≤ c0_1) (hr0_2 : Kd.C (Kd.int .u32) w A0_2 l0_2.length l0_2) (hc0_2 : l0_2.length ≤ c0_2) (hr1_1 : Kd.C (Kd.int .u32) w A1_1 l1_1.length l1_1) (hc1_1 : l1_1.length ≤ c1_1) (hr1_2 : Kd.C (Kd.int .u32) w A1_2 l1_2.length l1_2) (hc1_2 : l1_2.length ≤ c1_2) (h : codewrightref02_Same.f k a0_0 l0_1 l0_2 a1_0 l1_1 l1_2 = some r) :
 Calls Try.prog 110 #[.agg #[.bool a0_0, .slice A0_1 l0_1.length c0_1, .slice A0_2 l0_2.length c0_2], .agg #[.bool a1_0, .slice A1_1 l1_1.length c1_1, .slice A1_2 l1_2.length c1_2]] w fun e w' => e = .returned (.bool r) ∧ Below w.heap.size w w' := by
 have bh := Try.underlying67
 have ap := am hr0_1
 have ah := am hc0_1
 clear hr0_1 hc0_1
 have aw := am hr0_2
 have aq := am hc0_2
 clear hr0_2 hc0_2
 have au := am hr1_1
 have ai := am hc1_1
 clear hr1_1 hc1_1
 have ax := am hr1_2
 have av := am hc1_2
 clear hr1_2 hc1_2
 have HB := am (Below.refl w.heap.size w)
 have H : (if (a0_0 == a1_0) = true then ((codewrightref01_Same.f k l0_1 l1_1).bind fun aj => (if aj = true then ((codewrightref01_Same.f k l0_2 l1_2).bind fun ag => (some ag)) else (some false))) else (some false)) = some r := h
 clear h
 by_cases c3 : (a0_0 == a1_0) = true
 ·
  rw [if_pos c3] at H
  have a8 : (a0_0 == a1_0) = true := c3
  (try (have a9 : decide (a0_0 = a1_0) = true := by simpa using c3))
  (try (have ba : (a0_0 == a1_0) = true := by simpa using c3))
  clear c3
  obtain ⟨aj, A4, H⟩ := bs H
  (try dsimp -simprocs only at H)
  by_cases c5 : aj = true
  ·
   subst c5
   have H1 : ((codewrightref01_Same.f k l0_2 l1_2).bind fun ag => (some ag)) = some r := by rw [if_pos rfl] at H; exact H
   clear H
   have H := H1
   clear H1
   obtain ⟨ag, A6, H⟩ := bs H
   replace H : (some ag) = some r := H
   obtain rfl := Option.some.inj H
   go_enter Try.func110, Try.ntmps110
   go_wp2_with (first | ((with_reducible refine gate_dst (N := 2) rfl ?_); refine box_event ?hg (N := 2) ?hd (cs := #[.bool a0_0, .slice A0_1 l0_1.length c0_1, .slice A0_2 l0_2.length c0_2]) (t := 67) ?hr ?_; (case hd => rfl); (case hg => rfl); (case hr => first | (go_simp; done) | (go_simp; rfl)); intro ak hg w7 hbox hb; have aa := am (hbox); have al := ng hg (bu HB.out); have ab := ng hg (bu HB.out); replace HB := be HB hb; clear hb hbox hg) | ((with_reducible refine gate_dst (N := 3) rfl ?_); refine box_event ?hg (N := 3) ?hd (cs := #[.bool a1_0, .slice A1_1 l1_1.length c1_1, .slice A1_2 l1_2.length c1_2]) (t := 67) ?hr ?_; (case hd => rfl); (case hg => rfl); (case hr => first | (go_simp; done) | (go_simp; rfl)); intro an hg w8 hbox hb; have af := am (hbox); have ao := ng hg (bu1 HB.out ab.out); have ae := ng hg (bu1 HB.out ab.out); replace HB := be1 HB ab hb; have ac := nl hg aa; have ad := nr hg aa; replace aa := kb aa hb; clear hb hbox hg; have bi := ac.out; have bj := ad.out; obtain ⟨ay, az, aA, aB, aC, aD⟩ := bz aa; obtain ⟨aE, aF, aG, aH, aI, aJ⟩ := bz af) | (go_at_call 51; (with_reducible refine (codewrightref01_Same.calls k _ _ l0_1 _ _ l1_1 true _ ?side1 ?side2 ?side3 ?side4 A4.out).mono ?_); (case side1 => repeat (first | exact (Kd.C_below ap.out HB.out) | (with_reducible refine Kd.C_alloc ?_ _) | (with_reducible refine Kd.C_drewN ?_ _) | (with_reducible refine Kd.C_drew ?_))); (case side2 => first | exact ah.out | exact vz ah.out); (case side3 => repeat (first | exact (Kd.C_below au.out HB.out) | (with_reducible refine Kd.C_alloc ?_ _) | (with_reducible refine Kd.C_drewN ?_ _) | (with_reducible refine Kd.C_drew ?_))); (case side4 => first | exact ai.out | exact vz ai.out); rintro e w' ⟨rfl, ⟨nd, rfl⟩⟩) | (go_at_call 51; (with_reducible refine (codewrightref01_Same.calls k _ _ l0_2 _ _ l1_2 ag _ ?side1 ?side2 ?side3 ?side4 A6.out).mono ?_); (case side1 => repeat (first | exact (Kd.C_below aw.out (bu2 HB.out ab.out ae.out)) | (with_reducible refine Kd.C_alloc ?_ _) | (with_reducible refine Kd.C_drewN ?_ _) | (with_reducible refine Kd.C_drew ?_))); (case side2 => first | exact aq.out | exact vz aq.out); (case side3 => repeat (first | exact (Kd.C_below ax.out (bu2 HB.out ab.out ae.out)) | (with_reducible refine Kd.C_alloc ?_ _) | (with_reducible refine Kd.C_drewN ?_ _) | (with_reducible refine Kd.C_drew ?_))); (case side4 => first | exact av.out | exact vz av.out); rintro e w' ⟨rfl, ⟨nd, rfl⟩⟩))
   go_ret
   exact ⟨by first | rfl | (simp [errW_none, errW_some] <;> rfl) | (simp [*, errW_none, errW_some] <;> rfl), by repeat (first | (with_reducible first | exact HB.out | apply below_alloc | apply pw_below_drewN | apply below_drew1 | refine below_set ?_ ab.out | refine below_set ?_ ae.out) | exact HB.out)⟩
  ·
   replace c5 := Bool.eq_false_iff.mpr c5
   subst c5
   have H1 : (some false) = some r := by rw [if_neg (show ¬ (false = true) by decide)] at H; exact H
   clear H
   have H := H1
   clear H1
   obtain rfl := Option.some.inj H
   go_enter Try.func110, Try.ntmps110
   go_wp2_with (first | ((with_reducible refine gate_dst (N := 2) rfl ?_); refine box_event ?hg (N := 2) ?hd (cs := #[.bool a0_0, .slice A0_1 l0_1.length c0_1, .slice A0_2 l0_2.length c0_2]) (t := 67) ?hr ?_; (case hd => rfl); (case hg => rfl); (case hr => first | (go_simp; done) | (go_simp; rfl)); intro ak hg bl hbox hb; have aa := am (hbox); have al := ng hg (bu HB.out); have ab := ng hg (bu HB.out); replace HB := be HB hb; clear hb hbox hg) | ((with_reducible refine gate_dst (N := 3) rfl ?_); refine box_event ?hg (N := 3) ?hd (cs := #[.bool a1_0, .slice A1_1 l1_1.length c1_1, .slice A1_2 l1_2.length c1_2]) (t := 67) ?hr ?_; (case hd => rfl); (case hg => rfl); (case hr => first | (go_simp; done) | (go_simp; rfl)); intro an hg bm hbox hb; have af := am (hbox); have ao := ng hg (bu1 HB.out ab.out); have ae := ng hg (bu1 HB.out ab.out); replace HB := be1 HB ab hb; have ac := nl hg aa; have ad := nr hg aa; replace aa := kb aa hb; clear hb hbox hg; have bb := ac.out; have bd := ad.out; obtain ⟨aK, aL, aM, aN, aO, aP⟩ := bz aa; obtain ⟨aQ, aR, aS, aT, aU, aV⟩ := bz af) | (go_at_call 51; (with_reducible refine (codewrightref01_Same.calls k _ _ l0_1 _ _ l1_1 false _ ?side1 ?side2 ?side3 ?side4 A4.out).mono ?_); (case side1 => repeat (first | exact (Kd.C_below ap.out HB.out) | (with_reducible refine Kd.C_alloc ?_ _) | (with_reducible refine Kd.C_drewN ?_ _) | (with_reducible refine Kd.C_drew ?_))); (case side2 => first | exact ah.out | exact vz ah.out); (case side3 => repeat (first | exact (Kd.C_below au.out HB.out) | (with_reducible refine Kd.C_alloc ?_ _) | (with_reducible refine Kd.C_drewN ?_ _) | (with_reducible refine Kd.C_drew ?_))); (case side4 => first | exact ai.out | exact vz ai.out); rintro e w' ⟨rfl, ⟨nd, rfl⟩⟩))
   go_ret
   exact ⟨by first | rfl | (simp [errW_none, errW_some] <;> rfl) | (simp [*, errW_none, errW_some] <;> rfl), by repeat (first | (with_reducible first | exact HB.out | apply below_alloc | apply pw_below_drewN | apply below_drew1 | refine below_set ?_ ab.out | refine below_set ?_ ae.out) | exact HB.out)⟩
 ·
  rw [if_neg c3] at H
  have a8 : (a0_0 == a1_0) = false := by simpa using c3
  (try (have a9 : decide (a0_0 = a1_0) = false := by simpa using c3))
  (try (have ba : (a0_0 == a1_0) = false := by simpa using c3))
  (try (have bk : ¬ (a0_0 = a1_0) := by simpa using c3))
  clear c3
  obtain rfl := Option.some.inj H
  go_enter Try.func110, Try.ntmps110
  go_wp2_with (first | ((with_reducible refine gate_dst (N := 2) rfl ?_); refine box_event ?hg (N := 2) ?hd (cs := #[.bool a0_0, .slice A0_1 l0_1.length c0_1, .slice A0_2 l0_2.length c0_2]) (t := 67) ?hr ?_; (case hd => rfl); (case hg => rfl); (case hr => first | (go_simp; done) | (go_simp; rfl)); intro ak hg bn hbox hb; have aa := am (hbox); have al := ng hg (bu HB.out); have ab := ng hg (bu HB.out); replace HB := be HB hb; clear hb hbox hg) | ((with_reducible refine gate_dst (N := 3) rfl ?_); refine box_event ?hg (N := 3) ?hd (cs := #[.bool a1_0, .slice A1_1 l1_1.length c1_1, .slice A1_2 l1_2.length c1_2]) (t := 67) ?hr ?_; (case hd => rfl); (case hg => rfl); (case hr => first | (go_simp; done) | (go_simp; rfl)); intro an hg bo hbox hb; have af := am (hbox); have ao := ng hg (bu1 HB.out ab.out); have ae := ng hg (bu1 HB.out ab.out); replace HB := be1 HB ab hb; have ac := nl hg aa; have ad := nr hg aa; replace aa := kb aa hb; clear hb hbox hg; have bf := ac.out; have bg := ad.out; obtain ⟨aW, aX, aY, aZ, a0, a1⟩ := bz aa; obtain ⟨a2, a3, a4, a5, a6, a7⟩ := bz af))
  go_ret
  exact ⟨by first | rfl | (simp [errW_none, errW_some] <;> rfl) | (simp [*, errW_none, errW_some] <;> rfl), by repeat (first | (with_reducible first | exact HB.out | apply below_alloc | apply pw_below_drewN | apply below_drew1 | refine below_set ?_ ab.out | refine below_set ?_ ae.out) | exact HB.out)⟩
def codewrightlaw02_same.f (k : Nat) (a0_0 : Bool) (l0_1 : List Int) (l0_2 : List Int) (a1_0 : Bool) (l1_1 : List Int) (l1_2 : List Int) : Option (Bool) := (codewrightref02_Same.f k a0_0 l0_1 l0_2 a1_0 l1_1 l1_2).bind fun t1151 => (some t1151)
theorem codewrightlaw02_same.calls (k : Nat) (a0_0 : Bool) (A0_1 : Option Addr) (c0_1 : Nat) (l0_1 : List Int) (A0_2 : Option Addr) (c0_2 : Nat) (l0_2 : List Int) (a1_0 : Bool) (A1_1 : Option Addr) (c1_1 : Nat) (l1_1 : List Int) (A1_2 : Option Addr) (c1_2 : Nat) (l1_2 : List Int) (r : Bool) (w : World) (hr0_1 : Kd.C (Kd.int .u32) w A0_1 l0_1.length l0_1) (hc0_1 : l0_1.length ≤ c0_1) (hr0_2 : Kd.C (Kd.int .u32) w A0_2 l0_2.length l0_2) (hc0_2 : l0_2.length ≤ c0_2) (hr1_1 : Kd.C (Kd.int .u32) w A1_1 l1_1.length l1_1) (hc1_1 : l1_1.length ≤ c1_1) (hr1_2 : Kd.C (Kd.int .u32) w A1_2 l1_2.length l1_2) (hc1_2 : l1_2.length ≤ c1_2) (h : codewrightlaw02_same.f k a0_0 l0_1 l0_2 a1_0 l1_1 l1_2 = some r) :
 Calls Try.prog 83 #[.agg #[.bool a0_0, .slice A0_1 l0_1.length c0_1, .slice A0_2 l0_2.length c0_2], .agg #[.bool a1_0, .slice A1_1 l1_1.length c1_1, .slice A1_2 l1_2.length c1_2]] w fun e w' => e = .returned (.bool r) ∧ Below w.heap.size w w' := by
 have aJ := Try.underlying67
 have al := am hr0_1
 have ah := am hc0_1
 clear hr0_1 hc0_1
 have an := am hr0_2
 have ai := am hc0_2
 clear hr0_2 hc0_2
 have ao := am hr1_1
 have aj := am hc1_1
 clear hr1_1 hc1_1
 have ap := am hr1_2
 have ak := am hc1_2
 clear hr1_2 hc1_2
 have HB := am (Below.refl w.heap.size w)
 have H : ((codewrightref02_Same.f k a0_0 l0_1 l0_2 a1_0 l1_1 l1_2).bind fun af => (some af)) = some r := h
 clear h
 obtain ⟨af, A3, H⟩ := bs H
 replace H : (some af) = some r := H
 obtain rfl := Option.some.inj H
 go_enter Try.func83, Try.ntmps83
 go_wp2_with (first | ((with_reducible refine gate_dst (N := 2) rfl ?_); refine box_event ?hg (N := 2) ?hd (cs := #[.bool a0_0, .slice A0_1 l0_1.length c0_1, .slice A0_2 l0_2.length c0_2]) (t := 67) ?hr ?_; (case hd => rfl); (case hg => rfl); (case hr => first | (go_simp; done) | (go_simp; rfl)); intro aq hg w4 hbox hb; have aa := am (hbox); have au := ng hg (bu HB.out); have ab := ng hg (bu HB.out); replace HB := be HB hb; clear hb hbox hg) | ((with_reducible refine gate_dst (N := 3) rfl ?_); refine box_event ?hg (N := 3) ?hd (cs := #[.bool a1_0, .slice A1_1 l1_1.length c1_1, .slice A1_2 l1_2.length c1_2]) (t := 67) ?hr ?_; (case hd => rfl); (case hg => rfl); (case hr => first | (go_simp; done) | (go_simp; rfl)); intro av hg w5 hbox hb; have ae := am (hbox); have aw := ng hg (bu1 HB.out ab.out); have ag := ng hg (bu1 HB.out ab.out); replace HB := be1 HB ab hb; have ac := nl hg aa; have ad := nr hg aa; replace aa := kb aa hb; clear hb hbox hg; have aK := ac.out; have aL := ad.out; obtain ⟨ax, ay, az, aA, aB, aC⟩ := bz aa; obtain ⟨aD, aE, aF, aG, aH, aI⟩ := bz ae) | ((with_reducible refine gate_callee (f := 110) rfl ?_); refine goesL_ (some 7) rfl rfl Try.func110 (by kernel_rfl) rfl #[.agg #[.bool a0_0, .slice A0_1 l0_1.length c0_1, .slice A0_2 l0_2.length c0_2], .agg #[.bool a1_0, .slice A1_1 l1_1.length c1_1, .slice A1_2 l1_2.length c1_2]] rfl lu ?_; (with_reducible refine (codewrightref02_Same.calls k a0_0 _ _ l0_1 _ _ l0_2 a1_0 _ _ l1_1 _ _ l1_2 af _ ?side1 ?side2 ?side3 ?side4 ?side5 ?side6 ?side7 ?side8 A3.out).mono ?_); (case side1 => repeat (first | exact (Kd.C_below al.out HB.out) | (with_reducible refine Kd.C_alloc ?_ _) | (with_reducible refine Kd.C_drewN ?_ _) | (with_reducible refine Kd.C_drew ?_))); (case side2 => first | exact ah.out | exact vz ah.out); (case side3 => repeat (first | exact (Kd.C_below an.out HB.out) | (with_reducible refine Kd.C_alloc ?_ _) | (with_reducible refine Kd.C_drewN ?_ _) | (with_reducible refine Kd.C_drew ?_))); (case side4 => first | exact ai.out | exact vz ai.out); (case side5 => repeat (first | exact (Kd.C_below ao.out HB.out) | (with_reducible refine Kd.C_alloc ?_ _) | (with_reducible refine Kd.C_drewN ?_ _) | (with_reducible refine Kd.C_drew ?_))); (case side6 => first | exact aj.out | exact vz aj.out); (case side7 => repeat (first | exact (Kd.C_below ap.out HB.out) | (with_reducible refine Kd.C_alloc ?_ _) | (with_reducible refine Kd.C_drewN ?_ _) | (with_reducible refine Kd.C_drew ?_))); (case side8 => first | exact ak.out | exact vz ak.out); rintro e w9 ⟨rfl, hb⟩; refine ⟨_, rfl, ?_⟩; replace aa := kb aa hb; replace ae := kb ae hb; replace HB := be2 HB ab ag hb; (try clear hb)))
 go_ret
 exact ⟨by first | rfl | (simp [errW_none, errW_some] <;> rfl) | (simp [*, errW_none, errW_some] <;> rfl), by repeat (first | (with_reducible first | exact HB.out | apply below_alloc | apply pw_below_drewN | apply below_drew1 | refine below_set ?_ ab.out | refine below_set ?_ ag.out) | exact HB.out)⟩
def codewrightlaw02_long.l0 : Nat → Int → List (S67) → Int → Option (Bool)
 | 0, _, _, _ => none
 | k + 1, x0, x1, x5 => if x5 < (x1.length : Int) then (if 0 ≤ x5 then (if (wrap64 ((((rd_T67 x1 x5).f1).length : Int) + (((rd_T67 x1 x5).f2).length : Int))) > x0 then (some true) else (codewrightlaw02_long.l0 k x0 x1 (wrap64 (x5 + 1)))) else (none)) else (some false)
def codewrightlaw02_long.f (k : Nat) (a0 : Int) (l1 : List (S67)) : Option (Bool) := codewrightlaw02_long.l0 k a0 l1 0
theorem codewrightlaw02_long.calls (k : Nat) (a0 : Int) (A1 : Option Addr) (c1 : Nat) (l1 : List (S67)) (r : Bool) (w : World) (hr1 : Kd.C k67 w A1 l1.length l1) (hc1 : l1.length ≤ c1) (h : codewrightlaw02_long.f k a0 l1 = some r) :
 Calls Try.prog 86 #[.int .i64 a0, .slice A1 l1.length c1] w fun e w' => e = .returned (.bool r) ∧ Drawn0 w w' := by
 have aB := am hr1
 have aF := am hc1
 clear hr1 hc1
 have H : (codewrightlaw02_long.l0 k a0 l1 0) = some r := h
 clear h
 have H' := am H
 clear H
 go_enter Try.func86, Try.ntmps86
 go_wp2
 repeat (go_quiet (fail); try go_wp2)
 go_loopg [5] k (fun kq v5 w' => ∃ (aa : Int), v5 = .int .i64 aa ∧ Aside0 (codewrightlaw02_long.l0 kq a0 l1 aa = some r) ∧ Aside0 (kq ≤ k) ∧ Drawn0 w w')
 case atStart => exact ⟨(0), (by first | rfl | (simp; done) | (simp [*]; done)), H', ⟨Nat.le_refl _⟩, by repeat (first | exact Drawn0.refl _ | apply Drawn0.step)⟩
 case round =>
  clear H'
  try clear c1
  try clear p2
  obtain ⟨aa, rfl, HA, HK1, ⟨m1, rfl⟩⟩ := hrel
  cases gk with
  | zero => exact absurd HA.out (by simp [codewrightlaw02_long.l0])
  | succ k1 =>
   have H := HA.out
   clear HA
   simp only [codewrightlaw02_long.l0] at H
   by_cases c3 : aa < (l1.length : Int)
   ·
    rw [if_pos c3] at H
    have aC : decide (aa < (l1.length : Int)) = true := decide_eq_true c3
    clear c3
    by_cases c4 : 0 ≤ aa
    ·
     rw [if_pos c4] at H
     have aE : decide (0 ≤ aa) = true := decide_eq_true c4
     clear c4
     by_cases c5 : (wrap64 ((((rd_T67 l1 aa).f1).length : Int) + (((rd_T67 l1 aa).f2).length : Int))) > a0
     ·
      rw [if_pos c5] at H
      have aD : decide (a0 < (wrap64 ((((rd_T67 l1 aa).f1).length : Int) + (((rd_T67 l1 aa).f2).length : Int)))) = true := decide_eq_true c5
      clear c5
      obtain rfl := Option.some.inj H
      have p1252 : 0 ≤ (aa : Int) := of_decide_eq_true (by first | (with_reducible assumption) | assumption)
      have q1252 : aa < (l1.length : Int) := of_decide_eq_true (by first | (with_reducible assumption) | assumption)
      obtain ⟨ad1252, aq, au, av, aw, e1252, af, ab, ac, hl1252_1, hi1252_1, hl1252_2, hi1252_2⟩ := at_T67 aB.out aa p1252 q1252
      cases e1252
      have ag := am hi1252_1
      have ah := am hl1252_1
      clear hi1252_1 hl1252_1
      have ai := am hi1252_2
      have aj := am hl1252_2
      clear hi1252_2 hl1252_2
      replace p1252 := eq_true p1252
      replace q1252 := eq_true q1252
      have p1253 : 0 ≤ (aa : Int) := of_decide_eq_true (by first | (with_reducible assumption) | assumption)
      have q1253 : aa < (l1.length : Int) := of_decide_eq_true (by first | (with_reducible assumption) | assumption)
      obtain ⟨ad1253, ax, ay, az, aA, e1253, ak, ad, ae, hl1253_1, hi1253_1, hl1253_2, hi1253_2⟩ := at_T67 aB.out aa p1253 q1253
      obtain rfl : ad1252 = ad1253 := (by injection e1253)
      have al := am hi1253_1
      have an := am hl1253_1
      clear hi1253_1 hl1253_1
      have ao := am hi1253_2
      have ap := am hl1253_2
      clear hi1253_2 hl1253_2
      replace p1253 := eq_true p1253
      replace q1253 := eq_true q1253
      have ea_ := Option.some.inj (ab.symm.trans ad)
      injection ea_ with ea_ en_ ec_
      subst ea_
      subst ec_
      clear en_
      have ea_ := Option.some.inj (ac.symm.trans ae)
      injection ea_ with ea_ en_ ec_
      subst ea_
      subst ec_
      clear en_
      go_wp2
      repeat (go_quiet (fail); try go_wp2)
      go_ret
      exact ⟨by first | rfl | (simp; done) | (simp [*]; done), by repeat (first | exact Drawn0.refl _ | apply Drawn0.step)⟩
     ·
      rw [if_neg c5] at H
      have aD : decide (a0 < (wrap64 ((((rd_T67 l1 aa).f1).length : Int) + (((rd_T67 l1 aa).f2).length : Int)))) = false := decide_eq_false c5
      clear c5
      have H' := am H
      clear H
      have p1252 : 0 ≤ (aa : Int) := of_decide_eq_true (by first | (with_reducible assumption) | assumption)
      have q1252 : aa < (l1.length : Int) := of_decide_eq_true (by first | (with_reducible assumption) | assumption)
      obtain ⟨ad1252, aq, au, av, aw, e1252, af, ab, ac, hl1252_1, hi1252_1, hl1252_2, hi1252_2⟩ := at_T67 aB.out aa p1252 q1252
      cases e1252
      have ag := am hi1252_1
      have ah := am hl1252_1
      clear hi1252_1 hl1252_1
      have ai := am hi1252_2
      have aj := am hl1252_2
      clear hi1252_2 hl1252_2
      replace p1252 := eq_true p1252
      replace q1252 := eq_true q1252
      have p1253 : 0 ≤ (aa : Int) := of_decide_eq_true (by first | (with_reducible assumption) | assumption)
      have q1253 : aa < (l1.length : Int) := of_decide_eq_true (by first | (with_reducible assumption) | assumption)
      obtain ⟨ad1253, ax, ay, az, aA, e1253, ak, ad, ae, hl1253_1, hi1253_1, hl1253_2, hi1253_2⟩ := at_T67 aB.out aa p1253 q1253
      obtain rfl : ad1252 = ad1253 := (by injection e1253)
      have al := am hi1253_1
      have an := am hl1253_1
      clear hi1253_1 hl1253_1
      have ao := am hi1253_2
      have ap := am hl1253_2
      clear hi1253_2 hl1253_2
      replace p1253 := eq_true p1253
      replace q1253 := eq_true q1253
      have ea_ := Option.some.inj (ab.symm.trans ad)
      injection ea_ with ea_ en_ ec_
      subst ea_
      subst ec_
      clear en_
      have ea_ := Option.some.inj (ac.symm.trans ae)
      injection ea_ with ea_ en_ ec_
      subst ea_
      subst ec_
      clear en_
      go_wp2
      repeat (go_quiet (fail); try go_wp2)
      go_roundg k1
      case measure => have := HK1.out; omega
      case rel => exact ⟨(wrap64 (aa + 1)), (by first | rfl | (simp; done) | (simp [*]; done)), H', ⟨by have := HK1.out; omega⟩, by repeat (first | exact Drawn0.refl _ | apply Drawn0.step)⟩
    ·
     rw [if_neg c4] at H
     exact absurd H (by simp)
   ·
    rw [if_neg c3] at H
    have aC : decide (aa < (l1.length : Int)) = false := decide_eq_false c3
    clear c3
    obtain rfl := Option.some.inj H
    go_wp2
    repeat (go_quiet (fail); try go_wp2)
    go_ret
    exact ⟨by first | rfl | (simp; done) | (simp [*]; done), by repeat (first | exact Drawn0.refl _ | apply Drawn0.step)⟩
def rational_one.f  : Option (List Int) := some (([1] : List Int))
theorem rational_one.calls  (r : List Int) (w : World) (h : rational_one.f  = some r) :
 Calls Try.prog 161 #[] w fun e w' => ∃ v0_ : Value, e = .returned (v0_) ∧ Kd.R (Kd.int .u32) 48 w' w.heap.size (fun _ => True) v0_ r ∧ Below w.heap.size w w' := by
 have HB := am (Below.refl w.heap.size w)
 have H : (some (([1] : List Int))) = some r := h
 clear h
 obtain ⟨ae, aa⟩ : ∃ y_ : List Int, y_ = (([1] : List Int)) := ⟨_, rfl⟩
 rw [← aa] at H
 have ab := am aa
 clear aa
 obtain rfl := Option.some.inj H
 go_enter Try.func161, Try.ntmps161
 go_wp2_with (first | ((with_reducible refine gate_dst (N := 1) rfl ?_); refine Kd.R_lit (Kd.int .u32) _ 48 ?hg (N := 1) ?hd (xs := ([1] : List Int)) (inner := [.int .u32 1]) (ok := fun _ => True) (okp := fun _ => True) ?hr ?hp (fun _ hk => hk) trivial (Below.refl _ _) (Nat.le_refl _) (by simp) ?_; (case hd => rfl); (case hg => rfl); (case hr => first | (go_simp; done) | (go_simp; rfl)); (case hp => exact (Reps.one (show Kd.M (Kd.int .u32) _ _ _ 1 [.int .u32 1] from rfl) (Reps.none _ _))); intro af w1 ac hb hg_ hnew_; clear hg_ hnew_; (first | rw [← ab.out] at ac | (simp only [Int.reduceToNat] at ac; rw [← ab.out] at ac)); have ad := am (Kd.R_lower ac (below_size (bu HB.out))); replace HB := be HB hb; clear hb ac))
 go_ret
 exact ⟨_, by first | rfl | (simp [errW_none, errW_some] <;> rfl) | (simp [*, errW_none, errW_some] <;> rfl), by (with_reducible repeat (first | apply Kd.R_alloc | apply Kd.R_drewN | apply Kd.R_drew)); exact ad.out, by repeat (first | (with_reducible first | exact HB.out | apply below_alloc | apply pw_below_drewN | apply below_drew1) | exact HB.out)⟩
def nat_short.l0 : Nat → List Int → Int → Option (List Int)
 | 0, _, _ => none
 | k + 1, x0, x3 => if x3 > 0 then (if 0 ≤ (wrap64 (x3 - 1)) then (if (wrap64 (x3 - 1)) < (x0.length : Int) then (if (rd x0 (wrap64 (x3 - 1))) = 0 then (nat_short.l0 k x0 (wrap64 (x3 - 1))) else (if 0 ≤ x3 then (if x3 ≤ (x0.length : Int) then (some (x0.take (x3 : Int).toNat)) else (none)) else (none))) else (none)) else (none)) else (if 0 ≤ x3 then (if x3 ≤ (x0.length : Int) then (some (x0.take (x3 : Int).toNat)) else (none)) else (none))
def nat_short.f (k : Nat) (l0 : List Int) : Option (List Int) := nat_short.l0 k l0 (l0.length : Int)
theorem nat_short.calls (k : Nat) (P0_ : Nat → Prop) (A0 : Option Addr) (c0 : Nat) (l0 : List Int) (r : List Int) (w : World) (hs0 : Kd.V (Kd.int .u32) 48 w w.heap.size (fun k_ => P0_ k_) (.slice A0 l0.length c0) l0) (h : nat_short.f k l0 = some r) :
 Calls Try.prog 179 #[.slice A0 l0.length c0] w fun e w' => ∃ v0_ : Value, e = .returned (v0_) ∧ Kd.V (Kd.int .u32) 48 w' w.heap.size (fun k_ => (P0_ k_ ∨ w.heap.size ≤ k_)) v0_ r ∧ Below w.heap.size w w' := by
 have aC := am (show Kd.V (Kd.int .u32) 48 w w.heap.size (fun k_ => (P0_ k_ ∨ w.heap.size ≤ k_)) (.slice A0 l0.length c0) l0 from Kd.V_mono hs0 (fun k_ hk => .inl hk))
 have HB := am (Below.refl w.heap.size w)
 have H : (nat_short.l0 k l0 (l0.length : Int)) = some r := h
 clear h
 have H' := am H
 clear H
 go_enter Try.func179, Try.ntmps179
 go_wp2
 go_loopg [3] k (fun kq v3 w' => ∃ (aa : Int), v3 = .int .i64 aa ∧ Aside0 (nat_short.l0 kq l0 aa = some r) ∧ Aside0 (kq ≤ k) ∧ Aside0 (Kd.V (Kd.int .u32) 48 w' w.heap.size (fun k_ => (P0_ k_ ∨ w.heap.size ≤ k_)) (.slice A0 l0.length c0) l0) ∧ Aside0 (Below w.heap.size w w'))
 case atStart => exact ⟨((l0.length : Int)), (by first | rfl | (simp; done) | (simp [*]; done)), H', ⟨Nat.le_refl _⟩, ⟨by (with_reducible repeat (first | apply Kd.V_alloc | apply Kd.V_drewN | apply Kd.V_drew)); exact aC.out⟩, ⟨by repeat (first | (with_reducible first | exact HB.out | apply below_alloc | apply pw_below_drewN | apply below_drew1) | exact HB.out)⟩⟩
 case round =>
  clear H'
  try clear c1
  obtain ⟨aa, rfl, HA, HK1, ad, HB⟩ := hrel
  cases gk with
  | zero => exact absurd HA.out (by simp [nat_short.l0])
  | succ k1 =>
   have H := HA.out
   clear HA
   simp only [nat_short.l0] at H
   by_cases c2 : aa > 0
   ·
    rw [if_pos c2] at H
    have ap : decide (0 < aa) = true := decide_eq_true c2
    clear c2
    obtain ⟨ji3, hji3⟩ : ∃ j_ : Int, (wrap64 (aa - 1)) = j_ := ⟨_, rfl⟩
    replace H : (if 0 ≤ (ji3) then (if (ji3) < (l0.length : Int) then (if (rd l0 (ji3)) = 0 then (nat_short.l0 k1 l0 ji3) else (if 0 ≤ aa then (if aa ≤ (l0.length : Int) then (some (l0.take (aa : Int).toNat)) else (none)) else (none))) else (none)) else (none)) = some r := by first | (rw [hji3] at H; exact H) | (simp only [hji3] at H ⊢; exact H)
    have hji3w : (IntKind.i64.wrap (aa - 1)) = ji3 := (i64_w _).trans hji3
    by_cases c4 : 0 ≤ (ji3)
    ·
     rw [if_pos c4] at H
     have aD : decide (0 ≤ (ji3)) = true := decide_eq_true c4
     clear c4
     by_cases c5 : (ji3) < (l0.length : Int)
     ·
      rw [if_pos c5] at H
      have aE : decide ((ji3) < (l0.length : Int)) = true := decide_eq_true c5
      clear c5
      by_cases c6 : (rd l0 (ji3)) = 0
      ·
       rw [if_pos c6] at H
       have aq : ((rd l0 (ji3)) == 0) = true := beq_iff_eq.mpr c6
       have au : ((rd l0 (ji3)) != 0) = false := bne_eq_false_iff_eq.mpr c6
       clear c6
       have H' := am H
       clear H
       have p252 : 0 ≤ ((ji3) : Int) := of_decide_eq_true (by first | (with_reducible assumption) | assumption)
       have q252 : (ji3) < (l0.length : Int) := of_decide_eq_true (by first | (with_reducible assumption) | assumption)
       obtain ⟨ad252, e252, ag⟩ := Kd.at_int (Kd.V_reads' ad.out).2.2 (ji3) p252 q252
       cases e252
       replace p252 := eq_true p252
       replace q252 := eq_true q252
       go_wp2
       go_roundg k1
       case measure => have := HK1.out; omega
       case rel => exact ⟨(ji3), (by first | rfl | (simp; done) | (simp only [← hji3] <;> (first | rfl | simp)) | (simp [*]; done)), H', ⟨by have := HK1.out; omega⟩, ⟨by (with_reducible repeat (first | apply Kd.V_alloc | apply Kd.V_drewN | apply Kd.V_drew)); exact ad.out⟩, ⟨by repeat (first | (with_reducible first | exact HB.out | apply below_alloc | apply pw_below_drewN | apply below_drew1) | exact HB.out)⟩⟩
      ·
       rw [if_neg c6] at H
       have aq : ((rd l0 (ji3)) == 0) = false := beq_eq_false_iff_ne.mpr c6
       have au : ((rd l0 (ji3)) != 0) = true := bne_iff_ne.mpr c6
       by_cases c7 : 0 ≤ aa
       ·
        rw [if_pos c7] at H
        have aF := eq_true c7
        have aG : decide (0 ≤ aa) = true := decide_eq_true c7
        clear c7
        by_cases c8 : aa ≤ (l0.length : Int)
        ·
         rw [if_pos c8] at H
         have aH := eq_true c8
         have aI : decide (aa ≤ (l0.length : Int)) = true := decide_eq_true c8
         clear c8
         obtain ⟨ae, ab⟩ : ∃ y_ : List Int, y_ = (l0.take (aa : Int).toNat) := ⟨_, rfl⟩
         replace H : (some ae) = some r := by first | (rw [ab]; with_reducible exact H) | (have H2_ := (Option.bind_some _ _).symm.trans H; rw [ab]; with_reducible exact H2_) | (have H2_ := (Option.bind_some _ _).symm.trans H; with_reducible exact H2_) | with_reducible exact H | (rw [ab]; exact H) | exact H
         have ah := am ab
         clear ab
         obtain rfl := Option.some.inj H
         have p252 : 0 ≤ ((ji3) : Int) := of_decide_eq_true (by first | (with_reducible assumption) | assumption)
         have q252 : (ji3) < (l0.length : Int) := of_decide_eq_true (by first | (with_reducible assumption) | assumption)
         obtain ⟨ad252, e252, ag⟩ := Kd.at_int (Kd.V_reads' ad.out).2.2 (ji3) p252 q252
         cases e252
         replace p252 := eq_true p252
         replace q252 := eq_true q252
         have q9 : (aa : Int) ≤ ((l0.length : Int) : Int) := of_decide_eq_true (by first | (with_reducible assumption) | assumption)
         obtain ⟨i09, hi09, _, hsz9, _⟩ := info_parts info48
         have hroom9 : l0.length ≤ c0 := (Kd.V_reads' ad.out).2.1
         have hC9 : Kd.F (Kd.int .u32) _ _ (some ad252) l0.length l0 := (Kd.V_at (base := w.heap.size) ad.out).2.2
         have hcut9 := cut_cap (P := Try.prog) 42 48 .i64 Try.underlying42 hi09 (some ad252) l0.length c0 aa (of_decide_eq_true (by first | (with_reducible assumption) | assumption)) q9 hroom9
         have hr9 := Kd.F_take (m := (aa : Int).toNat) hC9 (by omega)
         have av : ae.length = (aa : Int).toNat := (by rw [ah.out, List.length_take]; omega)
         rw [← ah.out] at hr9
         rw [← av] at hcut9
         have ak := am (show Kd.V (Kd.int .u32) 48 _ w.heap.size _ (.slice (some ad252) ae.length ae.length) ae from Kd.V_mk (by omega) hr9)
         have aw := am (show ae.length ≤ ae.length from by omega)
         clear hr9 hC9 hroom9 hi09 hsz9
         have KY9 := am av
         clear av
         replace q9 := eq_true q9
         go_wp2
         go_ret
         exact ⟨_, by first | rfl | (simp [errW_none, errW_some] <;> rfl) | (simp only [← hji3]; first | rfl | (simp [errW_none, errW_some] <;> rfl)) | (simp [*, errW_none, errW_some] <;> rfl), by (with_reducible repeat (first | apply Kd.V_alloc | apply Kd.V_drewN | apply Kd.V_drew)); exact ak.out, by repeat (first | (with_reducible first | exact HB.out | apply below_alloc | apply pw_below_drewN | apply below_drew1) | exact HB.out)⟩
        ·
         rw [if_neg c8] at H
         exact absurd H (by simp)
       ·
        rw [if_neg c7] at H
        exact absurd H (by simp)
     ·
      rw [if_neg c5] at H
      exact absurd H (by simp)
    ·
     rw [if_neg c4] at H
     exact absurd H (by simp)
   ·
    rw [if_neg c2] at H
    have ap : decide (0 < aa) = false := decide_eq_false c2
    clear c2
    by_cases al : 0 ≤ aa
    ·
     rw [if_pos al] at H
     have ax := eq_true al
     have ay : decide (0 ≤ aa) = true := decide_eq_true al
     clear al
     by_cases an : aa ≤ (l0.length : Int)
     ·
      rw [if_pos an] at H
      have az := eq_true an
      have aA : decide (aa ≤ (l0.length : Int)) = true := decide_eq_true an
      clear an
      obtain ⟨af, ac⟩ : ∃ y_ : List Int, y_ = (l0.take (aa : Int).toNat) := ⟨_, rfl⟩
      replace H : (some af) = some r := by first | (rw [ac]; with_reducible exact H) | (have H2_ := (Option.bind_some _ _).symm.trans H; rw [ac]; with_reducible exact H2_) | (have H2_ := (Option.bind_some _ _).symm.trans H; with_reducible exact H2_) | with_reducible exact H | (rw [ac]; exact H) | exact H
      have ai := am ac
      clear ac
      obtain rfl := Option.some.inj H
      have q12 : (aa : Int) ≤ ((l0.length : Int) : Int) := of_decide_eq_true (by first | (with_reducible assumption) | assumption)
      obtain ⟨i012, hi012, _, hsz12, _⟩ := info_parts info48
      have hroom12 : l0.length ≤ c0 := (Kd.V_reads' ad.out).2.1
      have hC12 : Kd.F (Kd.int .u32) _ _ A0 l0.length l0 := (Kd.V_at (base := w.heap.size) ad.out).2.2
      have hcut12 := cut_cap (P := Try.prog) 42 48 .i64 Try.underlying42 hi012 A0 l0.length c0 aa (of_decide_eq_true (by first | (with_reducible assumption) | assumption)) q12 hroom12
      have hr12 := Kd.F_take (m := (aa : Int).toNat) hC12 (by omega)
      have aj : af.length = (aa : Int).toNat := (by rw [ai.out, List.length_take]; omega)
      rw [← ai.out] at hr12
      rw [← aj] at hcut12
      have ao := am (show Kd.V (Kd.int .u32) 48 _ w.heap.size _ (.slice A0 af.length af.length) af from Kd.V_mk (by omega) hr12)
      have aB := am (show af.length ≤ af.length from by omega)
      clear hr12 hC12 hroom12 hi012 hsz12
      have KY12 := am aj
      clear aj
      replace q12 := eq_true q12
      go_wp2
      go_ret
      exact ⟨_, by first | rfl | (simp [errW_none, errW_some] <;> rfl) | (simp [*, errW_none, errW_some] <;> rfl), by (with_reducible repeat (first | apply Kd.V_alloc | apply Kd.V_drewN | apply Kd.V_drew)); exact ao.out, by repeat (first | (with_reducible first | exact HB.out | apply below_alloc | apply pw_below_drewN | apply below_drew1) | exact HB.out)⟩
     ·
      rw [if_neg an] at H
      exact absurd H (by simp)
    ·
     rw [if_neg al] at H
     exact absurd H (by simp)
def nat_Trim.f (k : Nat) (l0 : List Int) : Option (List Int) := (nat_short.f k l0).bind fun t263 => (if ([] : List Int).length + t263.length < 35184372088832 then (some (([] : List Int) ++ t263)) else (none))
theorem nat_Trim.calls (k : Nat) (A0 : Option Addr) (c0 : Nat) (l0 : List Int) (r : List Int) (w : World) (hr0 : Kd.C (Kd.int .u32) w A0 l0.length l0) (hc0 : l0.length ≤ c0) (h : nat_Trim.f k l0 = some r) :
 Calls Try.prog 177 #[.slice A0 l0.length c0] w fun e w' => ∃ v0_ : Value, e = .returned (v0_) ∧ Kd.R (Kd.int .u32) 48 w' w.heap.size (fun _ => True) v0_ r ∧ Below w.heap.size w w' := by
 have ah := am hr0
 have ai := am hc0
 clear hr0 hc0
 have HB := am (Below.refl w.heap.size w)
 have H : ((nat_short.f k l0).bind fun ab => (if ([] : List Int).length + ab.length < 35184372088832 then (some (([] : List Int) ++ ab)) else (none))) = some r := h
 clear h
 obtain ⟨ab, A2, H⟩ := bs H
 (try dsimp -simprocs only at H)
 by_cases c3 : ([] : List Int).length + ab.length < 35184372088832
 ·
  rw [if_pos c3] at H
  have LMc3 := am c3
  clear c3
  obtain ⟨af, aa⟩ : ∃ y_ : List Int, y_ = (([] : List Int) ++ ab) := ⟨_, rfl⟩
  replace H : (some af) = some r := by first | (rw [aa]; with_reducible exact H) | (have H2_ := (Option.bind_some _ _).symm.trans H; rw [aa]; with_reducible exact H2_) | (have H2_ := (Option.bind_some _ _).symm.trans H; with_reducible exact H2_) | with_reducible exact H | (rw [aa]; exact H) | exact H
  have ad := am aa
  clear aa
  obtain rfl := Option.some.inj H
  go_enter Try.func177, Try.ntmps177
  go_wp2_with (first | ((with_reducible refine gate_callee (f := 179) rfl ?_); refine goesL_ (some 4) rfl rfl Try.func179 (by kernel_rfl) rfl #[.slice A0 l0.length c0] rfl lu ?_; (with_reducible refine (nat_short.calls k (fun k_ => k_ < w.heap.size) _ _ l0 ab _ ?side1 A2.out).mono ?_); (case side1 => exact Kd.V_mk ai.out (Kd.F_below (Kd.C_F (Kd.heap_int .u32) ah.out) (bu HB.out))); rintro e w4 ⟨aj, rfl, ag, hb⟩; refine ⟨_, rfl, ?_⟩; have ac := am (Kd.V_lower (Kd.V_mono (ok' := fun k_ => True) ag (fun k_ hk_ => trivial)) (below_size (bu HB.out))); replace HB := be HB hb; (try clear hb); (try clear ag); obtain ⟨an, ao, ak⟩ := Kd.V_slice ac.out; subst ak) | ((with_reducible refine gate_builtin (b := .append) (xs := #[.const (.slice none 0 0), .tmp 4]) rfl ?_); at_builtin; refine Kd.R_append_rows (Kd.int .u32) (w0 := w) w.heap.size rfl (.const (.slice none 0 0)) (.tmp 4) 42 48 (.int .u32 0) 4 rfl Try.underlying42 info48 rfl (by decide) (by omega) (.slice none 0 0) ([] : List Int) ab _ _ _ (fun _ => True) (fun _ => False) rfl rfl ?aO ?aR (fun _ _ h => h) (fun _ h => h.elim) ?aF ?aB ?aS ?aL ?_; (case aR => exact cu (Kd.V_reads' ac.out).2.2); (case aB => exact (bu HB.out)); (case aF => exact (fun _ _ => trivial)); (case aO => exact ((Kd.R_nil _ _ _ _ (fun _ => True)))); (case aS => exact (below_size (bu HB.out))); (case aL => have := LMc3.out; omega); intro al w5 ho hb hg hat; rw [← ad.out] at ho; replace ac := am (Kd.V_afterv (Kd.V_apart_nil (vu ac.out)) hg hat); replace HB := am (hb); have ae := am (ho); clear ho hb hg hat))
  go_ret
  exact ⟨_, by first | rfl | (simp [errW_none, errW_some] <;> rfl) | (simp [*, errW_none, errW_some] <;> rfl), by (with_reducible repeat (first | apply Kd.R_alloc | apply Kd.R_drewN | apply Kd.R_drew)); exact ae.out, by repeat (first | (with_reducible first | exact HB.out | apply below_alloc | apply pw_below_drewN | apply below_drew1) | exact HB.out)⟩
 ·
  rw [if_neg c3] at H
  exact absurd H (by simp)
mutual
def nat_times.l0 : Nat → List Int → List Int → List Int → Int → Int → Option (List Int)
 | 0, _, _, _, _, _ => none
 | k + 1, x1, x5, x18, x19, x20 => if x20 < x19 then (if 0 ≤ x20 then (if x20 < (x18.length : Int) then (nat_times.l1 k x1 x5 x20 (rd x18 x20) 0 x18 x19 x20 x1 (x1.length : Int) 0) else (none)) else (none)) else ((nat_short.f k x5).bind fun t338 => (some t338))
def nat_times.l1 : Nat → List Int → List Int → Int → Int → Int → List Int → Int → Int → List Int → Int → Int → Option (List Int)
 | 0, _, _, _, _, _, _, _, _, _, _, _ => none
 | k + 1, x1, x5, x6, x7, x8, x18, x19, x20, x25, x26, x27 => if x27 < x26 then (if 0 ≤ x27 then (if x27 < (x25.length : Int) then (if 0 ≤ (wrap64 (x6 + x27)) then (if (wrap64 (x6 + x27)) < (x5.length : Int) then (nat_times.l1 k x1 (x5.set ((wrap64 (x6 + x27)) : Int).toNat ((IntKind.u64.wrap ((IntKind.u64.wrap ((IntKind.u64.wrap ((IntKind.u64.wrap (x7)) * (IntKind.u64.wrap (rd x25 x27)))) + (IntKind.u64.wrap (rd x5 (wrap64 (x6 + x27)))))) + x8)) % 4294967296)) x6 x7 ((IntKind.u64.wrap ((IntKind.u64.wrap ((IntKind.u64.wrap ((IntKind.u64.wrap (x7)) * (IntKind.u64.wrap (rd x25 x27)))) + (IntKind.u64.wrap (rd x5 (wrap64 (x6 + x27)))))) + x8)) / 4294967296) x18 x19 x20 x25 x26 (wrap64 (x27 + 1))) else (none)) else (none)) else (none)) else (none)) else (if 0 ≤ (wrap64 (x6 + (x1.length : Int))) then (if (wrap64 (x6 + (x1.length : Int))) < (x5.length : Int) then (nat_times.l0 k x1 (x5.set ((wrap64 (x6 + (x1.length : Int))) : Int).toNat ((x8) % 4294967296)) x18 x19 (wrap64 (x20 + 1))) else (none)) else (none))
end
def nat_times.f (k : Nat) (l0 : List Int) (l1 : List Int) : Option (List Int) := if 0 ≤ (wrap64 ((l0.length : Int) + (l1.length : Int))) then (if (wrap64 ((l0.length : Int) + (l1.length : Int)) : Int).toNat ≤ 70368744177664 then (nat_times.l0 k l1 (List.replicate (wrap64 ((l0.length : Int) + (l1.length : Int)) : Int).toNat 0) l0 (l0.length : Int) 0) else (none)) else (none)
theorem nat_times.calls (k : Nat) (A0 : Option Addr) (c0 : Nat) (l0 : List Int) (A1 : Option Addr) (c1 : Nat) (l1 : List Int) (r : List Int) (w : World) (hr0 : Kd.C (Kd.int .u32) w A0 l0.length l0) (hc0 : l0.length ≤ c0) (hr1 : Kd.C (Kd.int .u32) w A1 l1.length l1) (hc1 : l1.length ≤ c1) (h : nat_times.f k l0 l1 = some r) :
 Calls Try.prog 180 #[.slice A0 l0.length c0, .slice A1 l1.length c1] w fun e w' => ∃ v0_ : Value, e = .returned (v0_) ∧ Kd.V (Kd.int .u32) 48 w' w.heap.size (fun k_ => (w.heap.size ≤ k_)) v0_ r ∧ Below w.heap.size w w' := by
 have bi := am hr0
 have bq := am hc0
 clear hr0 hc0
 have bj := am hr1
 have br := am hc1
 clear hr1 hc1
 have HB := am (Below.refl w.heap.size w)
 have H : (if 0 ≤ (wrap64 ((l0.length : Int) + (l1.length : Int))) then (if (wrap64 ((l0.length : Int) + (l1.length : Int)) : Int).toNat ≤ 70368744177664 then (nat_times.l0 k l1 (List.replicate (wrap64 ((l0.length : Int) + (l1.length : Int)) : Int).toNat 0) l0 (l0.length : Int) 0) else (none)) else (none)) = some r := h
 clear h
 obtain ⟨ji3, hji3⟩ : ∃ j_ : Int, (wrap64 ((l0.length : Int) + (l1.length : Int))) = j_ := ⟨_, rfl⟩
 replace H : (if 0 ≤ (ji3) then (if (ji3 : Int).toNat ≤ 70368744177664 then (nat_times.l0 k l1 (List.replicate (ji3 : Int).toNat 0) l0 (l0.length : Int) 0) else (none)) else (none)) = some r := by first | (rw [hji3] at H; exact H) | (simp only [hji3] at H ⊢; exact H)
 have hji3w : (IntKind.i64.wrap ((l0.length : Int) + (l1.length : Int))) = ji3 := (i64_w _).trans hji3
 by_cases c4 : 0 ≤ (ji3)
 ·
  rw [if_pos c4] at H
  have aw := eq_true c4
  have ax : decide (0 ≤ (ji3)) = true := decide_eq_true c4
  clear c4
  by_cases c5 : (ji3 : Int).toNat ≤ 70368744177664
  ·
   rw [if_pos c5] at H
   have ay := eq_true c5
   have az : decide ((ji3 : Int).toNat ≤ 70368744177664) = true := decide_eq_true c5
   clear c5
   obtain ⟨aA, ah⟩ : ∃ y_ : List Int, y_ = (List.replicate (ji3 : Int).toNat 0) := ⟨_, rfl⟩
   replace H : (nat_times.l0 k l1 aA l0 (l0.length : Int) 0) = some r := by first | (rw [ah]; with_reducible exact H) | (have H2_ := (Option.bind_some _ _).symm.trans H; rw [ah]; with_reducible exact H2_) | (have H2_ := (Option.bind_some _ _).symm.trans H; with_reducible exact H2_) | with_reducible exact H | (rw [ah]; exact H) | exact H
   have an := am ah
   clear ah
   have H' := am H
   clear H
   go_enter Try.func180, Try.ntmps180
   go_wp2_with (first | ((with_reducible refine gate_dst (N := 17) rfl ?_); refine Kd.R_make (Kd.int .u32) _ 48 rfl (N := 17) rfl 42 _ _ rfl ji3 rfl rfl Try.underlying42 (.int .u32 0) 4 info48 rfl (by decide) (by omega) 0 (ok := fun _ => True) (okp := fun _ => True) rfl (fun _ hk => hk) trivial (of_decide_eq_true (by first | (with_reducible assumption) | assumption)) (Nat.le_trans (Nat.mul_le_mul_right _ (of_decide_eq_true (by first | (with_reducible assumption) | assumption) : ji3.toNat ≤ 70368744177664)) (by omega)) (Below.refl _ _) (Nat.le_refl _) ?_; intro aB w6 aC hb hg_ hnew_; clear hg_ hnew_; (first | rw [← an.out] at aC | (simp only [Int.reduceToNat] at aC; rw [← an.out] at aC)); have aD := am (Kd.R_lower (Kd.R_newM (M := fun k_ => (w.heap.size ≤ k_)) aC (below_size (bu HB.out)) (fun k_ h_ => h_)) (below_size (bu HB.out))); replace HB := be HB hb; clear hb aC))
   go_loopg [20] k (fun kq bk w' => ∃ (ak : List Int) (aa : Int), bk = .int .i64 aa ∧ Aside0 (nat_times.l0 kq l1 ak l0 (l0.length : Int) aa = some r) ∧ Aside0 (kq ≤ k) ∧ Aside0 (Kd.R (Kd.int .u32) 48 w' w.heap.size (fun k_ => (w.heap.size ≤ k_)) aB ak) ∧ Aside0 (Below w.heap.size w w'))
   case atStart => exact ⟨(aA), (0), (by first | rfl | (simp; done) | (simp [*]; done)), H', ⟨Nat.le_refl _⟩, ⟨by (with_reducible repeat (first | apply Kd.R_alloc | apply Kd.R_drewN | apply Kd.R_drew)); exact Kd.R_mono aD.out (fun _ hk => hk.1)⟩, ⟨by repeat (first | (with_reducible first | exact HB.out | apply below_alloc | apply pw_below_drewN | apply below_drew1) | exact HB.out)⟩⟩
   case round =>
    clear H'
    try clear c1
    try clear p2
    try clear c4
    try clear aw
    try clear ax
    try clear c5
    try clear ay
    try clear az
    try clear p6
    obtain ⟨ak, aa, rfl, HA, HK1, ad, HB⟩ := hrel
    cases gk with
    | zero => exact absurd HA.out (by simp [nat_times.l0])
    | succ k1 =>
     have H := HA.out
     clear HA
     simp only [nat_times.l0] at H
     by_cases c8 : aa < (l0.length : Int)
     ·
      rw [if_pos c8] at H
      have aE : decide (aa < (l0.length : Int)) = true := decide_eq_true c8
      clear c8
      by_cases c9 : 0 ≤ aa
      ·
       rw [if_pos c9] at H
       have aY : decide (0 ≤ aa) = true := decide_eq_true c9
       clear c9
       by_cases aF : aa < (l0.length : Int)
       ·
        rw [if_pos aF] at H
        have aG : decide (aa < (l0.length : Int)) = true := decide_eq_true aF
        clear aF
        have H' := am H
        clear H
        have p341 : 0 ≤ (aa : Int) := of_decide_eq_true (by first | (with_reducible assumption) | assumption)
        have q341 : aa < (l0.length : Int) := of_decide_eq_true (by first | (with_reducible assumption) | assumption)
        obtain ⟨ad341, e341, af⟩ := Kd.at_int bi.out aa p341 q341
        cases e341
        replace af := (HB.out.cell (World.block_lt_of_cell? w _ af)).trans af
        replace p341 := eq_true p341
        replace q341 := eq_true q341
        go_wp2
        go_loopg [8, 27] k1 (fun kq v8 bl w' => ∃ (ac : List Int) (ae : Int) (ab : Int), v8 = .int .u64 ae ∧ bl = .int .i64 ab ∧ Aside0 (nat_times.l1 kq l1 ac aa (rd l0 aa) ae l0 (l0.length : Int) aa l1 (l1.length : Int) ab = some r) ∧ Aside0 (kq ≤ k1) ∧ Aside0 (Kd.R (Kd.int .u32) 48 w' w.heap.size (fun k_ => (w.heap.size ≤ k_)) aB ac) ∧ Aside0 (Below w.heap.size w w'))
        case atStart => exact ⟨(ak), (0), (0), (by first | rfl | (simp; done) | (simp [*]; done)), (by first | rfl | (simp; done) | (simp [*]; done)), H', ⟨Nat.le_refl _⟩, ⟨by (with_reducible repeat (first | apply Kd.R_alloc | apply Kd.R_drewN | apply Kd.R_drew)); exact ad.out⟩, ⟨by repeat (first | (with_reducible first | exact HB.out | apply below_alloc | apply pw_below_drewN | apply below_drew1) | exact HB.out)⟩⟩
        case round =>
         clear H'
         try clear c1
         try clear p2
         try clear p3
         try clear q3
         try clear hx3
         try clear c4
         try clear aw
         try clear ax
         try clear c5
         try clear ay
         try clear az
         try clear p6
         try clear c8
         try clear aE
         try clear c9
         try clear aY
         try clear aF
         try clear aG
         try clear af
         try clear p2
         try clear p341
         try clear p6
         try clear q341
         obtain ⟨ac, ae, ab, rfl, rfl, HA, HK2, ad, HB⟩ := hrel
         cases gk with
         | zero => exact absurd HA.out (by simp [nat_times.l1])
         | succ k2 =>
          have H := HA.out
          clear HA
          simp only [nat_times.l1] at H
          by_cases av : ab < (l1.length : Int)
          ·
           rw [if_pos av] at H
           have aH : decide (ab < (l1.length : Int)) = true := decide_eq_true av
           clear av
           by_cases aS : 0 ≤ ab
           ·
            rw [if_pos aS] at H
            have a9 : decide (0 ≤ ab) = true := decide_eq_true aS
            clear aS
            by_cases aT : ab < (l1.length : Int)
            ·
             rw [if_pos aT] at H
             have ba : decide (ab < (l1.length : Int)) = true := decide_eq_true aT
             clear aT
             obtain ⟨ji14, hji14⟩ : ∃ j_ : Int, (wrap64 (aa + ab)) = j_ := ⟨_, rfl⟩
             replace H : (if 0 ≤ (ji14) then (if (ji14) < (ac.length : Int) then (nat_times.l1 k2 l1 (ac.set ((ji14) : Int).toNat ((IntKind.u64.wrap ((IntKind.u64.wrap ((IntKind.u64.wrap ((IntKind.u64.wrap ((rd l0 aa))) * (IntKind.u64.wrap (rd l1 ab)))) + (IntKind.u64.wrap (rd ac (ji14))))) + ae)) % 4294967296)) aa (rd l0 aa) ((IntKind.u64.wrap ((IntKind.u64.wrap ((IntKind.u64.wrap ((IntKind.u64.wrap ((rd l0 aa))) * (IntKind.u64.wrap (rd l1 ab)))) + (IntKind.u64.wrap (rd ac (ji14))))) + ae)) / 4294967296) l0 (l0.length : Int) aa l1 (l1.length : Int) (wrap64 (ab + 1))) else (none)) else (none)) = some r := by first | (rw [hji14] at H; exact H) | (simp only [hji14] at H ⊢; exact H)
             have hji14w : (IntKind.i64.wrap (aa + ab)) = ji14 := (i64_w _).trans hji14
             by_cases aU : 0 ≤ (ji14)
             ·
              rw [if_pos aU] at H
              have bb : decide (0 ≤ (ji14)) = true := decide_eq_true aU
              clear aU
              by_cases aV : (ji14) < (ac.length : Int)
              ·
               rw [if_pos aV] at H
               have bd : decide ((ji14) < (ac.length : Int)) = true := decide_eq_true aV
               clear aV
               obtain ⟨ao, ai⟩ : ∃ y_ : List Int, y_ = (ac.set ((ji14) : Int).toNat ((IntKind.u64.wrap ((IntKind.u64.wrap ((IntKind.u64.wrap ((IntKind.u64.wrap ((rd l0 aa))) * (IntKind.u64.wrap (rd l1 ab)))) + (IntKind.u64.wrap (rd ac (ji14))))) + ae)) % 4294967296)) := ⟨_, rfl⟩
               replace H : (nat_times.l1 k2 l1 ao aa (rd l0 aa) ((IntKind.u64.wrap ((IntKind.u64.wrap ((IntKind.u64.wrap ((IntKind.u64.wrap ((rd l0 aa))) * (IntKind.u64.wrap (rd l1 ab)))) + (IntKind.u64.wrap (rd ac (ji14))))) + ae)) / 4294967296) l0 (l0.length : Int) aa l1 (l1.length : Int) (wrap64 (ab + 1))) = some r := by first | (rw [ai]; with_reducible exact H) | (have H2_ := (Option.bind_some _ _).symm.trans H; rw [ai]; with_reducible exact H2_) | (have H2_ := (Option.bind_some _ _).symm.trans H; with_reducible exact H2_) | with_reducible exact H | (rw [ai]; exact H) | exact H
               have aI := am ai
               clear ai
               have H' := am H
               clear H
               have p342 : 0 ≤ (ab : Int) := of_decide_eq_true (by first | (with_reducible assumption) | assumption)
               have q342 : ab < (l1.length : Int) := of_decide_eq_true (by first | (with_reducible assumption) | assumption)
               obtain ⟨ad342, e342, ag⟩ := Kd.at_int bj.out ab p342 q342
               cases e342
               replace ag := (HB.out.cell (World.block_lt_of_cell? w _ ag)).trans ag
               replace p342 := eq_true p342
               replace q342 := eq_true q342
               obtain ⟨bm, aZ, a0⟩ := Kd.R_slice ad.out
               subst a0
               have p343 : 0 ≤ ((ji14) : Int) := of_decide_eq_true (by first | (with_reducible assumption) | assumption)
               have q343 : (ji14) < (ac.length : Int) := of_decide_eq_true (by first | (with_reducible assumption) | assumption)
               obtain ⟨ad343, e343, al⟩ := Kd.at_int (Kd.R_reads' ad.out).2.2 (ji14) p343 q343
               cases e343
               replace p343 := eq_true p343
               replace q343 := eq_true q343
               have p17 : 0 ≤ ((ji14) : Int) := of_decide_eq_true (by first | (with_reducible assumption) | assumption)
               have q17 : ((ji14) : Int) < ((ac.length : Int) : Int) := of_decide_eq_true (by first | (with_reducible assumption) | assumption)
               obtain ⟨go17, bn, aJ, aK, gl17, cl17, HG17⟩ := Kd.R_form ad.out (by omega)
               (first | cases aJ | (injection aJ with ea_ en_ ec_; (first | subst ea_ | (injection ea_ with ea_; subst ea_)); subst ec_; clear en_))
               have GB17 := am aK
               have GG17 := am HG17
               clear aK gl17 HG17
               (first | simp only [add_plain] at al | skip)
               obtain ⟨a1, a2⟩ := Kd.R_celln 0 ad.out ((ji14) : Int) p17 q17
               replace p17 := eq_true p17
               replace q17 := eq_true q17
               have ap := Kd.R_putg ad.out ((ji14) : Int) ((IntKind.u64.wrap ((IntKind.u64.wrap ((IntKind.u64.wrap ((IntKind.u64.wrap ((rd l0 aa))) * (IntKind.u64.wrap (rd l1 ab)))) + (IntKind.u64.wrap (rd ac (ji14))))) + ae)) % 4294967296)
               go_wp2_with (first | ((with_reducible refine gate_store (t := 48) (p := 53) rfl ?_); refine store_event (t := 48) (p := 53) (v := ?vo_w20) (w1 := (wr.setCell ⟨go17, ((ji14) : Int).toNat, none⟩ (.int .u32 ((IntKind.u64.wrap ((IntKind.u64.wrap ((IntKind.u64.wrap ((IntKind.u64.wrap ((rd l0 aa))) * (IntKind.u64.wrap (rd l1 ab)))) + (IntKind.u64.wrap (rd ac (ji14))))) + ae)) % 4294967296)))) ?hg ?ho ?hn ?hr ?_; (case ho => rfl); (case hg => rfl); (case hn => rfl); (case hr => first | (go_simp; done) | (go_simp; rfl)); intro a3 hw; have hg : wr.grownBy a3 (some go17) := (by rw [hw]; exact ap.2); have hp_ : Kd.R (Kd.int .u32) 48 a3 w.heap.size (fun k_ => (w.heap.size ≤ k_)) (.slice (some ⟨go17, 0, none⟩) ac.length aZ) ao := (by rw [hw, aI.out]; exact ap.1); clear ap; replace ad := am (hp_); replace HB := am ((by rw [hw]; exact below_set (HB.out) GB17.out : Below w.heap.size w a3)); clear hg hw hp_))
               go_roundg k2
               case measure => have := HK1.out; have := HK2.out; omega
               case rel => exact ⟨(ao), ((IntKind.u64.wrap ((IntKind.u64.wrap ((IntKind.u64.wrap ((IntKind.u64.wrap ((rd l0 aa))) * (IntKind.u64.wrap (rd l1 ab)))) + (IntKind.u64.wrap (rd ac (ji14))))) + ae)) / 4294967296), (wrap64 (ab + 1)), (by first | rfl | (simp; done) | (simp only [← hji14] <;> (first | rfl | simp)) | (simp [*]; done)), (by first | rfl | (simp; done) | (simp [*]; done)), H', ⟨by have := HK1.out; have := HK2.out; omega⟩, ⟨by (with_reducible repeat (first | apply Kd.R_alloc | apply Kd.R_drewN | apply Kd.R_drew)); exact ad.out⟩, ⟨by repeat (first | (with_reducible first | exact HB.out | apply below_alloc | apply pw_below_drewN | apply below_drew1) | exact HB.out)⟩⟩
              ·
               rw [if_neg aV] at H
               exact absurd H (by simp)
             ·
              rw [if_neg aU] at H
              exact absurd H (by simp)
            ·
             rw [if_neg aT] at H
             exact absurd H (by simp)
           ·
            rw [if_neg aS] at H
            exact absurd H (by simp)
          ·
           rw [if_neg av] at H
           have aH : decide (ab < (l1.length : Int)) = false := decide_eq_false av
           clear av
           obtain ⟨ji21, hji21⟩ : ∃ j_ : Int, (wrap64 (aa + (l1.length : Int))) = j_ := ⟨_, rfl⟩
           replace H : (if 0 ≤ (ji21) then (if (ji21) < (ac.length : Int) then (nat_times.l0 k2 l1 (ac.set ((ji21) : Int).toNat ((ae) % 4294967296)) l0 (l0.length : Int) (wrap64 (aa + 1))) else (none)) else (none)) = some r := by first | (rw [hji21] at H; exact H) | (simp only [hji21] at H ⊢; exact H)
           have hji21w : (IntKind.i64.wrap (aa + (l1.length : Int))) = ji21 := (i64_w _).trans hji21
           by_cases aW : 0 ≤ (ji21)
           ·
            rw [if_pos aW] at H
            have bf : decide (0 ≤ (ji21)) = true := decide_eq_true aW
            clear aW
            by_cases aX : (ji21) < (ac.length : Int)
            ·
             rw [if_pos aX] at H
             have bg : decide ((ji21) < (ac.length : Int)) = true := decide_eq_true aX
             clear aX
             obtain ⟨aq, aj⟩ : ∃ y_ : List Int, y_ = (ac.set ((ji21) : Int).toNat ((ae) % 4294967296)) := ⟨_, rfl⟩
             replace H : (nat_times.l0 k2 l1 aq l0 (l0.length : Int) (wrap64 (aa + 1))) = some r := by first | (rw [aj]; with_reducible exact H) | (have H2_ := (Option.bind_some _ _).symm.trans H; rw [aj]; with_reducible exact H2_) | (have H2_ := (Option.bind_some _ _).symm.trans H; with_reducible exact H2_) | with_reducible exact H | (rw [aj]; exact H) | exact H
             have aL := am aj
             clear aj
             have H' := am H
             clear H
             have p24 : 0 ≤ ((ji21) : Int) := of_decide_eq_true (by first | (with_reducible assumption) | assumption)
             have q24 : ((ji21) : Int) < ((ac.length : Int) : Int) := of_decide_eq_true (by first | (with_reducible assumption) | assumption)
             obtain ⟨go24, a4, aM, aN, gl24, cl24, HG24⟩ := Kd.R_form ad.out (by omega)
             (first | cases aM | (injection aM with ea_ en_ ec_; (first | subst ea_ | (injection ea_ with ea_; subst ea_)); subst ec_; clear en_))
             have GB24 := am aN
             have GG24 := am HG24
             clear aN gl24 HG24
             obtain ⟨a5, a6⟩ := Kd.R_celln 0 ad.out ((ji21) : Int) p24 q24
             replace p24 := eq_true p24
             replace q24 := eq_true q24
             have au := Kd.R_putg ad.out ((ji21) : Int) ((ae) % 4294967296)
             go_wp2_with (first | ((with_reducible refine gate_store (t := 48) (p := 64) rfl ?_); refine store_event (t := 48) (p := 64) (v := ?vo_w26) (w1 := (wr.setCell ⟨go24, ((ji21) : Int).toNat, none⟩ (.int .u32 ((ae) % 4294967296)))) ?hg ?ho ?hn ?hr ?_; (case ho => rfl); (case hg => rfl); (case hn => rfl); (case hr => first | (go_simp; done) | (go_simp; rfl)); intro a7 hw; have hg : wr.grownBy a7 (some go24) := (by rw [hw]; exact au.2); have hp_ : Kd.R (Kd.int .u32) 48 a7 w.heap.size (fun k_ => (w.heap.size ≤ k_)) (.slice (some ⟨go24, 0, none⟩) ac.length a4) aq := (by rw [hw, aL.out]; exact au.1); clear au; replace ad := am (hp_); replace HB := am ((by rw [hw]; exact below_set (HB.out) GB24.out : Below w.heap.size w a7)); clear hg hw hp_))
             go_roundg k2
             case measure => have := HK1.out; have := HK2.out; omega
             case rel => exact ⟨(aq), (wrap64 (aa + 1)), (by first | rfl | (simp; done) | (simp [*]; done)), H', ⟨by have := HK1.out; have := HK2.out; omega⟩, ⟨by (with_reducible repeat (first | apply Kd.R_alloc | apply Kd.R_drewN | apply Kd.R_drew)); exact ad.out⟩, ⟨by repeat (first | (with_reducible first | exact HB.out | apply below_alloc | apply pw_below_drewN | apply below_drew1) | exact HB.out)⟩⟩
            ·
             rw [if_neg aX] at H
             exact absurd H (by simp)
           ·
            rw [if_neg aW] at H
            exact absurd H (by simp)
       ·
        rw [if_neg aF] at H
        exact absurd H (by simp)
      ·
       rw [if_neg c9] at H
       exact absurd H (by simp)
     ·
      rw [if_neg c8] at H
      have aE : decide (aa < (l0.length : Int)) = false := decide_eq_false c8
      clear c8
      obtain ⟨aO, bo, H⟩ := bs H
      replace H : (some aO) = some r := H
      obtain rfl := Option.some.inj H
      obtain ⟨aP, aQ, a8⟩ := Kd.R_slice ad.out
      subst a8
      go_wp2_with (first | ((with_reducible refine gate_callee (f := 179) rfl ?_); refine goesL_ (some 67) rfl rfl Try.func179 (by kernel_rfl) rfl #[.slice aP ak.length aQ] rfl lu ?_; (with_reducible refine (nat_short.calls k1 (fun k_ => some k_ = (.slice aP ak.length aQ : Value).ownBlock) _ _ ak aO _ ?side1 bo.out).mono ?_); (case side1 => exact Kd.R_V (Kd.R_tight rfl (ad.out))); rintro e bv ⟨bp, rfl, bh, hb⟩; refine ⟨_, rfl, ?_⟩; have aR := am (Kd.V_lower (Kd.V_mono (ok' := fun k_ => (w.heap.size ≤ k_)) bh (fun k_ hk_ => Or.elim hk_ (fun hs_ => ((ad.out).1 k_ hs_.symm)) (fun hn_ => (Nat.le_trans (below_size (bu HB.out)) hn_)))) (below_size (bu HB.out))); replace ad := am (Kd.R_below (by (with_reducible repeat (first | apply Kd.R_alloc | apply Kd.R_drewN | apply Kd.R_drew)); exact ad.out) hb); replace HB := be HB hb; (try clear hb); (try clear bh)))
      go_ret
      exact ⟨_, by first | rfl | (simp [errW_none, errW_some] <;> rfl) | (simp only [← hji3]; first | rfl | (simp [errW_none, errW_some] <;> rfl)) | (simp [*, errW_none, errW_some] <;> rfl), by (with_reducible repeat (first | apply Kd.V_alloc | apply Kd.V_drewN | apply Kd.V_drew)); exact aR.out, by repeat (first | (with_reducible first | exact HB.out | apply below_alloc | apply pw_below_drewN | apply below_drew1) | exact HB.out)⟩
  ·
   rw [if_neg c5] at H
   exact absurd H (by simp)
 ·
  rw [if_neg c4] at H
  exact absurd H (by simp)
def nat_Mul.l0 : Nat → List Int → List (List Int) → Int → Int → Option (List Int)
 | 0, _, _, _, _ => none
 | k + 1, x3, x7, x8, x9 => if x9 < x8 then (if 0 ≤ x9 then (if x9 < (x7.length : Int) then ((nat_short.f k (rd_L4 x7 x9)).bind fun t350 => ((nat_times.f k x3 t350).bind fun t353 => (nat_Mul.l0 k t353 x7 x8 (wrap64 (x9 + 1))))) else (none)) else (none)) else ((nat_Trim.f k x3).bind fun t356 => (some t356))
def nat_Mul.f (k : Nat) (l0 : List (List Int)) : Option (List Int) := nat_Mul.l0 k (([1] : List Int)) l0 (l0.length : Int) 0
theorem nat_Mul.calls (k : Nat) (A0 : Option Addr) (c0 : Nat) (l0 : List (List Int)) (r : List Int) (w : World) (hr0 : Kd.C (Kd.slice 48 (Kd.int .u32)) w A0 l0.length l0) (hc0 : l0.length ≤ c0) (h : nat_Mul.f k l0 = some r) :
 Calls Try.prog 145 #[.slice A0 l0.length c0] w fun e w' => ∃ v0_ : Value, e = .returned (v0_) ∧ Kd.R (Kd.int .u32) 48 w' w.heap.size (fun _ => True) v0_ r ∧ Below w.heap.size w w' := by
 have aI := am hr0
 have aQ := am hc0
 clear hr0 hc0
 have HB := am (Below.refl w.heap.size w)
 have H : (nat_Mul.l0 k (([1] : List Int)) l0 (l0.length : Int) 0) = some r := h
 clear h
 obtain ⟨ax, af⟩ : ∃ y_ : List Int, y_ = (([1] : List Int)) := ⟨_, rfl⟩
 rw [← af] at H
 have aj := am af
 clear af
 have H' := am H
 clear H
 go_enter Try.func145, Try.ntmps145
 go_wp2_with (first | ((with_reducible refine gate_dst (N := 6) rfl ?_); refine Kd.R_lit (Kd.int .u32) _ 48 ?hg (N := 6) ?hd (xs := ([1] : List Int)) (inner := [.int .u32 1]) (ok := fun _ => True) (okp := fun _ => True) ?hr ?hp (fun _ hk => hk) trivial (Below.refl _ _) (Nat.le_refl _) (by simp) ?_; (case hd => rfl); (case hg => rfl); (case hr => first | (go_simp; done) | (go_simp; rfl)); (case hp => exact (Reps.one (show Kd.M (Kd.int .u32) _ _ _ 1 [.int .u32 1] from rfl) (Reps.none _ _))); intro aJ w2 ao hb hg_ hnew_; clear hg_ hnew_; (first | rw [← aj.out] at ao | (simp only [Int.reduceToNat] at ao; rw [← aj.out] at ao)); have ap := am (Kd.R_lower ao (below_size (bu HB.out))); replace HB := be HB hb; clear hb ao))
 go_loopg [3, 9] k (fun kq v3 v9 w' => ∃ (ae : List Int) (aa : Int), v9 = .int .i64 aa ∧ Aside0 (nat_Mul.l0 kq ae l0 (l0.length : Int) aa = some r) ∧ Aside0 (kq ≤ k) ∧ Aside0 (Kd.V (Kd.int .u32) 48 w' w.heap.size (fun _ => True) v3 ae) ∧ Aside0 (Below w.heap.size w w'))
 case atStart => exact ⟨(ax), (0), (by first | rfl | (simp; done) | (simp [*]; done)), H', ⟨Nat.le_refl _⟩, ⟨Kd.R_V (by (with_reducible repeat (first | apply Kd.R_alloc | apply Kd.R_drewN | apply Kd.R_drew)); exact ap.out)⟩, ⟨by repeat (first | (with_reducible first | exact HB.out | apply below_alloc | apply pw_below_drewN | apply below_drew1) | exact HB.out)⟩⟩
 case round =>
  clear H'
  try clear c1
  try clear p2
  obtain ⟨ae, aa, rfl, HA, HK1, ab, HB⟩ := hrel
  cases gk with
  | zero => exact absurd HA.out (by simp [nat_Mul.l0])
  | succ k1 =>
   have H := HA.out
   clear HA
   simp only [nat_Mul.l0] at H
   by_cases c4 : aa < (l0.length : Int)
   ·
    rw [if_pos c4] at H
    have ay : decide (aa < (l0.length : Int)) = true := decide_eq_true c4
    clear c4
    by_cases c5 : 0 ≤ aa
    ·
     rw [if_pos c5] at H
     have aK : decide (0 ≤ aa) = true := decide_eq_true c5
     clear c5
     by_cases c6 : aa < (l0.length : Int)
     ·
      rw [if_pos c6] at H
      have aL : decide (aa < (l0.length : Int)) = true := decide_eq_true c6
      clear c6
      obtain ⟨ak, A7, H⟩ := bs H
      (try dsimp -simprocs only at H)
      obtain ⟨aq, A8, H⟩ := bs H
      (try dsimp -simprocs only at H)
      have H' := am H
      clear H
      have p349 : 0 ≤ (aa : Int) := of_decide_eq_true (by first | (with_reducible assumption) | assumption)
      have q349 : aa < (l0.length : Int) := of_decide_eq_true (by first | (with_reducible assumption) | assumption)
      obtain ⟨ad349, al, an, e349, ac, hl349_0, hi349_0⟩ := at_L4 aI.out aa p349 q349
      cases e349
      replace ac := (HB.out.cell (World.block_lt_of_cell? w _ ac)).trans ac
      have ag := am hi349_0
      have ah := am hl349_0
      clear hi349_0 hl349_0
      replace p349 := eq_true p349
      replace q349 := eq_true q349
      go_wp2_with (first | ((with_reducible refine gate_callee (f := 179) rfl ?_); refine goesL_ (some 15) rfl rfl Try.func179 (by kernel_rfl) rfl #[.slice al (rd_L4 l0 aa).length an] rfl lu ?_; (with_reducible refine (nat_short.calls k1 (fun k_ => k_ < w.heap.size) _ _ (rd_L4 l0 aa) ak _ ?side1 A7.out).mono ?_); (case side1 => exact Kd.V_mk ah.out (Kd.F_below (Kd.C_F (Kd.heap_int .u32) ag.out) (bu HB.out))); rintro e w9 ⟨aM, rfl, ai, hb⟩; refine ⟨_, rfl, ?_⟩; replace ab := kv ab hb; have ad := am (Kd.V_lower (Kd.V_mono (ok' := fun k_ => True) ai (fun k_ hk_ => trivial)) (below_size (bu HB.out))); replace HB := be HB hb; (try clear hb); (try clear ai); obtain ⟨az, aA, aB⟩ := Kd.V_slice ab.out; subst aB; obtain ⟨aC, aD, aE⟩ := Kd.V_slice ad.out; subst aE) | ((with_reducible refine gate_callee (f := 180) rfl ?_); refine goesL_ (some 16) rfl rfl Try.func180 (by kernel_rfl) rfl #[.slice az ae.length aA, .slice aC ak.length aD] rfl lu ?_; (with_reducible refine (nat_times.calls k1 _ _ ae _ _ ak aq _ ?side1 ?side2 ?side3 ?side4 A8.out).mono ?_); (case side1 => exact cu (Kd.V_reads' ab.out).2.2); (case side2 => exact (Kd.V_reads' ab.out).2.1); (case side3 => exact cu (Kd.V_reads' ad.out).2.2); (case side4 => exact (Kd.V_reads' ad.out).2.1); rintro e aR ⟨aN, rfl, ai, hb⟩; refine ⟨_, rfl, ?_⟩; replace ab := kv ab hb; replace ad := kv ad hb; have au := am (Kd.V_lower (Kd.V_mono (ok' := fun k_ => True) ai (fun k_ hk_ => trivial)) (below_size (bu HB.out))); replace HB := be HB hb; (try clear hb); (try clear ai)))
      go_roundg k1
      case measure => have := HK1.out; omega
      case rel => exact ⟨(aq), (wrap64 (aa + 1)), (by first | rfl | (simp; done) | (simp [*]; done)), H', ⟨by have := HK1.out; omega⟩, ⟨by (with_reducible repeat (first | apply Kd.V_alloc | apply Kd.V_drewN | apply Kd.V_drew)); exact au.out⟩, ⟨by repeat (first | (with_reducible first | exact HB.out | apply below_alloc | apply pw_below_drewN | apply below_drew1) | exact HB.out)⟩⟩
     ·
      rw [if_neg c6] at H
      exact absurd H (by simp)
    ·
     rw [if_neg c5] at H
     exact absurd H (by simp)
   ·
    rw [if_neg c4] at H
    have ay : decide (aa < (l0.length : Int)) = false := decide_eq_false c4
    clear c4
    obtain ⟨av, aO, H⟩ := bs H
    replace H : (some av) = some r := H
    obtain rfl := Option.some.inj H
    obtain ⟨aF, aG, aH⟩ := Kd.V_slice ab.out
    subst aH
    go_wp2_with (first | ((with_reducible refine gate_callee (f := 177) rfl ?_); refine goesL_ (some 19) rfl rfl Try.func177 (by kernel_rfl) rfl #[.slice aF ae.length aG] rfl lu ?_; (with_reducible refine (nat_Trim.calls k1 _ _ ae av _ ?side1 ?side2 aO.out).mono ?_); (case side1 => exact cu (Kd.V_reads' ab.out).2.2); (case side2 => exact (Kd.V_reads' ab.out).2.1); rintro e aS ⟨aP, rfl, ai, hb⟩; refine ⟨_, rfl, ?_⟩; replace ab := am (Kd.V_elder' (vu ab.out) (Kd.R_base ai) hb); have aw := am (Kd.R_lower ai (below_size (bu HB.out))); replace HB := be HB hb; (try clear hb); (try clear ai)))
    go_ret
    exact ⟨_, by first | rfl | (simp [errW_none, errW_some] <;> rfl) | (simp [*, errW_none, errW_some] <;> rfl), by (with_reducible repeat (first | apply Kd.R_alloc | apply Kd.R_drewN | apply Kd.R_drew)); exact aw.out, by repeat (first | (with_reducible first | exact HB.out | apply below_alloc | apply pw_below_drewN | apply below_drew1) | exact HB.out)⟩
def bits_Len32.f (a0 : Int) : Option (Int) := if a0 ≥ 65536 then (if (a0 / 65536) ≥ 256 then (if 0 ≤ (((a0 / 65536) / 256) % 256) then (if (((a0 / 65536) / 256) % 256) < 256 then (some (wrap64 ((16 + 8) + (wrap64 (bt (⟨#[0, 1, 2, 2, 3, 3, 3, 3, 4, 4, 4, 4, 4, 4, 4, 4, 5, 5, 5, 5, 5, 5, 5, 5, 5, 5, 5, 5, 5, 5, 5, 5, 6, 6, 6, 6, 6, 6, 6, 6, 6, 6, 6, 6, 6, 6, 6, 6, 6, 6, 6, 6, 6, 6, 6, 6, 6, 6, 6, 6, 6, 6, 6, 6, 7, 7, 7, 7, 7, 7, 7, 7, 7, 7, 7, 7, 7, 7, 7, 7, 7, 7, 7, 7, 7, 7, 7, 7, 7, 7, 7, 7, 7, 7, 7, 7, 7, 7, 7, 7, 7, 7, 7, 7, 7, 7, 7, 7, 7, 7, 7, 7, 7, 7, 7, 7, 7, 7, 7, 7, 7, 7, 7, 7, 7, 7, 7, 7, 8, 8, 8, 8, 8, 8, 8, 8, 8, 8, 8, 8, 8, 8, 8, 8, 8, 8, 8, 8, 8, 8, 8, 8, 8, 8, 8, 8, 8, 8, 8, 8, 8, 8, 8, 8, 8, 8, 8, 8, 8, 8, 8, 8, 8, 8, 8, 8, 8, 8, 8, 8, 8, 8, 8, 8, 8, 8, 8, 8, 8, 8, 8, 8, 8, 8, 8, 8, 8, 8, 8, 8, 8, 8, 8, 8, 8, 8, 8, 8, 8, 8, 8, 8, 8, 8, 8, 8, 8, 8, 8, 8, 8, 8, 8, 8, 8, 8, 8, 8, 8, 8, 8, 8, 8, 8, 8, 8, 8, 8, 8, 8, 8, 8, 8, 8, 8, 8, 8, 8, 8, 8, 8, 8, 8, 8, 8, 8]⟩ : ByteArray) (((a0 / 65536) / 256) % 256)))))) else (none)) else (none)) else (if 0 ≤ ((a0 / 65536) % 256) then (if ((a0 / 65536) % 256) < 256 then (some (wrap64 (16 + (wrap64 (bt (⟨#[0, 1, 2, 2, 3, 3, 3, 3, 4, 4, 4, 4, 4, 4, 4, 4, 5, 5, 5, 5, 5, 5, 5, 5, 5, 5, 5, 5, 5, 5, 5, 5, 6, 6, 6, 6, 6, 6, 6, 6, 6, 6, 6, 6, 6, 6, 6, 6, 6, 6, 6, 6, 6, 6, 6, 6, 6, 6, 6, 6, 6, 6, 6, 6, 7, 7, 7, 7, 7, 7, 7, 7, 7, 7, 7, 7, 7, 7, 7, 7, 7, 7, 7, 7, 7, 7, 7, 7, 7, 7, 7, 7, 7, 7, 7, 7, 7, 7, 7, 7, 7, 7, 7, 7, 7, 7, 7, 7, 7, 7, 7, 7, 7, 7, 7, 7, 7, 7, 7, 7, 7, 7, 7, 7, 7, 7, 7, 7, 8, 8, 8, 8, 8, 8, 8, 8, 8, 8, 8, 8, 8, 8, 8, 8, 8, 8, 8, 8, 8, 8, 8, 8, 8, 8, 8, 8, 8, 8, 8, 8, 8, 8, 8, 8, 8, 8, 8, 8, 8, 8, 8, 8, 8, 8, 8, 8, 8, 8, 8, 8, 8, 8, 8, 8, 8, 8, 8, 8, 8, 8, 8, 8, 8, 8, 8, 8, 8, 8, 8, 8, 8, 8, 8, 8, 8, 8, 8, 8, 8, 8, 8, 8, 8, 8, 8, 8, 8, 8, 8, 8, 8, 8, 8, 8, 8, 8, 8, 8, 8, 8, 8, 8, 8, 8, 8, 8, 8, 8, 8, 8, 8, 8, 8, 8, 8, 8, 8, 8, 8, 8, 8, 8, 8, 8, 8, 8]⟩ : ByteArray) ((a0 / 65536) % 256)))))) else (none)) else (none))) else (if a0 ≥ 256 then (if 0 ≤ ((a0 / 256) % 256) then (if ((a0 / 256) % 256) < 256 then (some (wrap64 ((0 + 8) + (wrap64 (bt (⟨#[0, 1, 2, 2, 3, 3, 3, 3, 4, 4, 4, 4, 4, 4, 4, 4, 5, 5, 5, 5, 5, 5, 5, 5, 5, 5, 5, 5, 5, 5, 5, 5, 6, 6, 6, 6, 6, 6, 6, 6, 6, 6, 6, 6, 6, 6, 6, 6, 6, 6, 6, 6, 6, 6, 6, 6, 6, 6, 6, 6, 6, 6, 6, 6, 7, 7, 7, 7, 7, 7, 7, 7, 7, 7, 7, 7, 7, 7, 7, 7, 7, 7, 7, 7, 7, 7, 7, 7, 7, 7, 7, 7, 7, 7, 7, 7, 7, 7, 7, 7, 7, 7, 7, 7, 7, 7, 7, 7, 7, 7, 7, 7, 7, 7, 7, 7, 7, 7, 7, 7, 7, 7, 7, 7, 7, 7, 7, 7, 8, 8, 8, 8, 8, 8, 8, 8, 8, 8, 8, 8, 8, 8, 8, 8, 8, 8, 8, 8, 8, 8, 8, 8, 8, 8, 8, 8, 8, 8, 8, 8, 8, 8, 8, 8, 8, 8, 8, 8, 8, 8, 8, 8, 8, 8, 8, 8, 8, 8, 8, 8, 8, 8, 8, 8, 8, 8, 8, 8, 8, 8, 8, 8, 8, 8, 8, 8, 8, 8, 8, 8, 8, 8, 8, 8, 8, 8, 8, 8, 8, 8, 8, 8, 8, 8, 8, 8, 8, 8, 8, 8, 8, 8, 8, 8, 8, 8, 8, 8, 8, 8, 8, 8, 8, 8, 8, 8, 8, 8, 8, 8, 8, 8, 8, 8, 8, 8, 8, 8, 8, 8, 8, 8, 8, 8, 8, 8]⟩ : ByteArray) ((a0 / 256) % 256)))))) else (none)) else (none)) else (if 0 ≤ ((a0) % 256) then (if ((a0) % 256) < 256 then (some (wrap64 (0 + (wrap64 (bt (⟨#[0, 1, 2, 2, 3, 3, 3, 3, 4, 4, 4, 4, 4, 4, 4, 4, 5, 5, 5, 5, 5, 5, 5, 5, 5, 5, 5, 5, 5, 5, 5, 5, 6, 6, 6, 6, 6, 6, 6, 6, 6, 6, 6, 6, 6, 6, 6, 6, 6, 6, 6, 6, 6, 6, 6, 6, 6, 6, 6, 6, 6, 6, 6, 6, 7, 7, 7, 7, 7, 7, 7, 7, 7, 7, 7, 7, 7, 7, 7, 7, 7, 7, 7, 7, 7, 7, 7, 7, 7, 7, 7, 7, 7, 7, 7, 7, 7, 7, 7, 7, 7, 7, 7, 7, 7, 7, 7, 7, 7, 7, 7, 7, 7, 7, 7, 7, 7, 7, 7, 7, 7, 7, 7, 7, 7, 7, 7, 7, 8, 8, 8, 8, 8, 8, 8, 8, 8, 8, 8, 8, 8, 8, 8, 8, 8, 8, 8, 8, 8, 8, 8, 8, 8, 8, 8, 8, 8, 8, 8, 8, 8, 8, 8, 8, 8, 8, 8, 8, 8, 8, 8, 8, 8, 8, 8, 8, 8, 8, 8, 8, 8, 8, 8, 8, 8, 8, 8, 8, 8, 8, 8, 8, 8, 8, 8, 8, 8, 8, 8, 8, 8, 8, 8, 8, 8, 8, 8, 8, 8, 8, 8, 8, 8, 8, 8, 8, 8, 8, 8, 8, 8, 8, 8, 8, 8, 8, 8, 8, 8, 8, 8, 8, 8, 8, 8, 8, 8, 8, 8, 8, 8, 8, 8, 8, 8, 8, 8, 8, 8, 8, 8, 8, 8, 8, 8, 8]⟩ : ByteArray) ((a0) % 256)))))) else (none)) else (none)))
theorem bits_Len32.calls (a0 : Int) (r : Int) (w : World) (h : bits_Len32.f a0 = some r) :
 Calls Try.prog 181 #[.int .u32 a0] w fun e w' => e = .returned (.int .i64 r) ∧ Drawn0 w w' := by
 have H : (if a0 ≥ 65536 then (if (a0 / 65536) ≥ 256 then (if 0 ≤ (((a0 / 65536) / 256) % 256) then (if (((a0 / 65536) / 256) % 256) < 256 then (some (wrap64 ((16 + 8) + (wrap64 (bt (⟨#[0, 1, 2, 2, 3, 3, 3, 3, 4, 4, 4, 4, 4, 4, 4, 4, 5, 5, 5, 5, 5, 5, 5, 5, 5, 5, 5, 5, 5, 5, 5, 5, 6, 6, 6, 6, 6, 6, 6, 6, 6, 6, 6, 6, 6, 6, 6, 6, 6, 6, 6, 6, 6, 6, 6, 6, 6, 6, 6, 6, 6, 6, 6, 6, 7, 7, 7, 7, 7, 7, 7, 7, 7, 7, 7, 7, 7, 7, 7, 7, 7, 7, 7, 7, 7, 7, 7, 7, 7, 7, 7, 7, 7, 7, 7, 7, 7, 7, 7, 7, 7, 7, 7, 7, 7, 7, 7, 7, 7, 7, 7, 7, 7, 7, 7, 7, 7, 7, 7, 7, 7, 7, 7, 7, 7, 7, 7, 7, 8, 8, 8, 8, 8, 8, 8, 8, 8, 8, 8, 8, 8, 8, 8, 8, 8, 8, 8, 8, 8, 8, 8, 8, 8, 8, 8, 8, 8, 8, 8, 8, 8, 8, 8, 8, 8, 8, 8, 8, 8, 8, 8, 8, 8, 8, 8, 8, 8, 8, 8, 8, 8, 8, 8, 8, 8, 8, 8, 8, 8, 8, 8, 8, 8, 8, 8, 8, 8, 8, 8, 8, 8, 8, 8, 8, 8, 8, 8, 8, 8, 8, 8, 8, 8, 8, 8, 8, 8, 8, 8, 8, 8, 8, 8, 8, 8, 8, 8, 8, 8, 8, 8, 8, 8, 8, 8, 8, 8, 8, 8, 8, 8, 8, 8, 8, 8, 8, 8, 8, 8, 8, 8, 8, 8, 8, 8, 8]⟩ : ByteArray) (((a0 / 65536) / 256) % 256)))))) else (none)) else (none)) else (if 0 ≤ ((a0 / 65536) % 256) then (if ((a0 / 65536) % 256) < 256 then (some (wrap64 (16 + (wrap64 (bt (⟨#[0, 1, 2, 2, 3, 3, 3, 3, 4, 4, 4, 4, 4, 4, 4, 4, 5, 5, 5, 5, 5, 5, 5, 5, 5, 5, 5, 5, 5, 5, 5, 5, 6, 6, 6, 6, 6, 6, 6, 6, 6, 6, 6, 6, 6, 6, 6, 6, 6, 6, 6, 6, 6, 6, 6, 6, 6, 6, 6, 6, 6, 6, 6, 6, 7, 7, 7, 7, 7, 7, 7, 7, 7, 7, 7, 7, 7, 7, 7, 7, 7, 7, 7, 7, 7, 7, 7, 7, 7, 7, 7, 7, 7, 7, 7, 7, 7, 7, 7, 7, 7, 7, 7, 7, 7, 7, 7, 7, 7, 7, 7, 7, 7, 7, 7, 7, 7, 7, 7, 7, 7, 7, 7, 7, 7, 7, 7, 7, 8, 8, 8, 8, 8, 8, 8, 8, 8, 8, 8, 8, 8, 8, 8, 8, 8, 8, 8, 8, 8, 8, 8, 8, 8, 8, 8, 8, 8, 8, 8, 8, 8, 8, 8, 8, 8, 8, 8, 8, 8, 8, 8, 8, 8, 8, 8, 8, 8, 8, 8, 8, 8, 8, 8, 8, 8, 8, 8, 8, 8, 8, 8, 8, 8, 8, 8, 8, 8, 8, 8, 8, 8, 8, 8, 8, 8, 8, 8, 8, 8, 8, 8, 8, 8, 8, 8, 8, 8, 8, 8, 8, 8, 8, 8, 8, 8, 8, 8, 8, 8, 8, 8, 8, 8, 8, 8, 8, 8, 8, 8, 8, 8, 8, 8, 8, 8, 8, 8, 8, 8, 8, 8, 8, 8, 8, 8, 8]⟩ : ByteArray) ((a0 / 65536) % 256)))))) else (none)) else (none))) else (if a0 ≥ 256 then (if 0 ≤ ((a0 / 256) % 256) then (if ((a0 / 256) % 256) < 256 then (some (wrap64 ((0 + 8) + (wrap64 (bt (⟨#[0, 1, 2, 2, 3, 3, 3, 3, 4, 4, 4, 4, 4, 4, 4, 4, 5, 5, 5, 5, 5, 5, 5, 5, 5, 5, 5, 5, 5, 5, 5, 5, 6, 6, 6, 6, 6, 6, 6, 6, 6, 6, 6, 6, 6, 6, 6, 6, 6, 6, 6, 6, 6, 6, 6, 6, 6, 6, 6, 6, 6, 6, 6, 6, 7, 7, 7, 7, 7, 7, 7, 7, 7, 7, 7, 7, 7, 7, 7, 7, 7, 7, 7, 7, 7, 7, 7, 7, 7, 7, 7, 7, 7, 7, 7, 7, 7, 7, 7, 7, 7, 7, 7, 7, 7, 7, 7, 7, 7, 7, 7, 7, 7, 7, 7, 7, 7, 7, 7, 7, 7, 7, 7, 7, 7, 7, 7, 7, 8, 8, 8, 8, 8, 8, 8, 8, 8, 8, 8, 8, 8, 8, 8, 8, 8, 8, 8, 8, 8, 8, 8, 8, 8, 8, 8, 8, 8, 8, 8, 8, 8, 8, 8, 8, 8, 8, 8, 8, 8, 8, 8, 8, 8, 8, 8, 8, 8, 8, 8, 8, 8, 8, 8, 8, 8, 8, 8, 8, 8, 8, 8, 8, 8, 8, 8, 8, 8, 8, 8, 8, 8, 8, 8, 8, 8, 8, 8, 8, 8, 8, 8, 8, 8, 8, 8, 8, 8, 8, 8, 8, 8, 8, 8, 8, 8, 8, 8, 8, 8, 8, 8, 8, 8, 8, 8, 8, 8, 8, 8, 8, 8, 8, 8, 8, 8, 8, 8, 8, 8, 8, 8, 8, 8, 8, 8, 8]⟩ : ByteArray) ((a0 / 256) % 256)))))) else (none)) else (none)) else (if 0 ≤ ((a0) % 256) then (if ((a0) % 256) < 256 then (some (wrap64 (0 + (wrap64 (bt (⟨#[0, 1, 2, 2, 3, 3, 3, 3, 4, 4, 4, 4, 4, 4, 4, 4, 5, 5, 5, 5, 5, 5, 5, 5, 5, 5, 5, 5, 5, 5, 5, 5, 6, 6, 6, 6, 6, 6, 6, 6, 6, 6, 6, 6, 6, 6, 6, 6, 6, 6, 6, 6, 6, 6, 6, 6, 6, 6, 6, 6, 6, 6, 6, 6, 7, 7, 7, 7, 7, 7, 7, 7, 7, 7, 7, 7, 7, 7, 7, 7, 7, 7, 7, 7, 7, 7, 7, 7, 7, 7, 7, 7, 7, 7, 7, 7, 7, 7, 7, 7, 7, 7, 7, 7, 7, 7, 7, 7, 7, 7, 7, 7, 7, 7, 7, 7, 7, 7, 7, 7, 7, 7, 7, 7, 7, 7, 7, 7, 8, 8, 8, 8, 8, 8, 8, 8, 8, 8, 8, 8, 8, 8, 8, 8, 8, 8, 8, 8, 8, 8, 8, 8, 8, 8, 8, 8, 8, 8, 8, 8, 8, 8, 8, 8, 8, 8, 8, 8, 8, 8, 8, 8, 8, 8, 8, 8, 8, 8, 8, 8, 8, 8, 8, 8, 8, 8, 8, 8, 8, 8, 8, 8, 8, 8, 8, 8, 8, 8, 8, 8, 8, 8, 8, 8, 8, 8, 8, 8, 8, 8, 8, 8, 8, 8, 8, 8, 8, 8, 8, 8, 8, 8, 8, 8, 8, 8, 8, 8, 8, 8, 8, 8, 8, 8, 8, 8, 8, 8, 8, 8, 8, 8, 8, 8, 8, 8, 8, 8, 8, 8, 8, 8, 8, 8, 8, 8]⟩ : ByteArray) ((a0) % 256)))))) else (none)) else (none)))) = some r := h
 clear h
 by_cases c2 : a0 ≥ 65536
 ·
  rw [if_pos c2] at H
  have ah : decide (65536 ≤ a0) = true := decide_eq_true c2
  clear c2
  by_cases c3 : (a0 / 65536) ≥ 256
  ·
   rw [if_pos c3] at H
   have ai : decide (256 ≤ (a0 / 65536)) = true := decide_eq_true c3
   clear c3
   obtain ⟨ji4, hji4⟩ : ∃ j_ : Int, (((a0 / 65536) / 256) % 256) = j_ := ⟨_, rfl⟩
   replace H : (if 0 ≤ (ji4) then (if (ji4) < 256 then (some (wrap64 ((16 + 8) + (wrap64 (bt (⟨#[0, 1, 2, 2, 3, 3, 3, 3, 4, 4, 4, 4, 4, 4, 4, 4, 5, 5, 5, 5, 5, 5, 5, 5, 5, 5, 5, 5, 5, 5, 5, 5, 6, 6, 6, 6, 6, 6, 6, 6, 6, 6, 6, 6, 6, 6, 6, 6, 6, 6, 6, 6, 6, 6, 6, 6, 6, 6, 6, 6, 6, 6, 6, 6, 7, 7, 7, 7, 7, 7, 7, 7, 7, 7, 7, 7, 7, 7, 7, 7, 7, 7, 7, 7, 7, 7, 7, 7, 7, 7, 7, 7, 7, 7, 7, 7, 7, 7, 7, 7, 7, 7, 7, 7, 7, 7, 7, 7, 7, 7, 7, 7, 7, 7, 7, 7, 7, 7, 7, 7, 7, 7, 7, 7, 7, 7, 7, 7, 8, 8, 8, 8, 8, 8, 8, 8, 8, 8, 8, 8, 8, 8, 8, 8, 8, 8, 8, 8, 8, 8, 8, 8, 8, 8, 8, 8, 8, 8, 8, 8, 8, 8, 8, 8, 8, 8, 8, 8, 8, 8, 8, 8, 8, 8, 8, 8, 8, 8, 8, 8, 8, 8, 8, 8, 8, 8, 8, 8, 8, 8, 8, 8, 8, 8, 8, 8, 8, 8, 8, 8, 8, 8, 8, 8, 8, 8, 8, 8, 8, 8, 8, 8, 8, 8, 8, 8, 8, 8, 8, 8, 8, 8, 8, 8, 8, 8, 8, 8, 8, 8, 8, 8, 8, 8, 8, 8, 8, 8, 8, 8, 8, 8, 8, 8, 8, 8, 8, 8, 8, 8, 8, 8, 8, 8, 8, 8]⟩ : ByteArray) (ji4)))))) else (none)) else (none)) = some r := by first | (rw [hji4] at H; exact H) | (simp only [hji4] at H ⊢; exact H)
   by_cases c5 : 0 ≤ (ji4)
   ·
    rw [if_pos c5] at H
    have ao : decide (0 ≤ (ji4)) = true := decide_eq_true c5
    clear c5
    by_cases c6 : (ji4) < 256
    ·
     rw [if_pos c6] at H
     have ap : decide ((ji4) < 256) = true := decide_eq_true c6
     clear c6
     obtain rfl := Option.some.inj H
     have p7 : 0 ≤ ((ji4) : Int) := of_decide_eq_true (by first | (with_reducible assumption) | assumption)
     have q7 : (ji4) < (256 : Int) := of_decide_eq_true (by first | (with_reducible assumption) | assumption)
     have ax := bt_at (⟨#[0, 1, 2, 2, 3, 3, 3, 3, 4, 4, 4, 4, 4, 4, 4, 4, 5, 5, 5, 5, 5, 5, 5, 5, 5, 5, 5, 5, 5, 5, 5, 5, 6, 6, 6, 6, 6, 6, 6, 6, 6, 6, 6, 6, 6, 6, 6, 6, 6, 6, 6, 6, 6, 6, 6, 6, 6, 6, 6, 6, 6, 6, 6, 6, 7, 7, 7, 7, 7, 7, 7, 7, 7, 7, 7, 7, 7, 7, 7, 7, 7, 7, 7, 7, 7, 7, 7, 7, 7, 7, 7, 7, 7, 7, 7, 7, 7, 7, 7, 7, 7, 7, 7, 7, 7, 7, 7, 7, 7, 7, 7, 7, 7, 7, 7, 7, 7, 7, 7, 7, 7, 7, 7, 7, 7, 7, 7, 7, 8, 8, 8, 8, 8, 8, 8, 8, 8, 8, 8, 8, 8, 8, 8, 8, 8, 8, 8, 8, 8, 8, 8, 8, 8, 8, 8, 8, 8, 8, 8, 8, 8, 8, 8, 8, 8, 8, 8, 8, 8, 8, 8, 8, 8, 8, 8, 8, 8, 8, 8, 8, 8, 8, 8, 8, 8, 8, 8, 8, 8, 8, 8, 8, 8, 8, 8, 8, 8, 8, 8, 8, 8, 8, 8, 8, 8, 8, 8, 8, 8, 8, 8, 8, 8, 8, 8, 8, 8, 8, 8, 8, 8, 8, 8, 8, 8, 8, 8, 8, 8, 8, 8, 8, 8, 8, 8, 8, 8, 8, 8, 8, 8, 8, 8, 8, 8, 8, 8, 8, 8, 8, 8, 8, 8, 8, 8, 8]⟩ : ByteArray) (ji4)
     replace p7 := eq_true p7
     replace q7 := eq_true q7
     go_enter Try.func181, Try.ntmps181
     go_wp2
     go_ret
     exact ⟨by first | rfl | (simp; done) | (simp only [← hji4] <;> (first | rfl | simp)) | (simp [*]; done), by repeat (first | exact Drawn0.refl _ | apply Drawn0.step)⟩
    ·
     rw [if_neg c6] at H
     exact absurd H (by simp)
   ·
    rw [if_neg c5] at H
    exact absurd H (by simp)
  ·
   rw [if_neg c3] at H
   have ai : decide (256 ≤ (a0 / 65536)) = false := decide_eq_false c3
   clear c3
   obtain ⟨ji8, hji8⟩ : ∃ j_ : Int, ((a0 / 65536) % 256) = j_ := ⟨_, rfl⟩
   replace H : (if 0 ≤ (ji8) then (if (ji8) < 256 then (some (wrap64 (16 + (wrap64 (bt (⟨#[0, 1, 2, 2, 3, 3, 3, 3, 4, 4, 4, 4, 4, 4, 4, 4, 5, 5, 5, 5, 5, 5, 5, 5, 5, 5, 5, 5, 5, 5, 5, 5, 6, 6, 6, 6, 6, 6, 6, 6, 6, 6, 6, 6, 6, 6, 6, 6, 6, 6, 6, 6, 6, 6, 6, 6, 6, 6, 6, 6, 6, 6, 6, 6, 7, 7, 7, 7, 7, 7, 7, 7, 7, 7, 7, 7, 7, 7, 7, 7, 7, 7, 7, 7, 7, 7, 7, 7, 7, 7, 7, 7, 7, 7, 7, 7, 7, 7, 7, 7, 7, 7, 7, 7, 7, 7, 7, 7, 7, 7, 7, 7, 7, 7, 7, 7, 7, 7, 7, 7, 7, 7, 7, 7, 7, 7, 7, 7, 8, 8, 8, 8, 8, 8, 8, 8, 8, 8, 8, 8, 8, 8, 8, 8, 8, 8, 8, 8, 8, 8, 8, 8, 8, 8, 8, 8, 8, 8, 8, 8, 8, 8, 8, 8, 8, 8, 8, 8, 8, 8, 8, 8, 8, 8, 8, 8, 8, 8, 8, 8, 8, 8, 8, 8, 8, 8, 8, 8, 8, 8, 8, 8, 8, 8, 8, 8, 8, 8, 8, 8, 8, 8, 8, 8, 8, 8, 8, 8, 8, 8, 8, 8, 8, 8, 8, 8, 8, 8, 8, 8, 8, 8, 8, 8, 8, 8, 8, 8, 8, 8, 8, 8, 8, 8, 8, 8, 8, 8, 8, 8, 8, 8, 8, 8, 8, 8, 8, 8, 8, 8, 8, 8, 8, 8, 8, 8]⟩ : ByteArray) (ji8)))))) else (none)) else (none)) = some r := by first | (rw [hji8] at H; exact H) | (simp only [hji8] at H ⊢; exact H)
   by_cases c9 : 0 ≤ (ji8)
   ·
    rw [if_pos c9] at H
    have aq : decide (0 ≤ (ji8)) = true := decide_eq_true c9
    clear c9
    by_cases ac : (ji8) < 256
    ·
     rw [if_pos ac] at H
     have aj : decide ((ji8) < 256) = true := decide_eq_true ac
     clear ac
     obtain rfl := Option.some.inj H
     have p11 : 0 ≤ ((ji8) : Int) := of_decide_eq_true (by first | (with_reducible assumption) | assumption)
     have q11 : (ji8) < (256 : Int) := of_decide_eq_true (by first | (with_reducible assumption) | assumption)
     have au := bt_at (⟨#[0, 1, 2, 2, 3, 3, 3, 3, 4, 4, 4, 4, 4, 4, 4, 4, 5, 5, 5, 5, 5, 5, 5, 5, 5, 5, 5, 5, 5, 5, 5, 5, 6, 6, 6, 6, 6, 6, 6, 6, 6, 6, 6, 6, 6, 6, 6, 6, 6, 6, 6, 6, 6, 6, 6, 6, 6, 6, 6, 6, 6, 6, 6, 6, 7, 7, 7, 7, 7, 7, 7, 7, 7, 7, 7, 7, 7, 7, 7, 7, 7, 7, 7, 7, 7, 7, 7, 7, 7, 7, 7, 7, 7, 7, 7, 7, 7, 7, 7, 7, 7, 7, 7, 7, 7, 7, 7, 7, 7, 7, 7, 7, 7, 7, 7, 7, 7, 7, 7, 7, 7, 7, 7, 7, 7, 7, 7, 7, 8, 8, 8, 8, 8, 8, 8, 8, 8, 8, 8, 8, 8, 8, 8, 8, 8, 8, 8, 8, 8, 8, 8, 8, 8, 8, 8, 8, 8, 8, 8, 8, 8, 8, 8, 8, 8, 8, 8, 8, 8, 8, 8, 8, 8, 8, 8, 8, 8, 8, 8, 8, 8, 8, 8, 8, 8, 8, 8, 8, 8, 8, 8, 8, 8, 8, 8, 8, 8, 8, 8, 8, 8, 8, 8, 8, 8, 8, 8, 8, 8, 8, 8, 8, 8, 8, 8, 8, 8, 8, 8, 8, 8, 8, 8, 8, 8, 8, 8, 8, 8, 8, 8, 8, 8, 8, 8, 8, 8, 8, 8, 8, 8, 8, 8, 8, 8, 8, 8, 8, 8, 8, 8, 8, 8, 8, 8, 8]⟩ : ByteArray) (ji8)
     replace p11 := eq_true p11
     replace q11 := eq_true q11
     go_enter Try.func181, Try.ntmps181
     go_wp2
     go_ret
     exact ⟨by first | rfl | (simp; done) | (simp only [← hji8] <;> (first | rfl | simp)) | (simp [*]; done), by repeat (first | exact Drawn0.refl _ | apply Drawn0.step)⟩
    ·
     rw [if_neg ac] at H
     exact absurd H (by simp)
   ·
    rw [if_neg c9] at H
    exact absurd H (by simp)
 ·
  rw [if_neg c2] at H
  have ah : decide (65536 ≤ a0) = false := decide_eq_false c2
  clear c2
  by_cases aa : a0 ≥ 256
  ·
   rw [if_pos aa] at H
   have ab : decide (256 ≤ a0) = true := decide_eq_true aa
   clear aa
   obtain ⟨ji13, hji13⟩ : ∃ j_ : Int, ((a0 / 256) % 256) = j_ := ⟨_, rfl⟩
   replace H : (if 0 ≤ (ji13) then (if (ji13) < 256 then (some (wrap64 ((0 + 8) + (wrap64 (bt (⟨#[0, 1, 2, 2, 3, 3, 3, 3, 4, 4, 4, 4, 4, 4, 4, 4, 5, 5, 5, 5, 5, 5, 5, 5, 5, 5, 5, 5, 5, 5, 5, 5, 6, 6, 6, 6, 6, 6, 6, 6, 6, 6, 6, 6, 6, 6, 6, 6, 6, 6, 6, 6, 6, 6, 6, 6, 6, 6, 6, 6, 6, 6, 6, 6, 7, 7, 7, 7, 7, 7, 7, 7, 7, 7, 7, 7, 7, 7, 7, 7, 7, 7, 7, 7, 7, 7, 7, 7, 7, 7, 7, 7, 7, 7, 7, 7, 7, 7, 7, 7, 7, 7, 7, 7, 7, 7, 7, 7, 7, 7, 7, 7, 7, 7, 7, 7, 7, 7, 7, 7, 7, 7, 7, 7, 7, 7, 7, 7, 8, 8, 8, 8, 8, 8, 8, 8, 8, 8, 8, 8, 8, 8, 8, 8, 8, 8, 8, 8, 8, 8, 8, 8, 8, 8, 8, 8, 8, 8, 8, 8, 8, 8, 8, 8, 8, 8, 8, 8, 8, 8, 8, 8, 8, 8, 8, 8, 8, 8, 8, 8, 8, 8, 8, 8, 8, 8, 8, 8, 8, 8, 8, 8, 8, 8, 8, 8, 8, 8, 8, 8, 8, 8, 8, 8, 8, 8, 8, 8, 8, 8, 8, 8, 8, 8, 8, 8, 8, 8, 8, 8, 8, 8, 8, 8, 8, 8, 8, 8, 8, 8, 8, 8, 8, 8, 8, 8, 8, 8, 8, 8, 8, 8, 8, 8, 8, 8, 8, 8, 8, 8, 8, 8, 8, 8, 8, 8]⟩ : ByteArray) (ji13)))))) else (none)) else (none)) = some r := by first | (rw [hji13] at H; exact H) | (simp only [hji13] at H ⊢; exact H)
   by_cases ad : 0 ≤ (ji13)
   ·
    rw [if_pos ad] at H
    have ak : decide (0 ≤ (ji13)) = true := decide_eq_true ad
    clear ad
    by_cases ae : (ji13) < 256
    ·
     rw [if_pos ae] at H
     have al : decide ((ji13) < 256) = true := decide_eq_true ae
     clear ae
     obtain rfl := Option.some.inj H
     have p16 : 0 ≤ ((ji13) : Int) := of_decide_eq_true (by first | (with_reducible assumption) | assumption)
     have q16 : (ji13) < (256 : Int) := of_decide_eq_true (by first | (with_reducible assumption) | assumption)
     have av := bt_at (⟨#[0, 1, 2, 2, 3, 3, 3, 3, 4, 4, 4, 4, 4, 4, 4, 4, 5, 5, 5, 5, 5, 5, 5, 5, 5, 5, 5, 5, 5, 5, 5, 5, 6, 6, 6, 6, 6, 6, 6, 6, 6, 6, 6, 6, 6, 6, 6, 6, 6, 6, 6, 6, 6, 6, 6, 6, 6, 6, 6, 6, 6, 6, 6, 6, 7, 7, 7, 7, 7, 7, 7, 7, 7, 7, 7, 7, 7, 7, 7, 7, 7, 7, 7, 7, 7, 7, 7, 7, 7, 7, 7, 7, 7, 7, 7, 7, 7, 7, 7, 7, 7, 7, 7, 7, 7, 7, 7, 7, 7, 7, 7, 7, 7, 7, 7, 7, 7, 7, 7, 7, 7, 7, 7, 7, 7, 7, 7, 7, 8, 8, 8, 8, 8, 8, 8, 8, 8, 8, 8, 8, 8, 8, 8, 8, 8, 8, 8, 8, 8, 8, 8, 8, 8, 8, 8, 8, 8, 8, 8, 8, 8, 8, 8, 8, 8, 8, 8, 8, 8, 8, 8, 8, 8, 8, 8, 8, 8, 8, 8, 8, 8, 8, 8, 8, 8, 8, 8, 8, 8, 8, 8, 8, 8, 8, 8, 8, 8, 8, 8, 8, 8, 8, 8, 8, 8, 8, 8, 8, 8, 8, 8, 8, 8, 8, 8, 8, 8, 8, 8, 8, 8, 8, 8, 8, 8, 8, 8, 8, 8, 8, 8, 8, 8, 8, 8, 8, 8, 8, 8, 8, 8, 8, 8, 8, 8, 8, 8, 8, 8, 8, 8, 8, 8, 8, 8, 8]⟩ : ByteArray) (ji13)
     replace p16 := eq_true p16
     replace q16 := eq_true q16
     go_enter Try.func181, Try.ntmps181
     go_wp2
     go_ret
     exact ⟨by first | rfl | (simp; done) | (simp only [← hji13] <;> (first | rfl | simp)) | (simp [*]; done), by repeat (first | exact Drawn0.refl _ | apply Drawn0.step)⟩
    ·
     rw [if_neg ae] at H
     exact absurd H (by simp)
   ·
    rw [if_neg ad] at H
    exact absurd H (by simp)
  ·
   rw [if_neg aa] at H
   have ab : decide (256 ≤ a0) = false := decide_eq_false aa
   clear aa
   obtain ⟨ji17, hji17⟩ : ∃ j_ : Int, ((a0) % 256) = j_ := ⟨_, rfl⟩
   replace H : (if 0 ≤ (ji17) then (if (ji17) < 256 then (some (wrap64 (0 + (wrap64 (bt (⟨#[0, 1, 2, 2, 3, 3, 3, 3, 4, 4, 4, 4, 4, 4, 4, 4, 5, 5, 5, 5, 5, 5, 5, 5, 5, 5, 5, 5, 5, 5, 5, 5, 6, 6, 6, 6, 6, 6, 6, 6, 6, 6, 6, 6, 6, 6, 6, 6, 6, 6, 6, 6, 6, 6, 6, 6, 6, 6, 6, 6, 6, 6, 6, 6, 7, 7, 7, 7, 7, 7, 7, 7, 7, 7, 7, 7, 7, 7, 7, 7, 7, 7, 7, 7, 7, 7, 7, 7, 7, 7, 7, 7, 7, 7, 7, 7, 7, 7, 7, 7, 7, 7, 7, 7, 7, 7, 7, 7, 7, 7, 7, 7, 7, 7, 7, 7, 7, 7, 7, 7, 7, 7, 7, 7, 7, 7, 7, 7, 8, 8, 8, 8, 8, 8, 8, 8, 8, 8, 8, 8, 8, 8, 8, 8, 8, 8, 8, 8, 8, 8, 8, 8, 8, 8, 8, 8, 8, 8, 8, 8, 8, 8, 8, 8, 8, 8, 8, 8, 8, 8, 8, 8, 8, 8, 8, 8, 8, 8, 8, 8, 8, 8, 8, 8, 8, 8, 8, 8, 8, 8, 8, 8, 8, 8, 8, 8, 8, 8, 8, 8, 8, 8, 8, 8, 8, 8, 8, 8, 8, 8, 8, 8, 8, 8, 8, 8, 8, 8, 8, 8, 8, 8, 8, 8, 8, 8, 8, 8, 8, 8, 8, 8, 8, 8, 8, 8, 8, 8, 8, 8, 8, 8, 8, 8, 8, 8, 8, 8, 8, 8, 8, 8, 8, 8, 8, 8]⟩ : ByteArray) (ji17)))))) else (none)) else (none)) = some r := by first | (rw [hji17] at H; exact H) | (simp only [hji17] at H ⊢; exact H)
   by_cases af : 0 ≤ (ji17)
   ·
    rw [if_pos af] at H
    have am : decide (0 ≤ (ji17)) = true := decide_eq_true af
    clear af
    by_cases ag : (ji17) < 256
    ·
     rw [if_pos ag] at H
     have an : decide ((ji17) < 256) = true := decide_eq_true ag
     clear ag
     obtain rfl := Option.some.inj H
     have p20 : 0 ≤ ((ji17) : Int) := of_decide_eq_true (by first | (with_reducible assumption) | assumption)
     have q20 : (ji17) < (256 : Int) := of_decide_eq_true (by first | (with_reducible assumption) | assumption)
     have aw := bt_at (⟨#[0, 1, 2, 2, 3, 3, 3, 3, 4, 4, 4, 4, 4, 4, 4, 4, 5, 5, 5, 5, 5, 5, 5, 5, 5, 5, 5, 5, 5, 5, 5, 5, 6, 6, 6, 6, 6, 6, 6, 6, 6, 6, 6, 6, 6, 6, 6, 6, 6, 6, 6, 6, 6, 6, 6, 6, 6, 6, 6, 6, 6, 6, 6, 6, 7, 7, 7, 7, 7, 7, 7, 7, 7, 7, 7, 7, 7, 7, 7, 7, 7, 7, 7, 7, 7, 7, 7, 7, 7, 7, 7, 7, 7, 7, 7, 7, 7, 7, 7, 7, 7, 7, 7, 7, 7, 7, 7, 7, 7, 7, 7, 7, 7, 7, 7, 7, 7, 7, 7, 7, 7, 7, 7, 7, 7, 7, 7, 7, 8, 8, 8, 8, 8, 8, 8, 8, 8, 8, 8, 8, 8, 8, 8, 8, 8, 8, 8, 8, 8, 8, 8, 8, 8, 8, 8, 8, 8, 8, 8, 8, 8, 8, 8, 8, 8, 8, 8, 8, 8, 8, 8, 8, 8, 8, 8, 8, 8, 8, 8, 8, 8, 8, 8, 8, 8, 8, 8, 8, 8, 8, 8, 8, 8, 8, 8, 8, 8, 8, 8, 8, 8, 8, 8, 8, 8, 8, 8, 8, 8, 8, 8, 8, 8, 8, 8, 8, 8, 8, 8, 8, 8, 8, 8, 8, 8, 8, 8, 8, 8, 8, 8, 8, 8, 8, 8, 8, 8, 8, 8, 8, 8, 8, 8, 8, 8, 8, 8, 8, 8, 8, 8, 8, 8, 8, 8, 8]⟩ : ByteArray) (ji17)
     replace p20 := eq_true p20
     replace q20 := eq_true q20
     go_enter Try.func181, Try.ntmps181
     go_wp2
     go_ret
     exact ⟨by first | rfl | (simp; done) | (simp only [← hji17] <;> (first | rfl | simp)) | (simp [*]; done), by repeat (first | exact Drawn0.refl _ | apply Drawn0.step)⟩
    ·
     rw [if_neg ag] at H
     exact absurd H (by simp)
   ·
    rw [if_neg af] at H
    exact absurd H (by simp)
def nat_Bits.f (k : Nat) (l0 : List Int) : Option (Int) := (nat_short.f k l0).bind fun t925 => (if (t925.length : Int) = 0 then (some 0) else (if 0 ≤ (wrap64 ((t925.length : Int) - 1)) then (if (wrap64 ((t925.length : Int) - 1)) < (t925.length : Int) then ((bits_Len32.f (rd t925 (wrap64 ((t925.length : Int) - 1)))).bind fun t929 => (some (wrap64 ((wrap64 (32 * (wrap64 ((t925.length : Int) - 1)))) + t929)))) else (none)) else (none)))
theorem nat_Bits.calls (k : Nat) (A0 : Option Addr) (c0 : Nat) (l0 : List Int) (r : Int) (w : World) (hr0 : Kd.C (Kd.int .u32) w A0 l0.length l0) (hc0 : l0.length ≤ c0) (h : nat_Bits.f k l0 = some r) :
 Calls Try.prog 154 #[.slice A0 l0.length c0] w fun e w' => e = .returned (.int .i64 r) ∧ Below w.heap.size w w' := by
 have aj := am hr0
 have ak := am hc0
 clear hr0 hc0
 have HB := am (Below.refl w.heap.size w)
 have H : ((nat_short.f k l0).bind fun aa => (if (aa.length : Int) = 0 then (some 0) else (if 0 ≤ (wrap64 ((aa.length : Int) - 1)) then (if (wrap64 ((aa.length : Int) - 1)) < (aa.length : Int) then ((bits_Len32.f (rd aa (wrap64 ((aa.length : Int) - 1)))).bind fun ac => (some (wrap64 ((wrap64 (32 * (wrap64 ((aa.length : Int) - 1)))) + ac)))) else (none)) else (none)))) = some r := h
 clear h
 obtain ⟨aa, A2, H⟩ := bs H
 (try dsimp -simprocs only at H)
 by_cases c3 : (aa.length : Int) = 0
 ·
  rw [if_pos c3] at H
  have af : ((aa.length : Int) == 0) = true := beq_iff_eq.mpr c3
  have ag : ((aa.length : Int) != 0) = false := bne_eq_false_iff_eq.mpr c3
  clear c3
  obtain rfl := Option.some.inj H
  go_enter Try.func154, Try.ntmps154
  go_wp2_with (first | ((with_reducible refine gate_callee (f := 179) rfl ?_); refine goesL_ (some 4) rfl rfl Try.func179 (by kernel_rfl) rfl #[.slice A0 l0.length c0] rfl lu ?_; (with_reducible refine (nat_short.calls k (fun k_ => k_ < w.heap.size) _ _ l0 aa _ ?side1 A2.out).mono ?_); (case side1 => exact Kd.V_mk ak.out (Kd.F_below (Kd.C_F (Kd.heap_int .u32) aj.out) (bu HB.out))); rintro e w4 ⟨ah, rfl, ad, hb⟩; refine ⟨_, rfl, ?_⟩; have ab := am (Kd.V_lower (Kd.V_mono (ok' := fun k_ => True) ad (fun k_ hk_ => trivial)) (below_size (bu HB.out))); replace HB := be HB hb; (try clear hb); (try clear ad); obtain ⟨av, aw, al⟩ := Kd.V_slice ab.out; subst al))
  go_ret
  exact ⟨by first | rfl | (simp [errW_none, errW_some] <;> rfl) | (simp [*, errW_none, errW_some] <;> rfl), by repeat (first | (with_reducible first | exact HB.out | apply below_alloc | apply pw_below_drewN | apply below_drew1) | exact HB.out)⟩
 ·
  rw [if_neg c3] at H
  have af : ((aa.length : Int) == 0) = false := beq_eq_false_iff_ne.mpr c3
  have ag : ((aa.length : Int) != 0) = true := bne_iff_ne.mpr c3
  have an : ¬ (aa = []) := fun h_ => c3 (by rw [h_]; rfl)
  obtain ⟨ji6, hji6⟩ : ∃ j_ : Int, (wrap64 ((aa.length : Int) - 1)) = j_ := ⟨_, rfl⟩
  replace H : (if 0 ≤ (ji6) then (if (ji6) < (aa.length : Int) then ((bits_Len32.f (rd aa (ji6))).bind fun ac => (some (wrap64 ((wrap64 (32 * (ji6))) + ac)))) else (none)) else (none)) = some r := by first | (rw [hji6] at H; exact H) | (simp only [hji6] at H ⊢; exact H)
  (try rw [hji6] at A2)
  have hji6w : (IntKind.i64.wrap ((aa.length : Int) - 1)) = ji6 := (i64_w _).trans hji6
  by_cases c7 : 0 ≤ (ji6)
  ·
   rw [if_pos c7] at H
   have ao : decide (0 ≤ (ji6)) = true := decide_eq_true c7
   clear c7
   by_cases c8 : (ji6) < (aa.length : Int)
   ·
    rw [if_pos c8] at H
    have ap : decide ((ji6) < (aa.length : Int)) = true := decide_eq_true c8
    clear c8
    obtain ⟨ac, A9, H⟩ := bs H
    (try dsimp -simprocs only at H)
    obtain rfl := Option.some.inj H
    go_enter Try.func154, Try.ntmps154
    go_wp2_with (first | ((with_reducible refine gate_callee (f := 179) rfl ?_); refine goesL_ (some 4) rfl rfl Try.func179 (by kernel_rfl) rfl #[.slice A0 l0.length c0] rfl lu ?_; (with_reducible refine (nat_short.calls k (fun k_ => k_ < w.heap.size) _ _ l0 aa _ ?side1 A2.out).mono ?_); (case side1 => exact Kd.V_mk ak.out (Kd.F_below (Kd.C_F (Kd.heap_int .u32) aj.out) (bu HB.out))); rintro e ax ⟨ah, rfl, ad, hb⟩; refine ⟨_, rfl, ?_⟩; have ab := am (Kd.V_lower (Kd.V_mono (ok' := fun k_ => True) ad (fun k_ hk_ => trivial)) (below_size (bu HB.out))); replace HB := be HB hb; (try clear hb); (try clear ad); obtain ⟨aq, au, ai⟩ := Kd.V_slice ab.out; subst ai; have p928 : 0 ≤ ((ji6) : Int) := of_decide_eq_true (by first | (with_reducible assumption) | assumption); have q928 : (ji6) < (aa.length : Int) := of_decide_eq_true (by first | (with_reducible assumption) | assumption); obtain ⟨ad928, e928, ae⟩ := Kd.at_int (Kd.V_reads' ab.out).2.2 (ji6) p928 q928; cases e928; replace p928 := eq_true p928; replace q928 := eq_true q928) | ((with_reducible refine gate_callee (f := 181) rfl ?_); refine goesL_ (some 18) rfl rfl Try.func181 (by kernel_rfl) rfl #[.int .u32 (rd aa (ji6))] rfl (by (try simp only [List.map_toArray, List.map_cons, List.map_nil]); first | done | (simp only [hji6]; rfl) | rfl | (simp only [List.length_drop, List.length_take]; rfl)) ?_; (with_reducible refine (bits_Len32.calls (rd aa (ji6)) ac _ A9.out).mono ?_); rintro e w' ⟨rfl, ⟨nd, rfl⟩⟩; refine ⟨_, rfl, ?_⟩))
    go_ret
    exact ⟨by first | rfl | (simp [errW_none, errW_some] <;> rfl) | (simp only [← hji6]; first | rfl | (simp [errW_none, errW_some] <;> rfl)) | (simp [*, errW_none, errW_some] <;> rfl), by repeat (first | (with_reducible first | exact HB.out | apply below_alloc | apply pw_below_drewN | apply below_drew1) | exact HB.out)⟩
   ·
    rw [if_neg c8] at H
    exact absurd H (by simp)
  ·
   rw [if_neg c7] at H
   exact absurd H (by simp)
def nat_Of.f (k : Nat) (a0 : Int) : Option (List Int) := (nat_Trim.f k (([(a0) % 4294967296, (a0 / 4294967296) % 4294967296] : List Int))).bind fun t272 => (some t272)
theorem nat_Of.calls (k : Nat) (a0 : Int) (r : List Int) (w : World) (h : nat_Of.f k a0 = some r) :
 Calls Try.prog 141 #[.int .u64 a0] w fun e w' => ∃ v0_ : Value, e = .returned (v0_) ∧ Kd.R (Kd.int .u32) 48 w' w.heap.size (fun _ => True) v0_ r ∧ Below w.heap.size w w' := by
 have HB := am (Below.refl w.heap.size w)
 have H : ((nat_Trim.f k (([(a0) % 4294967296, (a0 / 4294967296) % 4294967296] : List Int))).bind fun ac => (some ac)) = some r := h
 clear h
 obtain ⟨ae, ab⟩ : ∃ y_ : List Int, y_ = (([(a0) % 4294967296, (a0 / 4294967296) % 4294967296] : List Int)) := ⟨_, rfl⟩
 rw [← ab] at H
 have ad := am ab
 clear ab
 obtain ⟨ac, A2, H⟩ := bs H
 replace H : (some ac) = some r := H
 obtain rfl := Option.some.inj H
 go_enter Try.func141, Try.ntmps141
 go_wp2_with (first | ((with_reducible refine gate_dst (N := 8) rfl ?_); refine Kd.R_lit (Kd.int .u32) _ 48 ?hg (N := 8) ?hd (xs := ([(a0) % 4294967296, (a0 / 4294967296) % 4294967296] : List Int)) (inner := [.int .u32 ((a0) % 4294967296), .int .u32 ((a0 / 4294967296) % 4294967296)]) (ok := fun _ => True) (okp := fun _ => True) ?hr ?hp (fun _ hk => hk) trivial (Below.refl _ _) (Nat.le_refl _) (by simp) ?_; (case hd => rfl); (case hg => rfl); (case hr => first | (go_simp; done) | (go_simp; rfl)); (case hp => exact (Reps.one (show Kd.M (Kd.int .u32) _ _ _ ((a0) % 4294967296) [.int .u32 ((a0) % 4294967296)] from rfl) (Reps.one (show Kd.M (Kd.int .u32) _ _ _ ((a0 / 4294967296) % 4294967296) [.int .u32 ((a0 / 4294967296) % 4294967296)] from rfl) (Reps.none _ _)))); intro ai w3 af hb hg_ hnew_; clear hg_ hnew_; (first | rw [← ad.out] at af | (simp only [Int.reduceToNat] at af; rw [← ad.out] at af)); have aa := am (Kd.R_lower af (below_size (bu HB.out))); replace HB := be HB hb; clear hb af; obtain ⟨aj, ak, al⟩ := Kd.R_slice aa.out; subst al) | ((with_reducible refine gate_callee (f := 177) rfl ?_); refine goesL_ (some 9) rfl rfl Try.func177 (by kernel_rfl) rfl #[.slice aj ae.length ak] rfl lu ?_; (with_reducible refine (nat_Trim.calls k _ _ ae ac _ ?side1 ?side2 A2.out).mono ?_); (case side1 => exact cu (Kd.R_reads' aa.out).2.2); (case side2 => exact (Kd.R_reads' aa.out).2.1); rintro e w6 ⟨an, rfl, ah, hb⟩; refine ⟨_, rfl, ?_⟩; have ag := am (Kd.R_lower (Kd.R_new' ah (Kd.R_lt (by (with_reducible repeat (first | apply Kd.R_alloc | apply Kd.R_drewN | apply Kd.R_drew)); exact aa.out))) (below_size (bu HB.out))); replace aa := am (Kd.R_elder' (by (with_reducible repeat (first | apply Kd.R_alloc | apply Kd.R_drewN | apply Kd.R_drew)); exact aa.out) (Kd.R_base ah) hb); replace HB := be HB hb; (try clear hb); (try clear hk); (try clear ah)))
 go_ret
 exact ⟨_, by first | rfl | (simp [errW_none, errW_some] <;> rfl) | (simp [*, errW_none, errW_some] <;> rfl), by (with_reducible repeat (first | apply Kd.R_alloc | apply Kd.R_drewN | apply Kd.R_drew)); exact Kd.R_mono ag.out (fun _ hk => trivial), by repeat (first | (with_reducible first | exact HB.out | apply below_alloc | apply pw_below_drewN | apply below_drew1) | exact HB.out)⟩
def nat_Cmp.l0 : Nat → List Int → List Int → Int → Option (Int)
 | 0, _, _, _ => none
 | k + 1, x0, x1, x5 => if x5 ≥ 0 then (if 0 ≤ x5 then (if x5 < (x0.length : Int) then (if x5 < (x1.length : Int) then (if (rd x0 x5) < (rd x1 x5) then (some (-1)) else (if (rd x0 x5) > (rd x1 x5) then (some 1) else (nat_Cmp.l0 k x0 x1 (wrap64 (x5 - 1))))) else (none)) else (none)) else (none)) else (some 0)
def nat_Cmp.f (k : Nat) (l0 : List Int) (l1 : List Int) : Option (Int) := (nat_short.f k l0).bind fun t377 => ((nat_short.f k l1).bind fun t380 => (if (t377.length : Int) = (t380.length : Int) then (nat_Cmp.l0 k t377 t380 (wrap64 ((t377.length : Int) - 1))) else (if (t377.length : Int) < (t380.length : Int) then (some (-1)) else (some 1))))
theorem nat_Cmp.calls (k : Nat) (A0 : Option Addr) (c0 : Nat) (l0 : List Int) (A1 : Option Addr) (c1 : Nat) (l1 : List Int) (r : Int) (w : World) (hr0 : Kd.C (Kd.int .u32) w A0 l0.length l0) (hc0 : l0.length ≤ c0) (hr1 : Kd.C (Kd.int .u32) w A1 l1.length l1) (hc1 : l1.length ≤ c1) (h : nat_Cmp.f k l0 l1 = some r) :
 Calls Try.prog 146 #[.slice A0 l0.length c0, .slice A1 l1.length c1] w fun e w' => e = .returned (.int .i64 r) ∧ Below w.heap.size w w' := by
 have au := am hr0
 have av := am hc0
 clear hr0 hc0
 have aw := am hr1
 have ax := am hc1
 clear hr1 hc1
 have HB := am (Below.refl w.heap.size w)
 have H : ((nat_short.f k l0).bind fun ac => ((nat_short.f k l1).bind fun ad => (if (ac.length : Int) = (ad.length : Int) then (nat_Cmp.l0 k ac ad (wrap64 ((ac.length : Int) - 1))) else (if (ac.length : Int) < (ad.length : Int) then (some (-1)) else (some 1))))) = some r := h
 clear h
 obtain ⟨ac, A3, H⟩ := bs H
 (try dsimp -simprocs only at H)
 obtain ⟨ad, A4, H⟩ := bs H
 (try dsimp -simprocs only at H)
 by_cases c5 : (ac.length : Int) = (ad.length : Int)
 ·
  rw [if_pos c5] at H
  have aE : ((ac.length : Int) == (ad.length : Int)) = true := beq_iff_eq.mpr c5
  have aF : ((ac.length : Int) != (ad.length : Int)) = false := bne_eq_false_iff_eq.mpr c5
  have aG : (ac.length == ad.length) = true := by first | simpa using c5 | (simp at c5 ⊢; omega)
  clear c5
  have H' := am H
  clear H
  go_enter Try.func146, Try.ntmps146
  go_wp2_with (first | (go_at_call 179; (with_reducible refine (nat_short.calls k (fun k_ => k_ < w.heap.size) _ _ l0 ac _ ?side1 A3.out).mono ?_); (case side1 => exact Kd.V_mk av.out (Kd.F_below (Kd.C_F (Kd.heap_int .u32) au.out) (bu HB.out))); rintro e w6 ⟨ag, rfl, af, hb⟩; have ab := am (Kd.V_lower (Kd.V_mono (ok' := fun k_ => True) af (fun k_ hk_ => trivial)) (below_size (bu HB.out))); replace HB := be HB hb; (try clear hb); (try clear af)) | (go_at_call 179; (with_reducible refine (nat_short.calls k (fun k_ => k_ < w.heap.size) _ _ l1 ad _ ?side1 A4.out).mono ?_); (case side1 => exact Kd.V_mk ax.out (Kd.F_below (Kd.C_F (Kd.heap_int .u32) aw.out) (bu HB.out))); rintro e w7 ⟨ah, rfl, af, hb⟩; replace ab := kv ab hb; have ae := am (Kd.V_lower (Kd.V_mono (ok' := fun k_ => True) af (fun k_ hk_ => trivial)) (below_size (bu HB.out))); replace HB := be HB hb; (try clear hb); (try clear af); obtain ⟨aZ, a0, aH⟩ := Kd.V_slice ab.out; subst aH; obtain ⟨a1, a2, aI⟩ := Kd.V_slice ae.out; subst aI))
  repeat (go_quiet (first | (go_at_call 179; (with_reducible refine (nat_short.calls k (fun k_ => k_ < w.heap.size) _ _ l0 ac _ ?side1 A3.out).mono ?_); (case side1 => exact Kd.V_mk av.out (Kd.F_below (Kd.C_F (Kd.heap_int .u32) au.out) (bu HB.out))); rintro e w6 ⟨ag, rfl, af, hb⟩; have ab := am (Kd.V_lower (Kd.V_mono (ok' := fun k_ => True) af (fun k_ hk_ => trivial)) (below_size (bu HB.out))); replace HB := be HB hb; (try clear hb); (try clear af)) | (go_at_call 179; (with_reducible refine (nat_short.calls k (fun k_ => k_ < w.heap.size) _ _ l1 ad _ ?side1 A4.out).mono ?_); (case side1 => exact Kd.V_mk ax.out (Kd.F_below (Kd.C_F (Kd.heap_int .u32) aw.out) (bu HB.out))); rintro e w7 ⟨ah, rfl, af, hb⟩; replace ab := kv ab hb; have ae := am (Kd.V_lower (Kd.V_mono (ok' := fun k_ => True) af (fun k_ hk_ => trivial)) (below_size (bu HB.out))); replace HB := be HB hb; (try clear hb); (try clear af); obtain ⟨aZ, a0, aH⟩ := Kd.V_slice ab.out; subst aH; obtain ⟨a1, a2, aI⟩ := Kd.V_slice ae.out; subst aI)); try go_wp2_with (first | (go_at_call 179; (with_reducible refine (nat_short.calls k (fun k_ => k_ < w.heap.size) _ _ l0 ac _ ?side1 A3.out).mono ?_); (case side1 => exact Kd.V_mk av.out (Kd.F_below (Kd.C_F (Kd.heap_int .u32) au.out) (bu HB.out))); rintro e w6 ⟨ag, rfl, af, hb⟩; have ab := am (Kd.V_lower (Kd.V_mono (ok' := fun k_ => True) af (fun k_ hk_ => trivial)) (below_size (bu HB.out))); replace HB := be HB hb; (try clear hb); (try clear af)) | (go_at_call 179; (with_reducible refine (nat_short.calls k (fun k_ => k_ < w.heap.size) _ _ l1 ad _ ?side1 A4.out).mono ?_); (case side1 => exact Kd.V_mk ax.out (Kd.F_below (Kd.C_F (Kd.heap_int .u32) aw.out) (bu HB.out))); rintro e w7 ⟨ah, rfl, af, hb⟩; replace ab := kv ab hb; have ae := am (Kd.V_lower (Kd.V_mono (ok' := fun k_ => True) af (fun k_ hk_ => trivial)) (below_size (bu HB.out))); replace HB := be HB hb; (try clear hb); (try clear af); obtain ⟨aZ, a0, aH⟩ := Kd.V_slice ab.out; subst aH; obtain ⟨a1, a2, aI⟩ := Kd.V_slice ae.out; subst aI)))
  go_loopg [5] k (fun kq v5 w' => ∃ (aa : Int), v5 = .int .i64 aa ∧ Aside0 (nat_Cmp.l0 kq ac ad aa = some r) ∧ Aside0 (kq ≤ k) ∧ Aside0 (Kd.V (Kd.int .u32) 48 w' w.heap.size (fun _ => True) (.slice aZ ac.length a0) ac) ∧ Aside0 (Kd.V (Kd.int .u32) 48 w' w.heap.size (fun _ => True) (.slice a1 ad.length a2) ad) ∧ Aside0 (Below w.heap.size w w'))
  case atStart => exact ⟨(wrap64 ((ac.length : Int) - 1)), (by first | rfl | (simp; done) | (simp [*]; done)), H', ⟨Nat.le_refl _⟩, ⟨by (with_reducible repeat (first | apply Kd.V_alloc | apply Kd.V_drewN | apply Kd.V_drew)); exact ab.out⟩, ⟨by (with_reducible repeat (first | apply Kd.V_alloc | apply Kd.V_drewN | apply Kd.V_drew)); exact ae.out⟩, ⟨by repeat (first | (with_reducible first | exact HB.out | apply below_alloc | apply pw_below_drewN | apply below_drew1) | exact HB.out)⟩⟩
  case round =>
   clear H'
   try clear c1
   try clear p2
   try clear c5
   try clear aE
   try clear aF
   try clear aG
   try clear p6
   obtain ⟨aa, rfl, HA, HK1, ak, al, HB⟩ := hrel
   cases gk with
   | zero => exact absurd HA.out (by simp [nat_Cmp.l0])
   | succ k1 =>
    have H := HA.out
    clear HA
    simp only [nat_Cmp.l0] at H
    by_cases aB : aa ≥ 0
    ·
     rw [if_pos aB] at H
     have aJ : decide (0 ≤ aa) = true := decide_eq_true aB
     clear aB
     by_cases aW : 0 ≤ aa
     ·
      rw [if_pos aW] at H
      have a3 : decide (0 ≤ aa) = true := decide_eq_true aW
      clear aW
      by_cases aX : aa < (ac.length : Int)
      ·
       rw [if_pos aX] at H
       have a4 : decide (aa < (ac.length : Int)) = true := decide_eq_true aX
       clear aX
       by_cases aY : aa < (ad.length : Int)
       ·
        rw [if_pos aY] at H
        have a5 : decide (aa < (ad.length : Int)) = true := decide_eq_true aY
        clear aY
        by_cases aC : (rd ac aa) < (rd ad aa)
        ·
         rw [if_pos aC] at H
         have aK : decide ((rd ac aa) < (rd ad aa)) = true := decide_eq_true aC
         clear aC
         obtain rfl := Option.some.inj H
         have p383 : 0 ≤ (aa : Int) := of_decide_eq_true (by first | (with_reducible assumption) | assumption)
         have q383 : aa < (ac.length : Int) := of_decide_eq_true (by first | (with_reducible assumption) | assumption)
         obtain ⟨ad383, e383, ai⟩ := Kd.at_int (Kd.V_reads' ak.out).2.2 aa p383 q383
         cases e383
         replace p383 := eq_true p383
         replace q383 := eq_true q383
         have p384 : 0 ≤ (aa : Int) := of_decide_eq_true (by first | (with_reducible assumption) | assumption)
         have q384 : aa < (ad.length : Int) := of_decide_eq_true (by first | (with_reducible assumption) | assumption)
         obtain ⟨ad384, e384, aj⟩ := Kd.at_int (Kd.V_reads' al.out).2.2 aa p384 q384
         cases e384
         replace p384 := eq_true p384
         replace q384 := eq_true q384
         go_wp2
         repeat (go_quiet (fail); try go_wp2)
         go_ret
         exact ⟨by first | rfl | (simp [errW_none, errW_some] <;> rfl) | (simp [*, errW_none, errW_some] <;> rfl), by repeat (first | (with_reducible first | exact HB.out | apply below_alloc | apply pw_below_drewN | apply below_drew1) | exact HB.out)⟩
        ·
         rw [if_neg aC] at H
         have aK : decide ((rd ac aa) < (rd ad aa)) = false := decide_eq_false aC
         clear aC
         by_cases aD : (rd ac aa) > (rd ad aa)
         ·
          rw [if_pos aD] at H
          have aL : decide ((rd ad aa) < (rd ac aa)) = true := decide_eq_true aD
          clear aD
          obtain rfl := Option.some.inj H
          have p383 : 0 ≤ (aa : Int) := of_decide_eq_true (by first | (with_reducible assumption) | assumption)
          have q383 : aa < (ac.length : Int) := of_decide_eq_true (by first | (with_reducible assumption) | assumption)
          obtain ⟨ad383, e383, ai⟩ := Kd.at_int (Kd.V_reads' ak.out).2.2 aa p383 q383
          cases e383
          replace p383 := eq_true p383
          replace q383 := eq_true q383
          have p384 : 0 ≤ (aa : Int) := of_decide_eq_true (by first | (with_reducible assumption) | assumption)
          have q384 : aa < (ad.length : Int) := of_decide_eq_true (by first | (with_reducible assumption) | assumption)
          obtain ⟨ad384, e384, aj⟩ := Kd.at_int (Kd.V_reads' al.out).2.2 aa p384 q384
          cases e384
          replace p384 := eq_true p384
          replace q384 := eq_true q384
          have p385 : 0 ≤ (aa : Int) := of_decide_eq_true (by first | (with_reducible assumption) | assumption)
          have q385 : aa < (ac.length : Int) := of_decide_eq_true (by first | (with_reducible assumption) | assumption)
          obtain ⟨ad385, e385, ay⟩ := Kd.at_int (Kd.V_reads' ak.out).2.2 aa p385 q385
          obtain rfl : ad383 = ad385 := (by injection e385)
          replace p385 := eq_true p385
          replace q385 := eq_true q385
          have p386 : 0 ≤ (aa : Int) := of_decide_eq_true (by first | (with_reducible assumption) | assumption)
          have q386 : aa < (ad.length : Int) := of_decide_eq_true (by first | (with_reducible assumption) | assumption)
          obtain ⟨ad386, e386, az⟩ := Kd.at_int (Kd.V_reads' al.out).2.2 aa p386 q386
          obtain rfl : ad384 = ad386 := (by injection e386)
          replace p386 := eq_true p386
          replace q386 := eq_true q386
          go_wp2
          repeat (go_quiet (fail); try go_wp2)
          go_ret
          exact ⟨by first | rfl | (simp [errW_none, errW_some] <;> rfl) | (simp [*, errW_none, errW_some] <;> rfl), by repeat (first | (with_reducible first | exact HB.out | apply below_alloc | apply pw_below_drewN | apply below_drew1) | exact HB.out)⟩
         ·
          rw [if_neg aD] at H
          have aL : decide ((rd ad aa) < (rd ac aa)) = false := decide_eq_false aD
          clear aD
          have H' := am H
          clear H
          have p383 : 0 ≤ (aa : Int) := of_decide_eq_true (by first | (with_reducible assumption) | assumption)
          have q383 : aa < (ac.length : Int) := of_decide_eq_true (by first | (with_reducible assumption) | assumption)
          obtain ⟨ad383, e383, ai⟩ := Kd.at_int (Kd.V_reads' ak.out).2.2 aa p383 q383
          cases e383
          replace p383 := eq_true p383
          replace q383 := eq_true q383
          have p384 : 0 ≤ (aa : Int) := of_decide_eq_true (by first | (with_reducible assumption) | assumption)
          have q384 : aa < (ad.length : Int) := of_decide_eq_true (by first | (with_reducible assumption) | assumption)
          obtain ⟨ad384, e384, aj⟩ := Kd.at_int (Kd.V_reads' al.out).2.2 aa p384 q384
          cases e384
          replace p384 := eq_true p384
          replace q384 := eq_true q384
          have p385 : 0 ≤ (aa : Int) := of_decide_eq_true (by first | (with_reducible assumption) | assumption)
          have q385 : aa < (ac.length : Int) := of_decide_eq_true (by first | (with_reducible assumption) | assumption)
          obtain ⟨ad385, e385, ay⟩ := Kd.at_int (Kd.V_reads' ak.out).2.2 aa p385 q385
          obtain rfl : ad383 = ad385 := (by injection e385)
          replace p385 := eq_true p385
          replace q385 := eq_true q385
          have p386 : 0 ≤ (aa : Int) := of_decide_eq_true (by first | (with_reducible assumption) | assumption)
          have q386 : aa < (ad.length : Int) := of_decide_eq_true (by first | (with_reducible assumption) | assumption)
          obtain ⟨ad386, e386, az⟩ := Kd.at_int (Kd.V_reads' al.out).2.2 aa p386 q386
          obtain rfl : ad384 = ad386 := (by injection e386)
          replace p386 := eq_true p386
          replace q386 := eq_true q386
          go_wp2
          repeat (go_quiet (fail); try go_wp2)
          go_roundg k1
          case measure => have := HK1.out; omega
          case rel => exact ⟨(wrap64 (aa - 1)), (by first | rfl | (simp; done) | (simp [*]; done)), H', ⟨by have := HK1.out; omega⟩, ⟨by (with_reducible repeat (first | apply Kd.V_alloc | apply Kd.V_drewN | apply Kd.V_drew)); exact ak.out⟩, ⟨by (with_reducible repeat (first | apply Kd.V_alloc | apply Kd.V_drewN | apply Kd.V_drew)); exact al.out⟩, ⟨by repeat (first | (with_reducible first | exact HB.out | apply below_alloc | apply pw_below_drewN | apply below_drew1) | exact HB.out)⟩⟩
       ·
        rw [if_neg aY] at H
        exact absurd H (by simp)
      ·
       rw [if_neg aX] at H
       exact absurd H (by simp)
     ·
      rw [if_neg aW] at H
      exact absurd H (by simp)
    ·
     rw [if_neg aB] at H
     have aJ : decide (0 ≤ aa) = false := decide_eq_false aB
     clear aB
     obtain rfl := Option.some.inj H
     go_wp2
     repeat (go_quiet (fail); try go_wp2)
     go_ret
     exact ⟨by first | rfl | (simp [errW_none, errW_some] <;> rfl) | (simp [*, errW_none, errW_some] <;> rfl), by repeat (first | (with_reducible first | exact HB.out | apply below_alloc | apply pw_below_drewN | apply below_drew1) | exact HB.out)⟩
 ·
  rw [if_neg c5] at H
  have aE : ((ac.length : Int) == (ad.length : Int)) = false := beq_eq_false_iff_ne.mpr c5
  have aF : ((ac.length : Int) != (ad.length : Int)) = true := bne_iff_ne.mpr c5
  have aG : (ac.length == ad.length) = false := by first | simpa using c5 | (simp at c5 ⊢; omega)
  by_cases aA : (ac.length : Int) < (ad.length : Int)
  ·
   rw [if_pos aA] at H
   have aM : decide ((ac.length : Int) < (ad.length : Int)) = true := decide_eq_true aA
   have aN : decide (ac.length < ad.length) = true := decide_eq_true (Int.ofNat_lt.mp aA)
   clear aA
   obtain rfl := Option.some.inj H
   go_enter Try.func146, Try.ntmps146
   go_wp2_with (first | (go_at_call 179; (with_reducible refine (nat_short.calls k (fun k_ => k_ < w.heap.size) _ _ l0 ac _ ?side1 A3.out).mono ?_); (case side1 => exact Kd.V_mk av.out (Kd.F_below (Kd.C_F (Kd.heap_int .u32) au.out) (bu HB.out))); rintro e a6 ⟨ag, rfl, af, hb⟩; have ab := am (Kd.V_lower (Kd.V_mono (ok' := fun k_ => True) af (fun k_ hk_ => trivial)) (below_size (bu HB.out))); replace HB := be HB hb; (try clear hb); (try clear af)) | (go_at_call 179; (with_reducible refine (nat_short.calls k (fun k_ => k_ < w.heap.size) _ _ l1 ad _ ?side1 A4.out).mono ?_); (case side1 => exact Kd.V_mk ax.out (Kd.F_below (Kd.C_F (Kd.heap_int .u32) aw.out) (bu HB.out))); rintro e a7 ⟨ah, rfl, af, hb⟩; replace ab := kv ab hb; have ae := am (Kd.V_lower (Kd.V_mono (ok' := fun k_ => True) af (fun k_ hk_ => trivial)) (below_size (bu HB.out))); replace HB := be HB hb; (try clear hb); (try clear af); obtain ⟨aO, aP, an⟩ := Kd.V_slice ab.out; subst an; obtain ⟨aQ, aR, ao⟩ := Kd.V_slice ae.out; subst ao))
   repeat (go_quiet (first | (go_at_call 179; (with_reducible refine (nat_short.calls k (fun k_ => k_ < w.heap.size) _ _ l0 ac _ ?side1 A3.out).mono ?_); (case side1 => exact Kd.V_mk av.out (Kd.F_below (Kd.C_F (Kd.heap_int .u32) au.out) (bu HB.out))); rintro e a6 ⟨ag, rfl, af, hb⟩; have ab := am (Kd.V_lower (Kd.V_mono (ok' := fun k_ => True) af (fun k_ hk_ => trivial)) (below_size (bu HB.out))); replace HB := be HB hb; (try clear hb); (try clear af)) | (go_at_call 179; (with_reducible refine (nat_short.calls k (fun k_ => k_ < w.heap.size) _ _ l1 ad _ ?side1 A4.out).mono ?_); (case side1 => exact Kd.V_mk ax.out (Kd.F_below (Kd.C_F (Kd.heap_int .u32) aw.out) (bu HB.out))); rintro e a7 ⟨ah, rfl, af, hb⟩; replace ab := kv ab hb; have ae := am (Kd.V_lower (Kd.V_mono (ok' := fun k_ => True) af (fun k_ hk_ => trivial)) (below_size (bu HB.out))); replace HB := be HB hb; (try clear hb); (try clear af); obtain ⟨aO, aP, an⟩ := Kd.V_slice ab.out; subst an; obtain ⟨aQ, aR, ao⟩ := Kd.V_slice ae.out; subst ao)); try go_wp2_with (first | (go_at_call 179; (with_reducible refine (nat_short.calls k (fun k_ => k_ < w.heap.size) _ _ l0 ac _ ?side1 A3.out).mono ?_); (case side1 => exact Kd.V_mk av.out (Kd.F_below (Kd.C_F (Kd.heap_int .u32) au.out) (bu HB.out))); rintro e a6 ⟨ag, rfl, af, hb⟩; have ab := am (Kd.V_lower (Kd.V_mono (ok' := fun k_ => True) af (fun k_ hk_ => trivial)) (below_size (bu HB.out))); replace HB := be HB hb; (try clear hb); (try clear af)) | (go_at_call 179; (with_reducible refine (nat_short.calls k (fun k_ => k_ < w.heap.size) _ _ l1 ad _ ?side1 A4.out).mono ?_); (case side1 => exact Kd.V_mk ax.out (Kd.F_below (Kd.C_F (Kd.heap_int .u32) aw.out) (bu HB.out))); rintro e a7 ⟨ah, rfl, af, hb⟩; replace ab := kv ab hb; have ae := am (Kd.V_lower (Kd.V_mono (ok' := fun k_ => True) af (fun k_ hk_ => trivial)) (below_size (bu HB.out))); replace HB := be HB hb; (try clear hb); (try clear af); obtain ⟨aO, aP, an⟩ := Kd.V_slice ab.out; subst an; obtain ⟨aQ, aR, ao⟩ := Kd.V_slice ae.out; subst ao)))
   go_ret
   exact ⟨by first | rfl | (simp [errW_none, errW_some] <;> rfl) | (simp [*, errW_none, errW_some] <;> rfl), by repeat (first | (with_reducible first | exact HB.out | apply below_alloc | apply pw_below_drewN | apply below_drew1) | exact HB.out)⟩
  ·
   rw [if_neg aA] at H
   have aM : decide ((ac.length : Int) < (ad.length : Int)) = false := decide_eq_false aA
   have aN : decide (ac.length < ad.length) = false := decide_eq_false (fun h => aA (Int.ofNat_lt.mpr h))
   clear aA
   obtain rfl := Option.some.inj H
   go_enter Try.func146, Try.ntmps146
   go_wp2_with (first | (go_at_call 179; (with_reducible refine (nat_short.calls k (fun k_ => k_ < w.heap.size) _ _ l0 ac _ ?side1 A3.out).mono ?_); (case side1 => exact Kd.V_mk av.out (Kd.F_below (Kd.C_F (Kd.heap_int .u32) au.out) (bu HB.out))); rintro e a8 ⟨ag, rfl, af, hb⟩; have ab := am (Kd.V_lower (Kd.V_mono (ok' := fun k_ => True) af (fun k_ hk_ => trivial)) (below_size (bu HB.out))); replace HB := be HB hb; (try clear hb); (try clear af)) | (go_at_call 179; (with_reducible refine (nat_short.calls k (fun k_ => k_ < w.heap.size) _ _ l1 ad _ ?side1 A4.out).mono ?_); (case side1 => exact Kd.V_mk ax.out (Kd.F_below (Kd.C_F (Kd.heap_int .u32) aw.out) (bu HB.out))); rintro e a9 ⟨ah, rfl, af, hb⟩; replace ab := kv ab hb; have ae := am (Kd.V_lower (Kd.V_mono (ok' := fun k_ => True) af (fun k_ hk_ => trivial)) (below_size (bu HB.out))); replace HB := be HB hb; (try clear hb); (try clear af); obtain ⟨aS, aT, ap⟩ := Kd.V_slice ab.out; subst ap; obtain ⟨aU, aV, aq⟩ := Kd.V_slice ae.out; subst aq))
   repeat (go_quiet (first | (go_at_call 179; (with_reducible refine (nat_short.calls k (fun k_ => k_ < w.heap.size) _ _ l0 ac _ ?side1 A3.out).mono ?_); (case side1 => exact Kd.V_mk av.out (Kd.F_below (Kd.C_F (Kd.heap_int .u32) au.out) (bu HB.out))); rintro e a8 ⟨ag, rfl, af, hb⟩; have ab := am (Kd.V_lower (Kd.V_mono (ok' := fun k_ => True) af (fun k_ hk_ => trivial)) (below_size (bu HB.out))); replace HB := be HB hb; (try clear hb); (try clear af)) | (go_at_call 179; (with_reducible refine (nat_short.calls k (fun k_ => k_ < w.heap.size) _ _ l1 ad _ ?side1 A4.out).mono ?_); (case side1 => exact Kd.V_mk ax.out (Kd.F_below (Kd.C_F (Kd.heap_int .u32) aw.out) (bu HB.out))); rintro e a9 ⟨ah, rfl, af, hb⟩; replace ab := kv ab hb; have ae := am (Kd.V_lower (Kd.V_mono (ok' := fun k_ => True) af (fun k_ hk_ => trivial)) (below_size (bu HB.out))); replace HB := be HB hb; (try clear hb); (try clear af); obtain ⟨aS, aT, ap⟩ := Kd.V_slice ab.out; subst ap; obtain ⟨aU, aV, aq⟩ := Kd.V_slice ae.out; subst aq)); try go_wp2_with (first | (go_at_call 179; (with_reducible refine (nat_short.calls k (fun k_ => k_ < w.heap.size) _ _ l0 ac _ ?side1 A3.out).mono ?_); (case side1 => exact Kd.V_mk av.out (Kd.F_below (Kd.C_F (Kd.heap_int .u32) au.out) (bu HB.out))); rintro e a8 ⟨ag, rfl, af, hb⟩; have ab := am (Kd.V_lower (Kd.V_mono (ok' := fun k_ => True) af (fun k_ hk_ => trivial)) (below_size (bu HB.out))); replace HB := be HB hb; (try clear hb); (try clear af)) | (go_at_call 179; (with_reducible refine (nat_short.calls k (fun k_ => k_ < w.heap.size) _ _ l1 ad _ ?side1 A4.out).mono ?_); (case side1 => exact Kd.V_mk ax.out (Kd.F_below (Kd.C_F (Kd.heap_int .u32) aw.out) (bu HB.out))); rintro e a9 ⟨ah, rfl, af, hb⟩; replace ab := kv ab hb; have ae := am (Kd.V_lower (Kd.V_mono (ok' := fun k_ => True) af (fun k_ hk_ => trivial)) (below_size (bu HB.out))); replace HB := be HB hb; (try clear hb); (try clear af); obtain ⟨aS, aT, ap⟩ := Kd.V_slice ab.out; subst ap; obtain ⟨aU, aV, aq⟩ := Kd.V_slice ae.out; subst aq)))
   go_ret
   exact ⟨by first | rfl | (simp [errW_none, errW_some] <;> rfl) | (simp [*, errW_none, errW_some] <;> rfl), by repeat (first | (with_reducible first | exact HB.out | apply below_alloc | apply pw_below_drewN | apply below_drew1) | exact HB.out)⟩
def nat_digit.l0 : Nat → List Int → Int → List Int → Int → Int → Option (List Int × Int)
 | 0, _, _, _, _, _ => none
 | k + 1, x0, x1, x6, x7, x8 => if x8 ≥ 0 then (if 0 ≤ x8 then (if x8 < (x0.length : Int) then (if (IntKind.u64.wrap (x1)) = 0 then (none) else (if x8 < (x6.length : Int) then (nat_digit.l0 k x0 x1 (x6.set (x8 : Int).toNat ((IntKind.u64.wrap (Int.tdiv (Go.bits .or .u64 (IntKind.u64.wrap (x7 * 4294967296)) (IntKind.u64.wrap (rd x0 x8))) (IntKind.u64.wrap (x1)))) % 4294967296)) (Int.tmod (Go.bits .or .u64 (IntKind.u64.wrap (x7 * 4294967296)) (IntKind.u64.wrap (rd x0 x8))) (IntKind.u64.wrap (x1))) (wrap64 (x8 - 1))) else (none))) else (none)) else (none)) else ((nat_short.f k x6).bind fun t938 => (some (t938, (x7) % 4294967296)))
def nat_digit.f (k : Nat) (l0 : List Int) (a1 : Int) : Option (List Int × Int) := if 0 ≤ (l0.length : Int) then (if ((l0.length : Int) : Int).toNat ≤ 70368744177664 then (nat_digit.l0 k l0 a1 (List.replicate ((l0.length : Int) : Int).toNat 0) 0 (wrap64 ((l0.length : Int) - 1))) else (none)) else (none)
theorem nat_digit.calls (k : Nat) (A0 : Option Addr) (c0 : Nat) (l0 : List Int) (a1 : Int) (r1 : List Int) (r2 : Int) (w : World) (hr0 : Kd.C (Kd.int .u32) w A0 l0.length l0) (hc0 : l0.length ≤ c0) (h : nat_digit.f k l0 a1 = some (r1, r2)) :
 Calls Try.prog 186 #[.slice A0 l0.length c0, .int .u32 a1] w fun e w' => ∃ v0_ : Value, e = .returned (.tuple #[v0_, .int .u32 r2]) ∧ Kd.V (Kd.int .u32) 48 w' w.heap.size (fun k_ => (w.heap.size ≤ k_)) v0_ r1 ∧ Below w.heap.size w w' := by
 have aP := am hr0
 have aU := am hc0
 clear hr0 hc0
 have HB := am (Below.refl w.heap.size w)
 have H : (if 0 ≤ (l0.length : Int) then (if ((l0.length : Int) : Int).toNat ≤ 70368744177664 then (nat_digit.l0 k l0 a1 (List.replicate ((l0.length : Int) : Int).toNat 0) 0 (wrap64 ((l0.length : Int) - 1))) else (none)) else (none)) = some (r1, r2) := h
 clear h
 by_cases c3 : 0 ≤ (l0.length : Int)
 ·
  rw [if_pos c3] at H
  have az := eq_true c3
  have aA : decide (0 ≤ (l0.length : Int)) = true := decide_eq_true c3
  clear c3
  by_cases c4 : ((l0.length : Int) : Int).toNat ≤ 70368744177664
  ·
   rw [if_pos c4] at H
   have aB := eq_true c4
   have aC : decide (((l0.length : Int) : Int).toNat ≤ 70368744177664) = true := decide_eq_true c4
   clear c4
   obtain ⟨ak, ae⟩ : ∃ y_ : List Int, y_ = (List.replicate ((l0.length : Int) : Int).toNat 0) := ⟨_, rfl⟩
   replace H : (nat_digit.l0 k l0 a1 ak 0 (wrap64 ((l0.length : Int) - 1))) = some (r1, r2) := by first | (rw [ae]; with_reducible exact H) | (have H2_ := (Option.bind_some _ _).symm.trans H; rw [ae]; with_reducible exact H2_) | (have H2_ := (Option.bind_some _ _).symm.trans H; with_reducible exact H2_) | with_reducible exact H | (rw [ae]; exact H) | exact H
   have ah := am ae
   clear ae
   have H' := am H
   clear H
   go_enter Try.func186, Try.ntmps186
   go_wp2_with (first | ((with_reducible refine gate_dst (N := 11) rfl ?_); refine Kd.R_make (Kd.int .u32) _ 48 rfl (N := 11) rfl 42 _ _ rfl (l0.length : Int) rfl rfl Try.underlying42 (.int .u32 0) 4 info48 rfl (by decide) (by omega) 0 (ok := fun _ => True) (okp := fun _ => True) rfl (fun _ hk => hk) trivial (of_decide_eq_true (by first | (with_reducible assumption) | assumption)) (Nat.le_trans (Nat.mul_le_mul_right _ (of_decide_eq_true (by first | (with_reducible assumption) | assumption) : (l0.length : Int).toNat ≤ 70368744177664)) (by omega)) (Below.refl _ _) (Nat.le_refl _) ?_; intro aD w5 al hb hg_ hnew_; clear hg_ hnew_; (first | rw [← ah.out] at al | (simp only [Int.reduceToNat] at al; rw [← ah.out] at al)); have an := am (Kd.R_lower (Kd.R_newM (M := fun k_ => (w.heap.size ≤ k_)) al (below_size (bu HB.out)) (fun k_ h_ => h_)) (below_size (bu HB.out))); replace HB := be HB hb; clear hb al))
   go_loopg [7, 8] k (fun kq v7 v8 w' => ∃ (ab : List Int) (af : Int) (aa : Int), v7 = .int .u64 af ∧ v8 = .int .i64 aa ∧ Aside0 (nat_digit.l0 kq l0 a1 ab af aa = some (r1, r2)) ∧ Aside0 (kq ≤ k) ∧ Aside0 (Kd.R (Kd.int .u32) 48 w' w.heap.size (fun k_ => (w.heap.size ≤ k_)) aD ab) ∧ Aside0 (Below w.heap.size w w'))
   case atStart => exact ⟨(ak), (0), (wrap64 ((l0.length : Int) - 1)), (by first | rfl | (simp; done) | (simp [*]; done)), (by first | rfl | (simp; done) | (simp [*]; done)), H', ⟨Nat.le_refl _⟩, ⟨by (with_reducible repeat (first | apply Kd.R_alloc | apply Kd.R_drewN | apply Kd.R_drew)); exact Kd.R_mono an.out (fun _ hk => hk.1)⟩, ⟨by repeat (first | (with_reducible first | exact HB.out | apply below_alloc | apply pw_below_drewN | apply below_drew1) | exact HB.out)⟩⟩
   case round =>
    clear H'
    try clear c1
    try clear p2
    try clear c3
    try clear az
    try clear aA
    try clear c4
    try clear aB
    try clear aC
    try clear p6
    obtain ⟨ab, af, aa, rfl, rfl, HA, HK1, ac, HB⟩ := hrel
    cases gk with
    | zero => exact absurd HA.out (by simp [nat_digit.l0])
    | succ k1 =>
     have H := HA.out
     clear HA
     simp only [nat_digit.l0] at H
     by_cases c7 : aa ≥ 0
     ·
      rw [if_pos c7] at H
      have aE : decide (0 ≤ aa) = true := decide_eq_true c7
      clear c7
      by_cases c8 : 0 ≤ aa
      ·
       rw [if_pos c8] at H
       have aQ : decide (0 ≤ aa) = true := decide_eq_true c8
       clear c8
       by_cases c9 : aa < (l0.length : Int)
       ·
        rw [if_pos c9] at H
        have aR : decide (aa < (l0.length : Int)) = true := decide_eq_true c9
        clear c9
        by_cases ax : (IntKind.u64.wrap (a1)) = 0
        ·
         rw [if_pos ax] at H
         exact absurd H (by simp)
        ·
         rw [if_neg ax] at H
         have aL : ((IntKind.u64.wrap (a1)) == 0) = false := beq_eq_false_iff_ne.mpr ax
         have aM : ((IntKind.u64.wrap (a1)) != 0) = true := bne_iff_ne.mpr ax
         by_cases ay : aa < (ab.length : Int)
         ·
          rw [if_pos ay] at H
          have aN : decide (aa < (ab.length : Int)) = true := decide_eq_true ay
          clear ay
          obtain ⟨ai, ag⟩ : ∃ y_ : List Int, y_ = (ab.set (aa : Int).toNat ((IntKind.u64.wrap (Int.tdiv (Go.bits .or .u64 (IntKind.u64.wrap (af * 4294967296)) (IntKind.u64.wrap (rd l0 aa))) (IntKind.u64.wrap (a1)))) % 4294967296)) := ⟨_, rfl⟩
          replace H : (nat_digit.l0 k1 l0 a1 ai (Int.tmod (Go.bits .or .u64 (IntKind.u64.wrap (af * 4294967296)) (IntKind.u64.wrap (rd l0 aa))) (IntKind.u64.wrap (a1))) (wrap64 (aa - 1))) = some (r1, r2) := by first | (rw [ag]; with_reducible exact H) | (have H2_ := (Option.bind_some _ _).symm.trans H; rw [ag]; with_reducible exact H2_) | (have H2_ := (Option.bind_some _ _).symm.trans H; with_reducible exact H2_) | with_reducible exact H | (rw [ag]; exact H) | exact H
          have ao := am ag
          clear ag
          have H' := am H
          clear H
          have p936 : 0 ≤ (aa : Int) := of_decide_eq_true (by first | (with_reducible assumption) | assumption)
          have q936 : aa < (l0.length : Int) := of_decide_eq_true (by first | (with_reducible assumption) | assumption)
          obtain ⟨ad936, e936, ad⟩ := Kd.at_int aP.out aa p936 q936
          cases e936
          replace ad := (HB.out.cell (World.block_lt_of_cell? w _ ad)).trans ad
          replace p936 := eq_true p936
          replace q936 := eq_true q936
          have p12 : 0 ≤ (aa : Int) := of_decide_eq_true (by first | (with_reducible assumption) | assumption)
          have q12 : (aa : Int) < ((ab.length : Int) : Int) := of_decide_eq_true (by first | (with_reducible assumption) | assumption)
          obtain ⟨go12, aF, ap, aq, gl12, cl12, HG12⟩ := Kd.R_form ac.out (by omega)
          (first | cases ap | (injection ap with ea_ en_ ec_; (first | subst ea_ | (injection ea_ with ea_; subst ea_)); subst ec_; clear en_))
          have GB12 := am aq
          have GG12 := am HG12
          clear aq gl12 HG12
          obtain ⟨aG, aH⟩ := Kd.R_celln 0 ac.out (aa : Int) p12 q12
          replace p12 := eq_true p12
          replace q12 := eq_true q12
          have aj := Kd.R_putg ac.out (aa : Int) ((IntKind.u64.wrap (Int.tdiv (Go.bits .or .u64 (IntKind.u64.wrap (af * 4294967296)) (IntKind.u64.wrap (rd l0 aa))) (IntKind.u64.wrap (a1)))) % 4294967296)
          go_wp2_with (first | ((with_reducible refine gate_store (t := 48) (p := 34) rfl ?_); refine store_event (t := 48) (p := 34) (v := ?vo_w14) (w1 := (wr.setCell ⟨go12, (aa : Int).toNat, none⟩ (.int .u32 ((IntKind.u64.wrap (Int.tdiv (Go.bits .or .u64 (IntKind.u64.wrap (af * 4294967296)) (IntKind.u64.wrap (rd l0 aa))) (IntKind.u64.wrap (a1)))) % 4294967296)))) ?hg ?ho ?hn ?hr ?_; (case ho => rfl); (case hg => rfl); (case hn => rfl); (case hr => first | (go_simp; done) | (go_simp; rfl)); intro aI hw; have hg : wr.grownBy aI (some go12) := (by rw [hw]; exact aj.2); have hp_ : Kd.R (Kd.int .u32) 48 aI w.heap.size (fun k_ => (w.heap.size ≤ k_)) (.slice (some ⟨go12, 0, none⟩) ab.length aF) ai := (by rw [hw, ao.out]; exact aj.1); clear aj; replace ac := am (hp_); replace HB := am ((by rw [hw]; exact below_set (HB.out) GB12.out : Below w.heap.size w aI)); clear hg hw hp_))
          go_roundg k1
          case measure => have := HK1.out; omega
          case rel => exact ⟨(ai), (Int.tmod (Go.bits .or .u64 (IntKind.u64.wrap (af * 4294967296)) (IntKind.u64.wrap (rd l0 aa))) (IntKind.u64.wrap (a1))), (wrap64 (aa - 1)), (by first | rfl | (simp; done) | (simp [*]; done)), (by first | rfl | (simp; done) | (simp [*]; done)), H', ⟨by have := HK1.out; omega⟩, ⟨by (with_reducible repeat (first | apply Kd.R_alloc | apply Kd.R_drewN | apply Kd.R_drew)); exact ac.out⟩, ⟨by repeat (first | (with_reducible first | exact HB.out | apply below_alloc | apply pw_below_drewN | apply below_drew1) | exact HB.out)⟩⟩
         ·
          rw [if_neg ay] at H
          exact absurd H (by simp)
       ·
        rw [if_neg c9] at H
        exact absurd H (by simp)
      ·
       rw [if_neg c8] at H
       exact absurd H (by simp)
     ·
      rw [if_neg c7] at H
      have aE : decide (0 ≤ aa) = false := decide_eq_false c7
      clear c7
      obtain ⟨aJ, aS, H⟩ := bs H
      (try dsimp -simprocs only at H)
      simp only [Option.some.injEq, Prod.mk.injEq] at H
      obtain ⟨rfl, rfl⟩ := H
      obtain ⟨au, av, aK⟩ := Kd.R_slice ac.out
      subst aK
      go_wp2_with (first | ((with_reducible refine gate_callee (f := 179) rfl ?_); refine goesL_ (some 40) rfl rfl Try.func179 (by kernel_rfl) rfl #[.slice au ab.length av] rfl lu ?_; (with_reducible refine (nat_short.calls k1 (fun k_ => some k_ = (.slice au ab.length av : Value).ownBlock) _ _ ab aJ _ ?side1 aS.out).mono ?_); (case side1 => exact Kd.R_V (Kd.R_tight rfl (ac.out))); rintro e aV ⟨aT, rfl, aO, hb⟩; refine ⟨_, rfl, ?_⟩; have aw := am (Kd.V_lower (Kd.V_mono (ok' := fun k_ => (w.heap.size ≤ k_)) aO (fun k_ hk_ => Or.elim hk_ (fun hs_ => ((ac.out).1 k_ hs_.symm)) (fun hn_ => (Nat.le_trans (below_size (bu HB.out)) hn_)))) (below_size (bu HB.out))); replace ac := am (Kd.R_below (by (with_reducible repeat (first | apply Kd.R_alloc | apply Kd.R_drewN | apply Kd.R_drew)); exact ac.out) hb); replace HB := be HB hb; (try clear hb); (try clear aO)))
      go_ret2
      exact ⟨_, by first | rfl | (simp [errW_none, errW_some] <;> rfl) | (simp [*, errW_none, errW_some] <;> rfl), by (with_reducible repeat (first | apply Kd.V_alloc | apply Kd.V_drewN | apply Kd.V_drew)); exact aw.out, by repeat (first | (with_reducible first | exact HB.out | apply below_alloc | apply pw_below_drewN | apply below_drew1) | exact HB.out)⟩
  ·
   rw [if_neg c4] at H
   exact absurd H (by simp)
 ·
  rw [if_neg c3] at H
  exact absurd H (by simp)
mutual
def nat_plus.j0 : Nat → List Int → List Int → Option (List Int)
 | 0, _, _ => none
 | k + 1, x0, x1 => if 0 ≤ (wrap64 ((x0.length : Int) + 1)) then (if (wrap64 ((x0.length : Int) + 1) : Int).toNat ≤ 70368744177664 then (nat_plus.l0 k x0 x1 (List.replicate (wrap64 ((x0.length : Int) + 1) : Int).toNat 0) 0 (x0.length : Int) 0) else (none)) else (none)
def nat_plus.l0 : Nat → List Int → List Int → List Int → Int → Int → Int → Option (List Int)
 | 0, _, _, _, _, _, _ => none
 | k + 1, x0, x1, x5, x6, x21, x22 => if x22 < x21 then (if 0 ≤ x22 then (if x22 < (x0.length : Int) then (if x22 < (x1.length : Int) then (if x22 < (x5.length : Int) then (nat_plus.l0 k x0 x1 (x5.set (x22 : Int).toNat ((IntKind.u64.wrap ((IntKind.u64.wrap ((IntKind.u64.wrap (rd x0 x22)) + x6)) + (IntKind.u64.wrap (rd x1 x22)))) % 4294967296)) ((IntKind.u64.wrap ((IntKind.u64.wrap ((IntKind.u64.wrap (rd x0 x22)) + x6)) + (IntKind.u64.wrap (rd x1 x22)))) / 4294967296) x21 (wrap64 (x22 + 1))) else (none)) else (if x22 < (x5.length : Int) then (nat_plus.l0 k x0 x1 (x5.set (x22 : Int).toNat ((IntKind.u64.wrap ((IntKind.u64.wrap (rd x0 x22)) + x6)) % 4294967296)) ((IntKind.u64.wrap ((IntKind.u64.wrap (rd x0 x22)) + x6)) / 4294967296) x21 (wrap64 (x22 + 1))) else (none))) else (none)) else (none)) else (if 0 ≤ (x0.length : Int) then (if (x0.length : Int) < (x5.length : Int) then ((nat_short.f k (x5.set ((x0.length : Int) : Int).toNat ((x6) % 4294967296))).bind fun t291 => (some t291)) else (none)) else (none))
end
def nat_plus.f (k : Nat) (l0 : List Int) (l1 : List Int) : Option (List Int) := if (l0.length : Int) < (l1.length : Int) then (nat_plus.j0 k l1 l0) else (nat_plus.j0 k l0 l1)
theorem nat_plus.calls (k : Nat) (P0_ : Nat → Prop) (A0 : Option Addr) (c0 : Nat) (l0 : List Int) (P1_ : Nat → Prop) (A1 : Option Addr) (c1 : Nat) (l1 : List Int) (r : List Int) (w : World) (hs0 : Kd.V (Kd.int .u32) 48 w w.heap.size (fun k_ => P0_ k_) (.slice A0 l0.length c0) l0) (hs1 : Kd.V (Kd.int .u32) 48 w w.heap.size (fun k_ => P1_ k_) (.slice A1 l1.length c1) l1) (h : nat_plus.f k l0 l1 = some r) :
 Calls Try.prog 178 #[.slice A0 l0.length c0, .slice A1 l1.length c1] w fun e w' => ∃ v0_ : Value, e = .returned (v0_) ∧ Kd.V (Kd.int .u32) 48 w' w.heap.size (fun k_ => ((P0_ k_ ∨ P1_ k_) ∨ w.heap.size ≤ k_)) v0_ r ∧ Below w.heap.size w w' := by
 have bl := am (show Kd.V (Kd.int .u32) 48 w w.heap.size (fun k_ => ((P0_ k_ ∨ P1_ k_) ∨ w.heap.size ≤ k_)) (.slice A0 l0.length c0) l0 from Kd.V_mono hs0 (fun k_ hk => .inl (.inl hk)))
 have bm := am (show Kd.V (Kd.int .u32) 48 w w.heap.size (fun k_ => ((P0_ k_ ∨ P1_ k_) ∨ w.heap.size ≤ k_)) (.slice A1 l1.length c1) l1 from Kd.V_mono hs1 (fun k_ hk => .inl (.inr hk)))
 have HB := am (Below.refl w.heap.size w)
 have H : (if (l0.length : Int) < (l1.length : Int) then (nat_plus.j0 k l1 l0) else (nat_plus.j0 k l0 l1)) = some r := h
 clear h
 have a5 := am H
 clear H
 go_enter Try.func178, Try.ntmps178
 go_upto_if 13 with (fail)
 go_cut [0, 1] (fun v0 v1 wc => ∃ (kq : Nat) (ab : List Int) (ae : List Int), Aside0 (nat_plus.j0 kq ab ae = some r) ∧ Aside0 (kq ≤ k) ∧ Aside0 (Kd.V (Kd.int .u32) 48 wc w.heap.size (fun k_ => ((P0_ k_ ∨ P1_ k_) ∨ w.heap.size ≤ k_)) v0 ab) ∧ Aside0 (Kd.V (Kd.int .u32) 48 wc w.heap.size (fun k_ => ((P0_ k_ ∨ P1_ k_) ∨ w.heap.size ≤ k_)) v1 ae) ∧ Aside0 (Below w.heap.size w wc))
 case first =>
  have H := a5.out
  clear a5
  by_cases c4 : (l0.length : Int) < (l1.length : Int)
  ·
   rw [if_pos c4] at H
   have an : decide ((l0.length : Int) < (l1.length : Int)) = true := decide_eq_true c4
   have au : decide (l0.length < l1.length) = true := decide_eq_true (Int.ofNat_lt.mp c4)
   clear c4
   (first | rw [an] | rw [au] | (simp only [i64_w, i32_w]; rw [an]) | skip)
   have H' := am H
   clear H
   go_wp2
   go_meet
   case rel => exact ⟨_, (l1), (l0), H', ⟨by first | omega | exact Nat.le_refl _⟩, ⟨by (with_reducible repeat (first | apply Kd.V_alloc | apply Kd.V_drewN | apply Kd.V_drew)); exact bm.out⟩, ⟨by (with_reducible repeat (first | apply Kd.V_alloc | apply Kd.V_drewN | apply Kd.V_drew)); exact bl.out⟩, ⟨by repeat (first | (with_reducible first | exact HB.out | apply below_alloc | apply pw_below_drewN | apply below_drew1) | exact HB.out)⟩⟩
  ·
   rw [if_neg c4] at H
   have an : decide ((l0.length : Int) < (l1.length : Int)) = false := decide_eq_false c4
   have au : decide (l0.length < l1.length) = false := decide_eq_false (fun h => c4 (Int.ofNat_lt.mpr h))
   clear c4
   (first | rw [an] | rw [au] | (simp only [i64_w, i32_w]; rw [an]) | skip)
   have H' := am H
   clear H
   go_wp2
   go_meet
   case rel => exact ⟨_, (l0), (l1), H', ⟨by first | omega | exact Nat.le_refl _⟩, ⟨by (with_reducible repeat (first | apply Kd.V_alloc | apply Kd.V_drewN | apply Kd.V_drew)); exact bl.out⟩, ⟨by (with_reducible repeat (first | apply Kd.V_alloc | apply Kd.V_drewN | apply Kd.V_drew)); exact bm.out⟩, ⟨by repeat (first | (with_reducible first | exact HB.out | apply below_alloc | apply pw_below_drewN | apply below_drew1) | exact HB.out)⟩⟩
 case rest =>
  clear a5
  try clear c1
  try clear p2
  try clear c4
  try clear an
  try clear au
  obtain ⟨kq, ab, ae, HA, HJ2, af, ag, HB⟩ := hcut
  cases kq with
  | zero => exact absurd HA.out (by simp [nat_plus.j0])
  | succ kj2 =>
   have H := HA.out
   clear HA
   simp only [nat_plus.j0] at H
   obtain ⟨ji5, hji5⟩ : ∃ j_ : Int, (wrap64 ((ab.length : Int) + 1)) = j_ := ⟨_, rfl⟩
   replace H : (if 0 ≤ (ji5) then (if (ji5 : Int).toNat ≤ 70368744177664 then (nat_plus.l0 kj2 ab ae (List.replicate (ji5 : Int).toNat 0) 0 (ab.length : Int) 0) else (none)) else (none)) = some r := by first | (rw [hji5] at H; exact H) | (simp only [hji5] at H ⊢; exact H)
   have hji5w : (IntKind.i64.wrap ((ab.length : Int) + 1)) = ji5 := (i64_w _).trans hji5
   by_cases c6 : 0 ≤ (ji5)
   ·
    rw [if_pos c6] at H
    have a6 := eq_true c6
    have a7 : decide (0 ≤ (ji5)) = true := decide_eq_true c6
    clear c6
    by_cases c7 : (ji5 : Int).toNat ≤ 70368744177664
    ·
     rw [if_pos c7] at H
     have a8 := eq_true c7
     have a9 : decide ((ji5 : Int).toNat ≤ 70368744177664) = true := decide_eq_true c7
     clear c7
     obtain ⟨aK, ai⟩ : ∃ y_ : List Int, y_ = (List.replicate (ji5 : Int).toNat 0) := ⟨_, rfl⟩
     replace H : (nat_plus.l0 kj2 ab ae aK 0 (ab.length : Int) 0) = some r := by first | (rw [ai]; with_reducible exact H) | (have H2_ := (Option.bind_some _ _).symm.trans H; rw [ai]; with_reducible exact H2_) | (have H2_ := (Option.bind_some _ _).symm.trans H; with_reducible exact H2_) | with_reducible exact H | (rw [ai]; exact H) | exact H
     have az := am ai
     clear ai
     have H' := am H
     clear H
     obtain ⟨bA, bB, bC⟩ := Kd.V_slice af.out
     subst bC
     go_wp2_with (first | ((with_reducible refine gate_dst (N := 19) rfl ?_); refine Kd.R_make (Kd.int .u32) _ 48 rfl (N := 19) rfl 42 _ _ rfl ji5 rfl rfl Try.underlying42 (.int .u32 0) 4 info48 rfl (by decide) (by omega) 0 (ok := fun _ => True) (okp := fun _ => True) rfl (fun _ hk => hk) trivial (of_decide_eq_true (by first | (with_reducible assumption) | assumption)) (Nat.le_trans (Nat.mul_le_mul_right _ (of_decide_eq_true (by first | (with_reducible assumption) | assumption) : ji5.toNat ≤ 70368744177664)) (by omega)) (Below.refl _ _) (Nat.le_refl _) ?_; intro aA w9 ao hb hg_ hnew_; clear hg_ hnew_; (first | rw [← az.out] at ao | (simp only [Int.reduceToNat] at ao; rw [← az.out] at ao)); replace af := am (Kd.V_elder' (vu af.out) (Kd.R_base ao) hb); replace ag := am (Kd.V_elder' (vu ag.out) (Kd.R_base ao) hb); have aL := am (Kd.R_lower (Kd.R_newM (M := fun k_ => (w.heap.size ≤ k_)) ao (below_size (bu HB.out)) (fun k_ h_ => h_)) (below_size (bu HB.out))); replace HB := be HB hb; clear hb ao))
     go_loopg [6, 22] kj2 (fun kq v6 bD w' => ∃ (ac : List Int) (ah : Int) (aa : Int), v6 = .int .u64 ah ∧ bD = .int .i64 aa ∧ Aside0 (nat_plus.l0 kq ab ae ac ah (ab.length : Int) aa = some r) ∧ Aside0 (kq ≤ kj2) ∧ Aside0 (Kd.V (Kd.int .u32) 48 w' w.heap.size (fun k_ => ((P0_ k_ ∨ P1_ k_) ∨ w.heap.size ≤ k_) ∧ some k_ ≠ (aA : Value).ownBlock) (.slice bA ab.length bB) ab) ∧ Aside0 (Kd.V (Kd.int .u32) 48 w' w.heap.size (fun k_ => ((P0_ k_ ∨ P1_ k_) ∨ w.heap.size ≤ k_) ∧ some k_ ≠ (aA : Value).ownBlock) u1 ae) ∧ Aside0 (Kd.R (Kd.int .u32) 48 w' w.heap.size (fun k_ => (w.heap.size ≤ k_)) aA ac) ∧ Aside0 (Below w.heap.size w w'))
     case atStart => exact ⟨(aK), (0), (0), (by first | rfl | (simp; done) | (simp [*]; done)), (by first | rfl | (simp; done) | (simp [*]; done)), H', ⟨Nat.le_refl _⟩, ⟨by (with_reducible repeat (first | apply Kd.V_alloc | apply Kd.V_drewN | apply Kd.V_drew)); exact af.out⟩, ⟨by (with_reducible repeat (first | apply Kd.V_alloc | apply Kd.V_drewN | apply Kd.V_drew)); exact ag.out⟩, ⟨by (with_reducible repeat (first | apply Kd.R_alloc | apply Kd.R_drewN | apply Kd.R_drew)); exact Kd.R_mono aL.out (fun _ hk => hk.1)⟩, ⟨by repeat (first | (with_reducible first | exact HB.out | apply below_alloc | apply pw_below_drewN | apply below_drew1) | exact HB.out)⟩⟩
     case round =>
      clear H'
      try clear c1
      try clear p2
      try clear c4
      try clear an
      try clear au
      try clear c6
      try clear a6
      try clear a7
      try clear p6
      try clear c7
      try clear a8
      try clear a9
      try clear p2
      obtain ⟨ac, ah, aa, rfl, rfl, HA, HK2, af, ag, ad, HB⟩ := hrel
      cases gk with
      | zero => exact absurd HA.out (by simp [nat_plus.l0])
      | succ k2 =>
       have H := HA.out
       clear HA
       simp only [nat_plus.l0] at H
       by_cases aI : aa < (ab.length : Int)
       ·
        rw [if_pos aI] at H
        have aM : decide (aa < (ab.length : Int)) = true := decide_eq_true aI
        clear aI
        by_cases aZ : 0 ≤ aa
        ·
         rw [if_pos aZ] at H
         have bn : decide (0 ≤ aa) = true := decide_eq_true aZ
         clear aZ
         by_cases a0 : aa < (ab.length : Int)
         ·
          rw [if_pos a0] at H
          have bo : decide (aa < (ab.length : Int)) = true := decide_eq_true a0
          clear a0
          by_cases aJ : aa < (ae.length : Int)
          ·
           rw [if_pos aJ] at H
           have aN : decide (aa < (ae.length : Int)) = true := decide_eq_true aJ
           clear aJ
           by_cases a1 : aa < (ac.length : Int)
           ·
            rw [if_pos a1] at H
            have bp : decide (aa < (ac.length : Int)) = true := decide_eq_true a1
            clear a1
            obtain ⟨aB, aj⟩ : ∃ y_ : List Int, y_ = (ac.set (aa : Int).toNat ((IntKind.u64.wrap ((IntKind.u64.wrap ((IntKind.u64.wrap (rd ab aa)) + ah)) + (IntKind.u64.wrap (rd ae aa)))) % 4294967296)) := ⟨_, rfl⟩
            replace H : (nat_plus.l0 k2 ab ae aB ((IntKind.u64.wrap ((IntKind.u64.wrap ((IntKind.u64.wrap (rd ab aa)) + ah)) + (IntKind.u64.wrap (rd ae aa)))) / 4294967296) (ab.length : Int) (wrap64 (aa + 1))) = some r := by first | (rw [aj]; with_reducible exact H) | (have H2_ := (Option.bind_some _ _).symm.trans H; rw [aj]; with_reducible exact H2_) | (have H2_ := (Option.bind_some _ _).symm.trans H; with_reducible exact H2_) | with_reducible exact H | (rw [aj]; exact H) | exact H
            have aO := am aj
            clear aj
            have H' := am H
            clear H
            have p286 : 0 ≤ (aa : Int) := of_decide_eq_true (by first | (with_reducible assumption) | assumption)
            have q286 : aa < (ab.length : Int) := of_decide_eq_true (by first | (with_reducible assumption) | assumption)
            obtain ⟨ad286, e286, ax⟩ := Kd.at_int (Kd.V_reads' af.out).2.2 aa p286 q286
            cases e286
            replace p286 := eq_true p286
            replace q286 := eq_true q286
            obtain ⟨bE, bF, ba⟩ := Kd.V_slice ag.out
            subst ba
            have p287 : 0 ≤ (aa : Int) := of_decide_eq_true (by first | (with_reducible assumption) | assumption)
            have q287 : aa < (ae.length : Int) := of_decide_eq_true (by first | (with_reducible assumption) | assumption)
            obtain ⟨ad287, e287, a2⟩ := Kd.at_int (Kd.V_reads' ag.out).2.2 aa p287 q287
            cases e287
            replace p287 := eq_true p287
            replace q287 := eq_true q287
            have p16 : 0 ≤ (aa : Int) := of_decide_eq_true (by first | (with_reducible assumption) | assumption)
            have q16 : (aa : Int) < ((ac.length : Int) : Int) := of_decide_eq_true (by first | (with_reducible assumption) | assumption)
            obtain ⟨go16, av, aP, aQ, gl16, cl16, HG16⟩ := Kd.R_form ad.out (by omega)
            (first | cases aP | (injection aP with ea_ en_ ec_; (first | subst ea_ | (injection ea_ with ea_; subst ea_)); subst ec_; clear en_))
            have GB16 := am aQ
            have GG16 := am HG16
            clear aQ gl16 HG16
            obtain ⟨bb, bd⟩ := Kd.R_celln 0 ad.out (aa : Int) p16 q16
            replace p16 := eq_true p16
            replace q16 := eq_true q16
            have aC := Kd.R_putg ad.out (aa : Int) ((IntKind.u64.wrap ((IntKind.u64.wrap ((IntKind.u64.wrap (rd ab aa)) + ah)) + (IntKind.u64.wrap (rd ae aa)))) % 4294967296)
            go_wp2_with (first | ((with_reducible refine gate_store (t := 48) (p := 47) rfl ?_); refine store_event (t := 48) (p := 47) (v := ?vo_w19) (w1 := (wr.setCell ⟨go16, (aa : Int).toNat, none⟩ (.int .u32 ((IntKind.u64.wrap ((IntKind.u64.wrap ((IntKind.u64.wrap (rd ab aa)) + ah)) + (IntKind.u64.wrap (rd ae aa)))) % 4294967296)))) ?hg ?ho ?hn ?hr ?_; (case ho => rfl); (case hg => rfl); (case hn => rfl); (case hr => first | (go_simp; done) | (go_simp; rfl)); intro bf hw; have hg : wr.grownBy bf (some go16) := (by rw [hw]; exact aC.2); have hp_ : Kd.R (Kd.int .u32) 48 bf w.heap.size (fun k_ => (w.heap.size ≤ k_)) (.slice (some ⟨go16, 0, none⟩) ac.length av) aB := (by rw [hw, aO.out]; exact aC.1); clear aC; replace af := am (Kd.V_afterv (v := (.slice (some ⟨go16, 0, none⟩) ac.length av)) (v1 := (.slice (some ⟨go16, 0, none⟩) ac.length av)) (ok := (fun k_ => ((P0_ k_ ∨ P1_ k_) ∨ w.heap.size ≤ k_))) (vu af.out) hg (.inl rfl)); replace ag := am (Kd.V_afterv (v := (.slice (some ⟨go16, 0, none⟩) ac.length av)) (v1 := (.slice (some ⟨go16, 0, none⟩) ac.length av)) (ok := (fun k_ => ((P0_ k_ ∨ P1_ k_) ∨ w.heap.size ≤ k_))) (vu ag.out) hg (.inl rfl)); replace ad := am (hp_); replace HB := am ((by rw [hw]; exact below_set (HB.out) GB16.out : Below w.heap.size w bf)); clear hg hw hp_))
            go_roundg k2
            case measure => have := HJ2.out; have := HK2.out; omega
            case rel => exact ⟨(aB), ((IntKind.u64.wrap ((IntKind.u64.wrap ((IntKind.u64.wrap (rd ab aa)) + ah)) + (IntKind.u64.wrap (rd ae aa)))) / 4294967296), (wrap64 (aa + 1)), (by first | rfl | (simp; done) | (simp [*]; done)), (by first | rfl | (simp; done) | (simp [*]; done)), H', ⟨by have := HJ2.out; have := HK2.out; omega⟩, ⟨by (with_reducible repeat (first | apply Kd.V_alloc | apply Kd.V_drewN | apply Kd.V_drew)); exact af.out⟩, ⟨by (with_reducible repeat (first | apply Kd.V_alloc | apply Kd.V_drewN | apply Kd.V_drew)); exact ag.out⟩, ⟨by (with_reducible repeat (first | apply Kd.R_alloc | apply Kd.R_drewN | apply Kd.R_drew)); exact ad.out⟩, ⟨by repeat (first | (with_reducible first | exact HB.out | apply below_alloc | apply pw_below_drewN | apply below_drew1) | exact HB.out)⟩⟩
           ·
            rw [if_neg a1] at H
            exact absurd H (by simp)
          ·
           rw [if_neg aJ] at H
           have aN : decide (aa < (ae.length : Int)) = false := decide_eq_false aJ
           clear aJ
           by_cases a3 : aa < (ac.length : Int)
           ·
            rw [if_pos a3] at H
            have bq : decide (aa < (ac.length : Int)) = true := decide_eq_true a3
            clear a3
            obtain ⟨aD, ak⟩ : ∃ y_ : List Int, y_ = (ac.set (aa : Int).toNat ((IntKind.u64.wrap ((IntKind.u64.wrap (rd ab aa)) + ah)) % 4294967296)) := ⟨_, rfl⟩
            replace H : (nat_plus.l0 k2 ab ae aD ((IntKind.u64.wrap ((IntKind.u64.wrap (rd ab aa)) + ah)) / 4294967296) (ab.length : Int) (wrap64 (aa + 1))) = some r := by first | (rw [ak]; with_reducible exact H) | (have H2_ := (Option.bind_some _ _).symm.trans H; rw [ak]; with_reducible exact H2_) | (have H2_ := (Option.bind_some _ _).symm.trans H; with_reducible exact H2_) | with_reducible exact H | (rw [ak]; exact H) | exact H
            have aR := am ak
            clear ak
            have H' := am H
            clear H
            have p286 : 0 ≤ (aa : Int) := of_decide_eq_true (by first | (with_reducible assumption) | assumption)
            have q286 : aa < (ab.length : Int) := of_decide_eq_true (by first | (with_reducible assumption) | assumption)
            obtain ⟨ad286, e286, ax⟩ := Kd.at_int (Kd.V_reads' af.out).2.2 aa p286 q286
            cases e286
            replace p286 := eq_true p286
            replace q286 := eq_true q286
            obtain ⟨bG, bH, bg⟩ := Kd.V_slice ag.out
            subst bg
            have p21 : 0 ≤ (aa : Int) := of_decide_eq_true (by first | (with_reducible assumption) | assumption)
            have q21 : (aa : Int) < ((ac.length : Int) : Int) := of_decide_eq_true (by first | (with_reducible assumption) | assumption)
            obtain ⟨go21, aw, aS, aT, gl21, cl21, HG21⟩ := Kd.R_form ad.out (by omega)
            (first | cases aS | (injection aS with ea_ en_ ec_; (first | subst ea_ | (injection ea_ with ea_; subst ea_)); subst ec_; clear en_))
            have GB21 := am aT
            have GG21 := am HG21
            clear aT gl21 HG21
            obtain ⟨bh, bi⟩ := Kd.R_celln 0 ad.out (aa : Int) p21 q21
            replace p21 := eq_true p21
            replace q21 := eq_true q21
            have aE := Kd.R_putg ad.out (aa : Int) ((IntKind.u64.wrap ((IntKind.u64.wrap (rd ab aa)) + ah)) % 4294967296)
            go_wp2_with (first | ((with_reducible refine gate_store (t := 48) (p := 47) rfl ?_); refine store_event (t := 48) (p := 47) (v := ?vo_w24) (w1 := (wr.setCell ⟨go21, (aa : Int).toNat, none⟩ (.int .u32 ((IntKind.u64.wrap ((IntKind.u64.wrap (rd ab aa)) + ah)) % 4294967296)))) ?hg ?ho ?hn ?hr ?_; (case ho => rfl); (case hg => rfl); (case hn => rfl); (case hr => first | (go_simp; done) | (go_simp; rfl)); intro bj hw; have hg : wr.grownBy bj (some go21) := (by rw [hw]; exact aE.2); have hp_ : Kd.R (Kd.int .u32) 48 bj w.heap.size (fun k_ => (w.heap.size ≤ k_)) (.slice (some ⟨go21, 0, none⟩) ac.length aw) aD := (by rw [hw, aR.out]; exact aE.1); clear aE; replace af := am (Kd.V_afterv (v := (.slice (some ⟨go21, 0, none⟩) ac.length aw)) (v1 := (.slice (some ⟨go21, 0, none⟩) ac.length aw)) (ok := (fun k_ => ((P0_ k_ ∨ P1_ k_) ∨ w.heap.size ≤ k_))) (vu af.out) hg (.inl rfl)); replace ag := am (Kd.V_afterv (v := (.slice (some ⟨go21, 0, none⟩) ac.length aw)) (v1 := (.slice (some ⟨go21, 0, none⟩) ac.length aw)) (ok := (fun k_ => ((P0_ k_ ∨ P1_ k_) ∨ w.heap.size ≤ k_))) (vu ag.out) hg (.inl rfl)); replace ad := am (hp_); replace HB := am ((by rw [hw]; exact below_set (HB.out) GB21.out : Below w.heap.size w bj)); clear hg hw hp_))
            go_roundg k2
            case measure => have := HJ2.out; have := HK2.out; omega
            case rel => exact ⟨(aD), ((IntKind.u64.wrap ((IntKind.u64.wrap (rd ab aa)) + ah)) / 4294967296), (wrap64 (aa + 1)), (by first | rfl | (simp; done) | (simp [*]; done)), (by first | rfl | (simp; done) | (simp [*]; done)), H', ⟨by have := HJ2.out; have := HK2.out; omega⟩, ⟨by (with_reducible repeat (first | apply Kd.V_alloc | apply Kd.V_drewN | apply Kd.V_drew)); exact af.out⟩, ⟨by (with_reducible repeat (first | apply Kd.V_alloc | apply Kd.V_drewN | apply Kd.V_drew)); exact ag.out⟩, ⟨by (with_reducible repeat (first | apply Kd.R_alloc | apply Kd.R_drewN | apply Kd.R_drew)); exact ad.out⟩, ⟨by repeat (first | (with_reducible first | exact HB.out | apply below_alloc | apply pw_below_drewN | apply below_drew1) | exact HB.out)⟩⟩
           ·
            rw [if_neg a3] at H
            exact absurd H (by simp)
         ·
          rw [if_neg a0] at H
          exact absurd H (by simp)
        ·
         rw [if_neg aZ] at H
         exact absurd H (by simp)
       ·
        rw [if_neg aI] at H
        have aM : decide (aa < (ab.length : Int)) = false := decide_eq_false aI
        clear aI
        by_cases a4 : 0 ≤ (ab.length : Int)
        ·
         rw [if_pos a4] at H
         have br : decide (0 ≤ (ab.length : Int)) = true := decide_eq_true a4
         have bv : decide (0 ≤ ab.length) = true := decide_eq_true (by omega)
         clear a4
         by_cases aU : (ab.length : Int) < (ac.length : Int)
         ·
          rw [if_pos aU] at H
          have bw : decide ((ab.length : Int) < (ac.length : Int)) = true := decide_eq_true aU
          have bx : decide (ab.length < ac.length) = true := decide_eq_true (Int.ofNat_lt.mp aU)
          clear aU
          obtain ⟨aq, al⟩ : ∃ y_ : List Int, y_ = (ac.set ((ab.length : Int) : Int).toNat ((ah) % 4294967296)) := ⟨_, rfl⟩
          replace H : ((nat_short.f k2 aq).bind fun ay => (some ay)) = some r := by first | (rw [al]; with_reducible exact H) | (have H2_ := (Option.bind_some _ _).symm.trans H; rw [al]; with_reducible exact H2_) | (have H2_ := (Option.bind_some _ _).symm.trans H; with_reducible exact H2_) | with_reducible exact H | (rw [al]; exact H) | exact H
          have aV := am al
          clear al
          obtain ⟨ay, bI, H⟩ := bs H
          replace H : (some ay) = some r := H
          obtain rfl := Option.some.inj H
          have p27 : 0 ≤ ((ab.length : Int) : Int) := of_decide_eq_true (by first | (with_reducible assumption) | assumption)
          have q27 : ((ab.length : Int) : Int) < ((ac.length : Int) : Int) := of_decide_eq_true (by first | (with_reducible assumption) | assumption)
          obtain ⟨go27, ap, aW, aX, gl27, cl27, HG27⟩ := Kd.R_form ad.out (by omega)
          (first | cases aW | (injection aW with ea_ en_ ec_; (first | subst ea_ | (injection ea_ with ea_; subst ea_)); subst ec_; clear en_))
          have GB27 := am aX
          have GG27 := am HG27
          clear aX gl27 HG27
          obtain ⟨aF, aG⟩ := Kd.R_celln 0 ad.out ((ab.length : Int) : Int) p27 q27
          (try simp only [Go.IntWalk.toNatUp] at aF aG)
          replace p27 := eq_true p27
          replace q27 := eq_true q27
          have aH := Kd.R_putg ad.out ((ab.length : Int) : Int) ((ah) % 4294967296)
          go_wp2_with (first | ((with_reducible refine gate_store (t := 48) (p := 56) rfl ?_); refine store_event (t := 48) (p := 56) (v := ?vo_w30) (w1 := (wr.setCell ⟨go27, ((ab.length : Int) : Int).toNat, none⟩ (.int .u32 ((ah) % 4294967296)))) ?hg ?ho ?hn ?hr ?_; (case ho => rfl); (case hg => rfl); (case hn => rfl); (case hr => first | (go_simp; done) | (go_simp; rfl)); intro bk hw; have hg : wr.grownBy bk (some go27) := (by rw [hw]; exact aH.2); have hp_ : Kd.R (Kd.int .u32) 48 bk w.heap.size (fun k_ => (w.heap.size ≤ k_)) (.slice (some ⟨go27, 0, none⟩) ac.length ap) aq := (by rw [hw, aV.out]; exact aH.1); clear aH; replace af := am (Kd.V_afterv (v := (.slice (some ⟨go27, 0, none⟩) ac.length ap)) (v1 := (.slice (some ⟨go27, 0, none⟩) ac.length ap)) (ok := (fun k_ => ((P0_ k_ ∨ P1_ k_) ∨ w.heap.size ≤ k_))) (vu af.out) hg (.inl rfl)); replace ag := am (Kd.V_afterv (v := (.slice (some ⟨go27, 0, none⟩) ac.length ap)) (v1 := (.slice (some ⟨go27, 0, none⟩) ac.length ap)) (ok := (fun k_ => ((P0_ k_ ∨ P1_ k_) ∨ w.heap.size ≤ k_))) (vu ag.out) hg (.inl rfl)); replace ad := am (hp_); replace HB := am ((by rw [hw]; exact below_set (HB.out) GB27.out : Below w.heap.size w bk)); clear hg hw hp_) | ((with_reducible refine gate_callee (f := 179) rfl ?_); refine goesL_ (some 58) rfl rfl Try.func179 (by kernel_rfl) rfl #[.slice (some ⟨go27, 0, none⟩) aq.length ap] rfl (by (try simp only [List.map_toArray, List.map_cons, List.map_nil]); first | done | (rw [show aq.length = ac.length from (Kd.R_reads' ad.out).1.symm] <;> rfl) | rfl | (simp only [List.length_drop, List.length_take]; rfl)) ?_; (with_reducible refine (nat_short.calls k2 (fun k_ => some k_ = (.slice (some ⟨go27, 0, none⟩) ac.length ap : Value).ownBlock) _ _ aq ay _ ?side1 bI.out).mono ?_); (case side1 => rw [show aq.length = ac.length from (Kd.R_reads' ad.out).1.symm]; exact Kd.R_V (Kd.R_tight rfl (ad.out))); rintro e bK ⟨bJ, rfl, bz, hb⟩; refine ⟨_, rfl, ?_⟩; replace af := kv af hb; replace ag := kv ag hb; have aY := am (Kd.V_lower (Kd.V_mono (ok' := fun k_ => ((P0_ k_ ∨ P1_ k_) ∨ w.heap.size ≤ k_)) bz (fun k_ hk_ => Or.elim hk_ (fun hs_ => (.inr (((ad.out).1 k_ hs_.symm)))) (fun hn_ => (.inr (Nat.le_trans (below_size (bu HB.out)) hn_))))) (below_size (bu HB.out))); replace ad := am (Kd.R_below (by (with_reducible repeat (first | apply Kd.R_alloc | apply Kd.R_drewN | apply Kd.R_drew)); exact ad.out) hb); replace HB := be HB hb; (try clear hb); (try clear bz)))
          go_ret
          exact ⟨_, by first | rfl | (simp [errW_none, errW_some] <;> rfl) | (simp only [← hji5]; first | rfl | (simp [errW_none, errW_some] <;> rfl)) | (simp [*, errW_none, errW_some] <;> rfl), by (with_reducible repeat (first | apply Kd.V_alloc | apply Kd.V_drewN | apply Kd.V_drew)); exact aY.out, by repeat (first | (with_reducible first | exact HB.out | apply below_alloc | apply pw_below_drewN | apply below_drew1) | exact HB.out)⟩
         ·
          rw [if_neg aU] at H
          exact absurd H (by simp)
        ·
         rw [if_neg a4] at H
         exact absurd H (by simp)
    ·
     rw [if_neg c7] at H
     exact absurd H (by simp)
   ·
    rw [if_neg c6] at H
    exact absurd H (by simp)
def nat_Add.l0 : Nat → List Int → List (List Int) → Int → Int → Option (List Int)
 | 0, _, _, _, _ => none
 | k + 1, x3, x6, x7, x8 => if x8 < x7 then (if 0 ≤ x8 then (if x8 < (x6.length : Int) then ((nat_short.f k (rd_L4 x6 x8)).bind fun t295 => ((nat_plus.f k x3 t295).bind fun t298 => (nat_Add.l0 k t298 x6 x7 (wrap64 (x8 + 1))))) else (none)) else (none)) else ((nat_Trim.f k x3).bind fun t301 => (some t301))
def nat_Add.f (k : Nat) (l0 : List (List Int)) : Option (List Int) := nat_Add.l0 k ([] : List Int) l0 (l0.length : Int) 0
theorem nat_Add.calls (k : Nat) (A0 : Option Addr) (c0 : Nat) (l0 : List (List Int)) (r : List Int) (w : World) (hr0 : Kd.C (Kd.slice 48 (Kd.int .u32)) w A0 l0.length l0) (hc0 : l0.length ≤ c0) (h : nat_Add.f k l0 = some r) :
 Calls Try.prog 142 #[.slice A0 l0.length c0] w fun e w' => ∃ v0_ : Value, e = .returned (v0_) ∧ Kd.R (Kd.int .u32) 48 w' w.heap.size (fun _ => True) v0_ r ∧ Below w.heap.size w w' := by
 have ax := am hr0
 have aK := am hc0
 clear hr0 hc0
 have HB := am (Below.refl w.heap.size w)
 have H : (nat_Add.l0 k ([] : List Int) l0 (l0.length : Int) 0) = some r := h
 clear h
 have H' := am H
 clear H
 go_enter Try.func142, Try.ntmps142
 go_wp2
 go_loopg [3, 8] k (fun kq v3 v8 w' => ∃ (ad : List Int) (aa : Int), v8 = .int .i64 aa ∧ Aside0 (nat_Add.l0 kq ad l0 (l0.length : Int) aa = some r) ∧ Aside0 (kq ≤ k) ∧ Aside0 (Kd.V (Kd.int .u32) 48 w' w.heap.size (fun _ => True) v3 ad) ∧ Aside0 (Below w.heap.size w w'))
 case atStart => exact ⟨(([] : List Int)), (0), (by first | rfl | (simp; done) | (simp [*]; done)), H', ⟨Nat.le_refl _⟩, ⟨Kd.V_nil _ _ _ _ _⟩, ⟨by repeat (first | (with_reducible first | exact HB.out | apply below_alloc | apply pw_below_drewN | apply below_drew1) | exact HB.out)⟩⟩
 case round =>
  clear H'
  try clear c1
  obtain ⟨ad, aa, rfl, HA, HK1, ab, HB⟩ := hrel
  cases gk with
  | zero => exact absurd HA.out (by simp [nat_Add.l0])
  | succ k1 =>
   have H := HA.out
   clear HA
   simp only [nat_Add.l0] at H
   by_cases c2 : aa < (l0.length : Int)
   ·
    rw [if_pos c2] at H
    have aq : decide (aa < (l0.length : Int)) = true := decide_eq_true c2
    clear c2
    by_cases c3 : 0 ≤ aa
    ·
     rw [if_pos c3] at H
     have ay : decide (0 ≤ aa) = true := decide_eq_true c3
     clear c3
     by_cases c4 : aa < (l0.length : Int)
     ·
      rw [if_pos c4] at H
      have az : decide (aa < (l0.length : Int)) = true := decide_eq_true c4
      clear c4
      obtain ⟨ai, A5, H⟩ := bs H
      (try dsimp -simprocs only at H)
      obtain ⟨al, A6, H⟩ := bs H
      (try dsimp -simprocs only at H)
      have H' := am H
      clear H
      have p294 : 0 ≤ (aa : Int) := of_decide_eq_true (by first | (with_reducible assumption) | assumption)
      have q294 : aa < (l0.length : Int) := of_decide_eq_true (by first | (with_reducible assumption) | assumption)
      obtain ⟨ad294, aj, ak, e294, ac, hl294_0, hi294_0⟩ := at_L4 ax.out aa p294 q294
      cases e294
      replace ac := (HB.out.cell (World.block_lt_of_cell? w _ ac)).trans ac
      have af := am hi294_0
      have ag := am hl294_0
      clear hi294_0 hl294_0
      replace p294 := eq_true p294
      replace q294 := eq_true q294
      go_wp2_with (first | ((with_reducible refine gate_callee (f := 179) rfl ?_); refine goesL_ (some 14) rfl rfl Try.func179 (by kernel_rfl) rfl #[.slice aj (rd_L4 l0 aa).length ak] rfl lu ?_; (with_reducible refine (nat_short.calls k1 (fun k_ => k_ < w.heap.size) _ _ (rd_L4 l0 aa) ai _ ?side1 A5.out).mono ?_); (case side1 => exact Kd.V_mk ag.out (Kd.F_below (Kd.C_F (Kd.heap_int .u32) af.out) (bu HB.out))); rintro e w7 ⟨aA, rfl, ah, hb⟩; refine ⟨_, rfl, ?_⟩; replace ab := kv ab hb; have ae := am (Kd.V_lower (Kd.V_mono (ok' := fun k_ => True) ah (fun k_ hk_ => trivial)) (below_size (bu HB.out))); replace HB := be HB hb; (try clear hb); (try clear ah); obtain ⟨aB, aC, aD⟩ := Kd.V_slice ab.out; subst aD; obtain ⟨aE, aF, aG⟩ := Kd.V_slice ae.out; subst aG) | ((with_reducible refine gate_callee (f := 178) rfl ?_); refine goesL_ (some 15) rfl rfl Try.func178 (by kernel_rfl) rfl #[.slice aB ad.length aC, .slice aE ai.length aF] rfl lu ?_; (with_reducible refine (nat_plus.calls k1 (fun k_ => True) _ _ ad (fun k_ => True) _ _ ai al _ ?side1 ?side2 A6.out).mono ?_); (case side1 => exact vz ab.out); (case side2 => exact vz ae.out); rintro e aL ⟨aH, rfl, ah, hb⟩; refine ⟨_, rfl, ?_⟩; replace ab := kv ab hb; replace ae := kv ae hb; have an := am (Kd.V_lower (Kd.V_mono (ok' := fun k_ => True) ah (fun k_ hk_ => trivial)) (below_size (bu HB.out))); replace HB := be HB hb; (try clear hb); (try clear ah)))
      go_roundg k1
      case measure => have := HK1.out; omega
      case rel => exact ⟨(al), (wrap64 (aa + 1)), (by first | rfl | (simp; done) | (simp [*]; done)), H', ⟨by have := HK1.out; omega⟩, ⟨by (with_reducible repeat (first | apply Kd.V_alloc | apply Kd.V_drewN | apply Kd.V_drew)); exact an.out⟩, ⟨by repeat (first | (with_reducible first | exact HB.out | apply below_alloc | apply pw_below_drewN | apply below_drew1) | exact HB.out)⟩⟩
     ·
      rw [if_neg c4] at H
      exact absurd H (by simp)
    ·
     rw [if_neg c3] at H
     exact absurd H (by simp)
   ·
    rw [if_neg c2] at H
    have aq : decide (aa < (l0.length : Int)) = false := decide_eq_false c2
    clear c2
    obtain ⟨ao, aI, H⟩ := bs H
    replace H : (some ao) = some r := H
    obtain rfl := Option.some.inj H
    obtain ⟨au, av, aw⟩ := Kd.V_slice ab.out
    subst aw
    go_wp2_with (first | ((with_reducible refine gate_callee (f := 177) rfl ?_); refine goesL_ (some 18) rfl rfl Try.func177 (by kernel_rfl) rfl #[.slice au ad.length av] rfl lu ?_; (with_reducible refine (nat_Trim.calls k1 _ _ ad ao _ ?side1 ?side2 aI.out).mono ?_); (case side1 => exact cu (Kd.V_reads' ab.out).2.2); (case side2 => exact (Kd.V_reads' ab.out).2.1); rintro e aM ⟨aJ, rfl, ah, hb⟩; refine ⟨_, rfl, ?_⟩; replace ab := am (Kd.V_elder' (vu ab.out) (Kd.R_base ah) hb); have ap := am (Kd.R_lower ah (below_size (bu HB.out))); replace HB := be HB hb; (try clear hb); (try clear ah)))
    go_ret
    exact ⟨_, by first | rfl | (simp [errW_none, errW_some] <;> rfl) | (simp [*, errW_none, errW_some] <;> rfl), by (with_reducible repeat (first | apply Kd.R_alloc | apply Kd.R_drewN | apply Kd.R_drew)); exact ap.out, by repeat (first | (with_reducible first | exact HB.out | apply below_alloc | apply pw_below_drewN | apply below_drew1) | exact HB.out)⟩
def codewrightref01_limb.f (l0 : List Int) (a1 : Int) : Option (Int) := if a1 < (l0.length : Int) then (if 0 ≤ a1 then (some (IntKind.u64.wrap (rd l0 a1))) else (none)) else (some 0)
theorem codewrightref01_limb.calls (A0 : Option Addr) (c0 : Nat) (l0 : List Int) (a1 : Int) (r : Int) (w : World) (hr0 : Kd.C (Kd.int .u32) w A0 l0.length l0) (hc0 : l0.length ≤ c0) (h : codewrightref01_limb.f l0 a1 = some r) :
 Calls Try.prog 143 #[.slice A0 l0.length c0, .int .i64 a1] w fun e w' => e = .returned (.int .u64 r) ∧ Drawn0 w w' := by
 have ac := am hr0
 have ae := am hc0
 clear hr0 hc0
 have H : (if a1 < (l0.length : Int) then (if 0 ≤ a1 then (some (IntKind.u64.wrap (rd l0 a1))) else (none)) else (some 0)) = some r := h
 clear h
 by_cases c3 : a1 < (l0.length : Int)
 ·
  rw [if_pos c3] at H
  have ab : decide (a1 < (l0.length : Int)) = true := decide_eq_true c3
  clear c3
  by_cases c4 : 0 ≤ a1
  ·
   rw [if_pos c4] at H
   have ad : decide (0 ≤ a1) = true := decide_eq_true c4
   clear c4
   obtain rfl := Option.some.inj H
   have p311 : 0 ≤ (a1 : Int) := of_decide_eq_true (by first | (with_reducible assumption) | assumption)
   have q311 : a1 < (l0.length : Int) := of_decide_eq_true (by first | (with_reducible assumption) | assumption)
   obtain ⟨ad311, e311, aa⟩ := Kd.at_int ac.out a1 p311 q311
   cases e311
   replace p311 := eq_true p311
   replace q311 := eq_true q311
   go_enter Try.func143, Try.ntmps143
   go_wp2
   go_ret
   exact ⟨by first | rfl | (simp; done) | (simp [*]; done), by repeat (first | exact Drawn0.refl _ | apply Drawn0.step)⟩
  ·
   rw [if_neg c4] at H
   exact absurd H (by simp)
 ·
  rw [if_neg c3] at H
  have ab : decide (a1 < (l0.length : Int)) = false := decide_eq_false c3
  clear c3
  obtain rfl := Option.some.inj H
  go_enter Try.func143, Try.ntmps143
  go_wp2
  go_ret
  exact ⟨by first | rfl | (simp; done) | (simp [*]; done), by repeat (first | exact Drawn0.refl _ | apply Drawn0.step)⟩
def codewrightref01_Trim.l0 : Nat → List Int → Int → Option (List Int)
 | 0, _, _ => none
 | k + 1, x0, x3 => if x3 > 0 then (if 0 ≤ (wrap64 (x3 - 1)) then (if (wrap64 (x3 - 1)) < (x0.length : Int) then (if (rd x0 (wrap64 (x3 - 1))) = 0 then (codewrightref01_Trim.l0 k x0 (wrap64 (x3 - 1))) else ((some (([] : List Int) : List Int)).bind fun y313 => (if 0 ≤ x3 then (if x3 ≤ (x0.length : Int) then (if y313.length + (x0.take (x3 : Int).toNat).length < 35184372088832 then (some (y313 ++ (x0.take (x3 : Int).toNat))) else (none)) else (none)) else (none)))) else (none)) else (none)) else ((some (([] : List Int) : List Int)).bind fun y320 => (if 0 ≤ x3 then (if x3 ≤ (x0.length : Int) then (if y320.length + (x0.take (x3 : Int).toNat).length < 35184372088832 then (some (y320 ++ (x0.take (x3 : Int).toNat))) else (none)) else (none)) else (none)))
def codewrightref01_Trim.f (k : Nat) (l0 : List Int) : Option (List Int) := codewrightref01_Trim.l0 k l0 (l0.length : Int)
theorem codewrightref01_Trim.calls (k : Nat) (A0 : Option Addr) (c0 : Nat) (l0 : List Int) (r : List Int) (w : World) (hr0 : Kd.C (Kd.int .u32) w A0 l0.length l0) (hc0 : l0.length ≤ c0) (h : codewrightref01_Trim.f k l0 = some r) :
 Calls Try.prog 144 #[.slice A0 l0.length c0] w fun e w' => ∃ v0_ : Value, e = .returned (v0_) ∧ Kd.R (Kd.int .u32) 48 w' w.heap.size (fun _ => True) v0_ r ∧ Below w.heap.size w w' := by
 have aA := am hr0
 have aM := am hc0
 clear hr0 hc0
 have HB := am (Below.refl w.heap.size w)
 have H : (codewrightref01_Trim.l0 k l0 (l0.length : Int)) = some r := h
 clear h
 have H' := am H
 clear H
 go_enter Try.func144, Try.ntmps144
 go_wp2
 go_loopg [3] k (fun kq v3 w' => ∃ (aa : Int), v3 = .int .i64 aa ∧ Aside0 (codewrightref01_Trim.l0 kq l0 aa = some r) ∧ Aside0 (kq ≤ k) ∧ Aside0 (Below w.heap.size w w'))
 case atStart => exact ⟨((l0.length : Int)), (by first | rfl | (simp; done) | (simp [*]; done)), H', ⟨Nat.le_refl _⟩, ⟨by repeat (first | (with_reducible first | exact HB.out | apply below_alloc | apply pw_below_drewN | apply below_drew1) | exact HB.out)⟩⟩
 case round =>
  clear H'
  try clear c1
  obtain ⟨aa, rfl, HA, HK1, HB⟩ := hrel
  cases gk with
  | zero => exact absurd HA.out (by simp [codewrightref01_Trim.l0])
  | succ k1 =>
   have H := HA.out
   clear HA
   simp only [codewrightref01_Trim.l0] at H
   by_cases c2 : aa > 0
   ·
    rw [if_pos c2] at H
    have aD : decide (0 < aa) = true := decide_eq_true c2
    clear c2
    obtain ⟨ji3, hji3⟩ : ∃ j_ : Int, (wrap64 (aa - 1)) = j_ := ⟨_, rfl⟩
    replace H : (if 0 ≤ (ji3) then (if (ji3) < (l0.length : Int) then (if (rd l0 (ji3)) = 0 then (codewrightref01_Trim.l0 k1 l0 ji3) else ((some (([] : List Int) : List Int)).bind fun ac => (if 0 ≤ aa then (if aa ≤ (l0.length : Int) then (if ac.length + (l0.take (aa : Int).toNat).length < 35184372088832 then (some (ac ++ (l0.take (aa : Int).toNat))) else (none)) else (none)) else (none)))) else (none)) else (none)) = some r := by first | (rw [hji3] at H; exact H) | (simp only [hji3] at H ⊢; exact H)
    have hji3w : (IntKind.i64.wrap (aa - 1)) = ji3 := (i64_w _).trans hji3
    by_cases c4 : 0 ≤ (ji3)
    ·
     rw [if_pos c4] at H
     have aW : decide (0 ≤ (ji3)) = true := decide_eq_true c4
     clear c4
     by_cases c5 : (ji3) < (l0.length : Int)
     ·
      rw [if_pos c5] at H
      have aX : decide ((ji3) < (l0.length : Int)) = true := decide_eq_true c5
      clear c5
      by_cases c6 : (rd l0 (ji3)) = 0
      ·
       rw [if_pos c6] at H
       have aE : ((rd l0 (ji3)) == 0) = true := beq_iff_eq.mpr c6
       have aG : ((rd l0 (ji3)) != 0) = false := bne_eq_false_iff_eq.mpr c6
       clear c6
       have H' := am H
       clear H
       have p312 : 0 ≤ ((ji3) : Int) := of_decide_eq_true (by first | (with_reducible assumption) | assumption)
       have q312 : (ji3) < (l0.length : Int) := of_decide_eq_true (by first | (with_reducible assumption) | assumption)
       obtain ⟨ad312, e312, ab⟩ := Kd.at_int aA.out (ji3) p312 q312
       cases e312
       replace ab := (HB.out.cell (World.block_lt_of_cell? w _ ab)).trans ab
       replace p312 := eq_true p312
       replace q312 := eq_true q312
       go_wp2
       go_roundg k1
       case measure => have := HK1.out; omega
       case rel => exact ⟨(ji3), (by first | rfl | (simp; done) | (simp only [← hji3] <;> (first | rfl | simp)) | (simp [*]; done)), H', ⟨by have := HK1.out; omega⟩, ⟨by repeat (first | (with_reducible first | exact HB.out | apply below_alloc | apply pw_below_drewN | apply below_drew1) | exact HB.out)⟩⟩
      ·
       rw [if_neg c6] at H
       have aE : ((rd l0 (ji3)) == 0) = false := beq_eq_false_iff_ne.mpr c6
       have aG : ((rd l0 (ji3)) != 0) = true := bne_iff_ne.mpr c6
       obtain ⟨ac, ad⟩ : ∃ y_ : List Int, y_ = (([] : List Int)) := ⟨_, rfl⟩
       replace H : (if 0 ≤ aa then (if aa ≤ (l0.length : Int) then (if ac.length + (l0.take (aa : Int).toNat).length < 35184372088832 then (some (ac ++ (l0.take (aa : Int).toNat))) else (none)) else (none)) else (none)) = some r := by first | (rw [ad]; with_reducible exact H) | (have H2_ := (Option.bind_some _ _).symm.trans H; rw [ad]; with_reducible exact H2_) | (have H2_ := (Option.bind_some _ _).symm.trans H; with_reducible exact H2_) | with_reducible exact H | (rw [ad]; exact H) | exact H
       have ak := am ad
       clear ad
       by_cases c7 : 0 ≤ aa
       ·
        rw [if_pos c7] at H
        have aY := eq_true c7
        have aZ : decide (0 ≤ aa) = true := decide_eq_true c7
        clear c7
        by_cases c8 : aa ≤ (l0.length : Int)
        ·
         rw [if_pos c8] at H
         have a0 := eq_true c8
         have a1 : decide (aa ≤ (l0.length : Int)) = true := decide_eq_true c8
         clear c8
         by_cases c9 : ac.length + (l0.take (aa : Int).toNat).length < 35184372088832
         ·
          rw [if_pos c9] at H
          have LMc9 := am c9
          clear c9
          obtain ⟨aH, ae⟩ : ∃ y_ : List Int, y_ = (ac ++ (l0.take (aa : Int).toNat)) := ⟨_, rfl⟩
          replace H : (some aH) = some r := by first | (rw [ae]; with_reducible exact H) | (have H2_ := (Option.bind_some _ _).symm.trans H; rw [ae]; with_reducible exact H2_) | (have H2_ := (Option.bind_some _ _).symm.trans H; with_reducible exact H2_) | with_reducible exact H | (rw [ae]; exact H) | exact H
          have au := am ae
          clear ae
          obtain rfl := Option.some.inj H
          have p312 : 0 ≤ ((ji3) : Int) := of_decide_eq_true (by first | (with_reducible assumption) | assumption)
          have q312 : (ji3) < (l0.length : Int) := of_decide_eq_true (by first | (with_reducible assumption) | assumption)
          obtain ⟨ad312, e312, ab⟩ := Kd.at_int aA.out (ji3) p312 q312
          cases e312
          replace ab := (HB.out.cell (World.block_lt_of_cell? w _ ab)).trans ab
          replace p312 := eq_true p312
          replace q312 := eq_true q312
          go_wp2_with (first | ((with_reducible refine gate_dst (N := 18) rfl ?_); refine Kd.R_lit (Kd.int .u32) _ 48 ?hg (N := 18) ?hd (xs := ([] : List Int)) (inner := []) (ok := fun _ => True) (okp := fun _ => True) ?hr ?hp (fun _ hk => hk) trivial (Below.refl _ _) (Nat.le_refl _) (by simp) ?_; (case hd => rfl); (case hg => rfl); (case hr => first | (go_simp; done) | (go_simp; rfl)); (case hp => exact (Reps.none _ _)); intro aI a4 ah hb hg_ hnew_; clear hg_ hnew_; (first | rw [← ak.out] at ah | (simp only [Int.reduceToNat] at ah; rw [← ak.out] at ah)); have al := am (Kd.R_lower ah (below_size (bu HB.out))); replace HB := be HB hb; clear hb ah; obtain ⟨i012, hi012, _, hsz12, _⟩ := info_parts info48; obtain ⟨hcut12, hA12, hC12⟩ := print_take_of (P := Try.prog) (Value.int .u32) 0 42 48 .i64 Try.underlying42 hi012 hsz12 (some ad312) c0 l0 aa (of_decide_eq_true (by first | (with_reducible assumption) | assumption)) (of_decide_eq_true (by first | (with_reducible assumption) | assumption)) aM.out; have an := am (Kd.C_of_reads (h1 := fun _ => rfl) (hA12 _ (Kd.reads_of_C aA.out))); have aN := am hC12; clear hA12 hC12 hi012 hsz12) | ((with_reducible refine gate_builtin (b := .append) (xs := #[.tmp 18, .tmp 21]) rfl ?_); at_builtin; refine Kd.R_append_rows (Kd.int .u32) (w0 := w) w.heap.size rfl (.tmp 18) (.tmp 21) 42 48 (.int .u32 0) 4 rfl Try.underlying42 info48 rfl (by decide) (by omega) aI ac (l0.take (aa : Int).toNat) _ _ _ (fun _ => True) (fun _ => False) rfl rfl ?aO ?aR (fun _ _ h => h) (fun _ h => h.elim) ?aF ?aB ?aS ?aL ?_; (case aR => first | (refine reads_len (show (l0.take (aa : Int).toNat).length = aa.toNat from (by rw [List.length_take]; have h_ : (aa : Int) ≤ (l0.length : Int) := of_decide_eq_true (by first | (with_reducible assumption) | assumption); omega)) ?_; repeat (first | exact (Kd.C_below an.out HB.out) | (with_reducible refine Kd.C_alloc ?_ _) | (with_reducible refine Kd.C_drewN ?_ _) | (with_reducible refine Kd.C_drew ?_))) | (repeat (first | exact (Kd.C_below an.out HB.out) | (with_reducible refine Kd.C_alloc ?_ _) | (with_reducible refine Kd.C_drewN ?_ _) | (with_reducible refine Kd.C_drew ?_)))); (case aB => exact (bu HB.out)); (case aF => exact (fun _ _ => trivial)); (case aO => exact (by (with_reducible repeat (first | apply Kd.R_alloc | apply Kd.R_drewN | apply Kd.R_drew)); exact al.out)); (case aS => exact (below_size (bu HB.out))); (case aL => have := LMc9.out; have hlx_ := (show (l0.take (aa : Int).toNat).length = aa.toNat from (by rw [List.length_take]; have h_ : (aa : Int) ≤ (l0.length : Int) := of_decide_eq_true (by first | (with_reducible assumption) | assumption); omega)); omega); intro a2 a5 ho hb hg hat; rw [← au.out] at ho; replace HB := am (hb); have av := am (ho); clear al ho hb hg hat))
          go_ret
          exact ⟨_, by first | rfl | (simp [errW_none, errW_some] <;> rfl) | (simp only [← hji3]; first | rfl | (simp [errW_none, errW_some] <;> rfl)) | (simp [*, errW_none, errW_some] <;> rfl), by (with_reducible repeat (first | apply Kd.R_alloc | apply Kd.R_drewN | apply Kd.R_drew)); exact av.out, by repeat (first | (with_reducible first | exact HB.out | apply below_alloc | apply pw_below_drewN | apply below_drew1) | exact HB.out)⟩
         ·
          rw [if_neg c9] at H
          exact absurd H (by simp)
        ·
         rw [if_neg c8] at H
         exact absurd H (by simp)
       ·
        rw [if_neg c7] at H
        exact absurd H (by simp)
     ·
      rw [if_neg c5] at H
      exact absurd H (by simp)
    ·
     rw [if_neg c4] at H
     exact absurd H (by simp)
   ·
    rw [if_neg c2] at H
    have aD : decide (0 < aa) = false := decide_eq_false c2
    clear c2
    obtain ⟨ai, af⟩ : ∃ y_ : List Int, y_ = (([] : List Int)) := ⟨_, rfl⟩
    replace H : (if 0 ≤ aa then (if aa ≤ (l0.length : Int) then (if ai.length + (l0.take (aa : Int).toNat).length < 35184372088832 then (some (ai ++ (l0.take (aa : Int).toNat))) else (none)) else (none)) else (none)) = some r := by first | (rw [af]; with_reducible exact H) | (have H2_ := (Option.bind_some _ _).symm.trans H; rw [af]; with_reducible exact H2_) | (have H2_ := (Option.bind_some _ _).symm.trans H; with_reducible exact H2_) | with_reducible exact H | (rw [af]; exact H) | exact H
    have ao := am af
    clear af
    by_cases aw : 0 ≤ aa
    ·
     rw [if_pos aw] at H
     have aP := eq_true aw
     have aQ : decide (0 ≤ aa) = true := decide_eq_true aw
     clear aw
     by_cases ax : aa ≤ (l0.length : Int)
     ·
      rw [if_pos ax] at H
      have aT := eq_true ax
      have aU : decide (aa ≤ (l0.length : Int)) = true := decide_eq_true ax
      clear ax
      by_cases aC : ai.length + (l0.take (aa : Int).toNat).length < 35184372088832
      ·
       rw [if_pos aC] at H
       have LMc16 := am aC
       clear aC
       obtain ⟨aJ, ag⟩ : ∃ y_ : List Int, y_ = (ai ++ (l0.take (aa : Int).toNat)) := ⟨_, rfl⟩
       replace H : (some aJ) = some r := by first | (rw [ag]; with_reducible exact H) | (have H2_ := (Option.bind_some _ _).symm.trans H; rw [ag]; with_reducible exact H2_) | (have H2_ := (Option.bind_some _ _).symm.trans H; with_reducible exact H2_) | with_reducible exact H | (rw [ag]; exact H) | exact H
       have ay := am ag
       clear ag
       obtain rfl := Option.some.inj H
       go_wp2_with (first | ((with_reducible refine gate_dst (N := 18) rfl ?_); refine Kd.R_lit (Kd.int .u32) _ 48 ?hg (N := 18) ?hd (xs := ([] : List Int)) (inner := []) (ok := fun _ => True) (okp := fun _ => True) ?hr ?hp (fun _ hk => hk) trivial (Below.refl _ _) (Nat.le_refl _) (by simp) ?_; (case hd => rfl); (case hg => rfl); (case hr => first | (go_simp; done) | (go_simp; rfl)); (case hp => exact (Reps.none _ _)); intro aK a6 aj hb hg_ hnew_; clear hg_ hnew_; (first | rw [← ao.out] at aj | (simp only [Int.reduceToNat] at aj; rw [← ao.out] at aj)); have ap := am (Kd.R_lower aj (below_size (bu HB.out))); replace HB := be HB hb; clear hb aj; obtain ⟨i019, hi019, _, hsz19, _⟩ := info_parts info48; obtain ⟨hcut19, hA19, hC19⟩ := print_take_of (P := Try.prog) (Value.int .u32) 0 42 48 .i64 Try.underlying42 hi019 hsz19 A0 c0 l0 aa (of_decide_eq_true (by first | (with_reducible assumption) | assumption)) (of_decide_eq_true (by first | (with_reducible assumption) | assumption)) aM.out; have aq := am (Kd.C_of_reads (h1 := fun _ => rfl) (hA19 _ (Kd.reads_of_C aA.out))); have aV := am hC19; clear hA19 hC19 hi019 hsz19) | ((with_reducible refine gate_builtin (b := .append) (xs := #[.tmp 18, .tmp 21]) rfl ?_); at_builtin; refine Kd.R_append_rows (Kd.int .u32) (w0 := w) w.heap.size rfl (.tmp 18) (.tmp 21) 42 48 (.int .u32 0) 4 rfl Try.underlying42 info48 rfl (by decide) (by omega) aK ai (l0.take (aa : Int).toNat) _ _ _ (fun _ => True) (fun _ => False) rfl rfl ?aO ?aR (fun _ _ h => h) (fun _ h => h.elim) ?aF ?aB ?aS ?aL ?_; (case aR => first | (refine reads_len (show (l0.take (aa : Int).toNat).length = aa.toNat from (by rw [List.length_take]; have h_ : (aa : Int) ≤ (l0.length : Int) := of_decide_eq_true (by first | (with_reducible assumption) | assumption); omega)) ?_; repeat (first | exact (Kd.C_below aq.out HB.out) | (with_reducible refine Kd.C_alloc ?_ _) | (with_reducible refine Kd.C_drewN ?_ _) | (with_reducible refine Kd.C_drew ?_))) | (repeat (first | exact (Kd.C_below aq.out HB.out) | (with_reducible refine Kd.C_alloc ?_ _) | (with_reducible refine Kd.C_drewN ?_ _) | (with_reducible refine Kd.C_drew ?_)))); (case aB => exact (bu HB.out)); (case aF => exact (fun _ _ => trivial)); (case aO => exact (by (with_reducible repeat (first | apply Kd.R_alloc | apply Kd.R_drewN | apply Kd.R_drew)); exact ap.out)); (case aS => exact (below_size (bu HB.out))); (case aL => have := LMc16.out; have hlx_ := (show (l0.take (aa : Int).toNat).length = aa.toNat from (by rw [List.length_take]; have h_ : (aa : Int) ≤ (l0.length : Int) := of_decide_eq_true (by first | (with_reducible assumption) | assumption); omega)); omega); intro a3 a7 ho hb hg hat; rw [← ay.out] at ho; replace HB := am (hb); have az := am (ho); clear ap ho hb hg hat))
       go_ret
       exact ⟨_, by first | rfl | (simp [errW_none, errW_some] <;> rfl) | (simp [*, errW_none, errW_some] <;> rfl), by (with_reducible repeat (first | apply Kd.R_alloc | apply Kd.R_drewN | apply Kd.R_drew)); exact az.out, by repeat (first | (with_reducible first | exact HB.out | apply below_alloc | apply pw_below_drewN | apply below_drew1) | exact HB.out)⟩
      ·
       rw [if_neg aC] at H
       exact absurd H (by simp)
     ·
      rw [if_neg ax] at H
      exact absurd H (by simp)
    ·
     rw [if_neg aw] at H
     exact absurd H (by simp)
mutual
def codewrightref01_Add.l0 : Nat → List Int → List Int → List Int → Int → Int → Option (List Int)
 | 0, _, _, _, _, _ => none
 | k + 1, x0, x1, x5, x6, x7 => if x7 < (x0.length : Int) then (codewrightref01_Add.j1 k x0 x1 x5 x6 x7 true) else (if x7 < (x1.length : Int) then (codewrightref01_Add.j1 k x0 x1 x5 x6 x7 true) else (codewrightref01_Add.j1 k x0 x1 x5 x6 x7 (decide (x6 > 0))))
def codewrightref01_Add.j1 : Nat → List Int → List Int → List Int → Int → Int → Bool → Option (List Int)
 | 0, _, _, _, _, _, _ => none
 | k + 1, x0, x1, x5, x6, x7, x22 => if x22 = true then ((codewrightref01_limb.f x0 x7).bind fun t327 => ((codewrightref01_limb.f x1 x7).bind fun t328 => (if x5.length < 35184372088832 then (codewrightref01_Add.l0 k x0 x1 (x5 ++ [(Int.tmod (IntKind.u64.wrap ((IntKind.u64.wrap (t327 + t328)) + x6)) 4294967296) % 4294967296]) (IntKind.u64.wrap (Int.tdiv (IntKind.u64.wrap ((IntKind.u64.wrap (t327 + t328)) + x6)) 4294967296)) (wrap64 (x7 + 1))) else (none)))) else ((codewrightref01_Trim.f k x5).bind fun t332 => (some t332))
end
def codewrightref01_Add.f (k : Nat) (l0 : List Int) (l1 : List Int) : Option (List Int) := codewrightref01_Add.l0 k l0 l1 ([] : List Int) 0 0
theorem codewrightref01_Add.calls (k : Nat) (A0 : Option Addr) (c0 : Nat) (l0 : List Int) (A1 : Option Addr) (c1 : Nat) (l1 : List Int) (r : List Int) (w : World) (hr0 : Kd.C (Kd.int .u32) w A0 l0.length l0) (hc0 : l0.length ≤ c0) (hr1 : Kd.C (Kd.int .u32) w A1 l1.length l1) (hc1 : l1.length ≤ c1) (h : codewrightref01_Add.f k l0 l1 = some r) :
 Calls Try.prog 55 #[.slice A0 l0.length c0, .slice A1 l1.length c1] w fun e w' => ∃ v0_ : Value, e = .returned (v0_) ∧ Kd.R (Kd.int .u32) 48 w' w.heap.size (fun _ => True) v0_ r ∧ Below w.heap.size w w' := by
 have aA := am hr0
 have ay := am hc0
 clear hr0 hc0
 have aC := am hr1
 have az := am hc1
 clear hr1 hc1
 have HB := am (Below.refl w.heap.size w)
 have H : (codewrightref01_Add.l0 k l0 l1 ([] : List Int) 0 0) = some r := h
 clear h
 have H' := am H
 clear H
 go_enter Try.func55, Try.ntmps55
 go_wp2
 go_loopg [5, 6, 7] k (fun kq v5 v6 v7 w' => ∃ (ab : List Int) (ac : Int) (aa : Int), v6 = .int .u64 ac ∧ v7 = .int .i64 aa ∧ Aside0 (codewrightref01_Add.l0 kq l0 l1 ab ac aa = some r) ∧ Aside0 (kq ≤ k) ∧ Aside0 (Kd.R (Kd.int .u32) 48 w' w.heap.size (fun _ => True) v5 ab) ∧ Aside0 (Below w.heap.size w w'))
 case atStart => exact ⟨(([] : List Int)), (0), (0), (by first | rfl | (simp; done) | (simp [*]; done)), (by first | rfl | (simp; done) | (simp [*]; done)), H', ⟨Nat.le_refl _⟩, ⟨by first | exact Kd.R_nil _ _ _ _ _ | exact Kd.N_nil _ _ _ _ _ | exact Kd.V_nil _ _ _ _ _ | exact Kd.Q_nil _ _ _ _ _ | exact Kd.S_nil _ _ _ _ _⟩, ⟨by repeat (first | (with_reducible first | exact HB.out | apply below_alloc | apply pw_below_drewN | apply below_drew1) | exact HB.out)⟩⟩
 case round =>
  clear H'
  try clear c1
  try clear p2
  obtain ⟨ab, ac, aa, rfl, rfl, HA, HK1, ad, HB⟩ := hrel
  cases gk with
  | zero => exact absurd HA.out (by simp [codewrightref01_Add.l0])
  | succ k1 =>
   have H := HA.out
   clear HA
   simp only [codewrightref01_Add.l0] at H
   have aq := am H
   clear H
   go_upto_region 4 with (fail)
   go_cut [22] (fun aD wc => ∃ (kq : Nat) (ah : Bool), aD = .bool ah ∧ Aside0 (codewrightref01_Add.j1 kq l0 l1 ab ac aa ah = some r) ∧ Aside0 (kq ≤ k1) ∧ Aside0 (Kd.R (Kd.int .u32) 48 wc w.heap.size (fun _ => True) u5 ab) ∧ Aside0 (Below w.heap.size w wc))
   case first =>
    have H := aq.out
    clear aq
    by_cases c4 : aa < (l0.length : Int)
    ·
     rw [if_pos c4] at H
     have ai : decide (aa < (l0.length : Int)) = true := decide_eq_true c4
     clear c4
     (first | rw [ai] | rw [c4b1] | (simp only [i64_w, i32_w]; rw [ai]) | skip)
     have H' := am H
     clear H
     go_wp2
     go_meet
     case rel => exact ⟨_, (true), (by first | rfl | (simp; done) | (simp [*]; done)), H', ⟨by have := HK1.out; first | omega | exact Nat.le_refl _⟩, ⟨by (with_reducible repeat (first | apply Kd.R_alloc | apply Kd.R_drewN | apply Kd.R_drew)); exact ad.out⟩, ⟨by repeat (first | (with_reducible first | exact HB.out | apply below_alloc | apply pw_below_drewN | apply below_drew1) | exact HB.out)⟩⟩
    ·
     rw [if_neg c4] at H
     have ai : decide (aa < (l0.length : Int)) = false := decide_eq_false c4
     clear c4
     (first | rw [ai] | rw [c4b1] | (simp only [i64_w, i32_w]; rw [ai]) | skip)
     by_cases c5 : aa < (l1.length : Int)
     ·
      rw [if_pos c5] at H
      have ak : decide (aa < (l1.length : Int)) = true := decide_eq_true c5
      clear c5
      have H' := am H
      clear H
      go_wp2
      go_meet
      case rel => exact ⟨_, (true), (by first | rfl | (simp; done) | (simp [*]; done)), H', ⟨by have := HK1.out; first | omega | exact Nat.le_refl _⟩, ⟨by (with_reducible repeat (first | apply Kd.R_alloc | apply Kd.R_drewN | apply Kd.R_drew)); exact ad.out⟩, ⟨by repeat (first | (with_reducible first | exact HB.out | apply below_alloc | apply pw_below_drewN | apply below_drew1) | exact HB.out)⟩⟩
     ·
      rw [if_neg c5] at H
      have ak : decide (aa < (l1.length : Int)) = false := decide_eq_false c5
      clear c5
      have H' := am H
      clear H
      go_wp2
      go_meet
      case rel => exact ⟨_, (decide (ac > 0)), (by first | rfl | (simp; done) | (simp [*]; done)), H', ⟨by have := HK1.out; first | omega | exact Nat.le_refl _⟩, ⟨by (with_reducible repeat (first | apply Kd.R_alloc | apply Kd.R_drewN | apply Kd.R_drew)); exact ad.out⟩, ⟨by repeat (first | (with_reducible first | exact HB.out | apply below_alloc | apply pw_below_drewN | apply below_drew1) | exact HB.out)⟩⟩
   case rest =>
    clear aq
    try clear c1
    try clear p2
    try clear c4
    try clear ai
    try clear c4b1
    try clear c5
    try clear ak
    try clear p2
    obtain ⟨kq, ah, rfl, HA, HJ2, ad, HB⟩ := hcut
    cases kq with
    | zero => exact absurd HA.out (by simp [codewrightref01_Add.j1])
    | succ kj2 =>
     have H := HA.out
     clear HA
     simp only [codewrightref01_Add.j1] at H
     by_cases c6 : ah = true
     ·
      subst c6
      have H1 : ((codewrightref01_limb.f l0 aa).bind fun ae => ((codewrightref01_limb.f l1 aa).bind fun af => (if ab.length < 35184372088832 then (codewrightref01_Add.l0 kj2 l0 l1 (ab ++ [(Int.tmod (IntKind.u64.wrap ((IntKind.u64.wrap (ae + af)) + ac)) 4294967296) % 4294967296]) (IntKind.u64.wrap (Int.tdiv (IntKind.u64.wrap ((IntKind.u64.wrap (ae + af)) + ac)) 4294967296)) (wrap64 (aa + 1))) else (none)))) = some r := by rw [if_pos rfl] at H; exact H
      clear H
      have H := H1
      clear H1
      obtain ⟨ae, A7, H⟩ := bs H
      (try dsimp -simprocs only at H)
      obtain ⟨af, A8, H⟩ := bs H
      (try dsimp -simprocs only at H)
      by_cases c9 : ab.length < 35184372088832
      ·
       rw [if_pos c9] at H
       have LMc9 := am c9
       clear c9
       obtain ⟨al, ag⟩ : ∃ y_ : List Int, y_ = (ab ++ [(Int.tmod (IntKind.u64.wrap ((IntKind.u64.wrap (ae + af)) + ac)) 4294967296) % 4294967296]) := ⟨_, rfl⟩
       replace H : (codewrightref01_Add.l0 kj2 l0 l1 al (IntKind.u64.wrap (Int.tdiv (IntKind.u64.wrap ((IntKind.u64.wrap (ae + af)) + ac)) 4294967296)) (wrap64 (aa + 1))) = some r := by first | (rw [ag]; with_reducible exact H) | (have H2_ := (Option.bind_some _ _).symm.trans H; rw [ag]; with_reducible exact H2_) | (have H2_ := (Option.bind_some _ _).symm.trans H; with_reducible exact H2_) | with_reducible exact H | (rw [ag]; exact H) | exact H
       have an := am ag
       clear ag
       have H' := am H
       clear H
       go_wp2_with (first | ((with_reducible refine gate_callee (f := 143) rfl ?_); refine goesL_ (some 27) rfl rfl Try.func143 (by kernel_rfl) rfl #[.slice A0 l0.length c0, .int .i64 aa] rfl lu ?_; (with_reducible refine (codewrightref01_limb.calls _ _ l0 aa ae _ ?side1 ?side2 A7.out).mono ?_); (case side1 => repeat (first | exact (Kd.C_below aA.out HB.out) | (with_reducible refine Kd.C_alloc ?_ _) | (with_reducible refine Kd.C_drewN ?_ _) | (with_reducible refine Kd.C_drew ?_))); (case side2 => first | exact ay.out | exact vz ay.out); rintro e w' ⟨rfl, ⟨nd, rfl⟩⟩; refine ⟨_, rfl, ?_⟩) | ((with_reducible refine gate_callee (f := 143) rfl ?_); refine goesL_ (some 30) rfl rfl Try.func143 (by kernel_rfl) rfl #[.slice A1 l1.length c1, .int .i64 aa] rfl lu ?_; (with_reducible refine (codewrightref01_limb.calls _ _ l1 aa af _ ?side1 ?side2 A8.out).mono ?_); (case side1 => repeat (first | exact (Kd.C_below aC.out (bu HB.out)) | (with_reducible refine Kd.C_alloc ?_ _) | (with_reducible refine Kd.C_drewN ?_ _) | (with_reducible refine Kd.C_drew ?_))); (case side2 => first | exact az.out | exact vz az.out); rintro e w' ⟨rfl, ⟨nd, rfl⟩⟩; refine ⟨_, rfl, ?_⟩) | ((with_reducible refine gate_builtin (b := .append) (xs := #[.tmp 34, .tmp 38]) rfl ?_); (try (refine gate_guard (by rfl) ?_; dsimp only)); at_builtin; refine Kd.R_append (Kd.int .u32) (w0 := w) w.heap.size rfl (.tmp 34) (.tmp 38) 42 48 (.int .u32 0) 4 rfl Try.underlying42 info48 rfl (by decide) (by omega) u5 ab ((Int.tmod (IntKind.u64.wrap ((IntKind.u64.wrap (ae + af)) + ac)) 4294967296) % 4294967296) [.int .u32 ((Int.tmod (IntKind.u64.wrap ((IntKind.u64.wrap (ae + af)) + ac)) 4294967296) % 4294967296)] (fun _ => True) (fun _ => False) rfl rfl ?aP (fun _ hk => hk.elim) ?aF ?aO ?aB ?aS ?aL ?_; (case aP => exact rfl); (case aB => exact (bu HB.out)); (case aF => exact (fun _ _ => trivial)); (case aO => exact (by (with_reducible repeat (first | apply Kd.R_alloc | apply Kd.R_drewN | apply Kd.R_drew)); exact ad.out)); (case aS => exact (below_size (bu HB.out))); (case aL => have := LMc9.out; omega); intro aE aI ho hb hg hat; rw [← an.out] at ho; replace HB := am (hb); have ao := am (ho); clear ad ho hb hg hat))
       go_roundg kj2
       case measure => have := HK1.out; have := HJ2.out; omega
       case rel => exact ⟨(al), (IntKind.u64.wrap (Int.tdiv (IntKind.u64.wrap ((IntKind.u64.wrap (ae + af)) + ac)) 4294967296)), (wrap64 (aa + 1)), (by first | rfl | (simp; done) | (simp [*]; done)), (by first | rfl | (simp; done) | (simp [*]; done)), H', ⟨by have := HK1.out; have := HJ2.out; omega⟩, ⟨by (with_reducible repeat (first | apply Kd.R_alloc | apply Kd.R_drewN | apply Kd.R_drew)); exact ao.out⟩, ⟨by repeat (first | (with_reducible first | exact HB.out | apply below_alloc | apply pw_below_drewN | apply below_drew1) | exact HB.out)⟩⟩
      ·
       rw [if_neg c9] at H
       exact absurd H (by simp)
     ·
      replace c6 := Bool.eq_false_iff.mpr c6
      subst c6
      have H1 : ((codewrightref01_Trim.f kj2 ab).bind fun aj => (some aj)) = some r := by rw [if_neg (show ¬ (false = true) by decide)] at H; exact H
      clear H
      have H := H1
      clear H1
      obtain ⟨aj, aG, H⟩ := bs H
      replace H : (some aj) = some r := H
      obtain rfl := Option.some.inj H
      obtain ⟨au, av, aw⟩ := Kd.R_slice ad.out
      subst aw
      go_wp2_with (first | ((with_reducible refine gate_callee (f := 144) rfl ?_); refine goesL_ (some 43) rfl rfl Try.func144 (by kernel_rfl) rfl #[.slice au ab.length av] rfl lu ?_; (with_reducible refine (codewrightref01_Trim.calls kj2 _ _ ab aj _ ?side1 ?side2 aG.out).mono ?_); (case side1 => exact cu (Kd.R_reads' ad.out).2.2); (case side2 => exact (Kd.R_reads' ad.out).2.1); rintro e aJ ⟨aH, rfl, ax, hb⟩; refine ⟨_, rfl, ?_⟩; have ap := am (Kd.R_lower (Kd.R_new' ax (Kd.R_lt (by (with_reducible repeat (first | apply Kd.R_alloc | apply Kd.R_drewN | apply Kd.R_drew)); exact ad.out))) (below_size (bu HB.out))); replace ad := am (Kd.R_elder' (by (with_reducible repeat (first | apply Kd.R_alloc | apply Kd.R_drewN | apply Kd.R_drew)); exact ad.out) (Kd.R_base ax) hb); replace HB := be HB hb; (try clear hb); (try clear ax)))
      go_ret
      exact ⟨_, by first | rfl | (simp [errW_none, errW_some] <;> rfl) | (simp [*, errW_none, errW_some] <;> rfl), by (with_reducible repeat (first | apply Kd.R_alloc | apply Kd.R_drewN | apply Kd.R_drew)); exact Kd.R_mono ap.out (fun _ hk => trivial), by repeat (first | (with_reducible first | exact HB.out | apply below_alloc | apply pw_below_drewN | apply below_drew1) | exact HB.out)⟩
end Go.Proofs.Ytecfdemglbfnoaa.PT
end
