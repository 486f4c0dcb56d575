/- Walks and plain facts for the law RationalLists, several texts in one: each theorem says what it shows; no condition beyond those that it names. -/
import Derived.Test.YtecfdemglbfnoaaRows
import Derived.JoinedOf
import Derived.KernelRfl
section
namespace Go.Proofs.Ytecfdemglbfnoaa
open Go
namespace Facts
theorem words_cons (r : List Char) : ∀ w : List Char, (w.all fun c => c != Char.ofNat 32) = true → wordsSigns (w ++ Char.ofNat 32 :: r) = w :: wordsSigns r
  | [], _ => by simp only [List.nil_append]; rfl
  | c :: w, h => by
    simp only [List.all_cons, Bool.and_eq_true, bne_iff_ne, ne_eq] at h
    have ih := words_cons r w h.2
    rw [List.cons_append, wordsSigns.eq_3 _ _ (fun e => h.1 e), ih]
def w1 : List Char := List.map Char.ofNat [104, 97, 114, 110, 101, 115, 115]
def w2 : List Char := List.map Char.ofNat [53, 97, 57, 56, 102, 50, 48, 57, 48, 98, 53, 98, 49, 55, 100, 56, 49, 53, 98, 55, 99, 52, 53, 48, 101, 56, 51, 100, 50, 98, 49, 52, 55, 51, 101, 102, 
  56, 50, 54, 55, 52, 51, 49, 57, 100, 52, 54, 56, 57, 49, 97, 97, 102, 99, 100, 102, 55, 100, 57, 97, 99, 54, 51, 98]
def w3 : List Char := List.map Char.ofNat [99, 117, 116]
def w4 : List Char := List.map Char.ofNat [97, 116, 32, 99, 111, 100, 101, 119, 114, 105, 103, 104, 116, 47, 99, 111, 100, 101, 119, 114, 105, 103, 104, 116, 108, 97, 119, 52, 54, 46, 83, 101, 
  109, 105, 114, 105, 110, 103, 66, 111, 111, 108, 101, 97, 110, 115, 32, 99, 111, 100, 101, 119, 114, 105, 103, 104, 116, 47, 99, 111, 100, 101, 119, 
  114, 105, 103, 104, 116, 108, 97, 119, 52, 54, 46, 83, 101, 109, 105, 114, 105, 110, 103, 67, 111, 115, 116, 115, 32, 99, 111, 100, 101, 119, 114, 105, 
  103, 104, 116, 47, 99, 111, 100, 101, 119, 114, 105, 103, 104, 116, 108, 97, 119, 52, 54, 46, 83, 101, 109, 105, 114, 105, 110, 103, 71, 97, 105, 110, 
  115, 32, 99, 111, 100, 101, 119, 114, 105, 103, 104, 116, 47, 99, 111, 100, 101, 119, 114, 105, 103, 104, 116, 108, 97, 119, 52, 54, 46, 83, 101, 109, 
  105, 114, 105, 110, 103, 83, 104, 97, 112, 101, 115, 32, 99, 111, 100, 101, 119, 114, 105, 103, 104, 116, 47, 99, 111, 100, 101, 119, 114, 105, 103, 
  104, 116, 108, 97, 119, 52, 54, 46, 83, 101, 109, 105, 114, 105, 110, 103, 67, 111, 117, 110, 116, 115, 32, 99, 111, 100, 101, 119, 114, 105, 103, 104, 
  116, 47, 99, 111, 100, 101, 119, 114, 105, 103, 104, 116, 108, 97, 119, 52, 54, 46, 83, 101, 109, 105, 114, 105, 110, 103, 76, 101, 97, 115, 116, 115, 
  32, 99, 111, 100, 101, 119, 114, 105, 103, 104, 116, 47, 99, 111, 100, 101, 119, 114, 105, 103, 104, 116, 108, 97, 119, 52, 54, 46, 83, 101, 109, 105, 
  114, 105, 110, 103, 69, 110, 117, 109, 101, 114, 97, 116, 111, 114, 115, 32, 99, 111, 100, 101, 119, 114, 105, 103, 104, 116, 47, 99, 111, 100, 101, 
  119, 114, 105, 103, 104, 116, 108, 97, 119, 48, 50, 46, 82, 97, 116, 105, 111, 110, 97, 108, 82, 97, 116, 105, 111, 115, 32, 99, 111, 100, 101, 119, 
  114, 105, 103, 104, 116, 47, 99, 111, 100, 101, 119, 114, 105, 103, 104, 116, 108, 97, 119, 48, 50, 46, 82, 97, 116, 105, 111, 110, 97, 108, 77, 97, 
  107, 101, 115, 32, 99, 111, 100, 101, 119, 114, 105, 103, 104, 116, 47, 99, 111, 100, 101, 119, 114, 105, 103, 104, 116, 108, 97, 119, 48, 50, 46, 82, 
  97, 116, 105, 111, 110, 97, 108, 70, 111, 114, 109, 115, 32, 99, 111, 100, 101, 119, 114, 105, 103, 104, 116, 47, 99, 111, 100, 101, 119, 114, 105, 
  103, 104, 116, 108, 97, 119, 48, 50, 46, 82, 97, 116, 105, 111, 110, 97, 108, 68, 105, 118, 105, 100, 101, 115, 32, 99, 111, 100, 101, 119, 114, 105, 
  103, 104, 116, 47, 99, 111, 100, 101, 119, 114, 105, 103, 104, 116, 108, 97, 119, 48, 50, 46, 82, 97, 116, 105, 111, 110, 97, 108, 80, 111, 119, 101, 
  114, 115, 32, 99, 111, 100, 101, 119, 114, 105, 103, 104, 116, 47, 99, 111, 100, 101, 119, 114, 105, 103, 104, 116, 108, 97, 119, 48, 50, 46, 82, 97, 
  116, 105, 111, 110, 97, 108, 76, 105, 115, 116, 115, 32, 99, 111, 100, 101, 119, 114, 105, 103, 104, 116, 47, 99, 111, 100, 101, 119, 114, 105, 103, 
  104, 116, 108, 97, 119, 48, 50, 46, 82, 97, 116, 105, 111, 110, 97, 108, 68, 111, 116, 115, 32, 99, 111, 100, 101, 119, 114, 105, 103, 104, 116, 47, 
  99, 111, 100, 101, 119, 114, 105, 103, 104, 116, 108, 97, 119, 48, 50, 46, 82, 97, 116, 105, 111, 110, 97, 108, 69, 120, 112, 111, 110, 101, 110, 116, 
  115, 32, 99, 111, 100, 101, 119, 114, 105, 103, 104, 116, 47, 99, 111, 100, 101, 119, 114, 105, 103, 104, 116, 108, 97, 119, 48, 50, 46, 82, 97, 116, 
  105, 111, 110, 97, 108, 79, 114, 100, 101, 114, 115, 32, 99, 111, 100, 101, 119, 114, 105, 103, 104, 116, 47, 99, 111, 100, 101, 119, 114, 105, 103, 
  104, 116, 108, 97, 119, 48, 50, 46, 82, 97, 116, 105, 111, 110, 97, 108, 70, 105, 101, 108, 100, 32, 99, 111, 100, 101, 119, 114, 105, 103, 104, 116, 
  47, 99, 111, 100, 101, 119, 114, 105, 103, 104, 116, 108, 97, 119, 48, 50, 46, 82, 97, 116, 105, 111, 110, 97, 108, 70, 108, 111, 111, 114, 115, 32, 
  99, 111, 100, 101, 119, 114, 105, 103, 104, 116, 47, 99, 111, 100, 101, 119, 114, 105, 103, 104, 116, 108, 97, 119, 48, 50, 46, 82, 97, 116, 105, 111, 
  110, 97, 108, 83, 99, 104, 119, 97, 114, 122, 32, 99, 111, 100, 101, 119, 114, 105, 103, 104, 116, 47, 99, 111, 100, 101, 119, 114, 105, 103, 104, 116, 
  108, 97, 119, 52, 54, 46, 83, 101, 109, 105, 114, 105, 110, 103, 70, 114, 97, 99, 116, 105, 111, 110, 115, 32, 99, 111, 100, 101, 119, 114, 105, 103, 
  104, 116, 47, 99, 111, 100, 101, 119, 114, 105, 103, 104, 116, 108, 97, 119, 52, 54, 46, 83, 101, 109, 105, 114, 105, 110, 103, 83, 117, 109, 115, 32, 
  99, 111, 100, 101, 119, 114, 105, 103, 104, 116, 47, 99, 111, 100, 101, 119, 114, 105, 103, 104, 116, 108, 97, 119, 52, 54, 46, 83, 101, 109, 105, 114, 
  105, 110, 103, 67, 111, 117, 110, 116, 115, 80, 97, 116, 104, 115, 32, 99, 111, 100, 101, 119, 114, 105, 103, 104, 116, 47, 99, 111, 100, 101, 119, 
  114, 105, 103, 104, 116, 108, 97, 119, 52, 54, 46, 83, 101, 109, 105, 114, 105, 110, 103, 76, 101, 97, 115, 116, 80, 97, 116, 104, 115, 32, 99, 111, 
  100, 101, 119, 114, 105, 103, 104, 116, 47, 99, 111, 100, 101, 119, 114, 105, 103, 104, 116, 108, 97, 119, 52, 54, 46, 83, 101, 109, 105, 114, 105, 
  110, 103, 83, 104, 111, 114, 116, 101, 115, 116, 32, 99, 111, 100, 101, 119, 114, 105, 103, 104, 116, 47, 99, 111, 100, 101, 119, 114, 105, 103, 104, 
  116, 108, 97, 119, 52, 54, 46, 83, 101, 109, 105, 114, 105, 110, 103, 77, 101, 101, 116, 115]
theorem io : Try.prog.initOrder = String.ofList (w1 ++ Char.ofNat 32 :: (w2 ++ Char.ofNat 32 :: (w3 ++ Char.ofNat 32 :: w4))) := by kernel_rfl
theorem iol : wordsSigns Try.prog.initOrder.toList = w1 :: w2 :: w3 :: wordsSigns w4 := by
  rw [io, String.toList_ofList, words_cons _ w1 (by kernel_rfl), words_cons _ w2 (by kernel_rfl), words_cons _ w3 (by kernel_rfl)]
theorem behind : behindMainWord (wordsSigns Try.prog.initOrder.toList) = w3 :: wordsSigns w4 := by
  rw [iol]
  show (if (w1 == "harness".toList || w1 == "ownmain".toList) && isSumSigns w2 then w3 :: wordsSigns w4 else w1 :: w2 :: w3 :: wordsSigns w4) = _
  rw [if_pos (by kernel_rfl)]
theorem strip (l : List (List Char)) : stripLifts liftWords (w3 :: l) = ([], w3 :: l) := by kernel_rfl
theorem is_cut : (w3 == "cut".toList) = true := by kernel_rfl
theorem no_gc : (w3 == "gc".toList) = false := by kernel_rfl
theorem no_spec : (w3 == "spec".toList) = false := by kernel_rfl
theorem no_carried : (w3 == "carried".toList) = false := by kernel_rfl
theorem enter_of (P : Program) (l : List (List Char)) (h : behindMainWord (wordsSigns P.initOrder.toList) = w3 :: l) (hr : P.doorFits [] = true) (h1 : P.laysLater = false) (h2 : P.bearsReflect = false) : P.mayEnter = true := by
  have hc : (some w3 == some "cut".toList) = true := is_cut
  unfold Program.mayEnter; rw [h]
  simp only [strip, List.head?_cons, hc, h1, h2, hr]; simp
theorem lifts_of (P : Program) (l : List (List Char)) (h : behindMainWord (wordsSigns P.initOrder.toList) = w3 :: l) : P.liftsFinal = false := by
  have hc : (some w3 == some "cut".toList) = true := is_cut
  have hk : (some w3 == some "carried".toList) = false := no_carried
  unfold Program.liftsFinal Program.headLifts; rw [h]
  simp only [strip, List.head?_cons, hc, hk]; rfl
theorem make_of (P : Program) (l : List (List Char)) (h : behindMainWord (wordsSigns P.initOrder.toList) = w3 :: l) : P.make = some .cut := by
  unfold Program.make; rw [h]
  simp only [no_gc, no_spec, is_cut, Bool.or_self, Bool.false_eq_true, if_false, Bool.true_or, if_true]
theorem enter : Try.prog.mayEnter = true := enter_of _ _ behind (by kernel_rfl) (by kernel_rfl) (by kernel_rfl)
theorem lifts : Try.prog.liftsFinal = false := lifts_of _ _ behind
theorem make : Try.prog.make = some .cut := make_of _ _ behind
theorem own : ownKnob Try.prog.godebug = none := by kernel_rfl
theorem laid : laidOutB Try.prog = true := by kernel_rfl
theorem band {a b : Bool} (h : a = true) (h' : b = true) : (a && b) = true := by rw [h, h']; rfl
end Facts
end Go.Proofs.Ytecfdemglbfnoaa
end
