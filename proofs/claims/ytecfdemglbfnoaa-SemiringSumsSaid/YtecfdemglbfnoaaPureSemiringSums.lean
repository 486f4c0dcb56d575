/- Sum and Product of a list of ints, over the costs and over the gains, are what the law reckons: the printed statement, for every list that Go can hold. -/
import Derived.Test.YtecfdemglbfnoaaPT158
import Derived.Test.YtecfdemglbfnoaaCst
namespace Go.Proofs.Ytecfdemglbfnoaa.Pure
open Go.RowKit Go.Proofs.Ytecfdemglbfnoaa.PT Go.Proofs.YtecfdemglbfnoaaW.PrintWords Go.Proofs.YtecfdemglbfnoaaW.PrintLast Go.Proofs.YtecfdemglbfnoaaW.PrintMore

theorem wrap_up {i : Int} {n : Nat} (h0 : 0 ≤ i) (h : i < (n : Int)) (hn : n ≤ 140737488351232) : wrap64 (i + 1) = i + 1 := by
  unfold wrap64; omega
theorem drop_rd (l : List Int) (i : Nat) (h : i < l.length) : l.drop i = rd l (i : Int) :: l.drop (i + 1) := by
  rw [List.drop_eq_getElem_cons h]
  simp [rd, h]
theorem wrap_nat {i : Nat} (h : i < 140737488351232) : wrap64 ((i : Int) + 1) = ((i + 1 : Nat) : Int) := by
  unfold wrap64; omega

def foldMin (a : Int) (l : List Int) : Int := l.foldl (fun a x => mn a (cst x)) a
def foldSum (a : Int) (l : List Int) : Int := l.foldl (fun a x => csum a x) a
def foldMax (a : Int) (l : List Int) : Int := l.foldl (fun a x => mx a (gn x)) a
def foldGain (a : Int) (l : List Int) : Int := l.foldl (fun a x => gsum a x) a

theorem sum_min (l : List Int) (hl : l.length ≤ 140737488351232) (d : Nat) : ∀ (k i : Nat) (a : Int), 0 ≤ a → a ≤ 4611686018427387904 → i + d = l.length → d < k →
    semiring_MinPlus_117.l0 k a l (l.length : Int) (i : Int) = some (foldMin a (l.drop i)) := by
  induction d with
  | zero =>
    intro k i a _ _ hi hk
    obtain ⟨k, rfl⟩ : ∃ m, k = m + 1 := ⟨k - 1, by omega⟩
    simp only [semiring_MinPlus_117.l0]; rw [if_neg (by omega), List.drop_of_length_le (by omega)]; rfl
  | succ d ih =>
    intro k i a h0 h1 hi hk
    obtain ⟨k, rfl⟩ : ∃ m, k = m + 1 := ⟨k - 1, by omega⟩
    simp only [semiring_MinPlus_117.l0]
    rw [if_pos (by omega), if_pos (by omega), if_pos (by omega), Add_f, cst_self h0 h1]
    simp only [Option.bind_some]
    have hb := cst_bd (rd l (i : Int))
    rw [wrap_nat (by omega), ih k (i + 1) _ (by unfold mn; omega) (by unfold mn; omega) (by omega) (by omega), drop_rd l i (by omega)]; rfl
theorem prod_min (l : List Int) (hl : l.length ≤ 140737488351232) (d : Nat) : ∀ (k i : Nat) (a : Int), i + d = l.length → d < k →
    semiring_MinPlus_118.l0 k a l (l.length : Int) (i : Int) = some (foldSum a (l.drop i)) := by
  induction d with
  | zero =>
    intro k i a hi hk
    obtain ⟨k, rfl⟩ : ∃ m, k = m + 1 := ⟨k - 1, by omega⟩
    simp only [semiring_MinPlus_118.l0]; rw [if_neg (by omega), List.drop_of_length_le (by omega)]; rfl
  | succ d ih =>
    intro k i a hi hk
    obtain ⟨k, rfl⟩ : ∃ m, k = m + 1 := ⟨k - 1, by omega⟩
    simp only [semiring_MinPlus_118.l0]
    rw [if_pos (by omega), if_pos (by omega), if_pos (by omega), Mul_f]
    simp only [Option.bind_some]
    rw [wrap_nat (by omega), ih k (i + 1) _ (by omega) (by omega), drop_rd l i (by omega)]; rfl
theorem sum_max (l : List Int) (hl : l.length ≤ 140737488351232) (d : Nat) : ∀ (k i : Nat) (a : Int), -1 ≤ a → a ≤ 4611686018427387904 → i + d = l.length → d < k →
    semiring_MaxPlus_119.l0 k a l (l.length : Int) (i : Int) = some (foldMax a (l.drop i)) := by
  induction d with
  | zero =>
    intro k i a _ _ hi hk
    obtain ⟨k, rfl⟩ : ∃ m, k = m + 1 := ⟨k - 1, by omega⟩
    simp only [semiring_MaxPlus_119.l0]; rw [if_neg (by omega), List.drop_of_length_le (by omega)]; rfl
  | succ d ih =>
    intro k i a h0 h1 hi hk
    obtain ⟨k, rfl⟩ : ∃ m, k = m + 1 := ⟨k - 1, by omega⟩
    simp only [semiring_MaxPlus_119.l0]
    rw [if_pos (by omega), if_pos (by omega), if_pos (by omega), GAdd_f, gn_self h0 h1]
    simp only [Option.bind_some]
    have hb := gn_bd (rd l (i : Int))
    rw [wrap_nat (by omega), ih k (i + 1) _ (by unfold mx; omega) (by unfold mx; omega) (by omega) (by omega), drop_rd l i (by omega)]; rfl
theorem prod_max (l : List Int) (hl : l.length ≤ 140737488351232) (d : Nat) : ∀ (k i : Nat) (a : Int), i + d = l.length → d < k →
    semiring_MaxPlus_120.l0 k a l (l.length : Int) (i : Int) = some (foldGain a (l.drop i)) := by
  induction d with
  | zero =>
    intro k i a hi hk
    obtain ⟨k, rfl⟩ : ∃ m, k = m + 1 := ⟨k - 1, by omega⟩
    simp only [semiring_MaxPlus_120.l0]; rw [if_neg (by omega), List.drop_of_length_le (by omega)]; rfl
  | succ d ih =>
    intro k i a hi hk
    obtain ⟨k, rfl⟩ : ∃ m, k = m + 1 := ⟨k - 1, by omega⟩
    simp only [semiring_MaxPlus_120.l0]
    rw [if_pos (by omega), if_pos (by omega), if_pos (by omega), GMul_f]
    simp only [Option.bind_some]
    rw [wrap_nat (by omega), ih k (i + 1) _ (by omega) (by omega), drop_rd l i (by omega)]; rfl
theorem law1 (l : List Int) (hl : l.length ≤ 140737488351232) (A B : Int) (hA : foldMax (-1) l = A) (hB : foldGain 0 l = B) (d : Nat) : ∀ (k i : Nat) (a b : Int), i + d = l.length → d + l.length + 5 < k → foldMax a (l.drop i) = A → foldGain b (l.drop i) = B →
    codewrightlaw46_SemiringSums.l1 k l a b (i : Int) = some true := by
  induction d with
  | zero =>
    intro k i a b hi hk ha hb
    obtain ⟨k, rfl⟩ : ∃ m, k = m + 1 := ⟨k - 1, by omega⟩
    rw [List.drop_of_length_le (by omega)] at ha hb
    simp only [codewrightlaw46_SemiringSums.l1]; rw [if_neg (by omega)]
    have e1 : semiring_MaxPlus_119.f k l = some A := by
      unfold semiring_MaxPlus_119.f; simp only [semiring_MaxPlus_Zero.f, Option.bind_some]
      exact (sum_max l hl l.length k 0 (-1) (by omega) (by omega) (by omega) (by omega)).trans (congrArg some hA)
    have e2 : semiring_MaxPlus_120.f k l = some B := by
      unfold semiring_MaxPlus_120.f; simp only [semiring_MaxPlus_One.f, Option.bind_some]
      exact (prod_max l hl l.length k 0 0 (by omega) (by omega)).trans (congrArg some hB)
    rw [e1, e2]; simp only [Option.bind_some]
    rw [if_pos (show A = a from ha.symm), show b = B from hb, beq_self_eq_true]
  | succ d ih =>
    intro k i a b hi hk ha hb
    obtain ⟨k, rfl⟩ : ∃ m, k = m + 1 := ⟨k - 1, by omega⟩
    rw [drop_rd l i (by omega)] at ha hb
    simp only [codewrightlaw46_SemiringSums.l1]
    rw [if_pos (by omega), if_pos (by omega), Max_f, MaxMul_f]
    simp only [Option.bind_some]
    rw [wrap_nat (by omega)]
    exact ih k (i + 1) _ _ (by omega) (by omega) ha hb
theorem law0 (l : List Int) (hl : l.length ≤ 140737488351232) (A B : Int) (hA : foldMin 4611686018427387904 l = A) (hB : foldSum 0 l = B) (d : Nat) : ∀ (k i : Nat) (a b : Int), i + d = l.length → d + 2 * l.length + 20 < k → foldMin a (l.drop i) = A → foldSum b (l.drop i) = B →
    codewrightlaw46_SemiringSums.l0 k l a b (i : Int) = some true := by
  induction d with
  | zero =>
    intro k i a b hi hk ha hb
    obtain ⟨k, rfl⟩ : ∃ m, k = m + 1 := ⟨k - 1, by omega⟩
    rw [List.drop_of_length_le (by omega)] at ha hb
    simp only [codewrightlaw46_SemiringSums.l0]; rw [if_neg (by omega)]
    have e1 : semiring_MinPlus_117.f k l = some A := by
      unfold semiring_MinPlus_117.f; simp only [semiring_MinPlus_Zero.f, Option.bind_some]
      exact (sum_min l hl l.length k 0 _ (by omega) (by omega) (by omega) (by omega)).trans (congrArg some hA)
    have e2 : semiring_MinPlus_118.f k l = some B := by
      unfold semiring_MinPlus_118.f; simp only [semiring_MinPlus_One.f, Option.bind_some]
      exact (prod_min l hl l.length k 0 0 (by omega) (by omega)).trans (congrArg some hB)
    rw [e1, e2]; simp only [Option.bind_some]
    rw [if_pos (show A = a from ha.symm), show b = B from hb, bne_self_eq_false]
    obtain ⟨k, rfl⟩ : ∃ m, k = m + 1 := ⟨k - 1, by omega⟩
    simp only [codewrightlaw46_SemiringSums.j1]; rw [if_neg (by decide)]
    exact law1 l hl _ _ rfl rfl l.length k 0 _ _ (by omega) (by omega) rfl rfl
  | succ d ih =>
    intro k i a b hi hk ha hb
    obtain ⟨k, rfl⟩ : ∃ m, k = m + 1 := ⟨k - 1, by omega⟩
    rw [drop_rd l i (by omega)] at ha hb
    simp only [codewrightlaw46_SemiringSums.l0]
    rw [if_pos (by omega), if_pos (by omega), Min_f, MinMul_f]
    simp only [Option.bind_some]
    rw [wrap_nat (by omega)]
    exact ih k (i + 1) _ _ (by omega) (by omega) ha hb

theorem SemiringSums : codewrightlaw46_SemiringSums.Pure := by
  intro l _ hl _
  refine ⟨3 * l.length + 30, ?_⟩
  unfold codewrightlaw46_SemiringSums.f
  exact law0 l (by omega) _ _ rfl rfl l.length _ 0 _ _ (by omega) (by omega) rfl rfl

end Go.Proofs.Ytecfdemglbfnoaa.Pure
