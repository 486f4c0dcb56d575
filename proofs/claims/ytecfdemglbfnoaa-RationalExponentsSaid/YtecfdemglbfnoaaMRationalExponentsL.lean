/- Walks and plain facts for the law RationalExponents, several texts in one: each theorem says what it shows; no condition beyond those that it names. -/
import Derived.Deep.Slices
import Derived.Deep.Fields
import Derived.SizedLaws
import Derived.Test.YtecfdemglbfnoaaMRationalExponentsK
section
namespace Go.Proofs.Ytecfdemglbfnoaa.Open
open Go.ChangeShapes Go.WideShapes Go.Deep Go.Proofs.YtecfdemglbfnoaaW.PrintWords
section
variable {H : Type} (enc : TypeId × Value → H) (P : Program) (W : World)
/-- What reads as data of type t, within the reach, holds a value of kind d that meets Q. -/
def Op {α : Type} (d : Kd α) (Q : α → Prop) (t : TypeId) : Prop :=
  ∀ (fuel : Nat) (cs : List Value) (x : DataW H × List MemPlace), DataW.trod enc P W 0 (fun _ => true) true fuel t cs = some x → (∀ n ∈ x.1.weights P t, n ≤ reachBytes) → ∃ y, d.K W y cs ∧ Q y
end
section
variable {H : Type} {enc : TypeId × Value → H} {P : Program} {W : World}
theorem op_int {t : TypeId} {k : IntKind} (ht : P.underlying t = some (.int k)) : Op enc P W (Kd.int k) (fun n => k.min ≤ n ∧ n ≤ k.max) t := by
  intro fuel cs x h _
  obtain ⟨n, rfl, _, hw⟩ := DataW.trod_int ht h
  exact ⟨n, rfl, by simpa [Lit.wf] using hw⟩
theorem op_bool {t : TypeId} (ht : P.underlying t = some .bool) : Op enc P W Kd.bool (fun _ => True) t := by
  intro fuel cs x h _
  obtain ⟨n, rfl, _⟩ := DataW.trod_bool ht h
  exact ⟨n, rfl, trivial⟩
theorem mem_weightsAll {e : TypeId} {D : DataW H} : ∀ {l : List (DataW H)}, D ∈ l → ∀ n ∈ D.weights P e, n ∈ DataW.weightsAll P e l
  | d :: r, h, n, hn => by
    simp only [DataW.weightsAll, List.mem_append]
    rcases List.mem_cons.1 h with rfl | h
    · exact .inl hn
    · exact .inr (mem_weightsAll h n hn)
theorem op_slice {α : Type} {d : Kd α} {Q : α → Prop} {t e B : Nat} (ht : P.underlying t = some (.slice e)) (he : Op enc P W d Q e) (hc : P.cellsOf e = d.sz) (hB : P.bytesOf e = B) :
    Op enc P W (Kd.slice e d) (fun l => l.length * B ≤ reachBytes ∧ ∀ x ∈ l, Q x) t := by
  intro fuel cs x h hw
  rcases open_slice ht h with ⟨rfl, _⟩ | ⟨a, len, cap, m, n, D, Pl, rfl, _, hl, hm, hmm, rfl, hi⟩
  · exact ⟨[], ⟨none, 0, rfl, Nat.le_refl _, Kd.C_nil d W⟩, by simp, by simp⟩
  · simp only [if_true] at hmm
    subst hmm
    have hwl : ((DataW.slice ((List.range len).map D) ((List.range (m - len)).map fun j => D (len + j))).weights P t) = ((List.range len).map D).length.add ((List.range (m - len)).map fun j => D (len + j)).length * P.bytesOf e :: (DataW.weightsAll P e ((List.range len).map D) ++ DataW.weightsAll P e ((List.range (m - len)).map fun j => D (len + j))) := by
      simp only [DataW.weights, ht]; rfl
    rw [hwl] at hw
    have each : ∀ i, i < len → ∃ y : α, (∃ cs', W.cells? 0 (a.add (i * P.cellsOf e)) (P.cellsOf e) = some cs' ∧ d.K W y cs') ∧ Q y := by
      intro i hlt
      obtain ⟨cs', h1, h2⟩ := hi i (by omega)
      obtain ⟨y, hK, hq⟩ := he _ _ _ h2 (fun n hn => hw n (List.mem_cons_of_mem _ (List.mem_append.2 (.inl (mem_weightsAll (List.mem_map.2 ⟨i, List.mem_range.2 hlt, rfl⟩) n hn)))))
      exact ⟨y, ⟨cs', h1, hK⟩, hq⟩
    have hf : ∃ f : Nat → Option α, ∀ i, i < len → ∃ y, f i = some y ∧ (∃ cs', W.cells? 0 (a.add (i * P.cellsOf e)) (P.cellsOf e) = some cs' ∧ d.K W y cs') ∧ Q y := by
      refine ⟨fun i => if h : i < len then some (Classical.choose (each i h)) else none, fun i hlt => ⟨_, dif_pos hlt, Classical.choose_spec (each i hlt)⟩⟩
    obtain ⟨f, hf⟩ := hf
    have hl1 : ((List.range len).filterMap f).length = len ∧ ∀ i, i < len → ((List.range len).filterMap f)[i]? = f i := by
      clear hw hwl each hi h hl hm
      induction len with
      | zero => simp
      | succ k ih =>
        obtain ⟨h1, h2⟩ := ih (fun i hi => hf i (by omega))
        obtain ⟨y, hy, _⟩ := hf k (by omega)
        rw [List.range_succ, List.filterMap_append]
        have e : List.filterMap f [k] = [y] := by simp [List.filterMap, hy]
        rw [e]
        refine ⟨by simp [h1], fun i hi => ?_⟩
        by_cases hk : i < k
        · rw [List.getElem?_append_left (by omega), h2 i hk]
        · obtain rfl : i = k := by omega
          rw [List.getElem?_append_right (by omega), h1]; simp [hy]
    refine ⟨(List.range len).filterMap f, ⟨some a, m, by rw [hl1.1], by rw [hl1.1]; exact hl, rfl, ?_, fun hp => ⟨a, rfl, fun j p hj => ?_⟩⟩, ?_, fun y hy => ?_⟩
    · rw [hl1.1]; unfold maxLen at hm; omega
    · have hjl : j < len := by have := (List.getElem?_eq_some_iff.1 hj).1; rw [hl1.1] at this; exact this
      obtain ⟨y, hy, ⟨cs', hc1, hK⟩, _⟩ := hf j hjl
      rw [hl1.2 j hjl, hy] at hj
      obtain rfl := Option.some.inj hj
      obtain ⟨_, hcl, hat⟩ := World.cells?_some hc1
      refine ⟨cs', d.K_len hK, hK, fun i u hu => ?_⟩
      have hil : i < P.cellsOf e := by have := (List.getElem?_eq_some_iff.1 hu).1; omega
      rw [← hc, ← Go.Deep.add_add]
      rw [hat i hil, hu]
    · have := hw _ (List.mem_cons_self ..)
      rw [hl1.1]
      have h3 : ((List.range len).map D).length.add ((List.range (m - len)).map fun j => D (len + j)).length = m := by simp; omega
      rw [h3, hB] at this
      exact Nat.le_trans (Nat.mul_le_mul_right _ hl) this
    · obtain ⟨i, hi1, hi2⟩ := List.mem_filterMap.1 hy
      obtain ⟨y', hy', _, hq⟩ := hf i (List.mem_range.1 hi1)
      rw [hy'] at hi2
      obtain rfl := Option.some.inj hi2
      exact hq
theorem take_split {cs : List Value} {a b : Nat} (h : cs.length = a + b) : cs = (cs.drop 0).take a ++ (cs.drop a).take b := by
  rw [List.drop_zero, List.take_of_length_le (l := cs.drop a) (by rw [List.length_drop]; omega), List.take_append_drop]
theorem op_triple {α β γ : Type} {a : Kd α} {b : Kd β} {c : Kd γ} {Qa : α → Prop} {Qb : β → Prop} {Qc : γ → Prop} {t : TypeId} {f0 f1 f2 : Field} (ht : P.underlying t = some (.struct #[f0, f1, f2])) (h0 : Op enc P W a Qa f0.type) (h1 : Op enc P W b Qb f1.type) (h2 : Op enc P W c Qc f2.type)
    (o0 : f0.offset = 0) (s0 : P.cellsOf f0.type = a.sz) (o1 : f1.offset = a.sz) (s1 : P.cellsOf f1.type = b.sz) (o2 : f2.offset = a.sz + b.sz) (s2 : P.cellsOf f2.type = c.sz) (st : P.cellsOf t = a.sz + (b.sz + c.sz)) :
    Op enc P W (Kd.pair a (Kd.pair b c)) (fun y => Qa y.1 ∧ Qb y.2.1 ∧ Qc y.2.2) t := by
  intro fuel cs x hx hw
  obtain ⟨xs, n, _, rfl, hcl, hlen, hf⟩ := DataW.trod_struct ht hx
  have hwl : ((DataW.agg (xs.map (·.1)) : DataW H).weights P t) = DataW.weightsEach P [f0.type, f1.type, f2.type] (xs.map (·.1)) := by
    simp only [DataW.weights, ht]; rfl
  rw [hwl] at hw
  obtain ⟨y0, y1, y2, rfl⟩ : ∃ y0 y1 y2, xs = [y0, y1, y2] := by
    match xs, hlen with
    | [y0, y1, y2], _ => exact ⟨y0, y1, y2, rfl⟩
  · have e0 := hf 0 f0 rfl
    have e1 := hf 1 f1 rfl
    have e2 := hf 2 f2 rfl
    rw [o0, s0] at e0
    rw [o1, s1] at e1
    rw [o2, s2] at e2
    simp only [List.map_cons, List.map_nil, DataW.weightsEach, List.mem_append] at hw
    obtain ⟨z0, k0, q0⟩ := h0 _ _ _ e0 (fun n hn => hw n (.inl hn))
    obtain ⟨z1, k1, q1⟩ := h1 _ _ _ e1 (fun n hn => hw n (.inr (.inl hn)))
    obtain ⟨z2, k2, q2⟩ := h2 _ _ _ e2 (fun n hn => hw n (.inr (.inr (.inl hn))))
    refine ⟨(z0, z1, z2), ⟨_, _, take_split (a := a.sz) (b := b.sz + c.sz) (by rw [hcl, st]), k0, _, _, ?_, k1, k2⟩, q0, q1, q2⟩
    rw [List.take_of_length_le (l := cs.drop a.sz) (by rw [List.length_drop, hcl, st]; omega)]
    have h4 := take_split (cs := cs.drop a.sz) (a := b.sz) (b := c.sz) (by rw [List.length_drop, hcl, st]; omega)
    rw [List.drop_zero, List.drop_drop] at h4
    exact h4
end
end Go.Proofs.Ytecfdemglbfnoaa.Open
end
