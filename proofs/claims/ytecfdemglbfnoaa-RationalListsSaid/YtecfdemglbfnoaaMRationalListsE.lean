/- Walks and plain facts for the law RationalLists, several texts in one: each theorem says what it shows; no condition beyond those that it names. -/
import Derived.Test.YtecfdemglbfnoaaMRationalListsD
section
namespace Go.Proofs.Ytecfdemglbfnoaa.PT
open Go.RowKit Go.Proofs.YtecfdemglbfnoaaW.PrintWords Go.Proofs.YtecfdemglbfnoaaW.PrintLast Go.Proofs.YtecfdemglbfnoaaW.PrintMore
theorem farA {α : Type} {d : Kd α} {e : Nat} {W : World} {base : Nat} {ok : Nat → Prop} {v : Value} {xs : List α} {p : Addr} {u : Value} (h : Kd.V d e W base ok v xs) (hok : ∀ k, ok k → k ≠ p.block := by
  intro k_ hk_
  (try simp only [and_assoc] at hk_)
  (repeat (have hc_ := hk_.1; replace hk_ := hk_.2))
  assumption) : Kd.V d e (W.setCell p u) base ok v xs := Kd.V_far h hok u
section
variable {α : Type} {d : Kd α} {e : Nat} {W w1 : World} {base : Nat} {ok ok' : Nat → Prop} {v : Value} {xs : List α}
theorem vz (h : Kd.V d e W base ok v xs) (f : Kd.V d e W base ok v xs → Kd.V d e w1 base ok v xs := by
  intro h_
  (with_reducible repeat (first | apply Kd.V_alloc | apply Kd.V_drewN | apply Kd.V_drew))
  exact h_) (m : ∀ k, ok k → ok' k := by
  first
  | (intro k_ hk_; exact hk_)
  | (intro k_ hk_
     (try simp only [and_assoc] at hk_)
     (repeat (have hc_ := hk_.1; replace hk_ := hk_.2))
     (repeat' apply And.intro) <;> assumption)) : Kd.V d e w1 base ok' v xs := Kd.V_mono (f h) m
theorem vr {A : Option Addr} {n c : Nat} (h : Kd.V d e W base ok (.slice A n c) xs) (f : Kd.V d e W base ok (.slice A n c) xs → Kd.V d e w1 base ok (.slice A n c) xs := by
  intro h_
  (iterate 16 (try (first | exact h_ | (with_reducible first | apply Kd.V_alloc | apply Kd.V_drewN | apply Kd.V_drew) | refine farA ?_)))) : d.C w1 A xs.length xs := (Kd.V_reads' (f h)).2.2
theorem vy (ok' : Nat → Prop) (h : Kd.V d e W base ok v xs) (m : ∀ k, ok k → ok' k := by
  first
  | (intro k_ hk_; exact hk_)
  | (intro k_ hk_
     (try simp only [and_assoc] at hk_)
     (repeat (have hc_ := hk_.1; replace hk_ := hk_.2))
     (repeat' apply And.intro) <;> assumption)) : Kd.V d e W base ok' v xs := Kd.V_mono h m
theorem vf (h : Kd.V d e W base ok v xs) (f : Kd.V d e W base ok v xs → Kd.V d e w1 base ok v xs := by
  intro h_
  (iterate 16 (try (first | exact h_ | (with_reducible first | apply Kd.V_alloc | apply Kd.V_drewN | apply Kd.V_drew) | refine farA ?_)))) (m : ∀ k, ok k → ok' k := by
  first
  | (intro k_ hk_; exact hk_)
  | (intro k_ hk_
     (try simp only [and_assoc] at hk_)
     (repeat (have hc_ := hk_.1; replace hk_ := hk_.2))
     (repeat' apply And.intro) <;> assumption)) : Kd.V d e w1 base ok' v xs := Kd.V_mono (f h) m
end
theorem kf {p q p1 : Prop} (g : p1) (h : p) (f : p1 → p → q := by
  intro g_ h_
  (repeat (first | (with_reducible first | refine blk_drewN ?_ _ | refine blk_drew ?_ | refine blk_alloc ?_ _) | refine blk_far ?_ g_ _))
  exact h_) : q := f g h
theorem cu {p q : Prop} (h : p) (f : p → q := by
  intro h_
  repeat (first | exact h_ | (with_reducible refine Kd.C_alloc ?_ _) | (with_reducible refine Kd.C_drewN ?_ _) | (with_reducible refine Kd.C_drew ?_))) : q := f h
section
variable {W0 W w1 : World} {g : Nat} {o : Obj}
theorem kb (h : Aside0 (W0.heap[g]? = some o)) (hb : Below W.heap.size W w1) (f : W0.heap[g]? = some o → W.heap[g]? = some o := by
  intro h_; (with_reducible repeat (first | refine blk_drewN ?_ _ | refine blk_drew ?_ | refine blk_alloc ?_ _)); exact h_) : Aside0 (w1.heap[g]? = some o) := ⟨blk_below (f h.out) hb⟩
theorem nl {a : Nat} (hg : a = W.heap.size) (h : Aside0 (W0.heap[g]? = some o)) (f : W0.heap[g]? = some o → W.heap[g]? = some o := by
  intro h_; (with_reducible repeat (first | refine blk_drewN ?_ _ | refine blk_drew ?_ | refine blk_alloc ?_ _)); exact h_) : Aside0 (g ≠ a) := ⟨by rw [hg]; exact Nat.ne_of_lt (blk_lt (f h.out))⟩
theorem nr {a : Nat} (hg : a = W.heap.size) (h : Aside0 (W0.heap[g]? = some o)) (f : W0.heap[g]? = some o → W.heap[g]? = some o := by
  intro h_; (with_reducible repeat (first | refine blk_drewN ?_ _ | refine blk_drew ?_ | refine blk_alloc ?_ _)); exact h_) : Aside0 (a ≠ g) := ⟨by rw [hg]; exact Nat.ne_of_gt (blk_lt (f h.out))⟩
theorem ng {a : Nat} {w : World} (hg : a = W.heap.size) (h : Below w.heap.size w W) : Aside0 (w.heap.size ≤ a) := ⟨by rw [hg]; exact below_size h⟩
theorem fb (h : Aside0 (W0.heap[g]? = some o)) (f : W0.heap[g]? = some o → W.heap[g]? = some o := by
  intro h_; (with_reducible repeat (first | refine blk_drewN ?_ _ | refine blk_drew ?_ | refine blk_alloc ?_ _)); exact h_) : ∀ k, W.heap.size ≤ k → k ≠ g := Kd.freshB (f h.out)
theorem bc {t : TypeId} {cs : Array Value} (h : Aside0 (W.heap[g]? = some (.cells cs t (0, 0)))) (i : Nat) {x : Value} (e : cs[i]? = some x := by rfl) : W.cell? ⟨g, i, none⟩ = some x := (blk_cell h.out i).trans e
end
theorem f0 {n a : Nat} (h : a ≤ n) : ∀ k, n ≤ k → a ≤ k := fun _ hk => Nat.le_trans h hk
theorem fa {n : Nat} {A B : Nat → Prop} (h1 : ∀ k, n ≤ k → A k) (h2 : ∀ k, n ≤ k → B k) : ∀ k, n ≤ k → A k ∧ B k := fun k hk => ⟨h1 k hk, h2 k hk⟩
section
variable {α : Type} {d : Kd α} {e : Nat} {W W0 w1 : World} {base : Nat} {ok ok' : Nat → Prop} {v : Value} {xs : List α}
theorem kv (h : Aside0 (Kd.V d e W0 base ok v xs)) (hb : Below W.heap.size W w1) (f : Kd.V d e W0 base ok v xs → Kd.V d e W base ok v xs := by
  intro h_; (with_reducible repeat (first | apply Kd.V_alloc | apply Kd.V_drewN | apply Kd.V_drew)); exact h_) : Aside0 (Kd.V d e w1 base ok v xs) := ⟨Kd.V_below (f h.out) hb⟩
theorem ke {a : Nat} (h : Aside0 (Kd.V d e W0 base ok v xs)) (hg : a = W.heap.size) (hb : Below W.heap.size W w1) (f : Kd.V d e W0 base ok v xs → Kd.V d e W base ok v xs := by
  intro h_; (with_reducible repeat (first | apply Kd.V_alloc | apply Kd.V_drewN | apply Kd.V_drew)); exact h_) : Aside0 (Kd.V d e w1 base (fun k => ok k ∧ k ≠ a) v xs) := ⟨Kd.V_below (Kd.V_elderB (f h.out) a (Nat.le_of_eq hg.symm)) hb⟩
theorem ar (base' : Nat) {n : Nat} {S R : Nat → Prop} (h : Kd.V d e w1 base (fun k => S k ∨ n ≤ k) v xs) (hN : ∀ k, n ≤ k → R k) (hS : ∀ k, S k → ok' k := by
    intro k_ hk_
    (repeat' first | ((try simp only [and_assoc] at hk_); (repeat (have hc_ := hk_.1; replace hk_ := hk_.2)); ((repeat' apply And.intro) <;> assumption); done) | (refine Or.elim hk_ ?_ ?_ <;> intro hk_))) (hF : ∀ k, n ≤ k → R k → ok' k := by
    intro k_ hn_ hk_
    (repeat (have hc_ := hk_.1; replace hk_ := hk_.2))
    (repeat' apply And.intro) <;> first | assumption | (apply Or.inr; assumption)) : Aside0 (Kd.V d e w1 base' ok' v xs) :=
  ⟨Kd.V_mono h (fun k hk => hk.elim (hS k) (fun hn => hF k hn (hN k hn)))⟩
theorem ar0 (base' : Nat) {n : Nat} {R : Nat → Prop} (h : Kd.V d e w1 base (fun k => n ≤ k) v xs) (hN : ∀ k, n ≤ k → R k) (hF : ∀ k, n ≤ k → R k → ok' k := by
    intro k_ hn_ hk_
    (repeat (have hc_ := hk_.1; replace hk_ := hk_.2))
    (repeat' apply And.intro) <;> first | assumption | (apply Or.inr; assumption)) : Aside0 (Kd.V d e w1 base' ok' v xs) :=
  ⟨Kd.V_mono h (fun k hn => hF k hn (hN k hn))⟩
end
section
variable {P : Program} {md : Region.Mode} {ops : Array Oper} {Q : Exit → Act → World → Prop} {S : World → Prop} {ds : List Nat} {T : Bool × List (List Nat × List Nat)} {oi : Oper} {v : Value} {fuel : Nat} {l : Array Bool} {a a' : Act} {w : World}
theorem pq (i : Nat) (N : Option Tmp) (l' : Array Bool) (hT : Aside0 (rtab md ops = T)) (h : wpAnyLast P md ops Q S ds fuel l' a' w)
    (hi : ops[i]? = some oi := by rfl) (hN : oi.dst = N := by rfl) (hc : anyT T l.toList l'.toList i = true := by kernel_rfl) (hQ : ∀ c a w, Q (.panic c) (a.put oi.dst v) w → Q (.panic c) a w := by exact fun _ _ _ h => h)
    (hy : Yields P ops oi v a := by refine Or.inl ⟨by rfl, ?_⟩; intro w'; go_simp; with_reducible rfl)
    (ha : a.put N v = a' := by simp only [Act.put, List.setIfInBounds_toArray, List.set_cons_zero, List.set_cons_succ, i64_w, i32_w]; rfl) : wpAnyLast P md ops Q S ds (fuel + 1) l a w :=
  pure_ l' hi hN (any_of hT.out hc) hQ hy ha h
theorem tq {B : List Nat} (i : Nat) (N : Option Tmp) (l' : Array Bool) (hT : Aside0 (rtab md ops = T)) (hB : Aside0 (waitsOk T.2 B = true)) (hS : S w) (h : wpAnyLast P md ops Q S ds fuel l' a' w)
    (hi : ops[i]? = some oi := by rfl) (hN : oi.dst = N := by rfl) (hc : takeW T B ds l.toList l'.toList i = true := by kernel_rfl) (hQ : ∀ c a w, Q (.panic c) (a.put oi.dst v) w → Q (.panic c) a w := by exact fun _ _ _ h => h)
    (hy : YieldsIf P ops S oi v a := by refine Or.inl ⟨by rfl, ?_⟩; intro w' hs_; (repeat (have hc_ := hs_.1; replace hs_ := hs_.2)); go_simp; with_reducible rfl)
    (ha : a.put N v = a' := by simp only [Act.put, List.setIfInBounds_toArray, List.set_cons_zero, List.set_cons_succ, i64_w, i32_w]; rfl) : wpAnyLast P md ops Q S ds (fuel + 1) l a w :=
  take_ l' hi hN (take_ofW hT.out hB.out hc) hQ hy hS ha h
theorem nq (n : Nat) {a0 : Act} {v0 : Value} (h : wpAnyLast P md ops Q S ds fuel l a' w) (ha : a0.put (some n) v0 = a' := by simp only [Act.put, List.setIfInBounds_toArray, List.set_cons_zero, List.set_cons_succ, i64_w, i32_w]; rfl) : wpAnyLast P md ops Q S ds fuel l (a0.put (some n) v0) w := norm_ ha h
end
end Go.Proofs.Ytecfdemglbfnoaa.PT
end
section
namespace Go.Proofs.Ytecfdemglbfnoaa.PT
open Go.RowKit Go.Proofs.YtecfdemglbfnoaaW.PrintWords Go.Proofs.YtecfdemglbfnoaaW.PrintLast Go.Proofs.YtecfdemglbfnoaaW.PrintMore
theorem farN {α : Type} {d : Kd α} {e : Nat} {W : World} {base : Nat} {ok : Nat → Prop} {v : Value} {xs : List α} {p : Addr} {u : Value} (h : Kd.N d e W base ok v xs) (hok : ∀ k, ok k → k ≠ p.block := by
  intro k_ hk_
  (try simp only [and_assoc] at hk_)
  (repeat (have hc_ := hk_.1; replace hk_ := hk_.2))
  assumption) : Kd.N d e (W.setCell p u) base ok v xs := Kd.N_far h hok u
section
variable {α : Type} {d : Kd α} {e : Nat} {W0 W w1 : World} {base : Nat} {ok : Nat → Prop} {v : Value} {xs : List α}
theorem fo (h : Aside0 (Kd.N d e W0 base ok v xs)) (f : Kd.N d e W0 base ok v xs → Kd.N d e W base ok v xs := by
  intro h_
  (iterate 16 (try (first | exact h_ | (with_reducible first | apply Kd.N_alloc | apply Kd.N_drewN | apply Kd.N_drew) | refine farN ?_)))) : ∀ k, W.heap.size ≤ k → some k ≠ v.ownBlock := Kd.fresh' (Kd.N_lt (f h.out))
theorem kx (h : Aside0 (Kd.V d e W0 base ok v xs)) (hb : Below W.heap.size W w1) (f : Kd.V d e W0 base ok v xs → Kd.V d e W base ok v xs := by
  intro h_
  (iterate 16 (try (first | exact h_ | (with_reducible first | apply Kd.V_alloc | apply Kd.V_drewN | apply Kd.V_drew) | refine farA ?_)))) : Aside0 (Kd.V d e w1 base ok v xs) := ⟨Kd.V_below (f h.out) hb⟩
theorem kn (h : Aside0 (Kd.N d e W0 base ok v xs)) (hb : Below W.heap.size W w1) (f : Kd.N d e W0 base ok v xs → Kd.N d e W base ok v xs := by
  intro h_
  (iterate 16 (try (first | exact h_ | (with_reducible first | apply Kd.N_alloc | apply Kd.N_drewN | apply Kd.N_drew) | refine farN ?_)))) : Aside0 (Kd.N d e w1 base ok v xs) := ⟨Kd.N_below (f h.out) hb⟩
theorem fs {g : Nat} {o : Obj} (h : Aside0 (W0.heap[g]? = some o)) (f : g < W0.heap.size → g < W.heap.size := by
  intro h_
  first | exact h_ | (simp; exact h_) | (simp; omega)) : ∀ k, W.heap.size ≤ k → k ≠ g := fun k hk e => by have := f (blk_lt h.out); omega
end
end Go.Proofs.Ytecfdemglbfnoaa.PT
end
section
namespace Go.Proofs.Ytecfdemglbfnoaa.PT
open Go.RowKit Go.Proofs.YtecfdemglbfnoaaW.PrintWords Go.Proofs.YtecfdemglbfnoaaW.PrintLast Go.Proofs.YtecfdemglbfnoaaW.PrintMore
theorem am {p : Prop} (h : p) : Aside0 p := ⟨h⟩
theorem bs {α β : Type} {x : Option α} {f : α → Option β} {b : β} (h : x.bind f = some b) : ∃ a, Aside0 (x = some a) ∧ f a = some b := by
  obtain ⟨a, h1, h2⟩ := Option.bind_eq_some_iff.mp h
  exact ⟨a, ⟨h1⟩, h2⟩
theorem el {α β : Type} {d : Kd α} {d' : Kd β} {e e' : Nat} {W0 W w1 w2 : World} {base : Nat} {ok ok' : Nat → Prop} {v u : Value} {xs : List α} {ys : List β} (h : Aside0 (Kd.V d e W0 base ok v xs)) (ho : Kd.N d' e' w2 W.heap.size ok' u ys) (hb : Below W.heap.size W w1) (f : Kd.V d e W0 base ok v xs → Kd.V d e W base ok v xs := by
  intro h_; (with_reducible repeat (first | apply Kd.V_alloc | apply Kd.V_drewN | apply Kd.V_drew)); exact h_) : Aside0 (Kd.V d e w1 base (fun k => ok k ∧ some k ≠ u.ownBlock) v xs) := ⟨Kd.V_elder' (f h.out) (Kd.N_base ho) hb⟩
theorem en {α β : Type} {d : Kd α} {d' : Kd β} {e e' : Nat} {W0 W w1 w2 : World} {base : Nat} {ok ok' : Nat → Prop} {v u : Value} {xs : List α} {ys : List β} (h : Aside0 (Kd.N d e W0 base ok v xs)) (ho : Kd.N d' e' w2 W.heap.size ok' u ys) (hb : Below W.heap.size W w1) (f : Kd.N d e W0 base ok v xs → Kd.N d e W base ok v xs := by
  intro h_; (with_reducible repeat (first | apply Kd.N_alloc | apply Kd.N_drewN | apply Kd.N_drew)); exact h_) : Aside0 (Kd.N d e w1 base (fun k => ok k ∧ some k ≠ u.ownBlock) v xs) := ⟨Kd.N_elder' (f h.out) (Kd.N_base ho) hb⟩
theorem kp {p q : Prop} (h : p) (f : p → q := by
  intro h_; (with_reducible repeat (first | refine blk_drewN ?_ _ | refine blk_drew ?_ | refine blk_alloc ?_ _)); exact blk_put (blk_put (blk_put h_ 0 _ rfl) 1 _ rfl) 2 _ rfl) : q := f h
theorem be {w W0 W w1 : World} (h : Aside0 (Below w.heap.size w W0)) (hb : Below W.heap.size W w1) (f : Below w.heap.size w W0 → Below w.heap.size w W := by intro h_; repeat (first | (with_reducible first | exact h_ | apply below_alloc | apply pw_below_drewN | apply below_drew1) | exact h_)) : Aside0 (Below w.heap.size w w1) := ⟨below_step (f h.out) hb⟩
theorem fz {w W0 W : World} (h : Aside0 (Below w.heap.size w W0)) (f : Below w.heap.size w W0 → Below w.heap.size w W := by intro h_; repeat (first | (with_reducible first | exact h_ | apply below_alloc | apply pw_below_drewN | apply below_drew1) | exact h_)) : ∀ k, W.heap.size ≤ k → w.heap.size ≤ k := f0 (below_size (f h.out))
theorem be1 {w W0 W w1 : World} {p1 : Prop} (h : Aside0 (Below w.heap.size w W0)) (g1 : Aside0 p1) (hb : Below W.heap.size W w1) (f : Below w.heap.size w W0 → p1 → Below w.heap.size w W := by intro h_ g1_; repeat (first | (with_reducible first | exact h_ | apply below_alloc | apply pw_below_drewN | apply below_drew1 | refine below_set ?_ g1_) | exact h_)) : Aside0 (Below w.heap.size w w1) := ⟨below_step (f h.out g1.out) hb⟩
theorem fz1 {w W0 W : World} {p1 : Prop} (h : Aside0 (Below w.heap.size w W0)) (g1 : Aside0 p1) (f : Below w.heap.size w W0 → p1 → Below w.heap.size w W := by intro h_ g1_; repeat (first | (with_reducible first | exact h_ | apply below_alloc | apply pw_below_drewN | apply below_drew1 | refine below_set ?_ g1_) | exact h_)) : ∀ k, W.heap.size ≤ k → w.heap.size ≤ k := f0 (below_size (f h.out g1.out))
theorem be2 {w W0 W w1 : World} {p1 p2 : Prop} (h : Aside0 (Below w.heap.size w W0)) (g1 : Aside0 p1) (g2 : Aside0 p2) (hb : Below W.heap.size W w1) (f : Below w.heap.size w W0 → p1 → p2 → Below w.heap.size w W := by intro h_ g1_ g2_; repeat (first | (with_reducible first | exact h_ | apply below_alloc | apply pw_below_drewN | apply below_drew1 | refine below_set ?_ g1_ | refine below_set ?_ g2_) | exact h_)) : Aside0 (Below w.heap.size w w1) := ⟨below_step (f h.out g1.out g2.out) hb⟩
theorem fz2 {w W0 W : World} {p1 p2 : Prop} (h : Aside0 (Below w.heap.size w W0)) (g1 : Aside0 p1) (g2 : Aside0 p2) (f : Below w.heap.size w W0 → p1 → p2 → Below w.heap.size w W := by intro h_ g1_ g2_; repeat (first | (with_reducible first | exact h_ | apply below_alloc | apply pw_below_drewN | apply below_drew1 | refine below_set ?_ g1_ | refine below_set ?_ g2_) | exact h_)) : ∀ k, W.heap.size ≤ k → w.heap.size ≤ k := f0 (below_size (f h.out g1.out g2.out))
theorem be3 {w W0 W w1 : World} {p1 p2 p3 : Prop} (h : Aside0 (Below w.heap.size w W0)) (g1 : Aside0 p1) (g2 : Aside0 p2) (g3 : Aside0 p3) (hb : Below W.heap.size W w1) (f : Below w.heap.size w W0 → p1 → p2 → p3 → Below w.heap.size w W := by intro h_ g1_ g2_ g3_; repeat (first | (with_reducible first | exact h_ | apply below_alloc | apply pw_below_drewN | apply below_drew1 | refine below_set ?_ g1_ | refine below_set ?_ g2_ | refine below_set ?_ g3_) | exact h_)) : Aside0 (Below w.heap.size w w1) := ⟨below_step (f h.out g1.out g2.out g3.out) hb⟩
theorem fz3 {w W0 W : World} {p1 p2 p3 : Prop} (h : Aside0 (Below w.heap.size w W0)) (g1 : Aside0 p1) (g2 : Aside0 p2) (g3 : Aside0 p3) (f : Below w.heap.size w W0 → p1 → p2 → p3 → Below w.heap.size w W := by intro h_ g1_ g2_ g3_; repeat (first | (with_reducible first | exact h_ | apply below_alloc | apply pw_below_drewN | apply below_drew1 | refine below_set ?_ g1_ | refine below_set ?_ g2_ | refine below_set ?_ g3_) | exact h_)) : ∀ k, W.heap.size ≤ k → w.heap.size ≤ k := f0 (below_size (f h.out g1.out g2.out g3.out))
end Go.Proofs.Ytecfdemglbfnoaa.PT
end
