/-
  The breadth-first attractor and the rounds: plain law. No condition.
-/
import Derived.Test.YthkgnnndlocbbaaKh
namespace Go.Proofs.Ythkgnnndlocbbaa
set_option linter.unusedVariables false
set_option linter.unusedSimpArgs false
open Go Go.SH
def canF (ow : List Int) (su : List (List Int)) (pl : Int) (f : Nat → Bool) (i : Nat) : Bool := if ow.getD i 0 = pl then (su.getD i []).any (fun t => f t.toNat) else (su.getD i []).all (fun t => f t.toNat)
theorem canB_F (ow : List Int) (su : List (List Int)) (pl : Int) (s : List Bool) (i : Nat) : canB ow su pl s i = canF ow su pl (fun k => s.getD k false) i := rfl
theorem canF_mono {ow : List Int} {su : List (List Int)} {pl : Int} {f g : Nat → Bool} {i : Nat} (h : ∀ t ∈ su.getD i [], f t.toNat = true → g t.toNat = true) (hf : canF ow su pl f i = true) : canF ow su pl g i = true := by
  unfold canF at *
  split at hf <;> rename_i hc
  · rw [if_pos hc]; rw [List.any_eq_true] at *
    obtain ⟨x, h1, h2⟩ := hf
    exact ⟨x, h1, h x h1 h2⟩
  · rw [if_neg hc]; rw [List.all_eq_true] at *
    exact fun x hx => h x hx (hf x hx)
theorem canF_congr {ow : List Int} {su : List (List Int)} {pl : Int} {f g : Nat → Bool} {i : Nat} (h : ∀ t ∈ su.getD i [], f t.toNat = g t.toNat) : canF ow su pl f i = canF ow su pl g i := by
  rw [Bool.eq_iff_iff]
  exact ⟨canF_mono fun t ht e => by rw [← h t ht]; exact e, canF_mono fun t ht e => by rw [h t ht]; exact e⟩
section
variable (ow : List Int) (su : List (List Int)) (pl : Int) (s : List Bool)
/-- The positions that the rounds have reached. -/
def rin (k i : Nat) : Bool := (rounds ow su pl s k).1.getD i false
def mvR (k i : Nat) : Int := (rounds ow su pl s k).2.getD i 0
end
section
variable {ow : List Int} {su : List (List Int)} {pl : Int} {s : List Bool}
theorem range_map_getD {α : Type} (n : Nat) (f : Nat → α) (i : Nat) (d : α) (h : i < n) : ((List.range n).map f).getD i d = f i := by
  rw [List.getD_eq_getElem?_getD, List.getElem?_map, List.getElem?_range h]; rfl
theorem getD_ge {α : Type} (l : List α) (i : Nat) (d : α) (h : l.length ≤ i) : l.getD i d = d := by
  rw [List.getD_eq_getElem?_getD, List.getElem?_eq_none h]; rfl
theorem rin_out {k i : Nat} (h : s.length ≤ i) : rin ow su pl s k i = false := by
  rw [rin]; exact getD_ge _ _ _ (by rw [(rounds_length ow su pl s k).1]; exact h)
theorem rin_zero (i : Nat) : rin ow su pl s 0 i = s.getD i false := rfl
theorem rin_succ {k i : Nat} (h : i < s.length) : rin ow su pl s (k + 1) i = (rin ow su pl s k i || canF ow su pl (rin ow su pl s k) i) := by
  rw [rin, rounds, range_map_getD _ _ _ _ h, stepS, canB_F]; rfl
theorem mvR_zero {i : Nat} (h : i < s.length) : mvR ow su pl s 0 i = if s.getD i false then 0 else -1 := by
  rw [mvR, rounds, List.getD_eq_getElem?_getD, List.getElem?_map, List.getD_eq_getElem?_getD, List.getElem?_eq_getElem h]; rfl
theorem mvR_succ {k i : Nat} (h : i < s.length) : mvR ow su pl s (k + 1) i = if rin ow su pl s k i = false ∧ canF ow su pl (rin ow su pl s k) i = true then ((k + 1 : Nat) : Int) else mvR ow su pl s k i := by
  rw [mvR, rounds, range_map_getD _ _ _ _ h, stepM, canB_F]; rfl
theorem rin_step {k i : Nat} (h : rin ow su pl s k i = true) : rin ow su pl s (k + 1) i = true := by
  rcases Nat.lt_or_ge i s.length with hi | hi
  · rw [rin_succ hi, h, Bool.true_or]
  · rw [rin_out hi] at h; cases h
theorem rin_le {k m i : Nat} (hkm : k ≤ m) (h : rin ow su pl s k i = true) : rin ow su pl s m i = true := by
  induction m with
  | zero => obtain rfl : k = 0 := by omega
            exact h
  | succ m ih =>
    rcases Nat.lt_or_ge m k with h1 | h1
    · obtain rfl : k = m + 1 := by omega
      exact h
    · exact rin_step (ih h1)
theorem rin_lt {k i : Nat} (h : rin ow su pl s k i = true) : i < s.length := by
  rcases Nat.lt_or_ge i s.length with hi | hi
  · exact hi
  · rw [rin_out hi] at h; cases h
/-- The moves, by the rounds. -/
theorem mvR_neg {k i : Nat} (hi : i < s.length) (h : rin ow su pl s k i = false) : mvR ow su pl s k i = -1 := by
  induction k with
  | zero => rw [mvR_zero hi]; rw [rin_zero] at h; rw [h]; rfl
  | succ k ih =>
    rw [rin_succ hi, Bool.or_eq_false_iff] at h
    rw [mvR_succ hi, if_neg (by rw [h.2]; simp), ih h.1]
theorem mvR_at {k m i : Nat} (hkm : k ≤ m) (h : rin ow su pl s k i = true) (hb : ∀ j, j < k → rin ow su pl s j i = false) : mvR ow su pl s m i = k := by
  have hi := rin_lt h
  induction m with
  | zero =>
    obtain rfl : k = 0 := by omega
    rw [mvR_zero hi]; rw [rin_zero] at h; rw [h]; rfl
  | succ m ih =>
    rcases Nat.lt_or_ge m k with h1 | h1
    · obtain rfl : k = m + 1 := by omega
      have h2 := hb m (by omega)
      rw [rin_succ hi, h2, Bool.false_or] at h
      rw [mvR_succ hi, if_pos ⟨h2, h⟩]
    · rw [mvR_succ hi, if_neg (fun h2 => by rw [rin_le h1 h] at h2; cases h2.1)]
      exact ih h1
/-- Every position that is reached is reached first in one round. -/
theorem rin_first {k i : Nat} (h : rin ow su pl s k i = true) : ∃ j, j ≤ k ∧ rin ow su pl s j i = true ∧ ∀ l, l < j → rin ow su pl s l i = false := by
  induction k with
  | zero => exact ⟨0, Nat.le_refl _, h, fun l hl => by omega⟩
  | succ k ih =>
    cases h1 : rin ow su pl s k i
    · refine ⟨k + 1, Nat.le_refl _, h, fun l hl => ?_⟩
      rw [← Bool.not_eq_true]; intro h2
      rw [rin_le (show l ≤ k by omega) h2] at h1; cases h1
    · obtain ⟨j, h2, h3⟩ := ih h1
      exact ⟨j, by omega, h3⟩
theorem rin_same {k : Nat} (h : ∀ i, rin ow su pl s (k + 1) i = rin ow su pl s k i) : ∀ m i, rin ow su pl s (k + m) i = rin ow su pl s k i := by
  intro m
  induction m with
  | zero => intro i; rfl
  | succ m ih =>
    intro i
    rcases Nat.lt_or_ge i s.length with hi | hi
    · rw [← h i, ← Nat.add_assoc, rin_succ hi, rin_succ hi, ih i]
      congr 1
      exact canF_congr fun t _ => ih t.toNat
    · rw [rin_out hi, rin_out hi]
theorem filter_len_le {α : Type} {p q : α → Bool} : ∀ {l : List α}, (∀ x ∈ l, p x = true → q x = true) → (l.filter p).length ≤ (l.filter q).length
  | [], _ => Nat.le_refl _
  | b :: l, h => by
    have ih := filter_len_le (l := l) fun x hx => h x (List.mem_cons_of_mem _ hx)
    have hb := h b (by simp)
    simp only [List.filter_cons]
    cases hp : p b
    · cases hq : q b
      · simpa using ih
      · simp; omega
    · rw [hb hp]; simpa using ih
theorem filter_len_lt {α : Type} {p q : α → Bool} : ∀ {l : List α}, (∀ x ∈ l, p x = true → q x = true) → ∀ {y : α}, y ∈ l → p y = false → q y = true → (l.filter p).length < (l.filter q).length
  | [], _, y, hy, _, _ => by simp at hy
  | a :: l, h, y, hy, h1, h2 => by
    have h0 := filter_len_le (l := l) fun x hx => h x (List.mem_cons_of_mem _ hx)
    have hb := h a (by simp)
    rcases List.mem_cons.1 hy with rfl | hy
    · simp only [List.filter_cons, h1, h2]; simp; omega
    · have ih := filter_len_lt (l := l) (fun x hx => h x (List.mem_cons_of_mem _ hx)) hy h1 h2
      simp only [List.filter_cons]
      cases hp : p a
      · cases hq : q a
        · simpa using ih
        · simp; omega
      · rw [hb hp]; simpa using ih
theorem rin_count {k : Nat} : (∃ i, rin ow su pl s k i = true ∧ ∀ l, l < k → rin ow su pl s l i = false) → k ≤ ((List.range s.length).filter (rin ow su pl s k)).length := by
  rintro ⟨i, h1, h2⟩
  have hne : ∀ j, j < k → ∃ q, rin ow su pl s (j + 1) q = true ∧ rin ow su pl s j q = false := by
    intro j hj
    apply Classical.byContradiction
    intro hno
    have : ∀ q, rin ow su pl s (j + 1) q = rin ow su pl s j q := by
      intro q
      cases h3 : rin ow su pl s j q
      · cases h4 : rin ow su pl s (j + 1) q
        · rfl
        · exact absurd ⟨q, h4, h3⟩ hno
      · exact rin_step h3
    have h5 := rin_same this (k - j) i
    rw [show j + (k - j) = k by omega, h1, h2 j hj] at h5
    cases h5
  have key : ∀ j, j ≤ k → j ≤ ((List.range s.length).filter (rin ow su pl s j)).length := by
    intro j
    induction j with
    | zero => intro _; omega
    | succ j ih =>
      intro hj
      obtain ⟨q, h3, h4⟩ := hne j (by omega)
      have := filter_len_lt (l := List.range s.length) (p := rin ow su pl s j) (q := rin ow su pl s (j + 1)) (fun x _ h => rin_step h) (List.mem_range.2 (rin_lt h3)) h4 h3
      have := ih (by omega)
      omega
  exact key k (Nat.le_refl _)
theorem rin_bound {k i : Nat} (h1 : rin ow su pl s k i = true) (h2 : ∀ l, l < k → rin ow su pl s l i = false) : k ≤ s.length := by
  have h3 := rin_count ⟨i, h1, h2⟩
  have h4 := List.length_filter_le (rin ow su pl s k) (List.range s.length)
  rw [List.length_range] at h4
  omega
/-- After as many rounds as there are positions nothing changes. -/
theorem rin_all {k i : Nat} (h : rin ow su pl s k i = true) : rin ow su pl s s.length i = true := by
  obtain ⟨j, _, h2, h3⟩ := rin_first h
  exact rin_le (rin_bound h2 h3) h2

/-- The rule of a position by the number of its successors outside. -/
def ruleB (ow : List Int) (su : List (List Int)) (pl : Int) (p : Nat) (o : Int) : Bool := if ow.getD p 0 = pl then decide (o < (su.getD p []).length) else decide (o = 0)
def cnt (su : List (List Int)) (ds : List Nat) (p : Nat) : Nat := ((su.getD p []).filter fun t => decide (t.toNat ∉ ds)).length
theorem rule_can (ds : List Nat) (p : Nat) : ruleB ow su pl p (cnt su ds p) = canF ow su pl (fun i => decide (i ∈ ds)) p := by
  unfold ruleB canF cnt
  split
  · rw [Bool.eq_iff_iff, decide_eq_true_eq, List.any_eq_true]
    have h := List.length_filter_le (fun t => decide (t.toNat ∉ ds)) (su.getD p [])
    constructor
    · intro h1
      apply Classical.byContradiction
      intro h2
      have : (su.getD p []).filter (fun t => decide (t.toNat ∉ ds)) = su.getD p [] := List.filter_eq_self.2 fun x hx => by
        simp only [decide_eq_true_eq]; intro h3; exact h2 ⟨x, hx, by simpa using h3⟩
      rw [this] at h1; omega
    · rintro ⟨x, h1, h2⟩
      have : ((su.getD p []).filter (fun t => decide (t.toNat ∉ ds))).length ≠ (su.getD p []).length := by
        intro h3
        have := (List.length_filter_eq_length_iff.1 h3) x h1
        simp at this h2
        exact this h2
      omega
  · rw [Bool.eq_iff_iff, decide_eq_true_eq, List.all_eq_true]
    constructor
    · intro h1 x hx
      have h2 : ((su.getD p []).filter (fun t => decide (t.toNat ∉ ds))) = [] := List.eq_nil_of_length_eq_zero (by omega)
      rw [List.filter_eq_nil_iff] at h2
      simpa using h2 x hx
    · intro h1
      have : ((su.getD p []).filter (fun t => decide (t.toNat ∉ ds))) = [] := List.filter_eq_nil_iff.2 fun x hx => by simpa using h1 x hx
      rw [this]; rfl
theorem rule_mono {p : Nat} {o o' : Int} (h0 : 0 ≤ o) (h : o ≤ o') (hr : ruleB ow su pl p o' = true) : ruleB ow su pl p o = true := by
  unfold ruleB at *
  split at hr <;> rename_i hc
  · rw [if_pos hc]; simp only [decide_eq_true_eq] at *; omega
  · rw [if_neg hc]; simp only [decide_eq_true_eq] at *; omega
/-- How often a position stands among the first predecessors. -/
def occ (r : List Int) (k p : Nat) : Nat := ((r.take k).filter fun t => t == (p : Int)).length
theorem befL_count (su : List (List Int)) (q p : Nat) (hp : p < su.length) : ((befL su su.length q).filter fun t => t == (p : Int)).length = ((su.getD p []).filter fun t => t == (q : Int)).length := by
  have key : ∀ m, ((befL su m q).filter fun t => t == (p : Int)).length = if p < m then ((su.getD p []).filter fun t => t == (q : Int)).length else 0 := by
    intro m
    induction m with
    | zero => simp [befL]
    | succ m ih =>
      rw [befL_next, List.filter_append, List.length_append, ih, List.filter_map]
      by_cases hpm : p = m
      · subst hpm
        rw [if_neg (by omega), if_pos (by omega), List.length_map, List.filter_eq_self.2 (fun x _ => by simp)]
        omega
      · have : List.filter ((fun t => t == (p : Int)) ∘ fun _ : Int => (m : Int)) ((su.getD m []).filter fun t => t == (q : Int)) = [] := List.filter_eq_nil_iff.2 fun x _ => by simp; omega
        rw [this]
        by_cases h : p < m
        · rw [if_pos h, if_pos (by omega)]; rfl
        · rw [if_neg h, if_neg (by omega)]; rfl
  rw [key, if_pos hp]
theorem befL_mem {su : List (List Int)} {q : Nat} {t : Int} (h : t ∈ befL su su.length q) : ∃ p : Nat, t = p ∧ p < su.length := by
  unfold befL at h
  obtain ⟨i, h1, h2⟩ := List.mem_flatMap.1 h
  obtain ⟨_, _, rfl⟩ := List.mem_map.1 h2
  exact ⟨i, rfl, List.mem_range.1 h1⟩
theorem cnt_next {ds : List Nat} {x p : Nat} (hx : x ∉ ds) (hs : ∀ t ∈ su.getD p [], 0 ≤ t) : cnt su ds p = cnt su (ds ++ [x]) p + ((su.getD p []).filter fun t => t == (x : Int)).length := by
  unfold cnt
  generalize su.getD p [] = row at hs
  induction row with
  | nil => rfl
  | cons a l ih =>
    have h0 := hs a (by simp)
    have ih := ih fun t ht => hs t (List.mem_cons_of_mem _ ht)
    simp only [List.filter_cons]
    by_cases h1 : a = (x : Int)
    · subst h1
      simp [hx] at ih ⊢; omega
    · have h2 : a.toNat ≠ x := by omega
      have : (a == (x : Int)) = false := by simpa using h1
      by_cases h3 : a.toNat ∈ ds <;> simp [h3, h2, this] at ih ⊢ <;> omega

/-- What holds while a position is worked on: the first k of its predecessors are done. -/
structure Bfs (ow : List Int) (su : List (List Int)) (pl : Int) (s : List Bool) (ds : List Nat) (x k : Nat) (q1 q2 : List Nat) (d : Nat) (mv os : List Int) : Prop where
  lm : mv.length = s.length
  lo : os.length = s.length
  nd : (ds ++ x :: (q1 ++ q2)).Nodup
  mem : ∀ i, i < s.length → (i ∈ ds ++ x :: (q1 ++ q2) ↔ 0 ≤ mv.getD i 0)
  bd : ∀ i ∈ ds ++ x :: (q1 ++ q2), i < s.length
  lev : ∀ i, i < s.length → 0 ≤ mv.getD i 0 → ∃ j : Nat, mv.getD i 0 = j ∧ rin ow su pl s j i = true ∧ ∀ l, l < j → rin ow su pl s l i = false
  neg : ∀ i, i < s.length → mv.getD i 0 < 0 → mv.getD i 0 = -1
  out : ∀ p, p < s.length → os.getD p 0 = cnt su ds p - occ (befL su su.length x) k p
  unm : ∀ p, p < s.length → mv.getD p 0 < 0 → ruleB ow su pl p (os.getD p 0) = false
  l0 : ∀ i ∈ ds, mv.getD i 0 ≤ d
  l1 : ∀ i ∈ x :: q1, mv.getD i 0 = d
  l2 : ∀ i ∈ q2, mv.getD i 0 = d + 1
  cov : ∀ i, rin ow su pl s d i = true → i ∈ ds ++ x :: (q1 ++ q2)
/-- The same between two positions. -/
structure Bfs0 (ow : List Int) (su : List (List Int)) (pl : Int) (s : List Bool) (ds : List Nat) (q1 q2 : List Nat) (d : Nat) (mv os : List Int) : Prop where
  lm : mv.length = s.length
  lo : os.length = s.length
  nd : (ds ++ (q1 ++ q2)).Nodup
  mem : ∀ i, i < s.length → (i ∈ ds ++ (q1 ++ q2) ↔ 0 ≤ mv.getD i 0)
  bd : ∀ i ∈ ds ++ (q1 ++ q2), i < s.length
  lev : ∀ i, i < s.length → 0 ≤ mv.getD i 0 → ∃ j : Nat, mv.getD i 0 = j ∧ rin ow su pl s j i = true ∧ ∀ l, l < j → rin ow su pl s l i = false
  neg : ∀ i, i < s.length → mv.getD i 0 < 0 → mv.getD i 0 = -1
  out : ∀ p, p < s.length → os.getD p 0 = cnt su ds p
  unm : ∀ p, p < s.length → mv.getD p 0 < 0 → ruleB ow su pl p (os.getD p 0) = false
  l0 : ∀ i ∈ ds, mv.getD i 0 ≤ d
  l1 : ∀ i ∈ q1, mv.getD i 0 = d
  l2 : ∀ i ∈ q2, mv.getD i 0 = d + 1
  cov : ∀ i, rin ow su pl s d i = true → i ∈ ds ++ (q1 ++ q2)
/-- The succession, in one list. -/
def BfsQ (ow : List Int) (su : List (List Int)) (pl : Int) (s : List Bool) (ds qs : List Nat) (mv os : List Int) : Prop := ∃ q1 q2 d, qs = q1 ++ q2 ∧ Bfs0 ow su pl s ds q1 q2 d mv os
def BfsX (ow : List Int) (su : List (List Int)) (pl : Int) (s : List Bool) (ds : List Nat) (x k : Nat) (qs : List Nat) (mv os : List Int) : Prop := ∃ q1 q2 d, qs = q1 ++ q2 ∧ Bfs ow su pl s ds x k q1 q2 d mv os
theorem Bfs0.adv {ds q2 : List Nat} {d : Nat} {mv os : List Int} (h : Bfs0 ow su pl s ds [] q2 d mv os) : Bfs0 ow su pl s ds q2 [] (d + 1) mv os := by
  refine ⟨h.lm, h.lo, by simpa using h.nd, by simpa using h.mem, by simpa using h.bd, h.lev, h.neg, h.out, h.unm, fun i hi => by have := h.l0 i hi; omega, fun i hi => by have := h.l2 i hi; omega, by simp, fun i hi => ?_⟩
  have hlt := rin_lt hi
  rw [rin_succ hlt, Bool.or_eq_true] at hi
  rcases hi with hi | hi
  · simpa using h.cov i hi
  · have hds : ∀ t, rin ow su pl s d t = true → t ∈ ds := by
      intro t ht
      have h1 := h.cov t ht
      simp only [List.nil_append, List.mem_append] at h1
      rcases h1 with h1 | h1
      · exact h1
      · have h2 := h.l2 t h1
        obtain ⟨j, h3, _, h4⟩ := h.lev t (rin_lt ht) (by omega)
        have := h4 d (by omega)
        rw [ht] at this; cases this
    have h5 : canF ow su pl (fun i => decide (i ∈ ds)) i = true := canF_mono (fun t _ ht => by simpa using hds _ ht) hi
    rw [← rule_can, ← h.out i hlt] at h5
    have h6 : 0 ≤ mv.getD i 0 := by
      apply Classical.byContradiction
      intro h7
      rw [h.unm i hlt (by omega)] at h5; cases h5
    simpa using (h.mem i hlt).2 h6
theorem BfsQ.pop {ds qs : List Nat} {x : Nat} {mv os : List Int} (h : BfsQ ow su pl s ds (x :: qs) mv os) : BfsX ow su pl s ds x 0 qs mv os := by
  have key : ∀ q1 q2 d, x :: qs = (x :: q1) ++ q2 → Bfs0 ow su pl s ds (x :: q1) q2 d mv os → BfsX ow su pl s ds x 0 qs mv os := by
    intro q1 q2 d he h
    refine ⟨q1, q2, d, by simpa using he, h.lm, h.lo, h.nd, h.mem, h.bd, h.lev, h.neg, fun p hp => ?_, h.unm, h.l0, h.l1, h.l2, h.cov⟩
    rw [h.out p hp]; simp [occ]
  obtain ⟨q1, q2, d, he, h⟩ := h
  cases q1 with
  | nil =>
    simp only [List.nil_append] at he
    subst he
    exact key qs [] _ (by simp) h.adv
  | cons y q1 =>
    simp only [List.cons_append, List.cons.injEq] at he
    obtain ⟨rfl, rfl⟩ := he
    exact key q1 q2 d rfl h
theorem getD_set {α : Type} (l : List α) (k i : Nat) (x d : α) (hk : k < l.length) : (l.set k x).getD i d = if i = k then x else l.getD i d := by
  rw [List.getD_eq_getElem?_getD, List.getD_eq_getElem?_getD, List.getElem?_set]
  by_cases h : k = i
  · subst h; simp [hk]
  · rw [if_neg h, if_neg (by omega)]
theorem occ_next {r : List Int} {k p : Nat} (hk : k < r.length) (q : Nat) (hq : r.getD k 0 = (q : Int)) : occ r (k + 1) p = occ r k p + if p = q then 1 else 0 := by
  unfold occ
  rw [take_next r 0 k hk, List.filter_append, List.length_append, hq]
  by_cases h : p = q
  · subst h; simp
  · have : ((q : Int) == (p : Int)) = false := by simp; omega
    simp [this, h]
theorem occ_le {r : List Int} {k p : Nat} : occ r k p ≤ (r.filter fun t => t == (p : Int)).length := by
  unfold occ
  conv => rhs; rw [← List.take_append_drop k r]
  rw [List.filter_append, List.length_append]; omega
/-- The next predecessor: counted. -/
theorem Bfs.out_next {ds q1 q2 : List Nat} {x k d p : Nat} {mv os : List Int} (h : Bfs ow su pl s ds x k q1 q2 d mv os) (hv : su.length = s.length) (hk : k < (befL su su.length x).length) (hp : (befL su su.length x).getD k 0 = (p : Int)) (hps : p < s.length) :
    ∀ i, i < s.length → (os.set p (os.getD p 0 - 1)).getD i 0 = cnt su ds i - occ (befL su su.length x) (k + 1) i := by
  intro i hi
  rw [getD_set _ _ _ _ _ (by rw [h.lo]; exact hps), occ_next hk p hp]
  split
  · rename_i he; subst he; rw [h.out i hi]; omega
  · rw [h.out i hi]; omega
theorem Bfs.out_ge {ds q1 q2 : List Nat} {x k d : Nat} {mv os : List Int} (h : Bfs ow su pl s ds x k q1 q2 d mv os) (hv : su.length = s.length) (hs : ∀ p, p < s.length → ∀ t ∈ su.getD p [], 0 ≤ t) (k' i : Nat) (hi : i < s.length) : (cnt su (ds ++ [x]) i : Int) ≤ cnt su ds i - occ (befL su su.length x) k' i := by
  have hx : x ∉ ds := fun hx => by
    have := h.nd
    rw [List.nodup_append] at this
    exact this.2.2 x hx x (by simp) rfl
  have h1 := cnt_next (su := su) hx (hs i hi)
  have h2 := befL_count su x i (by omega)
  have h3 := @occ_le (befL su su.length x) k' i
  omega
/-- It stays outside. -/
theorem Bfs.stay {ds q1 q2 : List Nat} {x k d p : Nat} {mv os : List Int} (h : Bfs ow su pl s ds x k q1 q2 d mv os) (hv : su.length = s.length) (hk : k < (befL su su.length x).length) (hp : (befL su su.length x).getD k 0 = (p : Int)) (hps : p < s.length)
    (hr : ¬ (mv.getD p 0 < 0 ∧ ruleB ow su pl p (os.getD p 0 - 1) = true)) : Bfs ow su pl s ds x (k + 1) q1 q2 d mv (os.set p (os.getD p 0 - 1)) := by
  refine ⟨h.lm, by simpa using h.lo, h.nd, h.mem, h.bd, h.lev, h.neg, h.out_next hv hk hp hps, fun q hq hm => ?_, h.l0, h.l1, h.l2, h.cov⟩
  rw [getD_set _ _ _ _ _ (by rw [h.lo]; exact hps)]
  split
  · rename_i he; subst he
    rw [← Bool.not_eq_true]; exact fun hh => hr ⟨hm, hh⟩
  · exact h.unm q hq hm
/-- It is reached now. -/
theorem Bfs.join {ds q1 q2 : List Nat} {x k d p : Nat} {mv os : List Int} (h : Bfs ow su pl s ds x k q1 q2 d mv os) (hv : su.length = s.length) (hs : ∀ p, p < s.length → ∀ t ∈ su.getD p [], 0 ≤ t) (hk : k < (befL su su.length x).length) (hp : (befL su su.length x).getD k 0 = (p : Int)) (hps : p < s.length)
    (hm : mv.getD p 0 < 0) (hr : ruleB ow su pl p (os.getD p 0 - 1) = true) : Bfs ow su pl s ds x (k + 1) q1 (q2 ++ [p]) d (mv.set p (d + 1)) (os.set p (os.getD p 0 - 1)) := by
  have gm := fun i => getD_set mv p i ((d : Int) + 1) 0 (by rw [h.lm]; exact hps)
  have hpn : p ∉ ds ++ x :: (q1 ++ q2) := fun hh => by have := (h.mem p hps).1 hh; omega
  have em : ∀ i, i ∈ ds ++ x :: (q1 ++ (q2 ++ [p])) ↔ i ∈ ds ++ x :: (q1 ++ q2) ∨ i = p := by
    intro i; simp only [List.mem_append, List.mem_cons, List.mem_singleton, List.not_mem_nil, or_false]
    constructor
    · rintro (h | h | h | h | h) <;> simp [h]
    · rintro ((h | h | h | h) | h) <;> simp [h]
  refine ⟨by simpa using h.lm, by simpa using h.lo, ?_, fun i hi => ?_, fun i hi => ?_, fun i hi h0 => ?_, fun i hi h0 => ?_, h.out_next hv hk hp hps, fun q hq hq0 => ?_, fun i hi => ?_, fun i hi => ?_, fun i hi => ?_, fun i hi => (em i).2 (.inl (h.cov i hi))⟩
  · have : ds ++ x :: (q1 ++ (q2 ++ [p])) = (ds ++ x :: (q1 ++ q2)) ++ [p] := by simp
    rw [this, List.nodup_append]
    refine ⟨h.nd, by simp, ?_⟩
    intro a ha b hb
    simp at hb; subst hb
    exact fun e => hpn (e ▸ ha)
  · rw [em, gm]
    split
    · rename_i he; simp [he]; omega
    · rename_i he; rw [h.mem i hi]; simp [he]
  · rcases (em i).1 hi with hi | rfl
    · exact h.bd i hi
    · exact hps
  · rw [gm] at h0 ⊢
    split
    · rename_i he; subst he
      refine ⟨d + 1, by omega, ?_, fun l hl => ?_⟩
      · rw [rin_succ hps, Bool.or_eq_true]; right
        have h1 : canF ow su pl (fun j => decide (j ∈ ds ++ [x])) i = true := by
          rw [← rule_can]
          refine rule_mono (by omega) ?_ hr
          have h2 := h.out_next hv hk hp hps i hps
          rw [getD_set _ _ _ _ _ (by rw [h.lo]; exact hps), if_pos rfl] at h2
          rw [h2]; exact h.out_ge hv hs (k + 1) i hps
        refine canF_mono (fun t _ ht => ?_) h1
        simp only [List.mem_append, List.mem_singleton, decide_eq_true_eq] at ht
        have hmem : t.toNat ∈ ds ++ x :: (q1 ++ q2) := by rcases ht with ht | ht <;> simp [ht]
        have htl := h.bd _ hmem
        obtain ⟨j, h3, h4, _⟩ := h.lev _ htl ((h.mem _ htl).1 hmem)
        have h5 : mv.getD t.toNat 0 ≤ d := by
          rcases ht with ht | ht
          · exact h.l0 _ ht
          · rw [h.l1 _ (by simp [ht])]; omega
        exact rin_le (by omega) h4
      · rw [← Bool.not_eq_true]; intro h6
        exact hpn (h.cov i (rin_le (by omega) h6))
    · rename_i he; rw [if_neg he] at h0; exact h.lev i hi h0
  · rw [gm] at h0 ⊢
    split
    · rename_i he; rw [if_pos he] at h0; omega
    · rename_i he; rw [if_neg he] at h0; exact h.neg i hi h0
  · rw [gm] at hq0
    split at hq0
    · omega
    · rename_i he
      rw [getD_set _ _ _ _ _ (by rw [h.lo]; exact hps), if_neg he]
      exact h.unm q hq hq0
  · rw [gm, if_neg (fun he => hpn (by rw [← he]; simp [hi]))]; exact h.l0 i hi
  · rw [gm, if_neg (fun he => hpn (by rw [← he]; rcases List.mem_cons.1 hi with hi | hi <;> simp [hi]))]; exact h.l1 i hi
  · rw [gm]
    split
    · rfl
    · rename_i he
      rcases List.mem_append.1 hi with hi | hi
      · exact h.l2 i hi
      · simp at hi; exact absurd hi he
theorem BfsX.stay {ds qs : List Nat} {x k p : Nat} {mv os : List Int} (h : BfsX ow su pl s ds x k qs mv os) (hv : su.length = s.length) (hk : k < (befL su su.length x).length) (hp : (befL su su.length x).getD k 0 = (p : Int)) (hps : p < s.length)
    (hr : ¬ (mv.getD p 0 < 0 ∧ ruleB ow su pl p (os.getD p 0 - 1) = true)) : BfsX ow su pl s ds x (k + 1) qs mv (os.set p (os.getD p 0 - 1)) := by
  obtain ⟨q1, q2, d, he, h⟩ := h
  exact ⟨q1, q2, d, he, h.stay hv hk hp hps hr⟩
theorem BfsX.join {ds qs : List Nat} {x k p : Nat} {mv os : List Int} (h : BfsX ow su pl s ds x k qs mv os) (hv : su.length = s.length) (hs : ∀ p, p < s.length → ∀ t ∈ su.getD p [], 0 ≤ t) (hk : k < (befL su su.length x).length) (hp : (befL su su.length x).getD k 0 = (p : Int)) (hps : p < s.length)
    (hm : mv.getD p 0 < 0) (hr : ruleB ow su pl p (os.getD p 0 - 1) = true) : BfsX ow su pl s ds x (k + 1) (qs ++ [p]) (mv.set p (mv.getD x 0 + 1)) (os.set p (os.getD p 0 - 1)) := by
  obtain ⟨q1, q2, d, he, h⟩ := h
  refine ⟨q1, q2 ++ [p], d, by simp [he], ?_⟩
  rw [h.l1 x (by simp)]
  exact h.join hv hs hk hp hps hm hr
theorem BfsX.push {ds qs : List Nat} {x k : Nat} {mv os : List Int} (h : BfsX ow su pl s ds x k qs mv os) (hv : su.length = s.length) (hs : ∀ p, p < s.length → ∀ t ∈ su.getD p [], 0 ≤ t) (hk : (befL su su.length x).length ≤ k) : BfsQ ow su pl s (ds ++ [x]) qs mv os := by
  obtain ⟨q1, q2, d, he, h⟩ := h
  have e1 : ds ++ [x] ++ (q1 ++ q2) = ds ++ x :: (q1 ++ q2) := by simp
  refine ⟨q1, q2, d, he, h.lm, h.lo, by rw [e1]; exact h.nd, by rw [e1]; exact h.mem, by rw [e1]; exact h.bd, h.lev, h.neg, fun p hp => ?_, h.unm, fun i hi => ?_, fun i hi => h.l1 i (List.mem_cons_of_mem _ hi), h.l2, by rw [e1]; exact h.cov⟩
  · have hx : x ∉ ds := fun hx => by
      have := h.nd
      rw [List.nodup_append] at this
      exact this.2.2 x hx x (by simp) rfl
    have h1 := cnt_next (su := su) hx (hs p hp)
    have h2 := befL_count su x p (by omega)
    rw [h.out p hp, occ, List.take_of_length_le hk, h2]; omega
  · rcases List.mem_append.1 hi with hi | hi
    · exact h.l0 i hi
    · simp at hi; rw [h.l1 i (by simp [hi])]; omega
theorem BfsQ.done {ds : List Nat} {mv os : List Int} (h : BfsQ ow su pl s ds [] mv os) : mv = (rounds ow su pl s s.length).2 := by
  obtain ⟨q1, q2, d, he, h⟩ := h
  have he := he.symm
  rw [List.append_eq_nil_iff] at he
  obtain ⟨rfl, rfl⟩ := he
  have all : ∀ k i, rin ow su pl s k i = true → i ∈ ds := by
    intro k
    induction k with
    | zero => intro i hi; simpa using h.cov i (rin_le (by omega) hi)
    | succ k ih =>
      intro i hi
      have hlt := rin_lt hi
      rw [rin_succ hlt, Bool.or_eq_true] at hi
      rcases hi with hi | hi
      · exact ih i hi
      · have h5 : canF ow su pl (fun i => decide (i ∈ ds)) i = true := canF_mono (fun t _ ht => by simpa using ih _ ht) hi
        rw [← rule_can, ← h.out i hlt] at h5
        have h6 : 0 ≤ mv.getD i 0 := by
          apply Classical.byContradiction
          intro h7
          rw [h.unm i hlt (by omega)] at h5; cases h5
        simpa using (h.mem i hlt).2 h6
  apply List.ext_getElem (by rw [h.lm, (rounds_length ow su pl s s.length).2])
  intro i h1 h2
  have e1 : mv[i] = mv.getD i 0 := by rw [List.getD_eq_getElem?_getD, List.getElem?_eq_getElem h1]; rfl
  have e2 : (rounds ow su pl s s.length).2[i] = mvR ow su pl s s.length i := by rw [mvR, List.getD_eq_getElem?_getD, List.getElem?_eq_getElem h2]; rfl
  have hi : i < s.length := by rw [← h.lm]; exact h1
  rw [e1, e2]
  rcases Int.lt_or_le (mv.getD i 0) 0 with h3 | h3
  · rw [h.neg i hi h3, mvR_neg hi]
    rw [← Bool.not_eq_true]; intro h4
    have := (h.mem i hi).1 (by simpa using all _ i h4)
    omega
  · obtain ⟨j, h4, h5, h6⟩ := h.lev i hi h3
    rw [h4, mvR_at (rin_bound h5 h6) h5 h6]
theorem BfsX.bound {ds qs : List Nat} {x k : Nat} {mv os : List Int} (h : BfsX ow su pl s ds x k qs mv os) : ∀ i, i < s.length → -1 ≤ mv.getD i 0 ∧ mv.getD i 0 ≤ s.length := by
  obtain ⟨q1, q2, d, he, h⟩ := h
  intro i hi
  rcases Int.lt_or_le (mv.getD i 0) 0 with h3 | h3
  · rw [h.neg i hi h3]; omega
  · obtain ⟨j, h4, h5, h6⟩ := h.lev i hi h3
    have := rin_bound h5 h6
    omega
theorem BfsX.outb {ds qs : List Nat} {x k : Nat} {mv os : List Int} (h : BfsX ow su pl s ds x k qs mv os) (hv : su.length = s.length) (hs : ∀ p, p < s.length → ∀ t ∈ su.getD p [], 0 ≤ t) : ∀ i, i < s.length → 0 ≤ os.getD i 0 ∧ os.getD i 0 ≤ (su.getD i []).length := by
  obtain ⟨q1, q2, d, he, h⟩ := h
  intro i hi
  have h1 := h.out_ge hv hs k i hi
  rw [← h.out i hi] at h1
  have h2 := h.out i hi
  have h3 : cnt su ds i ≤ (su.getD i []).length := List.length_filter_le _ _
  omega
theorem BfsX.facts {ds qs : List Nat} {x k : Nat} {mv os : List Int} (h : BfsX ow su pl s ds x k qs mv os) : mv.length = s.length ∧ os.length = s.length ∧ x < s.length ∧ ds.length + qs.length + 1 ≤ s.length := by
  obtain ⟨q1, q2, d, he, h⟩ := h
  refine ⟨h.lm, h.lo, h.bd x (by simp), ?_⟩
  have := h.nd.length_le_of_subset (l₂ := List.range s.length) (fun i hi => List.mem_range.2 (h.bd i hi))
  simp at this
  rw [he]; simp; omega
theorem BfsQ.facts {ds qs : List Nat} {mv os : List Int} (h : BfsQ ow su pl s ds qs mv os) : mv.length = s.length ∧ os.length = s.length ∧ ds.length + qs.length ≤ s.length ∧ ∀ i ∈ qs, i < s.length := by
  obtain ⟨q1, q2, d, he, h⟩ := h
  refine ⟨h.lm, h.lo, ?_, fun i hi => h.bd i (by rw [← he]; simp [hi])⟩
  have := h.nd.length_le_of_subset (l₂ := List.range s.length) (fun i hi => List.mem_range.2 (h.bd i hi))
  simp at this
  rw [he]; simp; omega
/-- The beginning. -/
theorem BfsQ.start (hv : su.length = s.length) (hrow : ∀ p, p < s.length → 0 < (su.getD p []).length) : BfsQ ow su pl s [] ((List.range s.length).filter fun i => s.getD i false) ((List.range s.length).map fun i => if s.getD i false then 0 else -1) ((List.range s.length).map fun i => ((su.getD i []).length : Int)) := by
  have g1 := fun i (h : i < s.length) => range_map_getD s.length (fun i => if s.getD i false then (0 : Int) else -1) i 0 h
  have g2 := fun i (h : i < s.length) => range_map_getD s.length (fun i => ((su.getD i []).length : Int)) i 0 h
  have hm : ∀ i, i ∈ (List.range s.length).filter (fun i => s.getD i false) ↔ i < s.length ∧ s.getD i false = true := by intro i; simp
  refine ⟨(List.range s.length).filter fun i => s.getD i false, [], 0, by simp, by simp, by simp, ?_, fun i hi => ?_, fun i hi => ?_, fun i hi h0 => ?_, fun i hi h0 => ?_, fun p hp => ?_, fun p hp h0 => ?_, by simp, fun i hi => ?_, by simp, fun i hi => ?_⟩
  · rw [List.nil_append, List.append_nil]; exact List.Pairwise.filter _ List.nodup_range
  · simp only [List.nil_append, List.append_nil, hm, g1 i hi]
    cases s.getD i false <;> simp [hi]
  · simp only [List.nil_append, List.append_nil, hm] at hi; exact hi.1
  · rw [g1 i hi] at h0 ⊢
    cases h1 : s.getD i false
    · rw [h1] at h0; simp at h0
    · exact ⟨0, rfl, h1, fun l hl => by omega⟩
  · rw [g1 i hi] at h0 ⊢
    cases h1 : s.getD i false
    · rfl
    · rw [h1] at h0; simp at h0
  · rw [g2 p hp]
    have : cnt su [] p = (su.getD p []).length := by unfold cnt; rw [List.filter_eq_self.2 (by simp)]
    rw [this]
  · rw [g2 p hp]
    unfold ruleB
    have := hrow p hp
    split
    · simp
    · rw [decide_eq_false_iff_not]; omega
  · rw [hm] at hi; rw [g1 i hi.1, hi.2]; rfl
  · simp only [List.nil_append, List.append_nil, hm]
    exact ⟨rin_lt hi, hi⟩
end
end Go.Proofs.Ythkgnnndlocbbaa
