/-
  Laws of attractors and traps: plain. No condition.
-/
import Derived.Test.YthkgnnndlocbbaaKl
namespace Go.Proofs.Ythkgnnndlocbbaa
set_option linter.unusedVariables false
set_option linter.unusedSimpArgs false
open Go Go.SH
set_option linter.unusedSectionVars false
section
variable {ow : List Int} {su : List (List Int)} {pl : Int} {s r : List Bool}
theorem rin_mono (hl : s.length = r.length) (h : ∀ i, i < s.length → s.getD i false = true → r.getD i false = true) : ∀ k i, rin ow su pl s k i = true → rin ow su pl r k i = true
  | 0, i, hi => h i (rin_lt hi) hi
  | k + 1, i, hi => by
    have hlt := rin_lt hi
    rw [rin_succ hlt, Bool.or_eq_true] at hi
    rw [rin_succ (by omega), Bool.or_eq_true]
    rcases hi with hi | hi
    · exact .inl (rin_mono hl h k i hi)
    · exact .inr (canF_mono (fun t _ ht => rin_mono hl h k _ ht) hi)
/-- What is attracted attracts nothing more. -/
theorem rin_closed {i : Nat} (hi : i < s.length) (h : canF ow su pl (rin ow su pl s s.length) i = true) : rin ow su pl s s.length i = true := by
  have : rin ow su pl s (s.length + 1) i = true := by rw [rin_succ hi, h, Bool.or_true]
  exact rin_all this
theorem rin_idem (hl : r.length = s.length) (hr : ∀ i, i < s.length → r.getD i false = rin ow su pl s s.length i) : ∀ k i, rin ow su pl r k i = rin ow su pl s s.length i := by
  intro k
  induction k with
  | zero =>
    intro i
    rcases Nat.lt_or_ge i s.length with hi | hi
    · exact hr i hi
    · rw [rin_out (by omega), rin_out hi]
  | succ k ih =>
    intro i
    rcases Nat.lt_or_ge i s.length with hi | hi
    · rw [rin_succ (by omega), ih i]
      have e : canF ow su pl (rin ow su pl r k) i = canF ow su pl (rin ow su pl s s.length) i := canF_congr fun t _ => ih _
      rw [e]
      cases h1 : canF ow su pl (rin ow su pl s s.length) i
      · rw [Bool.or_false]
      · rw [rin_closed hi h1]; rfl
    · rw [rin_out (by omega), rin_out hi]
/-- The moves as a number, or none. -/
theorem mv_cases {i : Nat} (hi : i < s.length) : (rin ow su pl s s.length i = false ∧ mvR ow su pl s s.length i = -1) ∨ ∃ j : Nat, j ≤ s.length ∧ rin ow su pl s s.length i = true ∧ mvR ow su pl s s.length i = j ∧ rin ow su pl s j i = true ∧ ∀ l, l < j → rin ow su pl s l i = false := by
  cases h : rin ow su pl s s.length i
  · exact .inl ⟨rfl, mvR_neg hi h⟩
  · obtain ⟨j, h1, h2, h3⟩ := rin_first h
    exact .inr ⟨j, h1, rfl, mvR_at h1 h2 h3, h2, h3⟩
theorem mv_zero {i : Nat} (hi : i < s.length) : s.getD i false = decide (mvR ow su pl s s.length i = 0) := by
  rcases mv_cases (ow := ow) (su := su) (pl := pl) hi with ⟨h1, h2⟩ | ⟨j, h1, h2, h3, h4, h5⟩
  · rw [h2]
    have : s.getD i false = false := by
      rw [← Bool.not_eq_true]; intro h
      rw [rin_le (k := 0) (Nat.zero_le _) h] at h1; cases h1
    rw [this]; rfl
  · rw [h3]
    cases j with
    | zero => rw [show s.getD i false = true from h4]; rfl
    | succ j => rw [show s.getD i false = false from h5 0 (by omega)]; symm; rw [decide_eq_false_iff_not]; omega
theorem mv_le (hl : s.length = r.length) (h : ∀ i, i < s.length → s.getD i false = true → r.getD i false = true) {i : Nat} (hi : rin ow su pl s s.length i = true) : mvR ow su pl r r.length i ≤ mvR ow su pl s s.length i ∧ 0 ≤ mvR ow su pl r r.length i := by
  have hlt := rin_lt hi
  rcases mv_cases (ow := ow) (su := su) (pl := pl) hlt with ⟨h1, h2⟩ | ⟨j, h1, h2, h3, h4, h5⟩
  · rw [hi] at h1; cases h1
  rcases mv_cases (s := r) (ow := ow) (su := su) (pl := pl) (i := i) (by omega) with ⟨g1, g2⟩ | ⟨k, g1, g2, g3, g4, g5⟩
  · have := rin_all (rin_mono hl h _ _ h4)
    rw [this] at g1; cases g1
  · rw [h3, g3]
    have : k ≤ j := by
      apply Classical.byContradiction
      intro hk
      have := g5 j (by omega)
      rw [rin_mono hl h _ _ h4] at this; cases this
    omega
/-- What stays within a set is not lost. -/
theorem out_great (hp : pl = 0 ∨ pl = 1) (ho : ∀ i, i < s.length → (ow.getD i 0 = 0 ∨ ow.getD i 0 = 1)) (hs : ∀ i, i < s.length → ∀ t ∈ su.getD i [], t.toNat < s.length) {D : Nat → Bool} (h0 : ∀ i, i < s.length → D i = true → s.getD i false = true) (h1 : ∀ i, i < s.length → D i = true → canF ow su pl D i = true) :
    ∀ k i, i < s.length → D i = true → outR ow su pl s k i = true
  | 0, i, hi, hD => by
    show (!(s.map not).getD i false) = true
    rw [getD_map_not s i hi, Bool.not_not]; exact h0 i hi hD
  | k + 1, i, hi, hD => by
    rw [out_succ hp ho hs hi, out_great hp ho hs h0 h1 k i hi hD, Bool.true_and]
    exact canF_mono (fun t ht e => out_great hp ho hs h0 h1 k _ (hs i hi t ht) e) (h1 i hi hD)
theorem out_sub {k i : Nat} (hi : i < s.length) (h : outR ow su pl s k i = true) : s.getD i false = true := by
  have h2 : rin ow su (1 - pl) (s.map not) 0 i = false := by
    rw [← Bool.not_eq_true]; intro h3
    have := rin_le (Nat.zero_le k) h3
    rw [outR, this] at h; cases h
  have h1 : (s.map not).getD i false = false := h2
  rw [getD_map_not s i hi] at h1
  simpa using h1
end
section
variable {ow pr : List Int} {su : List (List Int)} {pl : Int} {s : List Bool}
theorem refA_len (hr : rightB ow pr su pl s = true) : (refAttract ow pr su pl s).1.length = s.length ∧ (refAttract ow pr su pl s).2.length = s.length := by
  rw [refAttract, if_pos hr]; exact rounds_length _ _ _ _ _
theorem refA_at (hr : rightB ow pr su pl s = true) (i : Nat) : (refAttract ow pr su pl s).1.getD i false = rin ow su pl s s.length i := by
  rw [refAttract, if_pos hr]; rfl
theorem refM_at (hr : rightB ow pr su pl s = true) (i : Nat) : (refAttract ow pr su pl s).2.getD i 0 = mvR ow su pl s s.length i := by
  rw [refAttract, if_pos hr]; rfl
theorem refC_len (hr : rightB ow pr su pl s = true) : (refClosed ow pr su pl s).length = s.length := by
  rw [refClosed, if_pos hr, sweeps_length]
theorem valid_ow (hv : validB ow pr su = true) (hl : s.length = ow.length) : (∀ i, i < s.length → (ow.getD i 0 = 0 ∨ ow.getD i 0 = 1)) ∧ (∀ i, i < s.length → ∀ t ∈ su.getD i [], t.toNat < s.length) ∧ (∀ i, i < s.length → 0 < (su.getD i []).length) ∧ (∀ i, i < s.length → ∀ t ∈ su.getD i [], 0 ≤ t ∧ t < (s.length : Int)) := by
  obtain ⟨v1, v2, v3, v4⟩ := validB_spec hv
  exact ⟨fun i hi => (v4 i (by omega)).1, fun i hi t ht => by have := (v4 i (by omega)).2.2 t ht; omega, fun i hi => (v4 i (by omega)).2.1, fun i hi t ht => by have := (v4 i (by omega)).2.2 t ht; omega⟩
theorem refC_at (hr : rightB ow pr su pl s = true) (i : Nat) (hi : i < s.length) : (refClosed ow pr su pl s).getD i false = outR ow su pl s s.length i := by
  obtain ⟨hv, hp, hl⟩ := rightB_spec hr
  obtain ⟨ho, hs, _, _⟩ := valid_ow hv hl
  rw [refClosed, if_pos hr, sweeps_out hp ho hs, range_map_getD _ _ _ _ hi]
  have := rin_mv (ow := ow) (su := su) (pl := 1 - pl) (s := s.map not) (i := i) (by simpa using hi)
  rw [List.length_map] at this
  rw [outR, this, Bool.eq_iff_iff]; simp
theorem right_of {r : List Bool} (hv : validB ow pr su = true) (hp : pl = 0 ∨ pl = 1) (hl : r.length = ow.length) : rightB ow pr su pl r = true := by
  rw [rightB, hv, decide_eq_true hl]; rcases hp with rfl | rfl <;> rfl
theorem partB_intro {xs ys : List Bool} (hl : xs.length = ys.length) (h : ∀ i, i < xs.length → xs.getD i false = true → ys.getD i false = true) : partB xs ys = true := by
  rw [partB, decide_eq_true hl, Bool.true_and, List.all_eq_true]
  intro i hi
  have hi := List.mem_range.1 hi
  cases h1 : xs.getD i false
  · rfl
  · rw [h i hi h1]; rfl
theorem list_eq_of {xs ys : List Bool} (hl : xs.length = ys.length) (h : ∀ i, i < xs.length → xs.getD i false = ys.getD i false) : xs = ys := by
  apply List.ext_getElem hl
  intro i h1 h2
  have := h i h1
  rw [List.getD_eq_getElem?_getD, List.getD_eq_getElem?_getD, List.getElem?_eq_getElem h1, List.getElem?_eq_getElem h2] at this
  exact this
theorem trapB_intro (hr : rightB ow pr su pl s = true) (h : ∀ i, i < s.length → s.getD i false = true → canF ow su (1 - pl) (fun k => s.getD k false) i = true) : trapB ow pr su pl s = true := by
  rw [trapB, hr, Bool.true_and, List.all_eq_true]
  intro i hi
  have hi := List.mem_range.1 hi
  cases h1 : s.getD i false
  · rfl
  · rw [canB_F, h i hi h1]; rfl
theorem trapB_elim (h : trapB ow pr su pl s = true) : ∀ i, i < s.length → s.getD i false = true → canF ow su (1 - pl) (fun k => s.getD k false) i = true := by
  intro i hi h1
  rw [trapB, Bool.and_eq_true, List.all_eq_true] at h
  have := h.2 i (List.mem_range.2 hi)
  rw [h1, canB_F] at this
  simpa using this
theorem one_sub (hp : pl = 0 ∨ pl = 1) : (1 - pl = 0 ∨ 1 - pl = 1) ∧ 1 - (1 - pl) = pl := by omega
/-! P22.2 -/
theorem targets_a (hr : rightB ow pr su pl s = true) : partB s (refAttract ow pr su pl s).1 = true :=
  partB_intro (refA_len hr).1.symm fun i hi h => by rw [refA_at hr]; exact rin_le (k := 0) (Nat.zero_le _) h
theorem targets_b (hr : rightB ow pr su pl s = true) : (refAttract ow pr su pl (refAttract ow pr su pl s).1).1 = (refAttract ow pr su pl s).1 := by
  obtain ⟨hv, hp, hl⟩ := rightB_spec hr
  have hl' := (refA_len hr).1
  have hr' : rightB ow pr su pl (refAttract ow pr su pl s).1 = true := right_of hv hp (by omega)
  refine list_eq_of (refA_len hr').1 fun i hi => ?_
  rw [refA_at hr', rin_idem hl' (fun i hi => refA_at hr i), refA_at hr]
theorem targets_c {u : List Bool} (hr : rightB ow pr su pl s = true) (hl : s.length = u.length) (h : ∀ i, i < s.length → s.getD i false = true → u.getD i false = true) : partB (refAttract ow pr su pl s).1 (refAttract ow pr su pl u).1 = true := by
  obtain ⟨hv, hp, hl'⟩ := rightB_spec hr
  have hu : rightB ow pr su pl u = true := right_of hv hp (by omega)
  refine partB_intro (by rw [(refA_len hr).1, (refA_len hu).1, hl]) fun i hi h1 => ?_
  rw [refA_at hr] at h1
  rw [refA_at hu, ← hl]
  exact rin_mono hl h _ _ h1
end
end Go.Proofs.Ythkgnnndlocbbaa
