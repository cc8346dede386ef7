/-
  The reference's Attract: what it returns. No condition.
-/
import Derived.Test.YthkgnnndlocbbaaKc
namespace Go.Proofs.Ythkgnnndlocbbaa
set_option linter.unusedVariables false
set_option linter.unusedSimpArgs false
open Go Go.SH
set_option maxRecDepth 10000
set_option maxHeartbeats 4000000
/-- A row that is filled from the left. -/
def partL {α : Type} (n : Nat) (f g : Nat → α) (i : Nat) : List α := (List.range n).map fun q => if q < i then f q else g q
section
variable {α : Type} {n i : Nat} {f g : Nat → α}
theorem partL_length : (partL n f g i).length = n := by simp [partL]
theorem partL_zero : partL n f g 0 = (List.range n).map g := by simp [partL]
theorem partL_full : partL n f g n = (List.range n).map f := by
  unfold partL
  refine List.map_congr_left fun q hq => ?_
  rw [if_pos (List.mem_range.1 hq)]
theorem partL_getD (q : Nat) (h : q < n) (d : α) : (partL n f g i).getD q d = if q < i then f q else g q := by
  rw [List.getD_eq_getElem?_getD, partL, List.getElem?_map, List.getElem?_range h]; rfl
theorem partL_set (h : i < n) (x : α) (hx : x = f i) : (partL n f g i).set i x = partL n f g (i + 1) := by
  apply List.ext_getElem (by simp [partL_length])
  intro q h1 h2
  rw [List.getElem_set]
  simp only [partL_length, List.length_set] at h1 h2
  simp only [partL, List.getElem_map, List.getElem_range]
  by_cases hq : i = q
  · subst hq; rw [if_pos rfl, if_pos (by omega), hx]
  · rw [if_neg hq]
    by_cases h3 : q < i
    · rw [if_pos h3, if_pos (by omega)]
    · rw [if_neg h3, if_neg (by omega)]
theorem partL_same (hx : f i = g i) : partL n f g (i + 1) = partL n f g i := by
  unfold partL
  refine List.map_congr_left fun q _ => ?_
  by_cases hq : q = i
  · subst hq; rw [if_pos (by omega), if_neg (by omega), hx]
  · by_cases h3 : q < i
    · rw [if_pos (by omega), if_pos h3]
    · rw [if_neg (by omega), if_neg h3]
end
theorem range_getD {α : Type} (xs : List α) (d : α) : (List.range xs.length).map (fun q => xs.getD q d) = xs := by
  apply List.ext_getElem (by simp)
  intro q h1 h2
  rw [List.getElem_map, List.getElem_range, List.getD_eq_getElem?_getD, List.getElem?_eq_getElem h2]; rfl
/-- A round of the reference: the positions and the moves. -/
def stepS (ow : List Int) (su : List (List Int)) (pl : Int) (s : List Bool) (i : Nat) : Bool := s.getD i false || canB ow su pl s i
def stepM (ow : List Int) (su : List (List Int)) (pl : Int) (n : Nat) (s : List Bool) (mv : List Int) (i : Nat) : Int := if s.getD i false = false ∧ canB ow su pl s i = true then (n : Int) else mv.getD i 0
def rounds (ow : List Int) (su : List (List Int)) (pl : Int) (t : List Bool) : Nat → List Bool × List Int
  | 0 => (t, t.map fun b => if b then 0 else -1)
  | n + 1 => ((List.range t.length).map (stepS ow su pl (rounds ow su pl t n).1), (List.range t.length).map (stepM ow su pl (n + 1) (rounds ow su pl t n).1 (rounds ow su pl t n).2))
theorem rounds_length (ow : List Int) (su : List (List Int)) (pl : Int) (t : List Bool) (n : Nat) : (rounds ow su pl t n).1.length = t.length ∧ (rounds ow su pl t n).2.length = t.length := by
  cases n <;> simp [rounds]
def refAttract (ow pr : List Int) (su : List (List Int)) (pl : Int) (t : List Bool) : List Bool × List Int :=
  if rightB ow pr su pl t then rounds ow su pl t t.length else ([], [])
theorem validB_spec {ow pr : List Int} {su : List (List Int)} (h : validB ow pr su = true) : ow.length ≤ 3000 ∧ pr.length = ow.length ∧ su.length = ow.length ∧ ∀ i, i < ow.length → (ow.getD i 0 = 0 ∨ ow.getD i 0 = 1) ∧ 0 < (su.getD i []).length ∧ ∀ t ∈ su.getD i [], 0 ≤ t ∧ t < (ow.length : Int) := by
  simp only [validB, Bool.and_eq_true, decide_eq_true_eq, List.all_eq_true] at h
  obtain ⟨⟨⟨h1, h2⟩, h3⟩, h4⟩ := h
  refine ⟨h1, h2, h3, fun i hi => ?_⟩
  have := h4 i (List.mem_range.2 hi)
  simp only [posB, Bool.and_eq_true, Bool.or_eq_true, beq_iff_eq, decide_eq_true_eq, List.all_eq_true] at this
  exact ⟨this.1.1.1.1, this.1.2, this.2⟩
end Go.Proofs.Ythkgnnndlocbbaa
