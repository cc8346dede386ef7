/-
  The reference's Trap and Closed: what they return. No condition.
-/
import Derived.Test.YthkgnnndlocbbaaKd
namespace Go.Proofs.Ythkgnnndlocbbaa
set_option linter.unusedVariables false
set_option linter.unusedSimpArgs false
open Go Go.SH
set_option maxRecDepth 10000
set_option maxHeartbeats 4000000
def trapB (ow pr : List Int) (su : List (List Int)) (pl : Int) (s : List Bool) : Bool := rightB ow pr su pl s && (List.range s.length).all fun i => !s.getD i false || canB ow su (1 - pl) s i
theorem rightB_spec {ow pr : List Int} {su : List (List Int)} {pl : Int} {s : List Bool} (h : rightB ow pr su pl s = true) : validB ow pr su = true ∧ (pl = 0 ∨ pl = 1) ∧ s.length = ow.length := by
  simp only [rightB, Bool.and_eq_true, Bool.or_eq_true, beq_iff_eq, decide_eq_true_eq] at h
  exact ⟨h.1.1, h.1.2, h.2⟩
/-- The reference's Closed: in place. -/
def sweep1 (ow : List Int) (su : List (List Int)) (pl : Int) (s : List Bool) (i : Nat) : List Bool := if s.getD i false = true ∧ canB ow su pl s i = false then s.set i false else s
def sweepTo (ow : List Int) (su : List (List Int)) (pl : Int) (s : List Bool) : Nat → List Bool
  | 0 => s
  | i + 1 => sweep1 ow su pl (sweepTo ow su pl s i) i
def sweeps (ow : List Int) (su : List (List Int)) (pl : Int) (s : List Bool) : Nat → List Bool
  | 0 => s
  | k + 1 => sweepTo ow su pl (sweeps ow su pl s k) s.length
theorem sweep1_length (ow : List Int) (su : List (List Int)) (pl : Int) (s : List Bool) (i : Nat) : (sweep1 ow su pl s i).length = s.length := by
  unfold sweep1; split <;> simp
theorem sweepTo_length (ow : List Int) (su : List (List Int)) (pl : Int) (s : List Bool) (i : Nat) : (sweepTo ow su pl s i).length = s.length := by
  induction i with
  | zero => rfl
  | succ i ih => rw [sweepTo, sweep1_length, ih]
theorem sweeps_length (ow : List Int) (su : List (List Int)) (pl : Int) (s : List Bool) (i : Nat) : (sweeps ow su pl s i).length = s.length := by
  induction i with
  | zero => rfl
  | succ i ih => rw [sweeps, sweepTo_length, ih]
def refClosed (ow pr : List Int) (su : List (List Int)) (pl : Int) (s : List Bool) : List Bool := if rightB ow pr su pl s then sweeps ow su pl s (s.length + 1) else []
end Go.Proofs.Ythkgnnndlocbbaa
