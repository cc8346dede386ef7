/-
  The law SolveMatchesReference, as it is stated: for every input its function returns true, and the input reads as before. No condition.
-/
import Derived.Test.YthkgnnndlocbbaaSn
import Derived.Test.YthkgnnndlocbbaaTo
namespace Go.Proofs.Ythkgnnndlocbbaa.law4
set_option linter.unusedVariables false
set_option linter.unusedSimpArgs false
open Go Go.SH Go.ChangeShapes Go.WideShapes Go.ChangeAt Go.RowKit
set_option maxRecDepth 100000 in
theorem lifted (os : Os) (started : os.Started) (H : Type) (enc : TypeId × Value → H) :
    ReturnsInHanded {} Try.checked os 4 .any (Rows.solveMatchesReferenceSpec.pre6 enc Try.prog Try.f4 Rows.solveMatchesReferenceRow.domain false) (Rows.solveMatchesReferenceSpec.post enc Try.prog Try.f4 false true false false) := by
  refine returnsInHanded_of_change (C := Try.checked) own started (by kernel_rfl) Try.func4
    (ChangeSpec.witness6 (enc := enc) (C := Try.checked) false ⟨#[], #[.agg #[.slice Option.none 0 0, .slice Option.none 0 0, .slice Option.none 0 0]], []⟩ 8 (by kernel_rfl) (by kernel_rfl) (by kernel_rfl) (by kernel_rfl)) ?_
  intro W base args ds gs before hval0 hW _ _
  have hval : ∀ (j : Nat) t v, Try.f4.params[j]? = some t → args[j]? = some v → Value.okWide Try.prog W .any base t v := hval0
  have hW' := hW
  obtain ⟨p, q, hA0, hV, rfl, hfz, hnd⟩ := hW
  have hA : DataW.TrodAll enc Try.prog W 0 (fun _ => true) true Try.f4.params.toList args.toList ds p := hA0
  rw [Try.params4] at hA hval
  obtain ⟨v0, vs0, d0, ds0, p0, q0, hargs, rfl, rfl, h0, r0⟩ := trodAll_cons hA
  obtain ⟨rfl, rfl, rfl⟩ := trodAll_nil r0
  obtain rfl : args = #[v0] := by cases args; simp_all
  obtain ⟨ow, pr, su, hl, e0⟩ := arg25 (hval 0 25 v0 rfl rfl) h0
  refine law_post (avs := [game ow pr su]) (tb := 4) hW' rfl ⟨rfl, rfl, rfl⟩ laid (of_decide_eq_true (by kernel_rfl)) (by kernel_rfl) Try.underlying4 ⟨rfl, fun i c u g1 g2 => ?_⟩ (s4 ow pr su)
  match i, g1, g2 with
  | 0, g1, g2 => simp at g1 g2; subst g1 g2; exact e0
theorem over : Rows.solveMatchesReferenceRow.holds Try.pinned (OpenSpec.ofChange Rows.solveMatchesReferenceSpec) :=
  OpenClaim.holds_of_wide 4 Try.f4 rfl rfl rfl rfl rfl rfl rfl ⟨rfl, rfl, rfl, rfl, rfl⟩ rfl rfl rfl rfl rfl (by kernel_rfl) Try.func4 (by kernel_rfl)
    (of_decide_eq_true (by kernel_rfl)) (by unfold Func.isWrapper; first | (rw [if_pos (by decide +kernel)]; kernel_rfl) | (rw [if_neg (by decide +kernel)]; exact ⟨rfl, rfl⟩))
    (fun os started H enc _ => lifted os started H enc)
theorem proved : Rows.SolveMatchesReferenceSaid := over
#print axioms proved
end Go.Proofs.Ythkgnnndlocbbaa.law4
