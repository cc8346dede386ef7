/-
  The law SolveStrategies, as it is stated: for every input its function returns true, and the input reads as before. No condition.
-/
import Derived.Test.YthkgnnndlocbbaaSn
import Derived.Test.YthkgnnndlocbbaaUd
namespace Go.Proofs.Ythkgnnndlocbbaa.law7
set_option linter.unusedVariables false
set_option linter.unusedSimpArgs false
open Go Go.SH Go.ChangeShapes Go.WideShapes Go.ChangeAt Go.RowKit
set_option maxRecDepth 100000 in
theorem lifted (os : Os) (started : os.Started) (H : Type) (enc : TypeId × Value → H) :
    ReturnsInHanded {} Try.checked os 7 .any (Rows.solveStrategiesSpec.pre6 enc Try.prog Try.f7 Rows.solveStrategiesRow.domain false) (Rows.solveStrategiesSpec.post enc Try.prog Try.f7 false true false false) := by
  refine returnsInHanded_of_change (C := Try.checked) own started (by kernel_rfl) Try.func7
    (ChangeSpec.witness6 (enc := enc) (C := Try.checked) false ⟨#[], #[.agg #[.slice Option.none 0 0, .slice Option.none 0 0, .slice Option.none 0 0], .int .u8 0], []⟩ 8 (by kernel_rfl) (by kernel_rfl) (by kernel_rfl) (by kernel_rfl)) ?_
  intro W base args ds gs before hval0 hW _ _
  have hval : ∀ (j : Nat) t v, Try.f7.params[j]? = some t → args[j]? = some v → Value.okWide Try.prog W .any base t v := hval0
  have hW' := hW
  obtain ⟨p, q, hA0, hV, rfl, hfz, hnd⟩ := hW
  have hA : DataW.TrodAll enc Try.prog W 0 (fun _ => true) true Try.f7.params.toList args.toList ds p := hA0
  rw [Try.params7] at hA hval
  obtain ⟨v0, vs0, d0, ds0, p0, q0, hargs, rfl, rfl, h0, r0⟩ := trodAll_cons hA
  obtain ⟨v1, vs1, d1, ds1, p1, q1, rfl, rfl, rfl, h1, r1⟩ := trodAll_cons r0
  obtain ⟨rfl, rfl, rfl⟩ := trodAll_nil r1
  obtain rfl : args = #[v0, v1] := by cases args; simp_all
  obtain ⟨ow, pr, su, hl, e0⟩ := arg25 (hval 0 25 v0 rfl rfl) h0
  obtain ⟨b, e1⟩ := arg5 (hval 1 5 v1 rfl rfl) h1
  refine law_post (avs := [game ow pr su, .int .u8 (b.toNat : Nat)]) (tb := 4) hW' rfl ⟨rfl, rfl, rfl⟩ laid (of_decide_eq_true (by kernel_rfl)) (by kernel_rfl) Try.underlying4 ⟨rfl, fun i c u g1 g2 => ?_⟩ (s7 ow pr su b)
  match i, g1, g2 with
  | 0, g1, g2 => simp at g1 g2; subst g1 g2; exact e0
  | 1, g1, g2 => simp at g1 g2; subst g1 g2; exact e1
theorem over : Rows.solveStrategiesRow.holds Try.pinned (OpenSpec.ofChange Rows.solveStrategiesSpec) :=
  OpenClaim.holds_of_wide 7 Try.f7 rfl rfl rfl rfl rfl rfl rfl ⟨rfl, rfl, rfl, rfl, rfl⟩ rfl rfl rfl rfl rfl (by kernel_rfl) Try.func7 (by kernel_rfl)
    (of_decide_eq_true (by kernel_rfl)) (by unfold Func.isWrapper; first | (rw [if_pos (by decide +kernel)]; kernel_rfl) | (rw [if_neg (by decide +kernel)]; exact ⟨rfl, rfl⟩))
    (fun os started H enc _ => lifted os started H enc)
theorem proved : Rows.SolveStrategiesSaid := over
#print axioms proved
end Go.Proofs.Ythkgnnndlocbbaa.law7
