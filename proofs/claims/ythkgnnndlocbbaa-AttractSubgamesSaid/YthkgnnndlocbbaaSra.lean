/-
  The law AttractSubgames, as it is stated: for every input its function returns true, and the input reads as before. No condition.
-/
import Derived.Test.YthkgnnndlocbbaaKn
import Derived.Test.YthkgnnndlocbbaaSb
namespace Go.Proofs.Ythkgnnndlocbbaa.law3
set_option linter.unusedVariables false
set_option linter.unusedSimpArgs false
open Go Go.SH Go.ChangeShapes Go.WideShapes Go.ChangeAt Go.RowKit
set_option maxRecDepth 100000 in
theorem lifted (os : Os) (started : os.Started) (H : Type) (enc : TypeId × Value → H) :
    ReturnsInHanded {} Try.checked os 3 .any (Rows.attractSubgamesSpec.pre6 enc Try.prog Try.f3 Rows.attractSubgamesRow.domain false) (Rows.attractSubgamesSpec.post enc Try.prog Try.f3 false true false false) := by
  refine returnsInHanded_of_change (C := Try.checked) own started (by kernel_rfl) Try.func3
    (ChangeSpec.witness6 (enc := enc) (C := Try.checked) false ⟨#[], #[.agg #[.slice Option.none 0 0, .slice Option.none 0 0, .slice Option.none 0 0], .bool false, .slice Option.none 0 0], []⟩ 8 (by kernel_rfl) (by kernel_rfl) (by kernel_rfl) (by kernel_rfl)) ?_
  intro W base args ds gs before hval0 hW _ _
  have hval : ∀ (j : Nat) t v, Try.f3.params[j]? = some t → args[j]? = some v → Value.okWide Try.prog W .any base t v := hval0
  have hW' := hW
  obtain ⟨p, q, hA0, hV, rfl, hfz, hnd⟩ := hW
  have hA : DataW.TrodAll enc Try.prog W 0 (fun _ => true) true Try.f3.params.toList args.toList ds p := hA0
  rw [Try.params3] at hA hval
  obtain ⟨v0, vs0, d0, ds0, p0, q0, hargs, rfl, rfl, h0, r0⟩ := trodAll_cons hA
  obtain ⟨v1, vs1, d1, ds1, p1, q1, rfl, rfl, rfl, h1, r1⟩ := trodAll_cons r0
  obtain ⟨v2, vs2, d2, ds2, p2, q2, rfl, rfl, rfl, h2, r2⟩ := trodAll_cons r1
  obtain ⟨rfl, rfl, rfl⟩ := trodAll_nil r2
  obtain rfl : args = #[v0, v1, v2] := by cases args; simp_all
  obtain ⟨ow, pr, su, hl, e0⟩ := arg25 (hval 0 25 v0 rfl rfl) h0
  obtain ⟨b2, e1⟩ := arg4 (hval 1 4 v1 rfl rfl) h1
  obtain ⟨s, e2⟩ := arg26 (hval 2 26 v2 rfl rfl) h2
  refine law_post (avs := [game ow pr su, .bool b2, boolRow s]) (tb := 4) hW' rfl ⟨rfl, rfl, rfl⟩ laid (of_decide_eq_true (by kernel_rfl)) (by kernel_rfl) Try.underlying4 ⟨rfl, fun i c u g1 g2 => ?_⟩ (s3 ow pr su b2 s)
  match i, g1, g2 with
  | 0, g1, g2 => simp at g1 g2; subst g1 g2; exact e0
  | 1, g1, g2 => simp at g1 g2; subst g1 g2; exact e1
  | 2, g1, g2 => simp at g1 g2; subst g1 g2; exact e2
theorem over : Rows.attractSubgamesRow.holds Try.pinned (OpenSpec.ofChange Rows.attractSubgamesSpec) :=
  OpenClaim.holds_of_wide 3 Try.f3 rfl rfl rfl rfl rfl rfl rfl ⟨rfl, rfl, rfl, rfl, rfl⟩ rfl rfl rfl rfl rfl (by kernel_rfl) Try.func3 (by kernel_rfl)
    (of_decide_eq_true (by kernel_rfl)) (by unfold Func.isWrapper; first | (rw [if_pos (by decide +kernel)]; kernel_rfl) | (rw [if_neg (by decide +kernel)]; exact ⟨rfl, rfl⟩))
    (fun os started H enc _ => lifted os started H enc)
theorem proved : Rows.AttractSubgamesSaid := over
#print axioms proved
end Go.Proofs.Ythkgnnndlocbbaa.law3
