/-
  The solver's laws: a byte, as handed. No condition.
-/
import Derived.Test.YthkgnnndlocbbaaKn
namespace Go.Proofs.Ythkgnnndlocbbaa
set_option linter.unusedVariables false
set_option linter.unusedSimpArgs false
open Go Go.SH Go.ChangeShapes Go.WideShapes Go.ChangeAt Go.RowKit
theorem rd5 : Reads Try.prog 5 cByte (fun _ => True) := reads_byte Try.underlying5
theorem arg5 {H : Type} {enc : TypeId × Value → H} {w : World} {b0 : Nat} {v : Value} {d : DataW H} {p : List MemPlace} (hv : Value.okWide Try.prog w .any b0 5 v) (h : DataW.Trod enc Try.prog w 0 (fun _ => true) true 5 v d p) : ∃ b : UInt8, RepG w (fun _ => False) (.int .u8 (b.toNat : Nat)) v := by
  obtain ⟨n, rfl⟩ := okWide_int Try.underlying5 hv
  obtain ⟨fuel, h⟩ := h
  obtain ⟨m, hr, hc⟩ := rd5 enc w 0 _ true fuel _ _ h
  exact ⟨m, hc.2.1 0 _ _ rfl rfl⟩
end Go.Proofs.Ythkgnnndlocbbaa
