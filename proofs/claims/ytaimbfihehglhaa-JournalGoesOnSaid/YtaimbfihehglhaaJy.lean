/-
  The journal's laws: more types that they are handed: what is read at them. No condition.
-/
import Derived.Test.YtaimbfihehglhaaJn
namespace Go.Proofs.Ytaimbfihehglhaa
set_option linter.unusedVariables false
set_option linter.unusedSimpArgs false
open Go Go.SH Go.ChangeShapes Go.WideShapes Go.ChangeAt Go.RowKit
theorem rd40 : Reads Try.prog 40 (cInt .u16) (inR .u16) := reads_int Try.underlying40
theorem rd31 : Reads Try.prog 31 (cRow (cRow cByte 0) []) (fun xs => xs.length ≤ maxLen ∧ ∀ x ∈ xs, x.length ≤ maxLen ∧ ∀ y ∈ x, True) := reads_row [] Try.underlying31 (by rw [cl24]; decide) rd24
theorem arg31 {H : Type} {enc : TypeId × Value → H} {w : World} {b0 : Nat} {v : Value} {d : DataW H} {p : List MemPlace} (hv : Value.okWide Try.prog w .any b0 31 v) (h : DataW.Trod enc Try.prog w 0 (fun _ => true) true 31 v d p) : ∃ xs : List (List UInt8), RepG w (fun _ => False) (byteRows xs) v := by
  obtain ⟨a, l, c, rfl⟩ := okWide_slice Try.underlying31 hv
  obtain ⟨fuel, h⟩ := h
  obtain ⟨xs, _, hc⟩ := rd31 enc w 0 _ true fuel _ _ h
  exact ⟨xs, hc.2.1 0 _ _ rfl rfl⟩
theorem arg40 {H : Type} {enc : TypeId × Value → H} {w : World} {b0 : Nat} {v : Value} {d : DataW H} {p : List MemPlace} (hv : Value.okWide Try.prog w .any b0 40 v) (h : DataW.Trod enc Try.prog w 0 (fun _ => true) true 40 v d p) : ∃ n : Int, (0 ≤ n ∧ n < 65536) ∧ RepG w (fun _ => False) (.int .u16 n) v := by
  obtain ⟨n, rfl⟩ := okWide_int Try.underlying40 hv
  obtain ⟨fuel, h⟩ := h
  obtain ⟨m, hr, hc⟩ := rd40 enc w 0 _ true fuel _ _ h
  refine ⟨m, ?_, hc.2.1 0 _ _ rfl rfl⟩
  simp only [inR, Go.SH.IntKind.uns] at hr
  omega
theorem arg5 {H : Type} {enc : TypeId × Value → H} {w : World} {b0 : Nat} {v : Value} {d : DataW H} {p : List MemPlace} (hv : Value.okWide Try.prog w .any b0 5 v) (h : DataW.Trod enc Try.prog w 0 (fun _ => true) true 5 v d p) : ∃ b : UInt8, RepG w (fun _ => False) (.int .u8 (b.toNat : Nat)) v := by
  obtain ⟨n, rfl⟩ := okWide_int Try.underlying5 hv
  obtain ⟨fuel, h⟩ := h
  obtain ⟨m, hr, hc⟩ := rd5 enc w 0 _ true fuel _ _ h
  exact ⟨m, hc.2.1 0 _ _ rfl rfl⟩
end Go.Proofs.Ytaimbfihehglhaa
