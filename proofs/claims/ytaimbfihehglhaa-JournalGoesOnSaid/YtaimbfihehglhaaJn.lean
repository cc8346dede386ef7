/-
  The journal's laws: the types that they are handed: what is read at them. No condition.
-/
import Derived.Test.YtaimbfihehglhaaRows
import Derived.WalkKit
import Derived.ProofKit
import Derived.OpenShut
import Derived.Test.YtaimbfihehglhaaShX
import Derived.Test.YtaimbfihehglhaaJm
namespace Go.Proofs.Ytaimbfihehglhaa
set_option linter.unusedVariables false
set_option linter.unusedSimpArgs false
open Go Go.SH Go.ChangeShapes Go.WideShapes Go.ChangeAt Go.RowKit
theorem own : ownKnob Try.prog.godebug = Option.none := by kernel_rfl
theorem laid : laidOutB Try.prog = true := by kernel_rfl
theorem cl3 : Try.prog.cellsOf 3 = 1 := by kernel_rfl
theorem cl5 : Try.prog.cellsOf 5 = 1 := by kernel_rfl
theorem cl9 : Try.prog.cellsOf 9 = 1 := by kernel_rfl
theorem cl23 : Try.prog.cellsOf 23 = 3 := by kernel_rfl
theorem cl24 : Try.prog.cellsOf 24 = 1 := by kernel_rfl
theorem rd3 : Reads Try.prog 3 (cInt .i64) (inR .i64) := reads_int Try.underlying3
theorem rd9 : Reads Try.prog 9 cStr (fun s => s.length ≤ maxLen) := reads_str Try.underlying9
theorem rd5 : Reads Try.prog 5 cByte (fun _ => True) := reads_byte Try.underlying5
theorem rd24 : Reads Try.prog 24 (cRow cByte 0) (fun xs => xs.length ≤ maxLen ∧ ∀ x ∈ xs, True) := reads_row 0 Try.underlying24 (by rw [cl5]; decide) rd5
theorem rd23 : Reads Try.prog 23 (fun x : Int × Int × List UInt8 => cInt .i64 x.1 ++ (cInt .i64 x.2.1 ++ cStr x.2.2)) (fun x => inR .i64 x.1 ∧ inR .i64 x.2.1 ∧ x.2.2.length ≤ maxLen) :=
  reads_struct3 Try.underlying23 rfl (by rw [cl3]) (by rw [cl3]) (by rw [cl23, cl3, cl9]) rd3 rd3 rd9
/-- Bytes, as handed. -/
theorem arg24 {H : Type} {enc : TypeId × Value → H} {w : World} {b0 : Nat} {v : Value} {d : DataW H} {p : List MemPlace} (hv : Value.okWide Try.prog w .any b0 24 v) (h : DataW.Trod enc Try.prog w 0 (fun _ => true) true 24 v d p) : ∃ xs : List UInt8, RepG w (fun _ => False) (byteRow xs) v := by
  obtain ⟨a, l, c, rfl⟩ := okWide_slice Try.underlying24 hv
  obtain ⟨fuel, h⟩ := h
  obtain ⟨xs, _, hc⟩ := rd24 enc w 0 _ true fuel _ _ h
  exact ⟨xs, hc.2.1 0 _ _ rfl rfl⟩
theorem arg23 {H : Type} {enc : TypeId × Value → H} {w : World} {b0 : Nat} {v : Value} {d : DataW H} {p : List MemPlace} (hv : Value.okWide Try.prog w .any b0 23 v) (h : DataW.Trod enc Try.prog w 0 (fun _ => true) true 23 v d p) : ∃ (k n : Int) (t : List UInt8), RepG w (fun _ => False) (entry k n t) v := by
  simp only [Value.okWide, Try.underlying23] at hv
  obtain ⟨cs, rfl, _⟩ := hv
  obtain ⟨fuel, h⟩ := h
  obtain ⟨⟨k, n, t⟩, _, hc⟩ := rd23 enc w 0 _ true fuel _ _ h
  exact ⟨k, n, t, .agg (by simpa [Value.cells, cInt, cStr] using hc.1) fun i c u h1 h2 => hc.2.1 i c u h1 (by simpa [Value.cells] using h2)⟩
end Go.Proofs.Ytaimbfihehglhaa
