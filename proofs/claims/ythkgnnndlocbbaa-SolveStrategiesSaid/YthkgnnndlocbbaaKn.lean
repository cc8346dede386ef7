/-
  The attractors' laws: the types that they are handed: what is read at them. No condition.
-/
import Derived.Test.YthkgnnndlocbbaaRows
import Derived.WalkKit
import Derived.ProofKit
import Derived.OpenShut
import Derived.Test.YthkgnnndlocbbaaShX
import Derived.Test.YthkgnnndlocbbaaKm
namespace Go.Proofs.Ythkgnnndlocbbaa
set_option linter.unusedVariables false
set_option linter.unusedSimpArgs false
open Go Go.SH Go.ChangeShapes Go.WideShapes Go.ChangeAt Go.RowKit
theorem own : ownKnob Try.prog.godebug = Option.none := by kernel_rfl
theorem laid : laidOutB Try.prog = true := by kernel_rfl
theorem cl3 : Try.prog.cellsOf 3 = 1 := by kernel_rfl
theorem cl4 : Try.prog.cellsOf 4 = 1 := by kernel_rfl
theorem cl22 : Try.prog.cellsOf 22 = 1 := by kernel_rfl
theorem cl23 : Try.prog.cellsOf 23 = 1 := by kernel_rfl
theorem cl25 : Try.prog.cellsOf 25 = 3 := by kernel_rfl
theorem rd3 : Reads Try.prog 3 (cInt .i64) (inR .i64) := reads_int Try.underlying3
theorem rd4 : Reads Try.prog 4 cBool (fun _ => True) := reads_bool Try.underlying4
theorem rd22 : Reads Try.prog 22 (cRow (cInt .i64) 0) (fun xs => xs.length ≤ maxLen ∧ ∀ x ∈ xs, inR .i64 x) := reads_row 0 Try.underlying22 (by rw [cl3]; decide) rd3
theorem rd23 : Reads Try.prog 23 (cRow (cRow (cInt .i64) 0) []) (fun xs => xs.length ≤ maxLen ∧ ∀ x ∈ xs, x.length ≤ maxLen ∧ ∀ y ∈ x, inR .i64 y) := reads_row [] Try.underlying23 (by rw [cl22]; decide) rd22
theorem rd26 : Reads Try.prog 26 (cRow cBool false) (fun xs => xs.length ≤ maxLen ∧ ∀ x ∈ xs, True) := reads_row false Try.underlying26 (by rw [cl4]; decide) rd4
theorem rd25 : Reads Try.prog 25 (fun x : List Int × List Int × List (List Int) => cRow (cInt .i64) 0 x.1 ++ (cRow (cInt .i64) 0 x.2.1 ++ cRow (cRow (cInt .i64) 0) [] x.2.2)) (fun x => (x.1.length ≤ maxLen ∧ ∀ y ∈ x.1, inR .i64 y) ∧ (x.2.1.length ≤ maxLen ∧ ∀ y ∈ x.2.1, inR .i64 y) ∧ (x.2.2.length ≤ maxLen ∧ ∀ y ∈ x.2.2, y.length ≤ maxLen ∧ ∀ z ∈ y, inR .i64 z)) :=
  reads_struct3 Try.underlying25 rfl (by rw [cl22]) (by rw [cl22]) (by rw [cl25, cl22, cl23]) rd22 rd22 rd23
theorem arg26 {H : Type} {enc : TypeId × Value → H} {w : World} {b0 : Nat} {v : Value} {d : DataW H} {p : List MemPlace} (hv : Value.okWide Try.prog w .any b0 26 v) (h : DataW.Trod enc Try.prog w 0 (fun _ => true) true 26 v d p) : ∃ xs : List Bool, RepG w (fun _ => False) (boolRow xs) v := by
  obtain ⟨a, l, c, rfl⟩ := okWide_slice Try.underlying26 hv
  obtain ⟨fuel, h⟩ := h
  obtain ⟨xs, _, hc⟩ := rd26 enc w 0 _ true fuel _ _ h
  exact ⟨xs, hc.2.1 0 _ _ rfl rfl⟩
theorem arg25 {H : Type} {enc : TypeId × Value → H} {w : World} {b0 : Nat} {v : Value} {d : DataW H} {p : List MemPlace} (hv : Value.okWide Try.prog w .any b0 25 v) (h : DataW.Trod enc Try.prog w 0 (fun _ => true) true 25 v d p) : ∃ (ow pr : List Int) (su : List (List Int)), (ow.length ≤ maxLen ∧ pr.length ≤ maxLen ∧ su.length ≤ maxLen) ∧ RepG w (fun _ => False) (game ow pr su) v := by
  simp only [Value.okWide, Try.underlying25] at hv
  obtain ⟨cs, rfl, _⟩ := hv
  obtain ⟨fuel, h⟩ := h
  obtain ⟨⟨k, n, t⟩, hx, hc⟩ := rd25 enc w 0 _ true fuel _ _ h
  exact ⟨k, n, t, ⟨hx.1.1, hx.2.1.1, hx.2.2.1⟩, .agg (by simpa [Value.cells, cRow] using hc.1) fun i c u h1 h2 => hc.2.1 i c u h1 (by simpa [Value.cells] using h2)⟩
theorem arg3 {H : Type} {enc : TypeId × Value → H} {w : World} {b0 : Nat} {v : Value} {d : DataW H} {p : List MemPlace} (hv : Value.okWide Try.prog w .any b0 3 v) (h : DataW.Trod enc Try.prog w 0 (fun _ => true) true 3 v d p) : ∃ n : Int, RepG w (fun _ => False) (.int .i64 n) v := by
  obtain ⟨n, rfl⟩ := okWide_int Try.underlying3 hv
  obtain ⟨fuel, h⟩ := h
  obtain ⟨m, hr, hc⟩ := rd3 enc w 0 _ true fuel _ _ h
  exact ⟨m, hc.2.1 0 _ _ rfl rfl⟩
theorem arg4 {H : Type} {enc : TypeId × Value → H} {w : World} {b0 : Nat} {v : Value} {d : DataW H} {p : List MemPlace} (hv : Value.okWide Try.prog w .any b0 4 v) (h : DataW.Trod enc Try.prog w 0 (fun _ => true) true 4 v d p) : ∃ b : Bool, RepG w (fun _ => False) (.bool b) v := by
  obtain ⟨n, rfl⟩ := okWide_bool Try.underlying4 hv
  obtain ⟨fuel, h⟩ := h
  obtain ⟨m, hr, hc⟩ := rd4 enc w 0 _ true fuel _ _ h
  exact ⟨m, hc.2.1 0 _ _ rfl rfl⟩
end Go.Proofs.Ythkgnnndlocbbaa
