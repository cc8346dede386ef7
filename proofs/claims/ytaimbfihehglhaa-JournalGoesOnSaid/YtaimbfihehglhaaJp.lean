/-
  The journal's format, said plainly. No condition.
-/
import Derived.Test.YtaimbfihehglhaaShT
namespace Go.Proofs.Ytaimbfihehglhaa
set_option linter.unusedVariables false
set_option linter.unusedSimpArgs false
open Go Go.SH
def two (n : Nat) : List UInt8 := [(n / 256).toUInt8, (n % 256).toUInt8]
def sumStep (p : Nat × Nat) (b : UInt8) : Nat × Nat := ((p.1 + b.toNat) % 65521, (p.2 + (p.1 + b.toNat) % 65521) % 65521)
def sums (l : List UInt8) : Nat × Nat := l.foldl sumStep (1, 0)
def sumB (l : List UInt8) : List UInt8 := two (sums l).2 ++ two (sums l).1
def frameB (r : List UInt8) : List UInt8 := two r.length ++ (sumB (two r.length ++ r) ++ r)
abbrev byteRow (xs : List UInt8) : AV := .ro xs.length (encL cByte 0 xs)
abbrev byteRows (xs : List (List UInt8)) : AV := .ro xs.length (encL (cRow cByte 0) [] xs)
theorem sums_lt (l : List UInt8) : (sums l).1 < 65521 ∧ (sums l).2 < 65521 := by
  have : ∀ (l : List UInt8) (p : Nat × Nat), p.1 < 65521 ∧ p.2 < 65521 → (l.foldl sumStep p).1 < 65521 ∧ (l.foldl sumStep p).2 < 65521 := by
    intro l
    induction l with
    | nil => intro p h; exact h
    | cons b l ih => intro p h; exact ih _ ⟨Nat.mod_lt _ (by decide), Nat.mod_lt _ (by decide)⟩
  exact this l _ ⟨by decide, by decide⟩
theorem take_next {α : Type} (xs : List α) (d : α) (i : Nat) (h : i < xs.length) : xs.take (i + 1) = xs.take i ++ [xs.getD i d] := by
  rw [List.take_add_one, List.getElem?_eq_getElem h, List.getD_eq_getElem?_getD, List.getElem?_eq_getElem h]; rfl
theorem sums_next (xs : List UInt8) (i : Nat) (h : i < xs.length) : sums (xs.take (i + 1)) = sumStep (sums (xs.take i)) (xs.getD i 0) := by
  rw [take_next xs 0 i h]; simp [sums, List.foldl_append]
theorem two_length (n : Nat) : (two n).length = 2 := id rfl
theorem sumB_length (l : List UInt8) : (sumB l).length = 4 := id rfl
theorem frameB_length (r : List UInt8) : (frameB r).length = 6 + r.length := by simp [frameB, two_length, sumB_length]; omega
def num (b : List UInt8) : Nat := (b.getD 0 0).toNat * 256 + (b.getD 1 0).toNat
def firstB (b : List UInt8) : Option (List UInt8) :=
  if b.length < 6 then none
  else if num b < 1 ∨ 4000 < num b ∨ b.length < 6 + num b then none
  else if frameB ((b.drop 6).take (num b)) = b.take (6 + num b) then some ((b.drop 6).take (num b)) else none
def recs : Nat → List UInt8 → List (List UInt8) × Nat
  | 0, _ => ([], 0)
  | k + 1, b => match firstB b with
    | none => ([], 0)
    | some r => (r :: (recs k (b.drop (6 + r.length))).1, 6 + r.length + (recs k (b.drop (6 + r.length))).2)
def firstR (b : List UInt8) : AR :=
  match firstB b with
  | some r => .tup [.val (byteRow r), .val (.bool true)]
  | none => .tup [.val .undef, .val (.bool false)]
theorem firstB_short {b : List UInt8} (h : b.length < 6) : firstB b = none := by simp [firstB, h]
theorem firstB_bad {b : List UInt8} (h : num b < 1 ∨ 4000 < num b ∨ b.length < 6 + num b) : firstB b = none := by
  unfold firstB
  rw [if_pos h]
  split <;> rfl
theorem firstB_else {b : List UInt8} (h0 : ¬ b.length < 6) (h : ¬ (num b < 1 ∨ 4000 < num b ∨ b.length < 6 + num b)) :
    firstB b = if frameB ((b.drop 6).take (num b)) = b.take (6 + num b) then some ((b.drop 6).take (num b)) else none := by
  unfold firstB
  rw [if_neg h0, if_neg h]
theorem recs_none {b : List UInt8} (h : firstB b = none) : ∀ k, recs k b = ([], 0)
  | 0 => rfl
  | k + 1 => by rw [recs, h]
theorem recs_some {b r : List UInt8} (h : firstB b = some r) (k : Nat) : recs (k + 1) b = (r :: (recs k (b.drop (6 + r.length))).1, 6 + r.length + (recs k (b.drop (6 + r.length))).2) := by
  rw [recs, h]
theorem firstB_some {b r : List UInt8} (h : firstB b = some r) : 1 ≤ r.length ∧ r.length ≤ 4000 ∧ 6 + r.length ≤ b.length ∧ frameB r = b.take (6 + r.length) ∧ r = (b.drop 6).take r.length := by
  unfold firstB at h
  split at h
  · cases h
  · split at h
    · cases h
    · split at h
      · rename_i h1 h2 h3
        cases h
        have hl : ((b.drop 6).take (num b)).length = num b := by simp; omega
        rw [hl]
        exact ⟨by omega, by omega, by omega, h3, rfl⟩
      · cases h
end Go.Proofs.Ytaimbfihehglhaa
