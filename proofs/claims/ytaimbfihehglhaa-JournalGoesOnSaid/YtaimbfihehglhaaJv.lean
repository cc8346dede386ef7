/-
  The journal that the laws build from records: it is the frames of those that can be appended. Plain laws. No condition.
-/
import Derived.Test.YtaimbfihehglhaaJk
import Derived.Test.YtaimbfihehglhaaJq
namespace Go.Proofs.Ytaimbfihehglhaa
set_option linter.unusedVariables false
set_option linter.unusedSimpArgs false
open Go Go.SH
theorem appO_frames {l : List (List UInt8)} {r : List UInt8} (hl : ∀ x ∈ l, okR x) (hn : l.length < 500) (hr : okR r) : appO (frames l) r = (frames (l ++ [r]), 0) := by
  have h := recs_whole l 500 hl (by omega)
  unfold appO
  rw [if_neg (by rintro (h | h); exact absurd hr.1 (by omega); exact absurd hr.2 (by omega)), h, if_neg (by simp; omega)]
  simp [frames_append, frames_one]
theorem wholeStep_frames {l : List (List UInt8)} (hl : ∀ x ∈ l, okR x) (hn : l.length < 500) (r : List UInt8) (hr : r.length ≤ 4000) :
    wholeStep (frames l) r = frames (l ++ if 1 ≤ r.length then [r] else []) := by
  unfold wholeStep
  by_cases h : 1 ≤ r.length
  · rw [appO_frames hl hn ⟨h, hr⟩, if_pos rfl, if_pos h]
  · have e : appO (frames l) r = ([], 1) := by unfold appO; rw [if_pos (.inl (by omega))]
    rw [e, if_neg (by simp), if_neg h, List.append_nil]
theorem wholeB_frames {rs : List (List UInt8)} (h : shortB rs = true) : ∃ l, wholeB rs = frames l ∧ (∀ x ∈ l, okR x ∧ x.length ≤ 200) ∧ l.length ≤ 15 := by
  obtain ⟨h1, h2⟩ := shortB_spec h
  have key : ∀ i, i ≤ rs.length → ∃ l, wholeB (rs.take i) = frames l ∧ (∀ x ∈ l, okR x ∧ x.length ≤ 200) ∧ l.length ≤ i := by
    intro i
    induction i with
    | zero => intro _; exact ⟨[], rfl, by simp, by simp⟩
    | succ i ih =>
      intro hi
      obtain ⟨l, e, g1, g2⟩ := ih (by omega)
      have h4 : (rs.getD i []).length ≤ 200 := by
        refine h2 _ ?_
        rw [List.getD_eq_getElem?_getD, List.getElem?_eq_getElem (by omega)]; exact List.getElem_mem _
      refine ⟨l ++ if 1 ≤ (rs.getD i []).length then [rs.getD i []] else [], ?_, ?_, ?_⟩
      · rw [wholeB_next rs i (by omega), e, wholeStep_frames (fun x hx => (g1 x hx).1) (by omega) _ (by omega)]
      · intro x hx
        rcases List.mem_append.1 hx with hx | hx
        · exact g1 x hx
        · split at hx
          · rw [List.mem_singleton] at hx; subst hx; exact ⟨⟨by assumption, by omega⟩, h4⟩
          · simp at hx
      · split <;> simp <;> omega
  obtain ⟨l, e, g1, g2⟩ := key rs.length (Nat.le_refl _)
  rw [List.take_length] at e
  exact ⟨l, e, g1, by omega⟩
theorem frames_length {l : List (List UInt8)} (h : ∀ x ∈ l, okR x ∧ x.length ≤ 200) : (frames l).length ≤ l.length * 206 := by
  induction l with
  | nil => simp [frames]
  | cons r l ih =>
    have := (h r (by simp)).2
    have := ih fun x hx => h x (by simp [hx])
    simp only [frames, List.length_append, frameB_length, List.length_cons]; omega
theorem frames_take_next (l : List (List UInt8)) (i : Nat) (h : i < l.length) : (frames (l.take (i + 1))).length = (frames (l.take i)).length + 6 + (l.getD i []).length := by
  rw [take_next l [] i h, frames_append, frames_one, List.length_append, frameB_length]; omega
end Go.Proofs.Ytaimbfihehglhaa
