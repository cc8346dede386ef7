/-
  The journal's format: what its records are: plain laws of lists. No condition.
-/
import Derived.Test.YtaimbfihehglhaaJp
namespace Go.Proofs.Ytaimbfihehglhaa
set_option linter.unusedVariables false
set_option linter.unusedSimpArgs false
open Go Go.SH
def okR (r : List UInt8) : Prop := 1 ≤ r.length ∧ r.length ≤ 4000
def frames : List (List UInt8) → List UInt8
  | [] => []
  | r :: l => frameB r ++ frames l
theorem two_num (n : Nat) (h : n < 65536) (l : List UInt8) : num (two n ++ l) = n := by
  have h1 : ((n / 256).toUInt8).toNat = n / 256 := by rw [byte_toNat]; omega
  have h2 : ((n % 256).toUInt8).toNat = n % 256 := by rw [byte_toNat]; omega
  simp only [num, two, List.cons_append, List.nil_append, List.getD_cons_zero, List.getD_cons_succ, h1, h2]
  omega
theorem two_inj {m n : Nat} (hm : m < 65536) (hn : n < 65536) (h : two m = two n) : m = n := by
  have h1 := two_num m hm []
  rw [h, two_num n hn []] at h1
  exact h1.symm
theorem num_take (b : List UInt8) (k : Nat) (h : 2 ≤ k) : num (b.take k) = num b := by
  simp only [num, List.getD_eq_getElem?_getD, List.getElem?_take]
  rw [if_pos (by omega), if_pos (by omega)]
theorem frame_num (r : List UInt8) (h : okR r) (l : List UInt8) : num (frameB r ++ l) = r.length := by
  unfold frameB
  rw [List.append_assoc]
  exact two_num _ (by have := h.2; omega) _
theorem frame_drop (r l : List UInt8) : ((frameB r ++ l).drop 6).take r.length = r := by
  have e : frameB r ++ l = (two r.length ++ sumB (two r.length ++ r)) ++ (r ++ l) := by simp [frameB]
  have h6 : (two r.length ++ sumB (two r.length ++ r)).length = 6 := by simp [two_length, sumB_length]
  rw [e, List.drop_append_of_le_length (by omega), List.drop_of_length_le (by omega), List.nil_append, List.take_left']
  rfl
theorem first_frame (r : List UInt8) (h : okR r) (l : List UInt8) : firstB (frameB r ++ l) = some r := by
  have hn := frame_num r h l
  have hl : (frameB r ++ l).length = 6 + r.length + l.length := by simp [frameB_length]
  rw [firstB_else (by omega) (by rw [hn, hl]; have := h.1; have := h.2; omega), hn, frame_drop]
  rw [if_pos]
  rw [List.take_append_of_le_length (by rw [frameB_length]; omega), List.take_of_length_le (by rw [frameB_length]; omega)]
theorem frames_append (l m : List (List UInt8)) : frames (l ++ m) = frames l ++ frames m := by
  induction l with
  | nil => rfl
  | cons r l ih => simp [frames, ih]
theorem frames_one (r : List UInt8) : frames [r] = frameB r := by simp [frames]
theorem recs_frames : ∀ (l : List (List UInt8)) (k : Nat) (t : List UInt8), (∀ r ∈ l, okR r) → l.length ≤ k → recs k (frames l ++ t) = (l ++ (recs (k - l.length) t).1, (frames l).length + (recs (k - l.length) t).2) := by
  intro l
  induction l with
  | nil => intro k t _ _; simp [frames]
  | cons r l ih =>
    intro k t hr hk
    obtain ⟨k, rfl⟩ : ∃ m, k = m + 1 := ⟨k - 1, by simp at hk; omega⟩
    have h1 : firstB (frames (r :: l) ++ t) = some r := by
      simp only [frames, List.append_assoc]; exact first_frame r (hr r (by simp)) _
    have h2 : (frames (r :: l) ++ t).drop (6 + r.length) = frames l ++ t := by
      simp only [frames, List.append_assoc]
      rw [List.drop_append_of_le_length (by rw [frameB_length]; omega), List.drop_of_length_le (by rw [frameB_length]; omega), List.nil_append]
    rw [recs_some h1, h2, ih k t (fun x hx => hr x (by simp [hx])) (by simpa using hk)]
    have e : k + 1 - (r :: l).length = k - l.length := by simp
    rw [e]
    simp [frames, frameB_length, Nat.add_assoc]
theorem recs_nil (k : Nat) : recs k [] = ([], 0) := recs_none (firstB_short (by simp)) k
theorem recs_whole (l : List (List UInt8)) (k : Nat) (hr : ∀ r ∈ l, okR r) (hk : l.length ≤ k) : recs k (frames l) = (l, (frames l).length) := by
  have := recs_frames l k [] hr hk
  rw [recs_nil, List.append_nil] at this
  simpa using this
/-- What is read is what lies there. -/
theorem recs_spec : ∀ (k : Nat) (j : List UInt8), (∀ r ∈ (recs k j).1, okR r) ∧ (recs k j).1.length ≤ k ∧ j.take (recs k j).2 = frames (recs k j).1 ∧ (recs k j).2 = (frames (recs k j).1).length
  | 0, j => ⟨fun r h => by simp [recs] at h, Nat.le_refl 0, by simp [recs, frames], rfl⟩
  | k + 1, j => by
    rcases h : firstB j with _ | r
    · rw [recs_none h]; exact ⟨fun r h => by simp at h, Nat.zero_le _, by simp [frames], rfl⟩
    · obtain ⟨f1, f2, f3, f4, f5⟩ := firstB_some h
      obtain ⟨g1, g2, g3, g4⟩ := recs_spec k (j.drop (6 + r.length))
      rw [recs_some h]
      refine ⟨fun x hx => ?_, by simpa using g2, ?_, ?_⟩
      · rcases List.mem_cons.1 hx with rfl | hx
        · exact ⟨f1, f2⟩
        · exact g1 x hx
      · simp only [frames]
        rw [List.take_add, f4, g3]
      · simp only [frames, List.length_append, frameB_length]; omega
theorem recs_le_length (k : Nat) (j : List UInt8) : (recs k j).2 ≤ j.length := by
  obtain ⟨_, _, g3, g4⟩ := recs_spec k j
  have := congrArg List.length g3
  rw [List.length_take] at this
  omega
/-- The complete part alone reads the same. -/
theorem recs_part (k : Nat) (j : List UInt8) : recs k (j.take (recs k j).2) = recs k j := by
  obtain ⟨g1, g2, g3, g4⟩ := recs_spec k j
  rw [g3, recs_whole _ k g1 g2]
  exact Prod.ext rfl g4.symm
/-- A torn frame is none. -/
theorem first_torn (r : List UInt8) (h : okR r) (l : List UInt8) (k : Nat) (hk : k < 6 + r.length) : firstB ((frameB r ++ l).take k) = none := by
  by_cases h6 : k < 6
  · exact firstB_short (by rw [List.length_take]; omega)
  · refine firstB_bad (.inr (.inr ?_))
    rw [num_take _ _ (by omega), frame_num r h l, List.length_take]
    omega
/-- The records of a journal's beginning. -/
theorem recs_torn : ∀ (l : List (List UInt8)) (k c : Nat), (∀ r ∈ l, okR r) → l.length ≤ k → c ≤ (frames l).length →
    ∃ m, m ≤ l.length ∧ recs k ((frames l).take c) = (l.take m, (frames (l.take m)).length) ∧ (frames (l.take m)).length ≤ c ∧ (m = l.length ∨ ∃ r, l[m]? = some r ∧ c < (frames (l.take m)).length + 6 + r.length) := by
  intro l
  induction l with
  | nil => intro k c _ _ hc; exact ⟨0, Nat.le_refl _, by simp [frames, recs_nil], by simp [frames], .inl rfl⟩
  | cons r l ih =>
    intro k c hr hk hc
    have hor := hr r (by simp)
    by_cases h : c < 6 + r.length
    · refine ⟨0, Nat.zero_le _, ?_, by simp [frames], .inr ⟨r, rfl, by simp [frames]; exact h⟩⟩
      simp only [frames]
      rw [recs_none (first_torn r hor _ c h)]
      simp [frames]
    · obtain ⟨k, rfl⟩ : ∃ m, k = m + 1 := ⟨k - 1, by simp at hk; omega⟩
      obtain ⟨m, m1, m2, m3, m4⟩ := ih k (c - (6 + r.length)) (fun x hx => hr x (by simp [hx])) (by simpa using hk) (by simp [frames, frameB_length] at hc; omega)
      have e : (frames (r :: l)).take c = frameB r ++ (frames l).take (c - (6 + r.length)) := by
        simp only [frames]
        rw [List.take_append, List.take_of_length_le (by rw [frameB_length]; omega), frameB_length]
      have h1 : firstB ((frames (r :: l)).take c) = some r := by rw [e]; exact first_frame r hor _
      have h2 : ((frames (r :: l)).take c).drop (6 + r.length) = (frames l).take (c - (6 + r.length)) := by
        rw [e, List.drop_append_of_le_length (by rw [frameB_length]; omega), List.drop_of_length_le (by rw [frameB_length]; omega), List.nil_append]
      refine ⟨m + 1, by simpa using m1, ?_, ?_, ?_⟩
      · rw [recs_some h1, h2, m2]
        simp [frames, frameB_length]
      · simp only [List.take_succ_cons, frames, List.length_append, frameB_length]; omega
      · rcases m4 with m4 | ⟨x, x1, x2⟩
        · exact .inl (by simp [m4])
        · refine .inr ⟨x, by simpa using x1, ?_⟩
          simp only [List.take_succ_cons, frames, List.length_append, frameB_length]; omega
/-! one byte changed -/
theorem sums_fst (l : List UInt8) : (sums l).1 = (1 + (l.map UInt8.toNat).sum) % 65521 := by
  have : ∀ (l : List UInt8) (p : Nat × Nat), p.1 < 65521 → (l.foldl sumStep p).1 = (p.1 + (l.map UInt8.toNat).sum) % 65521 := by
    intro l
    induction l with
    | nil => intro p h; simp [Nat.mod_eq_of_lt h]
    | cons b l ih =>
      intro p h
      simp only [List.foldl_cons, List.map_cons, List.sum_cons]
      rw [ih _ (Nat.mod_lt _ (by decide))]
      simp only [sumStep]
      omega
  exact this l _ (by decide)
theorem sum_set (l : List UInt8) (i : Nat) (x : UInt8) (h : i < l.length) : ((l.set i x).map UInt8.toNat).sum + (l.getD i 0).toNat = (l.map UInt8.toNat).sum + x.toNat := by
  induction l generalizing i with
  | nil => simp at h
  | cons b l ih =>
    cases i with
    | zero => simp; omega
    | succ i =>
      have := ih i (by simpa using h)
      simp only [List.set_cons_succ, List.map_cons, List.sum_cons, List.getD_cons_succ]
      omega
theorem sums_set (l : List UInt8) (i : Nat) (x : UInt8) (h : i < l.length) (hx : x ≠ l.getD i 0) : (sums (l.set i x)).1 ≠ (sums l).1 := by
  have h1 := sum_set l i x h
  rw [sums_fst, sums_fst]
  have h2 := UInt8.toNat_lt x
  have h3 := UInt8.toNat_lt (l.getD i 0)
  have h4 : x.toNat ≠ (l.getD i 0).toNat := fun e => hx (UInt8.toNat_inj.1 e)
  omega
/-- A frame with one byte of its checksum or record changed is none. -/
theorem first_damaged (r : List UInt8) (h : okR r) (l : List UInt8) (p : Nat) (x : UInt8) (h2 : 2 ≤ p) (hp : p < 6 + r.length) (hx : x ≠ (frameB r ++ l).getD p 0) : firstB ((frameB r ++ l).set p x) = none := by
  obtain ⟨b, hb⟩ : ∃ b, b = (frameB r ++ l).set p x := ⟨_, rfl⟩
  have hl : b.length = 6 + r.length + l.length := by rw [hb]; simp [frameB_length]
  have hn : num b = r.length := by
    rw [hb, ← num_take _ 2 (Nat.le_refl 2), List.take_set_of_le h2, num_take _ 2 (Nat.le_refl 2)]
    exact frame_num r h l
  rw [← hb, firstB_else (by omega) (by rw [hn, hl]; have := h.1; have := h.2; omega), hn, if_neg]
  intro he
  -- the frame's bytes: its length, the sum, the record
  have e0 : frameB r ++ l = two r.length ++ (sumB (two r.length ++ r) ++ (r ++ l)) := by simp [frameB]
  have hgl : (frameB r ++ l).length = 6 + r.length + l.length := by simp [frameB_length]
  obtain ⟨r', hr'⟩ : ∃ r', r' = (b.drop 6).take r.length := ⟨_, rfl⟩
  rw [← hr'] at he
  have hrl : r'.length = r.length := by rw [hr']; simp; omega
  have hbt : b.take (6 + r.length) = two r'.length ++ (sumB (two r'.length ++ r') ++ r') := he.symm
  by_cases hp6 : p < 6
  · -- in the sum: the record is as it was
    have er : r' = r := by
      rw [hr', hb, List.drop_set_of_lt hp6, frame_drop]
    have : b.getD p 0 = (frameB r ++ l).getD p 0 := by
      have h5 : (b.take (6 + r.length)).getD p 0 = b.getD p 0 := by simp only [List.getD_eq_getElem?_getD, List.getElem?_take]; rw [if_pos hp]
      have h6 : ((frameB r ++ l).take (6 + r.length)).getD p 0 = (frameB r ++ l).getD p 0 := by simp only [List.getD_eq_getElem?_getD, List.getElem?_take]; rw [if_pos hp]
      rw [← h5, ← h6, ← he, er]
      rw [List.take_append_of_le_length (by rw [frameB_length]; omega), List.take_of_length_le (by rw [frameB_length]; omega)]
    rw [hb, List.getD_eq_getElem?_getD, List.getElem?_set_self (by omega)] at this
    exact hx (by simpa using this)
  · -- in the record: the sum is another one
    have er : r' = r.set (p - 6) x := by
      have h5 : (frameB r ++ l).set p x = (two r.length ++ sumB (two r.length ++ r)) ++ ((r ++ l).set (p - 6) x) := by
        have e1 : frameB r ++ l = (two r.length ++ sumB (two r.length ++ r)) ++ (r ++ l) := by simp [frameB]
        rw [e1, List.set_append_right _ _ (by simp [two_length, sumB_length]; omega)]
        simp [two_length, sumB_length]
      rw [hr', hb, h5, List.drop_append_of_le_length (by simp [two_length, sumB_length]), List.drop_of_length_le (by simp [two_length, sumB_length]), List.nil_append, List.set_append_left _ _ (by omega), List.take_left' (by simp)]
    have hxr : x ≠ r.getD (p - 6) 0 := by
      intro e
      apply hx
      rw [e]
      have e1 : frameB r ++ l = (two r.length ++ sumB (two r.length ++ r)) ++ (r ++ l) := by simp [frameB]
      rw [e1]
      simp only [List.getD_eq_getElem?_getD]
      rw [List.getElem?_append_right (by simp [two_length, sumB_length]; omega)]
      rw [List.getElem?_append_left (by simp [two_length, sumB_length]; omega)]
      simp [two_length, sumB_length]
    -- the sum's bytes
    have s1 : (b.take (6 + r.length)).take 6 = (frameB r ++ l).take 6 := by
      rw [List.take_take, hb, List.take_set_of_le (by omega)]
      congr 1; omega
    have s2 : (frameB r ++ l).take 6 = two r.length ++ sumB (two r.length ++ r) := by
      have e1 : frameB r ++ l = (two r.length ++ sumB (two r.length ++ r)) ++ (r ++ l) := by simp [frameB]
      rw [e1, List.take_left' (by simp [two_length, sumB_length])]
    have s3 : (b.take (6 + r.length)).take 6 = two r'.length ++ sumB (two r'.length ++ r') := by
      rw [hbt, ← List.append_assoc, List.take_left' (by simp [two_length, sumB_length])]
    rw [s1, s2, hrl] at s3
    have s4 : sumB (two r.length ++ r) = sumB (two r.length ++ r') := List.append_cancel_left s3
    have s5 : two (sums (two r.length ++ r)).1 = two (sums (two r.length ++ r')).1 := (List.append_inj s4 rfl).2
    have s6 := two_inj (by have := (sums_lt (two r.length ++ r)).1; omega) (by have := (sums_lt (two r.length ++ r')).1; omega) s5
    have s7 : two r.length ++ r' = (two r.length ++ r).set (p - 6 + 2) x := by
      rw [er, List.set_append_right _ _ (by simp [two_length])]
      simp [two_length]
    rw [s7] at s6
    refine sums_set (two r.length ++ r) (p - 6 + 2) x (by simp [two_length]; omega) (fun e => hxr ?_) s6.symm
    rw [e]
    simp only [List.getD_eq_getElem?_getD]
    rw [List.getElem?_append_right (by simp [two_length])]
    simp [two_length]
end Go.Proofs.Ytaimbfihehglhaa
