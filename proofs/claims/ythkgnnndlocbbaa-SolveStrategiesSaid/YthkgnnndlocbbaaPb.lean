/-
  Games as lists, and as parity games: attractors, parts: plain law. No condition.
-/
import Derived.Test.YthkgnnndlocbbaaPa
import Derived.Test.YthkgnnndlocbbaaSb
import Derived.Test.YthkgnnndlocbbaaKp
namespace Go.Proofs.Ythkgnnndlocbbaa
set_option linter.unusedVariables false
set_option linter.unusedSimpArgs false
open Go Go.SH Go.Parity
def pg (ow pr : List Int) (su : List (List Int)) : PG := ⟨fun v => ow.getD v 0, fun v => pr.getD v 0, fun v => (su.getD v []).map Int.toNat⟩
section
variable {ow pr : List Int} {su : List (List Int)} {pl : Int} {s : List Bool}
theorem sc_mem {v t : Nat} : t ∈ (pg ow pr su).sc v ↔ ∃ y ∈ su.getD v [], y.toNat = t := by simp [pg]
/-- The rounds attract. -/
theorem attr_rin (hv : validB ow pr su = true) (hl : s.length = ow.length) : Attr (pg ow pr su) (fun v => v < s.length) pl (fun v => s.getD v false = true) (fun v => rin ow su pl s s.length v = true) := by
  refine ⟨fun v h => rin_lt h, fun v h => rin_le (k := 0) (Nat.zero_le _) h, ⟨fun v => (mvR ow su pl s s.length v).toNat, fun v h hT => ?_⟩, fun v hv' hY ho t ht hS hYt => ?_, fun v hv' hY ho => ?_⟩
  · have hlt := rin_lt h
    rcases mv_cases (ow := ow) (su := su) (pl := pl) hlt with ⟨h1, h2⟩ | ⟨j, h1, h2, h3, h4, h5⟩
    · rw [h] at h1; cases h1
    · obtain ⟨q, rfl⟩ : ∃ q, j = q + 1 := by
        cases j with
        | zero => exact absurd h4 hT
        | succ q => exact ⟨q, rfl⟩
      have hq := h5 q (by omega)
      rw [rin_succ hlt, hq, Bool.false_or] at h4
      have low : ∀ t, rin ow su pl s q t = true → rin ow su pl s s.length t = true ∧ (mvR ow su pl s s.length t).toNat < (mvR ow su pl s s.length v).toNat := by
        intro t ht
        obtain ⟨i, i1, i2, i3⟩ := rin_first ht
        have e := mvR_at (m := s.length) (rin_bound i2 i3) i2 i3
        exact ⟨rin_all ht, by rw [e, h3]; omega⟩
      unfold canF at h4
      by_cases ho : ow.getD v 0 = pl
      · rw [if_pos ho, List.any_eq_true] at h4
        obtain ⟨y, y1, y2⟩ := h4
        exact .inl ⟨ho, y.toNat, sc_mem.2 ⟨y, y1, rfl⟩, low _ y2⟩
      · rw [if_neg ho, List.all_eq_true] at h4
        refine .inr ⟨ho, fun t ht _ => ?_⟩
        obtain ⟨y, y1, rfl⟩ := sc_mem.1 ht
        exact low _ (h4 y y1)
  · obtain ⟨y, y1, rfl⟩ := sc_mem.1 ht
    refine hY (rin_closed hv' ?_)
    have ho : ow.getD v 0 = pl := ho
    rw [canF, if_pos ho, List.any_eq_true]
    exact ⟨y, y1, hYt⟩
  · have ho : ¬ ow.getD v 0 = pl := ho
    apply Classical.byContradiction
    intro hno
    refine hY (rin_closed hv' ?_)
    rw [canF, if_neg ho, List.all_eq_true]
    intro y hy
    cases h4 : rin ow su pl s s.length y.toNat
    · have := ((validB_spec hv).2.2.2 v (by omega)).2.2 y hy
      refine absurd ⟨y.toNat, sc_mem.2 ⟨y, hy, rfl⟩, ?_, by rw [h4]; simp⟩ hno
      show y.toNat < s.length
      omega
    · rfl
theorem attr_list (hr : rightB ow pr su pl s = true) : Attr (pg ow pr su) (fun v => v < ow.length) pl (fun v => s.getD v false = true) (fun v => (refAttract ow pr su pl s).1.getD v false = true) := by
  obtain ⟨hv, hp, hl⟩ := rightB_spec hr
  have := attr_rin (pl := pl) hv hl
  simp only [refA_at hr]
  rw [← hl]; exact this
theorem two_pg (hv : validB ow pr su = true) : Two (pg ow pr su) (fun v => v < ow.length) := fun v h => ((validB_spec hv).2.2.2 v h).1
theorem sub_pg (hv : validB ow pr su = true) (v : Nat) (h : v < ow.length) : ∃ t ∈ (pg ow pr su).sc v, t < ow.length := by
  obtain ⟨_, h1, h2⟩ := (validB_spec hv).2.2.2 v h
  obtain ⟨y, hy⟩ := List.exists_mem_of_length_pos h1
  have := h2 y hy
  exact ⟨y.toNat, sc_mem.2 ⟨y, hy, rfl⟩, by omega⟩
theorem part_at {v : Nat} (h : v ∈ numsOf s) : (partOw ow s).getD (idxN (numsOf s) v) 0 = ow.getD v 0 ∧ (partSu su s).getD (idxN (numsOf s) v) [] = succOf su s v := by
  have h1 := idxN_lt _ _ h
  have h2 := idxN_at _ _ h
  exact ⟨by rw [partOw, map_getD _ _ _ 0 _ h1, h2], by rw [partSu, map_getD _ _ _ 0 _ h1, h2]⟩
theorem idxN_nodup : ∀ (l : List Nat) (v : Nat), l.Nodup → v < l.length → idxN l (l.getD v 0) = v
  | [], v, _, h => by simp at h
  | y :: l, 0, _, _ => by simp [idxN]
  | y :: l, v + 1, hd, h => by
    have h1 : v < l.length := by simpa using h
    have ih := idxN_nodup l v (List.nodup_cons.1 hd).2 h1
    have hne : y ≠ l.getD v 0 := fun e => (List.nodup_cons.1 hd).1 (by rw [e]; exact getD_mem h1 0)
    rw [List.getD_cons_succ, idxN, if_neg hne, ih]
theorem nums_nodup (s : List Bool) : (numsOf s).Nodup := List.Pairwise.filter _ List.nodup_range
theorem idx_mem {y : Int} (h : inAt s y = true) : (idxI s y).toNat = idxN (numsOf s) y.toNat := by rw [idxI]; omega
/-- Winners in what Part cuts out are winners in the part. -/
theorem part_good {A B : Nat → Prop} (hv : validB ow pr su = true) (hl : s.length = ow.length) (h : GoodP (pg (partOw ow s) (partOw pr s) (partSu su s)) (fun v => v < (numsOf s).length) pl A B) :
    GoodP (pg ow pr su) (fun v => v < ow.length ∧ s.getD v false = true) pl (fun v => (v < ow.length ∧ s.getD v false = true) ∧ A (idxN (numsOf s) v)) (fun v => (v < ow.length ∧ s.getD v false = true) ∧ B (idxN (numsOf s) v)) := by
  have hm : ∀ v, (v < ow.length ∧ s.getD v false = true) ↔ v ∈ numsOf s := fun v => by rw [mem_numsOf, hl]
  have thr : ∀ {p : Int} {X : Nat → Prop}, Para (pg (partOw ow s) (partOw pr s) (partSu su s)) (fun v => v < (numsOf s).length) p X → Para (pg ow pr su) (fun v => v < ow.length ∧ s.getD v false = true) p (fun v => (v < ow.length ∧ s.getD v false = true) ∧ X (idxN (numsOf s) v)) := by
    intro p X hX
    refine Para.through (G1 := pg (partOw ow s) (partOw pr s) (partSu su s)) (G2 := pg ow pr su) (idxN (numsOf s)) (fun v hv => idxN_lt _ _ ((hm v).1 hv)) (fun v hv => (part_at ((hm v).1 hv) (su := su)).1.symm) (fun v hv => (part_at (ow := pr) ((hm v).1 hv) (su := su)).1.symm) (fun v hv t ht hS => ?_) (fun v hv u hu hS => ?_) hX
    · obtain ⟨y, y1, rfl⟩ := sc_mem.1 ht
      refine sc_mem.2 ?_
      rw [(part_at ((hm v).1 hv) (ow := ow)).2]
      have hy : inAt s y = true := hS.2
      exact ⟨idxI s y, List.mem_map.2 ⟨y, List.mem_filter.2 ⟨y1, hy⟩, rfl⟩, idx_mem hy⟩
    · obtain ⟨z, z1, rfl⟩ := sc_mem.1 hu
      rw [(part_at ((hm v).1 hv) (ow := ow)).2] at z1
      obtain ⟨y, y1, y2, rfl⟩ := mem_succOf z1
      exact ⟨y.toNat, sc_mem.2 ⟨y, y1, rfl⟩, (hm _).2 (inAt_mem y2), (idx_mem y2).symm⟩
  exact ⟨thr h.a, thr h.b, fun v hv => (h.all _ (idxN_lt _ _ ((hm v).1 hv))).imp (fun h => ⟨hv, h⟩) (fun h => ⟨hv, h⟩)⟩
/-- The other way: a set's paradise is one in what Part cuts out. -/
theorem part_para {p : Int} {X : Nat → Prop} (hv : validB ow pr su = true) (hl : s.length = ow.length) (h : Para (pg ow pr su) (fun v => v < ow.length ∧ s.getD v false = true) p X) :
    Para (pg (partOw ow s) (partOw pr s) (partSu su s)) (fun v => v < (numsOf s).length) p (fun v => v < (numsOf s).length ∧ X ((numsOf s).getD v 0)) := by
  have hg : ∀ v, v < (numsOf s).length → (numsOf s).getD v 0 ∈ numsOf s := fun v h => getD_mem h 0
  have e1 : ∀ (l : List Int) v, v < (numsOf s).length → (partOw l s).getD v 0 = l.getD ((numsOf s).getD v 0) 0 := fun l v h => by rw [partOw, map_getD _ _ _ 0 _ h]
  have e3 : ∀ v, v < (numsOf s).length → (partSu su s).getD v [] = succOf su s ((numsOf s).getD v 0) := fun v h => by rw [partSu, map_getD _ _ _ 0 _ h]
  refine Para.through (G1 := pg ow pr su) (G2 := pg (partOw ow s) (partOw pr s) (partSu su s)) (fun v => (numsOf s).getD v 0) (fun v h => by have := mem_numsOf.1 (hg v h); exact ⟨by omega, this.2⟩) (fun v h => e1 ow v h) (fun v h => e1 pr v h) (fun v h t ht hS => ?_) (fun v h u hu hS => ?_) h
  · obtain ⟨z, z1, rfl⟩ := sc_mem.1 ht
    rw [e3 v h] at z1
    obtain ⟨y, y1, y2, rfl⟩ := mem_succOf z1
    refine sc_mem.2 ⟨y, y1, ?_⟩
    rw [idx_mem y2, idxN_at _ _ (inAt_mem y2)]
  · obtain ⟨y, y1, rfl⟩ := sc_mem.1 hu
    have hy : inAt s y = true := hS.2
    have hm := inAt_mem hy
    refine ⟨idxN (numsOf s) y.toNat, sc_mem.2 ?_, idxN_lt _ _ hm, idxN_at _ _ hm⟩
    rw [e3 v h]
    exact ⟨idxI s y, List.mem_map.2 ⟨y, List.mem_filter.2 ⟨y1, hy⟩, rfl⟩, idx_mem hy⟩
end
end Go.Proofs.Ythkgnnndlocbbaa
