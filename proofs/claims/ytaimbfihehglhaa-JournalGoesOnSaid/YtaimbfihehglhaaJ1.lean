/-
  The law JournalGoesOn: its function returns true, for all records and numbers.
-/
-- LEN: two_length, sumB_length, frameB_length
import Derived.Test.YtaimbfihehglhaaJv
import Derived.Test.YtaimbfihehglhaaJl
namespace Go.Proofs.Ytaimbfihehglhaa
set_option linter.unusedVariables false
set_option linter.unusedSimpArgs false
open Go Go.SH
set_option maxRecDepth 10000
set_option maxHeartbeats 2000000
/-- Appending goes on behind what is whole. -/
theorem appO_torn {x : List UInt8} {l : List (List UInt8)} {r : List UInt8} (h : recs 500 x = (l, (frames l).length)) (hn : l.length < 500) (hr : okR r) : appO x r = (frames (l ++ [r]), 0) := by
  obtain ⟨_, _, g3, _⟩ := recs_spec 500 x
  unfold appO
  rw [if_neg (by rintro (h | h); exact absurd hr.1 (by omega); exact absurd hr.2 (by omega)), if_neg (by rw [h]; simp; omega), g3, h, frames_append, frames_one]
theorem frames_len_take (l : List (List UInt8)) (i : Nat) : (frames (l.take i)).length ≤ (frames l).length := by
  have := congrArg List.length (frames_append (l.take i) (l.drop i))
  rw [List.take_append_drop, List.length_append] at this; omega
/-- The journal while the lost records are appended: at first the torn one. -/
def goesX (l : List (List UInt8)) (c m i : Nat) : List UInt8 := if i = m then (frames l).take c else frames (l.take i)
theorem goesX_recs {l : List (List UInt8)} {c m i : Nat} (hl : ∀ x ∈ l, okR x) (h5 : l.length ≤ 500) (h : recs 500 ((frames l).take c) = (l.take m, (frames (l.take m)).length)) : recs 500 (goesX l c m i) = (l.take i, (frames (l.take i)).length) := by
  unfold goesX
  split
  · subst_vars; exact h
  · exact recs_whole _ 500 (fun x hx => hl x (List.mem_of_mem_take hx)) (by rw [List.length_take]; omega)
theorem k9 (rs : List (List UInt8)) (cut : Int) (hc0 : 0 ≤ cut) (hc1 : cut < 65536) : Contract Try.prog 9 [byteRows rs, .int .u16 cut] (.one (.val (.bool true))) := by
  refine ct9 ?_
  simp only [padA]
  simp only [Try.f9, Option.getD]
  refine SH.Sem.step hm ?_
  (refine ev ?_; (try (with_reducible exact True.intro)))
  refine SH.Sem.step hm ?_
  (refine ev ?_; (try (with_reducible exact True.intro)))
  repeat (((with_reducible refine And.intro ?_ ?_)); (focus (first | omega | (simp only [inR]; omega) | rfl | (simp [notinId, notin]; done) | exact Or.inr rfl | (intro i hi; (repeat' (with_reducible first | apply len_cut | apply len_shift | apply len_app | apply len_copy | intro j)) <;> first | rfl | (exact len_lit _ _ (by simp) rfl _) | (simp; done)))))
  refine EffC.use k10 ?_ (.inl rfl) ?_
  · ((refine evL ?_; (try (with_reducible exact True.intro))) <;> (try simp (disch := (first | omega | (simp only [List.length_append, List.length_cons, List.length_nil, List.length_take, List.length_drop, List.length_map, two_length, sumB_length, frameB_length] <;> omega) | fail)) only [cutF_all, strOf_enc, appF_zero, appF_enc, lit_byte, shiftF_enc, shiftF_0, cutF_enc, List.nil_append, List.drop_zero, List.take_of_length_le]) <;> (repeat' (with_reducible refine And.intro ?_ ?_)) <;> first | trivial | rfl | (intros; first | rfl | trivial; done) | (first | omega | (simp only [List.length_append, List.length_cons, List.length_nil, List.length_take, List.length_drop, List.length_map, two_length, sumB_length, frameB_length] <;> omega) | fail))
  (refine ev ?_; (try (with_reducible exact True.intro)))
  refine SH.Sem.step hm ?_
  (refine ev ?_; (try (with_reducible exact True.intro)))
  repeat (((with_reducible refine And.intro ?_ ?_)); (focus (first | omega | (simp only [inR]; omega) | rfl | (simp [notinId, notin]; done) | exact Or.inr rfl | (intro i hi; (repeat' (with_reducible first | apply len_cut | apply len_shift | apply len_app | apply len_copy | intro j)) <;> first | rfl | (exact len_lit _ _ (by simp) rfl _) | (simp; done)))))
  refine EffC.use (k22 rs) ?_ (.inl rfl) ?_
  · ((refine evL ?_; (try (with_reducible exact True.intro))) <;> (try simp (disch := (first | omega | (simp only [List.length_append, List.length_cons, List.length_nil, List.length_take, List.length_drop, List.length_map, two_length, sumB_length, frameB_length] <;> omega) | fail)) only [cutF_all, strOf_enc, appF_zero, appF_enc, lit_byte, shiftF_enc, shiftF_0, cutF_enc, List.nil_append, List.drop_zero, List.take_of_length_le]) <;> (repeat' (with_reducible refine And.intro ?_ ?_)) <;> first | trivial | rfl | (intros; first | rfl | trivial; done) | (first | omega | (simp only [List.length_append, List.length_cons, List.length_nil, List.length_take, List.length_drop, List.length_map, two_length, sumB_length, frameB_length] <;> omega) | fail))
  (refine ev ?_; (try (with_reducible exact True.intro)))
  repeat (((with_reducible refine And.intro ?_ ?_)); (focus (first | omega | (simp only [inR]; omega) | rfl | (simp [notinId, notin]; done) | exact Or.inr rfl | (intro i hi; (repeat' (with_reducible first | apply len_cut | apply len_shift | apply len_app | apply len_copy | intro j)) <;> first | rfl | (exact len_lit _ _ (by simp) rfl _) | (simp; done)))))
  refine gs (fun hs => ?_) (fun hs => ?_)
  · (refine ev ?_; (try (with_reducible exact True.intro)))
    simp [notinId]
  (refine ev ?_; (try (with_reducible exact True.intro)))
  refine SH.Sem.step hm ?_
  (refine ev ?_; (try (with_reducible exact True.intro)))
  repeat (((with_reducible refine And.intro ?_ ?_)); (focus (first | omega | (simp only [inR]; omega) | rfl | (simp [notinId, notin]; done) | exact Or.inr rfl | (intro i hi; (repeat' (with_reducible first | apply len_cut | apply len_shift | apply len_app | apply len_copy | intro j)) <;> first | rfl | (exact len_lit _ _ (by simp) rfl _) | (simp; done)))))
  have hsh : shortB rs = true := by simpa using hs
  obtain ⟨l, hj, hl, hl15⟩ := wholeB_frames hsh
  have hfl := frames_length hl
  have hok : ∀ x ∈ l, okR x := fun x hx => (hl x hx).1
  have a23 := k23 rs hsh
  rw [hj] at a23
  refine EffC.use a23 ?_ (.inr rfl) ?_
  · ((refine evL ?_; (try (with_reducible exact True.intro))) <;> (try simp (disch := (first | omega | (simp only [List.length_append, List.length_cons, List.length_nil, List.length_take, List.length_drop, List.length_map, two_length, sumB_length, frameB_length] <;> omega) | fail)) only [cutF_all, strOf_enc, appF_zero, appF_enc, lit_byte, shiftF_enc, shiftF_0, cutF_enc, List.nil_append, List.drop_zero, List.take_of_length_le]) <;> (repeat' (with_reducible refine And.intro ?_ ?_)) <;> first | trivial | rfl | (intros; first | rfl | trivial; done) | (first | omega | (simp only [List.length_append, List.length_cons, List.length_nil, List.length_take, List.length_drop, List.length_map, two_length, sumB_length, frameB_length] <;> omega) | fail))
  (refine ev ?_; (try (with_reducible exact True.intro)))
  refine SH.Sem.step hm ?_
  (refine ev ?_; (try (with_reducible exact True.intro)))
  repeat (((with_reducible refine And.intro ?_ ?_)); (focus (first | omega | (simp only [inR]; omega) | rfl | (simp [notinId, notin]; done) | exact Or.inr rfl | (intro i hi; (repeat' (with_reducible first | apply len_cut | apply len_shift | apply len_app | apply len_copy | intro j)) <;> first | rfl | (exact len_lit _ _ (by simp) rfl _) | (simp; done)))))
  have a15 := k15 (frames l) (by omega)
  simp only [recsR, recs_whole l 500 hok (by omega)] at a15
  refine EffC.use a15 ?_ (.inr rfl) ?_
  · ((refine evL ?_; (try (with_reducible exact True.intro))) <;> (try simp (disch := (first | omega | (simp only [List.length_append, List.length_cons, List.length_nil, List.length_take, List.length_drop, List.length_map, two_length, sumB_length, frameB_length] <;> omega) | fail)) only [cutF_all, strOf_enc, appF_zero, appF_enc, lit_byte, shiftF_enc, shiftF_0, cutF_enc, List.nil_append, List.drop_zero, List.take_of_length_le]) <;> (repeat' (with_reducible refine And.intro ?_ ?_)) <;> first | trivial | rfl | (intros; first | rfl | trivial; done) | (first | omega | (simp only [List.length_append, List.length_cons, List.length_nil, List.length_take, List.length_drop, List.length_map, two_length, sumB_length, frameB_length] <;> omega) | fail))
  (refine ev ?_; (try (with_reducible exact True.intro)))
  repeat (((with_reducible refine And.intro ?_ ?_)); (focus (first | omega | (simp only [inR]; omega) | rfl | (simp [notinId, notin]; done) | exact Or.inr rfl | (intro i hi; (repeat' (with_reducible first | apply len_cut | apply len_shift | apply len_app | apply len_copy | intro j)) <;> first | rfl | (exact len_lit _ _ (by simp) rfl _) | (simp; done)))))
  refine SH.Sem.step hm ?_
  (refine ev ?_; (try (with_reducible exact True.intro)))
  repeat (((with_reducible refine And.intro ?_ ?_)); (focus (first | omega | (simp only [inR]; omega) | rfl | (simp [notinId, notin]; done) | exact Or.inr rfl | (intro i hi; (repeat' (with_reducible first | apply len_cut | apply len_shift | apply len_app | apply len_copy | intro j)) <;> first | rfl | (exact len_lit _ _ (by simp) rfl _) | (simp; done)))))
  obtain ⟨c, hc, hcl⟩ : ∃ c : Nat, cut.tmod (((frames l).length : Nat) + 1) = c ∧ c ≤ (frames l).length := by
    refine ⟨(cut.tmod (((frames l).length : Nat) + 1)).toNat, ?_, ?_⟩
    · rw [Int.tmod_eq_emod_of_nonneg hc0]; have := Int.emod_nonneg cut (show ((frames l).length : Int) + 1 ≠ 0 by omega); omega
    · rw [Int.tmod_eq_emod_of_nonneg hc0]; have := Int.emod_lt_of_pos cut (show 0 < ((frames l).length : Int) + 1 by omega); omega
  simp only [hc, Int.toNat_natCast]
  repeat (((with_reducible refine And.intro ?_ ?_)); (focus (first | omega | (simp only [inR]; omega) | rfl | (simp [notinId, notin]; done) | exact Or.inr rfl | (intro i hi; (repeat' (with_reducible first | apply len_cut | apply len_shift | apply len_app | apply len_copy | intro j)) <;> first | rfl | (exact len_lit _ _ (by simp) rfl _) | (simp; done)))))
  try simp (disch := (first | omega | (simp only [List.length_append, List.length_cons, List.length_nil, List.length_take, List.length_drop, List.length_map, two_length, sumB_length, frameB_length] <;> omega) | fail)) only [cutF_all, strOf_enc, appF_zero, appF_enc, lit_byte, shiftF_enc, shiftF_0, cutF_enc, List.nil_append, List.drop_zero, List.take_of_length_le]
  obtain ⟨m, hm1, hm2, hm3, hm4⟩ := recs_torn l 500 c hok (by omega) hcl
  refine SH.Sem.freeze 1 rfl ?_
  refine SH.Sem.of_wpA hm ?_
  (refine ev ?_; (try (with_reducible exact True.intro)))
  repeat (((with_reducible refine And.intro ?_ ?_)); (focus (first | omega | (simp only [inR]; omega) | rfl | (simp [notinId, notin]; done) | exact Or.inr rfl | (intro i hi; (repeat' (with_reducible first | apply len_cut | apply len_shift | apply len_app | apply len_copy | intro j)) <;> first | rfl | (exact len_lit _ _ (by simp) rfl _) | (simp; done)))))
  have b15 := k15 ((frames l).take c) (by rw [List.length_take]; omega)
  simp only [recsR, hm2] at b15
  refine EffC.use b15 ?_ (.inr rfl) ?_
  · ((refine evL ?_; (try (with_reducible exact True.intro))) <;> (try simp (disch := (first | omega | (simp only [List.length_append, List.length_cons, List.length_nil, List.length_take, List.length_drop, List.length_map, two_length, sumB_length, frameB_length] <;> omega) | fail)) only [cutF_all, strOf_enc, appF_zero, appF_enc, lit_byte, shiftF_enc, shiftF_0, cutF_enc, List.nil_append, List.drop_zero, List.take_of_length_le]) <;> (repeat' (with_reducible refine And.intro ?_ ?_)) <;> first | trivial | rfl | (intros; first | rfl | trivial; done) | (first | omega | (simp only [List.length_append, List.length_cons, List.length_nil, List.length_take, List.length_drop, List.length_map, two_length, sumB_length, frameB_length] <;> omega) | fail))
  have hml : (l.take m).length = m := by rw [List.length_take]; omega
  (refine ev ?_; (try (with_reducible exact True.intro)))
  repeat (((with_reducible refine And.intro ?_ ?_)); (focus (first | omega | (simp only [inR]; omega) | rfl | (simp [notinId, notin]; done) | exact Or.inr rfl | (intro i hi; (repeat' (with_reducible first | apply len_cut | apply len_shift | apply len_app | apply len_copy | intro j)) <;> first | rfl | (exact len_lit _ _ (by simp) rfl _) | (simp; done)))))
  simp only [hml]
  refine gsd (fun h => absurd h (by omega)) (fun _ => ?_)
  (refine ev ?_; (try (with_reducible exact True.intro)))
  repeat (((with_reducible refine And.intro ?_ ?_)); (focus (first | omega | (simp only [inR]; omega) | rfl | (simp [notinId, notin]; done) | exact Or.inr rfl | (intro i hi; (repeat' (with_reducible first | apply len_cut | apply len_shift | apply len_app | apply len_copy | intro j)) <;> first | rfl | (exact len_lit _ _ (by simp) rfl _) | (simp; done)))))
  try simp only [hml]
  try simp (disch := (first | omega | (simp only [List.length_append, List.length_cons, List.length_nil, List.length_take, List.length_drop, List.length_map, two_length, sumB_length, frameB_length] <;> omega) | fail)) only [cutF_all, strOf_enc, appF_zero, appF_enc, lit_byte, shiftF_enc, shiftF_0, cutF_enc, List.nil_append, List.drop_zero, List.take_of_length_le]
  have hxm : goesX l c m m = (frames l).take c := by unfold goesX; rw [if_pos rfl]
  have hcl2 : ((frames l).take c).length = c := by rw [List.length_take]; omega
  have hgl : ∀ i, (goesX l c m i).length ≤ (frames l).length := by
    intro i; unfold goesX; split
    · omega
    · exact frames_len_take l i
  refine SH.Sem.loop hm (fun i : Nat => ⟨padA [.undef, .undef, .undef, .undef, .undef, .bool true, byteRow (frames l), byteRows l, .undef, byteRow (goesX l c m i), .undef, .undef, .int .i64 i] 88, []⟩) (fun i => m ≤ i ∧ i ≤ l.length) (fun i => l.length - i) [] m ⟨by omega, hm1⟩ ?_ fun i ⟨h1, h2⟩ => ?_
  · simp only [padA, St.le, slotsLe, heapLe, blkLe, rowLe, live, injOn, loLe, nget, nlook, ren, okA, allP, mapA, hget, ABlk.used, notin, List.map_cons, List.map_nil, true_or, or_true, false_or, or_false, true_and, and_true, and_self, AV.int.injEq, AV.bool.injEq, AV.str.injEq, AV.sl.injEq, AV.ro.injEq, AV.agg.injEq, List.cons.injEq, reduceCtorEq, ne_eq, not_false_eq_true, not_true_eq_false, hxm, hcl2]
    try simp
  simp only [padA]
  (refine ev ?_; (try (with_reducible exact True.intro)))
  refine gsd (fun hd => ?_) (fun hd => ?_)
  · have hi : i < l.length := by omega
    have hmem : l.getD i [] ∈ l := by rw [List.getD_eq_getElem?_getD, List.getElem?_eq_getElem hi]; simp
    have e := appO_torn (r := l.getD i []) (goesX_recs hok (by omega) (i := i) hm2) (by rw [List.length_take]; omega) (hok _ hmem)
    have e2 : frames (l.take i ++ [l.getD i []]) = goesX l c m (i + 1) := by
      unfold goesX; rw [if_neg (by omega), take_next l [] i hi]
    rw [e2] at e
    have := hgl i
    have b13 := k13 (goesX l c m i) (l.getD i []) (by omega)
    simp only [appR, e] at b13
    (refine ev ?_; (try (with_reducible exact True.intro)))
    simp only [Int.toNat_natCast]
    repeat (((with_reducible refine And.intro ?_ ?_)); (focus (first | omega | (simp only [inR]; omega) | rfl | (simp [notinId, notin]; done) | exact Or.inr rfl | (intro i hi; (repeat' (with_reducible first | apply len_cut | apply len_shift | apply len_app | apply len_copy | intro j)) <;> first | rfl | (exact len_lit _ _ (by simp) rfl _) | (simp; done)))))
    refine EffC.use b13 ?_ (.inr rfl) ?_
    · ((refine evL ?_; (try (with_reducible exact True.intro))) <;> (try simp (disch := (first | omega | (simp only [List.length_append, List.length_cons, List.length_nil, List.length_take, List.length_drop, List.length_map, two_length, sumB_length, frameB_length] <;> omega) | fail)) only [cutF_all, strOf_enc, appF_zero, appF_enc, lit_byte, shiftF_enc, shiftF_0, cutF_enc, List.nil_append, List.drop_zero, List.take_of_length_le]) <;> (repeat' (with_reducible refine And.intro ?_ ?_)) <;> first | trivial | rfl | (intros; first | rfl | trivial; done) | (first | omega | (simp only [List.length_append, List.length_cons, List.length_nil, List.length_take, List.length_drop, List.length_map, two_length, sumB_length, frameB_length] <;> omega) | fail))
    (refine ev ?_; (try (with_reducible exact True.intro)))
    repeat (((with_reducible refine And.intro ?_ ?_)); (focus (first | omega | (simp only [inR]; omega) | rfl | (simp [notinId, notin]; done) | exact Or.inr rfl | (intro i hi; (repeat' (with_reducible first | apply len_cut | apply len_shift | apply len_app | apply len_copy | intro j)) <;> first | rfl | (exact len_lit _ _ (by simp) rfl _) | (simp; done)))))
    (repeat ((with_reducible first | refine gs (fun _ => ?_) (fun h => absurd h (by decide)) | refine gs (fun h => absurd h (by decide)) (fun _ => ?_)); ((refine ev ?_; (try (with_reducible exact True.intro)))); (repeat (((with_reducible refine And.intro ?_ ?_)); (focus (first | omega | (simp only [inR]; omega) | rfl | (simp [notinId, notin]; done) | exact Or.inr rfl | (intro i hi; (repeat' (with_reducible first | apply len_cut | apply len_shift | apply len_app | apply len_copy | intro j)) <;> first | rfl | (exact len_lit _ _ (by simp) rfl _) | (simp; done))))))))
    refine ⟨i + 1, [], ⟨by omega, by omega⟩, by show l.length - (i + 1) < l.length - i; omega, ?_⟩
    simp only [padA, St.le, slotsLe, heapLe, blkLe, rowLe, live, injOn, loLe, nget, nlook, ren, okA, allP, mapA, hget, ABlk.used, notin, List.map_cons, List.map_nil, true_or, or_true, false_or, or_false, true_and, and_true, and_self, AV.int.injEq, AV.bool.injEq, AV.str.injEq, AV.sl.injEq, AV.ro.injEq, AV.agg.injEq, List.cons.injEq, reduceCtorEq, ne_eq, not_false_eq_true, not_true_eq_false]
    simp
  · have hi : i = l.length := by omega
    subst hi
    have er := goesX_recs hok (by omega) (i := l.length) hm2
    rw [List.take_length] at er
    have := hgl l.length
    have htk : (goesX l c m l.length).take (frames l).length = frames l := by
      have := (recs_spec 500 (goesX l c m l.length)).2.2.1
      rw [er] at this; exact this
    have hle := recs_le_length 500 (goesX l c m l.length)
    rw [er] at hle
    simp only at hle
    have hge : goesX l c m l.length = frames l := by
      rw [List.take_of_length_le (by omega)] at htk; exact htk
    simp only [hge]
    (refine ev ?_; (try (with_reducible exact True.intro)))
    repeat (((with_reducible refine And.intro ?_ ?_)); (focus (first | omega | (simp only [inR]; omega) | rfl | (simp [notinId, notin]; done) | exact Or.inr rfl | (intro i hi; (repeat' (with_reducible first | apply len_cut | apply len_shift | apply len_app | apply len_copy | intro j)) <;> first | rfl | (exact len_lit _ _ (by simp) rfl _) | (simp; done)))))
    refine EffC.use a15 ?_ (.inr rfl) ?_
    · ((refine evL ?_; (try (with_reducible exact True.intro))) <;> (try simp (disch := (first | omega | (simp only [List.length_append, List.length_cons, List.length_nil, List.length_take, List.length_drop, List.length_map, two_length, sumB_length, frameB_length] <;> omega) | fail)) only [cutF_all, strOf_enc, appF_zero, appF_enc, lit_byte, shiftF_enc, shiftF_0, cutF_enc, List.nil_append, List.drop_zero, List.take_of_length_le]) <;> (repeat' (with_reducible refine And.intro ?_ ?_)) <;> first | trivial | rfl | (intros; first | rfl | trivial; done) | (first | omega | (simp only [List.length_append, List.length_cons, List.length_nil, List.length_take, List.length_drop, List.length_map, two_length, sumB_length, frameB_length] <;> omega) | fail))
    (refine ev ?_; (try (with_reducible exact True.intro)))
    repeat (((with_reducible refine And.intro ?_ ?_)); (focus (first | omega | (simp only [inR]; omega) | rfl | (simp [notinId, notin]; done) | exact Or.inr rfl | (intro i hi; (repeat' (with_reducible first | apply len_cut | apply len_shift | apply len_app | apply len_copy | intro j)) <;> first | rfl | (exact len_lit _ _ (by simp) rfl _) | (simp; done)))))
    refine gsd (fun _ => ?_) (fun h => absurd h (by omega))
    (refine ev ?_; (try (with_reducible exact True.intro)))
    simp only [Int.toNat_natCast]
    repeat (((with_reducible refine And.intro ?_ ?_)); (focus (first | omega | (simp only [inR]; omega) | rfl | (simp [notinId, notin]; done) | exact Or.inr rfl | (intro i hi; (repeat' (with_reducible first | apply len_cut | apply len_shift | apply len_app | apply len_copy | intro j)) <;> first | rfl | (exact len_lit _ _ (by simp) rfl _) | (simp; done)))))
    try simp (disch := (first | omega | (simp only [List.length_append, List.length_cons, List.length_nil, List.length_take, List.length_drop, List.length_map, two_length, sumB_length, frameB_length] <;> omega) | fail)) only [cutF_all, strOf_enc, appF_zero, appF_enc, lit_byte, shiftF_enc, shiftF_0, cutF_enc, List.nil_append, List.drop_zero, List.take_of_length_le]
    refine EffC.use (k17 (frames l) (frames l) (by omega)) ?_ (.inl rfl) ?_
    · ((refine evL ?_; (try (with_reducible exact True.intro))) <;> (try simp (disch := (first | omega | (simp only [List.length_append, List.length_cons, List.length_nil, List.length_take, List.length_drop, List.length_map, two_length, sumB_length, frameB_length] <;> omega) | fail)) only [cutF_all, strOf_enc, appF_zero, appF_enc, lit_byte, shiftF_enc, shiftF_0, cutF_enc, List.nil_append, List.drop_zero, List.take_of_length_le]) <;> (repeat' (with_reducible refine And.intro ?_ ?_)) <;> first | trivial | rfl | (intros; first | rfl | trivial; done) | (first | omega | (simp only [List.length_append, List.length_cons, List.length_nil, List.length_take, List.length_drop, List.length_map, two_length, sumB_length, frameB_length] <;> omega) | fail))
    (refine ev ?_; (try (with_reducible exact True.intro)))
    simp [notinId]
end Go.Proofs.Ytaimbfihehglhaa
