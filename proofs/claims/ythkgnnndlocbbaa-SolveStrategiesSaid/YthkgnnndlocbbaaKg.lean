/-
  The arena's within, Valid: what they return. No condition.
-/
import Derived.Test.YthkgnnndlocbbaaKb
namespace Go.Proofs.Ythkgnnndlocbbaa
set_option linter.unusedVariables false
set_option linter.unusedSimpArgs false
open Go Go.SH
set_option maxRecDepth 10000
set_option maxHeartbeats 4000000
def outB (lo hi x : Int) : Bool := decide (x < lo) || decide (hi < x)
theorem e39 (lo hi x : Int) {R : AV → List ABlk → Prop} (h : R (.bool (outB lo hi x)) [.box [.int .i64 lo], .box [.int .i64 hi]]) :
    EffC Try.prog 62 [.int .i64 x, .ptr 0 0 0, .ptr 1 0 0] [.box [.int .i64 lo], .box [.int .i64 hi]] R := by
  refine in62 (SH.Sem.of_wpA hm ?_)
  simp only [padA]
  simp only [Try.f62]
  (refine ev ?_; (try (with_reducible exact True.intro)))
  repeat (((with_reducible refine And.intro ?_ ?_)); (focus (first | omega | (simp only [inR]; omega) | rfl | (simp [notinId, notin]; done) | exact Or.inr rfl | (intro i hi; (repeat' (with_reducible first | apply len_cut | apply len_shift | apply len_app | apply len_copy | intro j)) <;> first | rfl | (exact len_lit _ _ (by simp) rfl _) | (simp; done)))))
  refine gsd (fun h1 => ?_) (fun h1 => ?_)
  · rw [outB, decide_eq_true h1, Bool.true_or] at h
    (refine ev ?_; (try (with_reducible exact True.intro)))
    repeat (((with_reducible refine And.intro ?_ ?_)); (focus (first | omega | (simp only [inR]; omega) | rfl | (simp [notinId, notin]; done) | exact Or.inr rfl | (intro i hi; (repeat' (with_reducible first | apply len_cut | apply len_shift | apply len_app | apply len_copy | intro j)) <;> first | rfl | (exact len_lit _ _ (by simp) rfl _) | (simp; done)))))
    exact h
  · rw [outB, decide_eq_false h1, Bool.false_or] at h
    (refine ev ?_; (try (with_reducible exact True.intro)))
    repeat (((with_reducible refine And.intro ?_ ?_)); (focus (first | omega | (simp only [inR]; omega) | rfl | (simp [notinId, notin]; done) | exact Or.inr rfl | (intro i hi; (repeat' (with_reducible first | apply len_cut | apply len_shift | apply len_app | apply len_copy | intro j)) <;> first | rfl | (exact len_lit _ _ (by simp) rfl _) | (simp; done)))))
    exact h
theorem e41 (lo hi : Int) (l : List Int) (hl : l.length < 2 ^ 40) {R : AV → List ABlk → Prop} (h : ∀ k : Int, (0 ≤ k) = (l.any (outB lo hi) = true) → R (.int .i64 k) [.box [.int .i64 lo], .box [.int .i64 hi]]) :
    EffC Try.prog 69 [intRow l, .fn (.func 62) [.ptr 0 0 0, .ptr 1 0 0]] [.box [.int .i64 lo], .box [.int .i64 hi]] R := by
  refine in69 (SH.Sem.of_wpA hm ?_)
  simp only [padA]
  simp only [Try.f69]
  (refine ev ?_; (try (with_reducible exact True.intro)))
  repeat (((with_reducible refine And.intro ?_ ?_)); (focus (first | omega | (simp only [inR]; omega) | rfl | (simp [notinId, notin]; done) | exact Or.inr rfl | (intro i hi; (repeat' (with_reducible first | apply len_cut | apply len_shift | apply len_app | apply len_copy | intro j)) <;> first | rfl | (exact len_lit _ _ (by simp) rfl _) | (simp; done)))))
  refine SH.Sem.loop hm (fun i : Nat => ⟨padA [intRow l, .fn (.func 62) [.ptr 0 0 0, .ptr 1 0 0], .undef, .undef, .undef, .undef, .undef, .int .i64 l.length, .int .i64 i] 19, [.box [.int .i64 lo], .box [.int .i64 hi]]⟩) (fun i => i ≤ l.length ∧ (l.take i).any (outB lo hi) = false) (fun i => l.length - i) [0, 1] 0 ⟨by omega, rfl⟩ ?_ fun i ⟨h1, h2⟩ => ?_
  · simp only [padA, St.le, slotsLe, heapLe, blkLe, rowLe, live, injOn, loLe, nget, nlook, ren, okA, allP, mapA, hget, ABlk.used, notin, List.map_cons, List.map_nil, true_or, or_true, false_or, or_false, true_and, and_true, and_self, AV.int.injEq, AV.bool.injEq, AV.str.injEq, AV.sl.injEq, AV.ro.injEq, AV.agg.injEq, List.cons.injEq, reduceCtorEq, ne_eq, not_false_eq_true, not_true_eq_false]
    try simp
  simp only [padA]
  (refine ev ?_; (try (with_reducible exact True.intro)))
  refine gsd (fun hd => ?_) (fun hd => ?_)
  · have hi' : i < l.length := by omega
    have nx := take_next l 0 i hi'
    (refine ev ?_; (try (with_reducible exact True.intro)))
    simp only [Int.toNat_natCast]
    repeat (((with_reducible refine And.intro ?_ ?_)); (focus (first | omega | (simp only [inR]; omega) | rfl | (simp [notinId, notin]; done) | exact Or.inr rfl | (intro i hi; (repeat' (with_reducible first | apply len_cut | apply len_shift | apply len_app | apply len_copy | intro j)) <;> first | rfl | (exact len_lit _ _ (by simp) rfl _) | (simp; done)))))
    refine e39 lo hi (l.getD i 0) ?_
    (refine ev ?_; (try (with_reducible exact True.intro)))
    repeat (((with_reducible refine And.intro ?_ ?_)); (focus (first | omega | (simp only [inR]; omega) | rfl | (simp [notinId, notin]; done) | exact Or.inr rfl | (intro i hi; (repeat' (with_reducible first | apply len_cut | apply len_shift | apply len_app | apply len_copy | intro j)) <;> first | rfl | (exact len_lit _ _ (by simp) rfl _) | (simp; done)))))
    refine gs (fun hb => ?_) (fun hb => ?_)
    · (refine ev ?_; (try (with_reducible exact True.intro)))
      repeat (((with_reducible refine And.intro ?_ ?_)); (focus (first | omega | (simp only [inR]; omega) | rfl | (simp [notinId, notin]; done) | exact Or.inr rfl | (intro i hi; (repeat' (with_reducible first | apply len_cut | apply len_shift | apply len_app | apply len_copy | intro j)) <;> first | rfl | (exact len_lit _ _ (by simp) rfl _) | (simp; done)))))
      refine h i ?_
      have : l.any (outB lo hi) = true := List.any_eq_true.2 ⟨_, getD_mem hi' 0, hb⟩
      rw [this]; simp
    · (refine ev ?_; (try (with_reducible exact True.intro)))
      repeat (((with_reducible refine And.intro ?_ ?_)); (focus (first | omega | (simp only [inR]; omega) | rfl | (simp [notinId, notin]; done) | exact Or.inr rfl | (intro i hi; (repeat' (with_reducible first | apply len_cut | apply len_shift | apply len_app | apply len_copy | intro j)) <;> first | rfl | (exact len_lit _ _ (by simp) rfl _) | (simp; done)))))
      refine ⟨i + 1, [0, 1], ⟨by omega, by rw [nx, List.any_append, h2]; simpa using hb⟩, by show l.length - (i + 1) < l.length - i; omega, ?_⟩
      simp only [padA, St.le, slotsLe, heapLe, blkLe, rowLe, live, injOn, loLe, nget, nlook, ren, okA, allP, mapA, hget, ABlk.used, notin, List.map_cons, List.map_nil, true_or, or_true, false_or, or_false, true_and, and_true, and_self, AV.int.injEq, AV.bool.injEq, AV.str.injEq, AV.sl.injEq, AV.ro.injEq, AV.agg.injEq, List.cons.injEq, reduceCtorEq, ne_eq, not_false_eq_true, not_true_eq_false]; simp
  · have hi' : i = l.length := by omega
    subst hi'
    rw [List.take_length] at h2
    (refine ev ?_; (try (with_reducible exact True.intro)))
    refine h (-1) ?_
    rw [h2]; simp
theorem e38 (lo hi : Int) (l : List Int) (hl : l.length < 2 ^ 40) {R : AV → List ABlk → Prop} (h : R (.bool (l.any (outB lo hi))) [.box [.int .i64 lo], .box [.int .i64 hi]]) :
    EffC Try.prog 61 [intRow l, .fn (.func 62) [.ptr 0 0 0, .ptr 1 0 0]] [.box [.int .i64 lo], .box [.int .i64 hi]] R := by
  refine in61 (SH.Sem.of_wpA hm ?_)
  simp only [padA]
  simp only [Try.f61]
  (refine ev ?_; (try (with_reducible exact True.intro)))
  repeat (((with_reducible refine And.intro ?_ ?_)); (focus (first | omega | (simp only [inR]; omega) | rfl | (simp [notinId, notin]; done) | exact Or.inr rfl | (intro i hi; (repeat' (with_reducible first | apply len_cut | apply len_shift | apply len_app | apply len_copy | intro j)) <;> first | rfl | (exact len_lit _ _ (by simp) rfl _) | (simp; done)))))
  refine e41 lo hi l hl fun k hk => ?_
  (refine ev ?_; (try (with_reducible exact True.intro)))
  have e : decide (0 ≤ k) = l.any (outB lo hi) := by
    rw [Bool.eq_iff_iff, decide_eq_true_eq, hk]
  rw [e]
  exact h
def insideB (lo hi : Int) (l : List Int) : Bool := l.all fun x => decide (lo ≤ x) && decide (x ≤ hi)
theorem inside_any (lo hi : Int) (l : List Int) : (!l.any (outB lo hi)) = insideB lo hi l := by
  rw [List.any_eq_not_all_not, Bool.not_not, insideB]
  congr 1
  funext x
  simp only [outB, Bool.not_or]
  rw [← decide_not, ← decide_not]
  congr 1 <;> exact decide_eq_decide.2 (by omega)
theorem k30 (lo hi : Int) (l : List Int) (hl : l.length < 2 ^ 40) : Contract Try.prog 39 [.int .i64 lo, .int .i64 hi, intRow l] (.one (.val (.bool (insideB lo hi l)))) := by
  refine ct39 (SH.Sem.of_wpA hm ?_)
  simp only [padA]
  simp only [Try.f39]
  (refine ev ?_; (try (with_reducible exact True.intro)))
  repeat (((with_reducible refine And.intro ?_ ?_)); (focus (first | omega | (simp only [inR]; omega) | rfl | (simp [notinId, notin]; done) | exact Or.inr rfl | (intro i hi; (repeat' (with_reducible first | apply len_cut | apply len_shift | apply len_app | apply len_copy | intro j)) <;> first | rfl | (exact len_lit _ _ (by simp) rfl _) | (simp; done)))))
  refine e38 lo hi l hl ?_
  (refine ev ?_; (try (with_reducible exact True.intro)))
  simp [inside_any, notinId]
def rowBad (n : Int) (r : List Int) : Bool := decide (r.length = 0) || !insideB 0 (n - 1) r
theorem e32 (ow pr : List Int) (su : List (List Int)) (n : Int) (hn0 : 0 ≤ n) (hn1 : n < 2 ^ 40) (r : List Int) (hr : r.length < 2 ^ 40) {R : AV → List ABlk → Prop} (h : R (.bool (rowBad n r)) [.box [intRow ow, intRow pr, intRows su], .box [.int .i64 n]]) :
    EffC Try.prog 41 [intRow r, .ptr 1 0 0] [.box [intRow ow, intRow pr, intRows su], .box [.int .i64 n]] R := by
  refine in41 (SH.Sem.of_wpA hm ?_)
  simp only [padA]
  simp only [Try.f41]
  (refine ev ?_; (try (with_reducible exact True.intro)))
  repeat (((with_reducible refine And.intro ?_ ?_)); (focus (first | omega | (simp only [inR]; omega) | rfl | (simp [notinId, notin]; done) | exact Or.inr rfl | (intro i hi; (repeat' (with_reducible first | apply len_cut | apply len_shift | apply len_app | apply len_copy | intro j)) <;> first | rfl | (exact len_lit _ _ (by simp) rfl _) | (simp; done)))))
  refine gs (fun h1 => ?_) (fun h1 => ?_)
  · rw [rowBad, decide_eq_true (by simp at h1; simp [h1]), Bool.true_or] at h
    (refine ev ?_; (try (with_reducible exact True.intro)))
    repeat (((with_reducible refine And.intro ?_ ?_)); (focus (first | omega | (simp only [inR]; omega) | rfl | (simp [notinId, notin]; done) | exact Or.inr rfl | (intro i hi; (repeat' (with_reducible first | apply len_cut | apply len_shift | apply len_app | apply len_copy | intro j)) <;> first | rfl | (exact len_lit _ _ (by simp) rfl _) | (simp; done)))))
    exact h
  · rw [rowBad, decide_eq_false (by intro h; rw [h] at h1; cases h1), Bool.false_or] at h
    (refine ev ?_; (try (with_reducible exact True.intro)))
    repeat (((with_reducible refine And.intro ?_ ?_)); (focus (first | omega | (simp only [inR]; omega) | rfl | (simp [notinId, notin]; done) | exact Or.inr rfl | (intro i hi; (repeat' (with_reducible first | apply len_cut | apply len_shift | apply len_app | apply len_copy | intro j)) <;> first | rfl | (exact len_lit _ _ (by simp) rfl _) | (simp; done)))))
    refine EffC.use (k30 0 (n - 1) r hr) ?_ (.inl rfl) ?_
    · ((refine evL ?_; (try (with_reducible exact True.intro))) <;> (try simp (disch := (first | omega | (simp only [List.length_append, List.length_cons, List.length_nil, List.length_take, List.length_drop, List.length_map, List.length_nil] <;> omega) | fail)) only [cutF_all, strOf_enc, appF_zero, appF_enc, lit_byte, shiftF_enc, shiftF_0, cutF_enc, List.nil_append, List.drop_zero, List.take_of_length_le]) <;> (repeat' (with_reducible refine And.intro ?_ ?_)) <;> first | trivial | rfl | (intros; first | rfl | trivial; done) | (first | omega | (simp only [List.length_append, List.length_cons, List.length_nil, List.length_take, List.length_drop, List.length_map, List.length_nil] <;> omega) | fail))
    (refine ev ?_; (try (with_reducible exact True.intro)))
    repeat (((with_reducible refine And.intro ?_ ?_)); (focus (first | omega | (simp only [inR]; omega) | rfl | (simp [notinId, notin]; done) | exact Or.inr rfl | (intro i hi; (repeat' (with_reducible first | apply len_cut | apply len_shift | apply len_app | apply len_copy | intro j)) <;> first | rfl | (exact len_lit _ _ (by simp) rfl _) | (simp; done)))))
    exact h
theorem e40 (ow pr : List Int) (su : List (List Int)) (n : Int) (hn0 : 0 ≤ n) (hn1 : n < 2 ^ 40) (l : List (List Int)) (hl : l.length < 2 ^ 40) (hr : ∀ r ∈ l, r.length < 2 ^ 40) {R : AV → List ABlk → Prop} (h : ∀ k : Int, (0 ≤ k) = (l.any (rowBad n) = true) → R (.int .i64 k) [.box [intRow ow, intRow pr, intRows su], .box [.int .i64 n]]) :
    EffC Try.prog 63 [intRows l, .fn (.func 41) [.ptr 1 0 0]] [.box [intRow ow, intRow pr, intRows su], .box [.int .i64 n]] R := by
  refine in63 (SH.Sem.of_wpA hm ?_)
  simp only [padA]
  simp only [Try.f63]
  (refine ev ?_; (try (with_reducible exact True.intro)))
  repeat (((with_reducible refine And.intro ?_ ?_)); (focus (first | omega | (simp only [inR]; omega) | rfl | (simp [notinId, notin]; done) | exact Or.inr rfl | (intro i hi; (repeat' (with_reducible first | apply len_cut | apply len_shift | apply len_app | apply len_copy | intro j)) <;> first | rfl | (exact len_lit _ _ (by simp) rfl _) | (simp; done)))))
  refine SH.Sem.loop hm (fun i : Nat => ⟨padA [intRows l, .fn (.func 41) [.ptr 1 0 0], .undef, .undef, .undef, .undef, .undef, .int .i64 l.length, .int .i64 i] 19, [.box [intRow ow, intRow pr, intRows su], .box [.int .i64 n]]⟩) (fun i => i ≤ l.length ∧ (l.take i).any (rowBad n) = false) (fun i => l.length - i) [0, 1] 0 ⟨by omega, rfl⟩ ?_ fun i ⟨h1, h2⟩ => ?_
  · simp only [padA, St.le, slotsLe, heapLe, blkLe, rowLe, live, injOn, loLe, nget, nlook, ren, okA, allP, mapA, hget, ABlk.used, notin, List.map_cons, List.map_nil, true_or, or_true, false_or, or_false, true_and, and_true, and_self, AV.int.injEq, AV.bool.injEq, AV.str.injEq, AV.sl.injEq, AV.ro.injEq, AV.agg.injEq, List.cons.injEq, reduceCtorEq, ne_eq, not_false_eq_true, not_true_eq_false]
    try simp
  simp only [padA]
  (refine ev ?_; (try (with_reducible exact True.intro)))
  refine gsd (fun hd => ?_) (fun hd => ?_)
  · have hi' : i < l.length := by omega
    have nx := take_next l [] i hi'
    (refine ev ?_; (try (with_reducible exact True.intro)))
    simp only [Int.toNat_natCast]
    repeat (((with_reducible refine And.intro ?_ ?_)); (focus (first | omega | (simp only [inR]; omega) | rfl | (simp [notinId, notin]; done) | exact Or.inr rfl | (intro i hi; (repeat' (with_reducible first | apply len_cut | apply len_shift | apply len_app | apply len_copy | intro j)) <;> first | rfl | (exact len_lit _ _ (by simp) rfl _) | (simp; done)))))
    refine e32 ow pr su n hn0 hn1 (l.getD i []) (hr _ (getD_mem hi' [])) ?_
    (refine ev ?_; (try (with_reducible exact True.intro)))
    repeat (((with_reducible refine And.intro ?_ ?_)); (focus (first | omega | (simp only [inR]; omega) | rfl | (simp [notinId, notin]; done) | exact Or.inr rfl | (intro i hi; (repeat' (with_reducible first | apply len_cut | apply len_shift | apply len_app | apply len_copy | intro j)) <;> first | rfl | (exact len_lit _ _ (by simp) rfl _) | (simp; done)))))
    refine gs (fun hb => ?_) (fun hb => ?_)
    · (refine ev ?_; (try (with_reducible exact True.intro)))
      repeat (((with_reducible refine And.intro ?_ ?_)); (focus (first | omega | (simp only [inR]; omega) | rfl | (simp [notinId, notin]; done) | exact Or.inr rfl | (intro i hi; (repeat' (with_reducible first | apply len_cut | apply len_shift | apply len_app | apply len_copy | intro j)) <;> first | rfl | (exact len_lit _ _ (by simp) rfl _) | (simp; done)))))
      refine h i ?_
      have : l.any (rowBad n) = true := List.any_eq_true.2 ⟨_, getD_mem hi' [], hb⟩
      rw [this]; simp
    · (refine ev ?_; (try (with_reducible exact True.intro)))
      repeat (((with_reducible refine And.intro ?_ ?_)); (focus (first | omega | (simp only [inR]; omega) | rfl | (simp [notinId, notin]; done) | exact Or.inr rfl | (intro i hi; (repeat' (with_reducible first | apply len_cut | apply len_shift | apply len_app | apply len_copy | intro j)) <;> first | rfl | (exact len_lit _ _ (by simp) rfl _) | (simp; done)))))
      refine ⟨i + 1, [0, 1], ⟨by omega, by rw [nx, List.any_append, h2]; simpa using hb⟩, by show l.length - (i + 1) < l.length - i; omega, ?_⟩
      simp only [padA, St.le, slotsLe, heapLe, blkLe, rowLe, live, injOn, loLe, nget, nlook, ren, okA, allP, mapA, hget, ABlk.used, notin, List.map_cons, List.map_nil, true_or, or_true, false_or, or_false, true_and, and_true, and_self, AV.int.injEq, AV.bool.injEq, AV.str.injEq, AV.sl.injEq, AV.ro.injEq, AV.agg.injEq, List.cons.injEq, reduceCtorEq, ne_eq, not_false_eq_true, not_true_eq_false]; simp
  · have hi' : i = l.length := by omega
    subst hi'
    rw [List.take_length] at h2
    (refine ev ?_; (try (with_reducible exact True.intro)))
    refine h (-1) ?_
    rw [h2]; simp
theorem e31 (ow pr : List Int) (su : List (List Int)) (n : Int) (hn0 : 0 ≤ n) (hn1 : n < 2 ^ 40) (l : List (List Int)) (hl : l.length < 2 ^ 40) (hr : ∀ r ∈ l, r.length < 2 ^ 40) {R : AV → List ABlk → Prop} (h : R (.bool (l.any (rowBad n))) [.box [intRow ow, intRow pr, intRows su], .box [.int .i64 n]]) :
    EffC Try.prog 40 [intRows l, .fn (.func 41) [.ptr 1 0 0]] [.box [intRow ow, intRow pr, intRows su], .box [.int .i64 n]] R := by
  refine in40 (SH.Sem.of_wpA hm ?_)
  simp only [padA]
  simp only [Try.f40]
  (refine ev ?_; (try (with_reducible exact True.intro)))
  repeat (((with_reducible refine And.intro ?_ ?_)); (focus (first | omega | (simp only [inR]; omega) | rfl | (simp [notinId, notin]; done) | exact Or.inr rfl | (intro i hi; (repeat' (with_reducible first | apply len_cut | apply len_shift | apply len_app | apply len_copy | intro j)) <;> first | rfl | (exact len_lit _ _ (by simp) rfl _) | (simp; done)))))
  refine e40 ow pr su n hn0 hn1 l hl hr fun k hk => ?_
  (refine ev ?_; (try (with_reducible exact True.intro)))
  have e : decide (0 ≤ k) = l.any (rowBad n) := by
    rw [Bool.eq_iff_iff, decide_eq_true_eq, hk]
  rw [e]
  exact h
theorem validB_eq (ow pr : List Int) (su : List (List Int)) (h1 : ow.length ≤ 3000) (h2 : pr.length = ow.length) (h3 : su.length = ow.length) :
    validB ow pr su = (insideB 0 1 ow && (insideB 0 30000 pr && !su.any (rowBad ow.length))) := by
  have all_range : ∀ {α : Type} (l : List α) (d : α) (p : α → Bool), l.all p = (List.range l.length).all fun i => p (l.getD i d) := by
    intro α l d p
    rw [Bool.eq_iff_iff, List.all_eq_true, List.all_eq_true]
    constructor
    · intro h i hi; exact h _ (getD_mem (List.mem_range.1 hi) d)
    · intro h x hx
      obtain ⟨i, hi, rfl⟩ := List.getElem_of_mem hx
      have := h i (List.mem_range.2 hi)
      rw [List.getD_eq_getElem?_getD, List.getElem?_eq_getElem hi] at this
      exact this
  rw [validB, decide_eq_true h1, decide_eq_true h2, decide_eq_true h3, Bool.true_and, Bool.true_and, Bool.true_and]
  have e : (!su.any (rowBad ow.length)) = su.all fun r => !rowBad ow.length r := by rw [List.any_eq_not_all_not, Bool.not_not]
  rw [e, insideB, insideB, all_range ow 0, all_range pr 0, all_range su [], h2, h3]
  rw [Bool.eq_iff_iff]
  simp only [Bool.and_eq_true, List.all_eq_true, List.mem_range]
  constructor
  · intro h
    refine ⟨fun i hi => ?_, fun i hi => ?_, fun i hi => ?_⟩
    all_goals (
      have := h i hi
      simp only [posB, Bool.and_eq_true, Bool.or_eq_true, beq_iff_eq, decide_eq_true_eq, List.all_eq_true] at this
      obtain ⟨⟨⟨⟨t1, t2⟩, t3⟩, t4⟩, t5⟩ := this)
    · simp only [decide_eq_true_eq]; omega
    · simp only [decide_eq_true_eq]; omega
    · simp only [rowBad, Bool.not_or, Bool.not_not, Bool.and_eq_true, Bool.not_eq_true', decide_eq_false_iff_not, insideB, List.all_eq_true, decide_eq_true_eq]
      exact ⟨by omega, fun x hx => by have := t5 x hx; omega⟩
  · rintro ⟨g1, g2, g3⟩ i hi
    have a1 := g1 i hi
    have a2 := g2 i hi
    have a3 := g3 i hi
    simp only [rowBad, Bool.not_or, Bool.not_not, Bool.and_eq_true, Bool.not_eq_true', decide_eq_false_iff_not, insideB, List.all_eq_true, decide_eq_true_eq] at a1 a2 a3
    simp only [posB, Bool.and_eq_true, Bool.or_eq_true, beq_iff_eq, decide_eq_true_eq, List.all_eq_true]
    exact ⟨⟨⟨⟨by omega, by omega⟩, by omega⟩, by omega⟩, fun x hx => by have := a3.2 x hx; omega⟩
theorem k23 (ow pr : List Int) (su : List (List Int)) (ho : ow.length < 2 ^ 40) (hp : pr.length < 2 ^ 40) (hs : su.length < 2 ^ 40) (hsu : ∀ r ∈ su, r.length < 2 ^ 40) : Contract Try.prog 16 [game ow pr su] (.one (.val (.bool (validB ow pr su)))) := by
  refine ct16 (SH.Sem.of_wpA hm ?_)
  simp only [padA]
  simp only [Try.f16]
  (refine ev ?_; (try (with_reducible exact True.intro)))
  repeat (((with_reducible refine And.intro ?_ ?_)); (focus (first | omega | (simp only [inR]; omega) | rfl | (simp [notinId, notin]; done) | exact Or.inr rfl | (intro i hi; (repeat' (with_reducible first | apply len_cut | apply len_shift | apply len_app | apply len_copy | intro j)) <;> first | rfl | (exact len_lit _ _ (by simp) rfl _) | (simp; done)))))
  refine gsd (fun h1 => ?_) (fun h1 => ?_)
  · (refine ev ?_; (try (with_reducible exact True.intro)))
    repeat (((with_reducible refine And.intro ?_ ?_)); (focus (first | omega | (simp only [inR]; omega) | rfl | (simp [notinId, notin]; done) | exact Or.inr rfl | (intro i hi; (repeat' (with_reducible first | apply len_cut | apply len_shift | apply len_app | apply len_copy | intro j)) <;> first | rfl | (exact len_lit _ _ (by simp) rfl _) | (simp; done)))))
    simp [validB_no (ow := ow) (pr := pr) (su := su) (.inl (by omega)), notinId]
  (refine ev ?_; (try (with_reducible exact True.intro)))
  repeat (((with_reducible refine And.intro ?_ ?_)); (focus (first | omega | (simp only [inR]; omega) | rfl | (simp [notinId, notin]; done) | exact Or.inr rfl | (intro i hi; (repeat' (with_reducible first | apply len_cut | apply len_shift | apply len_app | apply len_copy | intro j)) <;> first | rfl | (exact len_lit _ _ (by simp) rfl _) | (simp; done)))))
  refine gs (fun h2 => ?_) (fun h2 => ?_)
  · (refine ev ?_; (try (with_reducible exact True.intro)))
    simp [validB_no (ow := ow) (pr := pr) (su := su) (.inr (.inl (by simp at h2; omega))), notinId]
  (refine ev ?_; (try (with_reducible exact True.intro)))
  repeat (((with_reducible refine And.intro ?_ ?_)); (focus (first | omega | (simp only [inR]; omega) | rfl | (simp [notinId, notin]; done) | exact Or.inr rfl | (intro i hi; (repeat' (with_reducible first | apply len_cut | apply len_shift | apply len_app | apply len_copy | intro j)) <;> first | rfl | (exact len_lit _ _ (by simp) rfl _) | (simp; done)))))
  refine gs (fun h3 => ?_) (fun h3 => ?_)
  · (refine ev ?_; (try (with_reducible exact True.intro)))
    simp [validB_no (ow := ow) (pr := pr) (su := su) (.inr (.inr (.inl (by simp at h3; omega)))), notinId]
  have e := validB_eq ow pr su (by omega) (by simp at h2; omega) (by simp at h3; omega)
  rw [e]
  (refine ev ?_; (try (with_reducible exact True.intro)))
  repeat (((with_reducible refine And.intro ?_ ?_)); (focus (first | omega | (simp only [inR]; omega) | rfl | (simp [notinId, notin]; done) | exact Or.inr rfl | (intro i hi; (repeat' (with_reducible first | apply len_cut | apply len_shift | apply len_app | apply len_copy | intro j)) <;> first | rfl | (exact len_lit _ _ (by simp) rfl _) | (simp; done)))))
  refine EffC.use (k30 0 1 ow ho) ?_ (.inl rfl) ?_
  · ((refine evL ?_; (try (with_reducible exact True.intro))) <;> (try simp (disch := (first | omega | (simp only [List.length_append, List.length_cons, List.length_nil, List.length_take, List.length_drop, List.length_map, List.length_nil] <;> omega) | fail)) only [cutF_all, strOf_enc, appF_zero, appF_enc, lit_byte, shiftF_enc, shiftF_0, cutF_enc, List.nil_append, List.drop_zero, List.take_of_length_le]) <;> (repeat' (with_reducible refine And.intro ?_ ?_)) <;> first | trivial | rfl | (intros; first | rfl | trivial; done) | (first | omega | (simp only [List.length_append, List.length_cons, List.length_nil, List.length_take, List.length_drop, List.length_map, List.length_nil] <;> omega) | fail))
  (refine ev ?_; (try (with_reducible exact True.intro)))
  repeat (((with_reducible refine And.intro ?_ ?_)); (focus (first | omega | (simp only [inR]; omega) | rfl | (simp [notinId, notin]; done) | exact Or.inr rfl | (intro i hi; (repeat' (with_reducible first | apply len_cut | apply len_shift | apply len_app | apply len_copy | intro j)) <;> first | rfl | (exact len_lit _ _ (by simp) rfl _) | (simp; done)))))
  cases insideB 0 1 ow
  · (refine ev ?_; (try (with_reducible exact True.intro)))
    simp [notinId]
  (refine ev ?_; (try (with_reducible exact True.intro)))
  repeat (((with_reducible refine And.intro ?_ ?_)); (focus (first | omega | (simp only [inR]; omega) | rfl | (simp [notinId, notin]; done) | exact Or.inr rfl | (intro i hi; (repeat' (with_reducible first | apply len_cut | apply len_shift | apply len_app | apply len_copy | intro j)) <;> first | rfl | (exact len_lit _ _ (by simp) rfl _) | (simp; done)))))
  refine EffC.use (k30 0 30000 pr hp) ?_ (.inl rfl) ?_
  · ((refine evL ?_; (try (with_reducible exact True.intro))) <;> (try simp (disch := (first | omega | (simp only [List.length_append, List.length_cons, List.length_nil, List.length_take, List.length_drop, List.length_map, List.length_nil] <;> omega) | fail)) only [cutF_all, strOf_enc, appF_zero, appF_enc, lit_byte, shiftF_enc, shiftF_0, cutF_enc, List.nil_append, List.drop_zero, List.take_of_length_le]) <;> (repeat' (with_reducible refine And.intro ?_ ?_)) <;> first | trivial | rfl | (intros; first | rfl | trivial; done) | (first | omega | (simp only [List.length_append, List.length_cons, List.length_nil, List.length_take, List.length_drop, List.length_map, List.length_nil] <;> omega) | fail))
  (refine ev ?_; (try (with_reducible exact True.intro)))
  repeat (((with_reducible refine And.intro ?_ ?_)); (focus (first | omega | (simp only [inR]; omega) | rfl | (simp [notinId, notin]; done) | exact Or.inr rfl | (intro i hi; (repeat' (with_reducible first | apply len_cut | apply len_shift | apply len_app | apply len_copy | intro j)) <;> first | rfl | (exact len_lit _ _ (by simp) rfl _) | (simp; done)))))
  cases insideB 0 30000 pr
  · (refine ev ?_; (try (with_reducible exact True.intro)))
    simp [notinId]
  (refine ev ?_; (try (with_reducible exact True.intro)))
  repeat (((with_reducible refine And.intro ?_ ?_)); (focus (first | omega | (simp only [inR]; omega) | rfl | (simp [notinId, notin]; done) | exact Or.inr rfl | (intro i hi; (repeat' (with_reducible first | apply len_cut | apply len_shift | apply len_app | apply len_copy | intro j)) <;> first | rfl | (exact len_lit _ _ (by simp) rfl _) | (simp; done)))))
  refine e31 ow pr su (ow.length : Nat) (by omega) (by omega) su hs hsu ?_
  (refine ev ?_; (try (with_reducible exact True.intro)))
  simp [notinId]
end Go.Proofs.Ythkgnnndlocbbaa
