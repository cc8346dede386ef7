/-
  The attractors' Attract and Closed: what they return. No condition.
-/
import Derived.Test.YthkgnnndlocbbaaKk
namespace Go.Proofs.Ythkgnnndlocbbaa
set_option linter.unusedVariables false
set_option linter.unusedSimpArgs false
open Go Go.SH
set_option maxRecDepth 10000
set_option maxHeartbeats 4000000
set_option linter.unusedSectionVars false
section
variable {ow : List Int} {su : List (List Int)} {pl : Int} {s : List Bool}
theorem rin_mv {i : Nat} (hi : i < s.length) : rin ow su pl s s.length i = decide (0 ≤ mvR ow su pl s s.length i) := by
  cases h : rin ow su pl s s.length i
  · rw [mvR_neg hi h]; rfl
  · obtain ⟨j, h1, h2, h3⟩ := rin_first h
    rw [mvR_at h1 h2 h3]; simp
theorem rounds_fst : (rounds ow su pl s s.length).1 = (List.range s.length).map fun i => decide (0 ≤ mvR ow su pl s s.length i) := by
  apply List.ext_getElem (by simp [(rounds_length ow su pl s s.length).1])
  intro i h1 h2
  have hi : i < s.length := by simpa using h2
  rw [List.getElem_map, List.getElem_range, ← rin_mv hi, rin, List.getD_eq_getElem?_getD, List.getElem?_eq_getElem h1]; rfl
/-- What one player cannot force, the other one can prevent. -/
theorem can_dual {f : Nat → Bool} {i : Nat} (hp : pl = 0 ∨ pl = 1) (ho : ow.getD i 0 = 0 ∨ ow.getD i 0 = 1) : canF ow su pl (fun k => !f k) i = !canF ow su (1 - pl) f i := by
  unfold canF
  by_cases h : ow.getD i 0 = pl
  · rw [if_pos h, if_neg (by omega)]
    generalize su.getD i [] = l
    induction l with
    | nil => rfl
    | cons a l ih => simp only [List.any_cons, List.all_cons, ih, Bool.not_and]
  · rw [if_neg h, if_pos (by omega)]
    generalize su.getD i [] = l
    induction l with
    | nil => rfl
    | cons a l ih => simp only [List.any_cons, List.all_cons, ih, Bool.not_or]
theorem getD_map_not (s : List Bool) (i : Nat) (hi : i < s.length) : (s.map not).getD i false = !s.getD i false := by
  rw [List.getD_eq_getElem?_getD, List.getElem?_map, List.getD_eq_getElem?_getD, List.getElem?_eq_getElem hi]; rfl
/-- What the other one cannot reach. -/
def outR (ow : List Int) (su : List (List Int)) (pl : Int) (s : List Bool) (k i : Nat) : Bool := !rin ow su (1 - pl) (s.map not) k i
theorem sweep1_getD (x : List Bool) (i q : Nat) : (sweep1 ow su pl x i).getD q false = (x.getD q false && !(decide (q = i) && !canF ow su pl (fun k => x.getD k false) q)) := by
  unfold sweep1
  split
  · rename_i h
    rw [canB_F] at h
    have hi : i < x.length := by
      rcases Nat.lt_or_ge i x.length with h1 | h1
      · exact h1
      · rw [getD_ge _ _ _ h1] at h; cases h.1
    rw [getD_set _ _ _ _ _ hi]
    by_cases hq : q = i
    · subst hq; rw [if_pos rfl, h.2]; simp
    · simp [hq]
  · rename_i h
    rw [canB_F] at h
    by_cases hq : q = i
    · subst hq
      cases h1 : x.getD q false
      · rfl
      · cases h2 : canF ow su pl (fun k => x.getD k false) q
        · exact absurd ⟨h1, h2⟩ h
        · simp
    · simp [hq]
theorem sweepTo_sub (x : List Bool) : ∀ (i q : Nat), (sweepTo ow su pl x i).getD q false = true → x.getD q false = true
  | 0, q, h => h
  | i + 1, q, h => by
    rw [sweepTo, sweep1_getD, Bool.and_eq_true] at h
    exact sweepTo_sub x i q h.1
theorem sweepTo_hit (x : List Bool) : ∀ (i q : Nat), q < i → (sweepTo ow su pl x i).getD q false = true → canF ow su pl (fun k => x.getD k false) q = true
  | 0, q, hq, _ => by omega
  | i + 1, q, hq, h => by
    rw [sweepTo, sweep1_getD, Bool.and_eq_true] at h
    by_cases hqi : q = i
    · subst hqi
      have h2 := h.2
      simp only [decide_true, Bool.true_and, Bool.not_not] at h2
      exact canF_mono (fun t _ ht => sweepTo_sub x _ _ ht) h2
    · exact sweepTo_hit x i q (by omega) h.1
section
variable (hp : pl = 0 ∨ pl = 1) (ho : ∀ i, i < s.length → (ow.getD i 0 = 0 ∨ ow.getD i 0 = 1)) (hs : ∀ i, i < s.length → ∀ t ∈ su.getD i [], t.toNat < s.length)
include hp ho hs
theorem out_succ {k i : Nat} (hi : i < s.length) : outR ow su pl s (k + 1) i = (outR ow su pl s k i && canF ow su pl (outR ow su pl s k) i) := by
  have h1 := can_dual (ow := ow) (su := su) (f := rin ow su (1 - pl) (s.map not) k) (i := i) hp (ho i hi)
  show (!rin ow su (1 - pl) (s.map not) (k + 1) i) = _
  rw [rin_succ (by simpa using hi), Bool.not_or, ← h1]; rfl
theorem sweeps_le : ∀ (k q : Nat), q < s.length → (sweeps ow su pl s k).getD q false = true → outR ow su pl s k q = true
  | 0, q, hq, h => by
    show (!(s.map not).getD q false) = true
    rw [getD_map_not s q hq, Bool.not_not]; exact h
  | k + 1, q, hq, h => by
    have hl := sweeps_length ow su pl s k
    rw [sweeps] at h
    have h1 := sweeps_le k q hq (sweepTo_sub _ _ _ h)
    have h2 := sweepTo_hit _ _ q (by omega) h
    rw [out_succ hp ho hs hq, h1, Bool.true_and]
    exact canF_mono (fun t ht e => sweeps_le k _ (hs q hq t ht) e) h2
theorem out_fix {i : Nat} (hi : i < s.length) (h : outR ow su pl s s.length i = true) : canF ow su pl (outR ow su pl s s.length) i = true := by
  have h1 : outR ow su pl s (s.length + 1) i = true := by
    have h2 : rin ow su (1 - pl) (s.map not) (s.length + 1) i = false := by
      rw [← Bool.not_eq_true]; intro h3
      have := rin_all h3
      rw [List.length_map] at this
      rw [outR, this] at h; cases h
    rw [outR, h2]; rfl
  rw [out_succ hp ho hs hi, Bool.and_eq_true] at h1
  exact h1.2
theorem sweepTo_ge {x : List Bool} (hx : ∀ q, q < s.length → outR ow su pl s s.length q = true → x.getD q false = true) : ∀ (i q : Nat), q < s.length → outR ow su pl s s.length q = true → (sweepTo ow su pl x i).getD q false = true
  | 0, q, hq, h => hx q hq h
  | i + 1, q, hq, h => by
    rw [sweepTo, sweep1_getD, sweepTo_ge hx i q hq h]
    have : canF ow su pl (fun k => (sweepTo ow su pl x i).getD k false) q = true := canF_mono (fun t ht e => sweepTo_ge hx i _ (hs q hq t ht) e) (out_fix hp ho hs hq h)
    rw [this]; simp
theorem sweeps_ge : ∀ (k q : Nat), q < s.length → outR ow su pl s s.length q = true → (sweeps ow su pl s k).getD q false = true
  | 0, q, hq, h => by
    have h0 : outR ow su pl s 0 q = true := by
      have h2 : rin ow su (1 - pl) (s.map not) 0 q = false := by
        rw [← Bool.not_eq_true]; intro h3
        have := rin_le (Nat.zero_le s.length) h3
        rw [outR, this] at h; cases h
      rw [outR, h2]; rfl
    have h1 : (!(s.map not).getD q false) = true := h0
    rw [getD_map_not s q hq, Bool.not_not] at h1; exact h1
  | k + 1, q, hq, h => by
    rw [sweeps]
    exact sweepTo_ge hp ho hs (fun q hq h => sweeps_ge k q hq h) _ q hq h
/-- The greatest part in which a player can stay is what the other one does not attract to the complement. -/
theorem sweeps_out : sweeps ow su pl s (s.length + 1) = (List.range s.length).map fun i => decide (mvR ow su (1 - pl) (s.map not) s.length i < 0) := by
  apply List.ext_getElem (by simp [sweeps_length])
  intro i h1 h2
  have hi : i < s.length := by simpa using h2
  have e1 : (sweeps ow su pl s (s.length + 1))[i] = (sweeps ow su pl s (s.length + 1)).getD i false := by rw [List.getD_eq_getElem?_getD, List.getElem?_eq_getElem h1]; rfl
  have e2 : decide (mvR ow su (1 - pl) (s.map not) s.length i < 0) = outR ow su pl s s.length i := by
    have := rin_mv (ow := ow) (su := su) (pl := 1 - pl) (s := s.map not) (i := i) (by simpa using hi)
    rw [List.length_map] at this
    rw [outR, this, Bool.eq_iff_iff]; simp
  rw [List.getElem_map, List.getElem_range, e1, e2, Bool.eq_iff_iff]
  constructor
  · intro h
    have h1 := sweeps_le hp ho hs _ i hi h
    rw [out_succ hp ho hs hi, Bool.and_eq_true] at h1
    exact h1.1
  · exact sweeps_ge hp ho hs _ i hi
end
end
section
variable {n i : Nat} {f g : Nat → Bool}
theorem encb_upd1 (hi : i < n) (x : Bool) (hx : x = f i) : updF (encL cBool false (partL n f g i)) i [.bool x] = encL cBool false (partL n f g (i + 1)) := by
  rw [← partL_set hi x hx]
  exact updF_enc (e := cBool) x (by rw [partL_length]; exact hi)
theorem encb0 (q : Nat) (hq : q < n) : constF [AV.bool false] q = encL cBool false (partL n f (fun _ => false) 0) q := by
  rw [encL, partL_getD q hq]; rfl
end
theorem k11g (ow pr : List Int) (su : List (List Int)) (pl : Int) (s : List Bool) (ho : ow.length < 2 ^ 40) (hp : pr.length < 2 ^ 40) (hs : su.length < 2 ^ 40) (hsu1 : ∀ r ∈ su, r.length ≤ 2 ^ 20) :
    ∀ r : AR, (r = .tup [.val (boolRow (refAttract ow pr su pl s).1), .val (intRow (refAttract ow pr su pl s).2)] ∨ r = .tup [.vec 1 (refAttract ow pr su pl s).1.length (encL cBool false (refAttract ow pr su pl s).1), .vec 1 (refAttract ow pr su pl s).2.length (encL (cInt .i64) 0 (refAttract ow pr su pl s).2)]) → Contract Try.prog 13 [game ow pr su, .int .i64 pl, boolRow s] r := by
  intro r hr0
  refine ct13 (SH.Sem.of_wpA hm ?_)
  simp only [padA]
  simp only [Try.f13, Option.getD, w_skip, w_reg, w_regd, w_seq, w_cond, w_block, w_loop, w_rf, w_exit, w_ret, f_ok, f_call, f_yield, yK_cons, a_normal, r_normal, r_ret, r_exit, rg_cons, putL, frz, beq_self_eq_true, Nat.reduceBEq, updG_same, f_bad, cK_nil, cK_cons, v_nil, v_cons, gK_tt, gK_ff, gK_tf, gK_ft, dK_go, d_nil, d_cons, gD_tt, gD_ff, gD_tf, gD_ft, eC_one, eC_tup, eC_own, eE_ok, eE_bad, eD, eff, eBin, eEq, eUn, eConv, eLen, eMin, eMax, eField, eFieldAddr, eIndex, eIndexAddr, eSlice, eLoad, eStore, eAlloc, eBox, eBuild, eBuildSlice, eMake, eAppend, eCopy, eMakeMap, eMapUpdate, eLookup, lookV, optN, eNil, ePick, eExtract, E.pure, Eff.only, Eff.notB, evalA, AV.ofV, AV.ofC, sget, sput, putA, applyU, hset, hget, hlen, alen, takeA, dropA, spliceA, mapA, allA, lget, oget, pget, tget, cellsA, AV.one, AV.goneB, partA, partC, TK.isAgg, nilish, natA, natC, loN, hiN, optC, roCut, loadP, loadC, aggOr, fillA, fillC, allPos, partsC, partsCells, partsAll, kills, killIds, liveAll, gnd, srcOf, inBlk, mapO, mapP, Go.SH.IntKind.uns, TK.flat, eqSc, eqScC, eqFs, eqFsC, seqK, blockK, condK, l_exit, l_ret, retK, retS, rsV, rsC, allT, padA, mapT, glook, bsel, gsplit_true, gsplit_false, resOf, resIds, resAll, nodupN, notin, like, like1, likeL, likeAll, AV.np, AV.gb, idsR, idsM, retI, retR, reify, AR.v, AR.u, AR.nv, nvec, impV, impU, isAlloc, callOf, countA, upIds, Option.map_none, Option.map_some, Option.isSome_some, Option.isSome_none, List.map_cons, List.map_nil, true_and, and_true, List.cons_append, List.nil_append, List.append_nil, List.length_cons, List.length_nil, List.nodup_nil, List.not_mem_nil, not_false_eq_true, ne_eq, reduceCtorEq, Bool.and_true, Bool.true_and, Bool.not_true, Bool.not_false, if_true, if_false, reduceIte, en_byte, en_byte', en_int, en_int', en_bool, en_bool', en_str, en_str', en_row, en_row', sh_at, sh_at', and_assoc, Nat.zero_add, Nat.add_zero, Nat.reduceAdd, appF_zero, Option.isNone_none, Option.isNone_some, en_byteL, en_intL, en_rowL, Int.reduceToNat, Nat.mul_one, Nat.one_mul, Nat.zero_mul, Nat.reduceMul, Nat.reduceSub, Nat.sub_zero, bne_self_eq_false, ti1, ti2, ti3, ti4, ti5, ti6, ti7, ti8, ti9, ti10, ti11, ti12, ti13, ti14, ti15, ti16, ti17, ti18, ti19, ti21, ti22, ti23, ti24, ti25, ti26, ti27, ti28, ti30, ti31, ti33, ti34, ti35, ti36, ti37, ti38, ti39, ti40, ti41, ti42, ti43, ti45, ti46, ti47, ti48, ti49, ti50, ti51, ti52, ti53, ti54, ti55, ti57, ti58, ti59, ti60, ti61, ti62, ti63, ti64, ti65, ti66, ti67, ti68, ti69, ti70, ti71, ti72, ti73, ti74, ti75, ti76, ti77, ti78, ti79, ti80, ti81, ti82, ti83, ti85, ti86, ti87, ti88, ti89, ti90, ti91, ti92, ti93, ti94, ti95, ti96, ti97, ti98, ti99, ti100, ti101, ti102, ti103, ti104, ti105, ti106, ti107, ti108, ti109]
  repeat (((with_reducible refine And.intro ?_ ?_)); (focus (first | omega | (simp only [inR]; omega) | rfl | (simp [notinId, notin]; done) | exact Or.inr rfl | (intro i hi; (repeat' (with_reducible first | apply len_cut | apply len_shift | apply len_app | apply len_copy | intro j)) <;> first | rfl | (exact len_lit _ _ (by simp) rfl _) | (simp; done)))))
  have a25 := k25 ow pr su pl s ho hp hs hsu1
  cases hr : rightB ow pr su pl s
  · have e : openR ow pr su pl s = .tup [.val (.agg [.raw (.slice none 0 0), .raw (.slice none 0 0), .raw (.slice none 0 0), .raw (.slice none 0 0)]), .val (.bool false)] := by rw [openR, hr]; rfl
    rw [e] at a25
    refine EffC.use a25 ?_ (.inr rfl) ?_
    · ((refine evL ?_; (try (with_reducible exact True.intro))) <;> (try simp (disch := (first | omega | (simp only [List.length_append, List.length_cons, List.length_nil, List.length_take, List.length_drop, List.length_map, List.length_nil] <;> omega) | fail)) only [cutF_all, strOf_enc, appF_zero, appF_enc, lit_byte, shiftF_enc, shiftF_0, cutF_enc, List.nil_append, List.drop_zero, List.take_of_length_le]) <;> (repeat' (with_reducible refine And.intro ?_ ?_)) <;> first | trivial | rfl | (intros; first | rfl | trivial; done) | (first | omega | (simp only [List.length_append, List.length_cons, List.length_nil, List.length_take, List.length_drop, List.length_map, List.length_nil] <;> omega) | fail))
    have et : refAttract ow pr su pl s = ([], []) := by rw [refAttract, hr]; rfl
    rw [et] at hr0
    rcases hr0 with rfl | rfl
    · (refine ev ?_; (try (with_reducible exact True.intro)))
      simp [notinId, Value.oneCell']
    · (refine ev ?_; (try (with_reducible exact True.intro)))
      simp [notinId, Value.oneCell']
  have e : openR ow pr su pl s = .tup [.val (.agg [intRow ow, intRow pr, intRows su, intRows (befs su ow.length)]), .val (.bool true)] := by rw [openR, hr]; rfl
  rw [e] at a25
  refine EffC.use a25 ?_ (.inr rfl) ?_
  · ((refine evL ?_; (try (with_reducible exact True.intro))) <;> (try simp (disch := (first | omega | (simp only [List.length_append, List.length_cons, List.length_nil, List.length_take, List.length_drop, List.length_map, List.length_nil] <;> omega) | fail)) only [cutF_all, strOf_enc, appF_zero, appF_enc, lit_byte, shiftF_enc, shiftF_0, cutF_enc, List.nil_append, List.drop_zero, List.take_of_length_le]) <;> (repeat' (with_reducible refine And.intro ?_ ?_)) <;> first | trivial | rfl | (intros; first | rfl | trivial; done) | (first | omega | (simp only [List.length_append, List.length_cons, List.length_nil, List.length_take, List.length_drop, List.length_map, List.length_nil] <;> omega) | fail))
  obtain ⟨hv, hpl, htl⟩ := rightB_spec hr
  obtain ⟨v1, v2, v3, v4⟩ := validB_spec hv
  have et : refAttract ow pr su pl s = rounds ow su pl s s.length := by rw [refAttract, hr]; rfl
  have a26 := k26 ow pr su pl s hr hsu1
  have ml := (rounds_length ow su pl s s.length).2
  rw [et, rounds_fst] at hr0
  have emv : mvR ow su pl s s.length = fun i => (rounds ow su pl s s.length).2.getD i 0 := rfl
  rw [emv] at hr0
  obtain ⟨mv, hmv⟩ : ∃ mv, (rounds ow su pl s s.length).2 = mv := ⟨_, rfl⟩
  rw [hmv] at a26 ml hr0
  (refine ev ?_; (try (with_reducible exact True.intro)))
  repeat (((with_reducible refine And.intro ?_ ?_)); (focus (first | omega | (simp only [inR]; omega) | rfl | (simp [notinId, notin]; done) | exact Or.inr rfl | (intro i hi; (repeat' (with_reducible first | apply len_cut | apply len_shift | apply len_app | apply len_copy | intro j)) <;> first | rfl | (exact len_lit _ _ (by simp) rfl _) | (simp; done)))))
  refine EffC.use a26 ?_ (.inr rfl) ?_
  · ((refine evL ?_; (try (with_reducible exact True.intro))) <;> (try simp (disch := (first | omega | (simp only [List.length_append, List.length_cons, List.length_nil, List.length_take, List.length_drop, List.length_map, List.length_nil] <;> omega) | fail)) only [cutF_all, strOf_enc, appF_zero, appF_enc, lit_byte, shiftF_enc, shiftF_0, cutF_enc, List.nil_append, List.drop_zero, List.take_of_length_le]) <;> (repeat' (with_reducible refine And.intro ?_ ?_)) <;> first | trivial | rfl | (intros; first | rfl | trivial; done) | (first | omega | (simp only [List.length_append, List.length_cons, List.length_nil, List.length_take, List.length_drop, List.length_map, List.length_nil] <;> omega) | fail))
  (refine ev ?_; (try (with_reducible exact True.intro)))
  repeat (((with_reducible refine And.intro ?_ ?_)); (focus (first | omega | (simp only [inR]; omega) | rfl | (simp [notinId, notin]; done) | exact Or.inr rfl | (intro i hi; (repeat' (with_reducible first | apply len_cut | apply len_shift | apply len_app | apply len_copy | intro j)) <;> first | rfl | (exact len_lit _ _ (by simp) rfl _) | (simp; done)))))
  simp only [Int.toNat_natCast]
  refine SH.Sem.loop hm (fun i : Nat => ⟨padA [.undef, .undef, .undef, .ptr 0 0 0, .undef, .undef, .undef, .undef, .ptr 1 0 0, .undef, .sl 2 0 s.length, .sl 3 0 s.length, .undef, .undef, .undef, .undef, .undef, .undef, .undef, .undef, .undef, .undef, .undef, .undef, .undef, .undef, .undef, .undef, .undef, .undef, .sl 2 0 s.length, .int .i64 s.length, .int .i64 i] 45, [.box [intRow ow, intRow pr, intRows su], .box [intRow ow, intRow pr, intRows su, intRows (befs su ow.length)], .vec 1 s.length (encL (cInt .i64) 0 mv), .vec 1 s.length (encL cBool false (partL s.length (fun i => decide (0 ≤ mv.getD i 0)) (fun _ => false) i))]⟩) (fun i => i ≤ s.length) (fun i => s.length - i) [0, 1, 2, 3] 0 (by omega) ?_ fun i hi0 => ?_
  · simp only [padA, St.le, slotsLe, heapLe, blkLe, rowLe, live, injOn, loLe, nget, nlook, ren, okA, allP, mapA, hget, ABlk.used, notin, List.map_cons, List.map_nil, true_or, or_true, false_or, or_false, true_and, and_true, and_self, AV.int.injEq, AV.bool.injEq, AV.str.injEq, AV.sl.injEq, AV.ro.injEq, AV.agg.injEq, List.cons.injEq, reduceCtorEq, ne_eq, not_false_eq_true, not_true_eq_false]
    exact ⟨rfl, ⟨by simp, fun q hq => encb0 q hq⟩, by simp⟩
  simp only [padA]
  (refine ev ?_; (try (with_reducible exact True.intro)))
  refine gsd (fun hd => ?_) (fun hd => ?_)
  · have hi : i < s.length := by omega
    have e1 := encb_upd1 (f := fun i => decide (0 ≤ mv.getD i 0)) (g := fun _ => false) hi _ rfl
    (refine ev ?_; (try (with_reducible exact True.intro)))
    simp only [Int.toNat_natCast, e1]
    repeat (((with_reducible refine And.intro ?_ ?_)); (focus (first | omega | (simp only [inR]; omega) | rfl | (simp [notinId, notin]; done) | exact Or.inr rfl | (intro i hi; (repeat' (with_reducible first | apply len_cut | apply len_shift | apply len_app | apply len_copy | intro j)) <;> first | rfl | (exact len_lit _ _ (by simp) rfl _) | (simp; done)))))
    refine ⟨i + 1, [0, 1, 2, 3], by omega, by show s.length - (i + 1) < s.length - i; omega, ?_⟩
    simp only [padA, St.le, slotsLe, heapLe, blkLe, rowLe, live, injOn, loLe, nget, nlook, ren, okA, allP, mapA, hget, ABlk.used, notin, List.map_cons, List.map_nil, true_or, or_true, false_or, or_false, true_and, and_true, and_self, AV.int.injEq, AV.bool.injEq, AV.str.injEq, AV.sl.injEq, AV.ro.injEq, AV.agg.injEq, List.cons.injEq, reduceCtorEq, ne_eq, not_false_eq_true, not_true_eq_false]; simp
  · have hi : i = s.length := by omega
    subst hi
    rcases hr0 with rfl | rfl
    · simp -implicitDefEqProofs only [Option.getD, w_skip, w_reg, w_regd, w_seq, w_cond, w_block, w_loop, w_rf, w_exit, w_ret, f_ok, f_call, f_yield, yK_cons, a_normal, r_normal, r_ret, r_exit, rg_cons, putL, frz, beq_self_eq_true, Nat.reduceBEq, updG_same, f_bad, cK_nil, cK_cons, v_nil, v_cons, gK_tt, gK_ff, gK_tf, gK_ft, dK_go, d_nil, d_cons, gD_tt, gD_ff, gD_tf, gD_ft, eC_one, eC_tup, eC_own, eE_ok, eE_bad, eD, eff, eBin, eEq, eUn, eConv, eLen, eMin, eMax, eField, eFieldAddr, eIndex, eIndexAddr, eSlice, eLoad, eStore, eAlloc, eBox, eBuild, eBuildSlice, eMake, eAppend, eCopy, eMakeMap, eMapUpdate, eLookup, lookV, optN, eNil, ePick, eExtract, E.pure, Eff.only, Eff.notB, evalA, AV.ofV, AV.ofC, sget, sput, putA, applyU, hset, hget, hlen, alen, takeA, dropA, spliceA, mapA, allA, lget, oget, pget, tget, cellsA, AV.one, AV.goneB, partA, partC, TK.isAgg, nilish, natA, natC, loN, hiN, optC, roCut, loadP, loadC, aggOr, fillA, fillC, allPos, partsC, partsCells, partsAll, kills, killIds, liveAll, gnd, srcOf, inBlk, mapO, mapP, Go.SH.IntKind.uns, TK.flat, eqSc, eqScC, eqFs, eqFsC, seqK, blockK, condK, l_exit, l_ret, retK, retS, rsV, rsC, allT, padA, mapT, glook, bsel, gsplit_true, gsplit_false, resOf, resIds, resAll, nodupN, notin, like, like1, likeL, likeAll, AV.np, AV.gb, idsR, idsM, retI, retR, reify, AR.v, AR.u, AR.nv, nvec, impV, impU, isAlloc, callOf, countA, upIds, Option.map_none, Option.map_some, Option.isSome_some, Option.isSome_none, List.map_cons, List.map_nil, true_and, and_true, List.cons_append, List.nil_append, List.append_nil, List.length_cons, List.length_nil, List.nodup_nil, List.not_mem_nil, not_false_eq_true, ne_eq, reduceCtorEq, Bool.and_true, Bool.true_and, Bool.not_true, Bool.not_false, if_true, if_false, reduceIte, en_byte, en_byte', en_int, en_int', en_bool, en_bool', en_str, en_str', en_row, en_row', sh_at, sh_at', and_assoc, Nat.zero_add, Nat.add_zero, Nat.reduceAdd, appF_zero, Option.isNone_none, Option.isNone_some, en_byteL, en_intL, en_rowL, Int.reduceToNat, Nat.mul_one, Nat.one_mul, Nat.zero_mul, Nat.reduceMul, Nat.reduceSub, Nat.sub_zero, bne_self_eq_false, ti1, ti2, ti3, ti4, ti5, ti6, ti7, ti8, ti9, ti10, ti11, ti12, ti13, ti14, ti15, ti16, ti17, ti18, ti19, ti21, ti22, ti23, ti24, ti25, ti26, ti27, ti28, ti30, ti31, ti33, ti34, ti35, ti36, ti37, ti38, ti39, ti40, ti41, ti42, ti43, ti45, ti46, ti47, ti48, ti49, ti50, ti51, ti52, ti53, ti54, ti55, ti57, ti58, ti59, ti60, ti61, ti62, ti63, ti64, ti65, ti66, ti67, ti68, ti69, ti70, ti71, ti72, ti73, ti74, ti75, ti76, ti77, ti78, ti79, ti80, ti81, ti82, ti83, ti85, ti86, ti87, ti88, ti89, ti90, ti91, ti92, ti93, ti94, ti95, ti96, ti97, ti98, ti99, ti100, ti101, ti102, ti103, ti104, ti105, ti106, ti107, ti108, ti109, partL_full]
      repeat (((with_reducible refine And.intro ?_ ?_)); (focus (first | omega | (simp only [inR]; omega) | rfl | (simp [notinId, notin]; done) | exact Or.inr rfl | (intro i hi; (repeat' (with_reducible first | apply len_cut | apply len_shift | apply len_app | apply len_copy | intro j)) <;> first | rfl | (exact len_lit _ _ (by simp) rfl _) | (simp; done)))))
      ((repeat' (with_reducible refine And.intro ?_ ?_)) <;> first | omega | (simp [notinId]; done) | (exact fun q hq => cut_at0 q (by simpa using hq)) | (exact fun q hq => cut_at0 q (by omega)) | (exact fun _ _ => rfl))
    · simp -implicitDefEqProofs only [Option.getD, w_skip, w_reg, w_regd, w_seq, w_cond, w_block, w_loop, w_rf, w_exit, w_ret, f_ok, f_call, f_yield, yK_cons, a_normal, r_normal, r_ret, r_exit, rg_cons, putL, frz, beq_self_eq_true, Nat.reduceBEq, updG_same, f_bad, cK_nil, cK_cons, v_nil, v_cons, gK_tt, gK_ff, gK_tf, gK_ft, dK_go, d_nil, d_cons, gD_tt, gD_ff, gD_tf, gD_ft, eC_one, eC_tup, eC_own, eE_ok, eE_bad, eD, eff, eBin, eEq, eUn, eConv, eLen, eMin, eMax, eField, eFieldAddr, eIndex, eIndexAddr, eSlice, eLoad, eStore, eAlloc, eBox, eBuild, eBuildSlice, eMake, eAppend, eCopy, eMakeMap, eMapUpdate, eLookup, lookV, optN, eNil, ePick, eExtract, E.pure, Eff.only, Eff.notB, evalA, AV.ofV, AV.ofC, sget, sput, putA, applyU, hset, hget, hlen, alen, takeA, dropA, spliceA, mapA, allA, lget, oget, pget, tget, cellsA, AV.one, AV.goneB, partA, partC, TK.isAgg, nilish, natA, natC, loN, hiN, optC, roCut, loadP, loadC, aggOr, fillA, fillC, allPos, partsC, partsCells, partsAll, kills, killIds, liveAll, gnd, srcOf, inBlk, mapO, mapP, Go.SH.IntKind.uns, TK.flat, eqSc, eqScC, eqFs, eqFsC, seqK, blockK, condK, l_exit, l_ret, retK, retS, rsV, rsC, allT, padA, mapT, glook, bsel, gsplit_true, gsplit_false, resOf, resIds, resAll, nodupN, notin, like, like1, likeL, likeAll, AV.np, AV.gb, idsR, idsM, retI, retR, reify, AR.v, AR.u, AR.nv, nvec, impV, impU, isAlloc, callOf, countA, upIds, Option.map_none, Option.map_some, Option.isSome_some, Option.isSome_none, List.map_cons, List.map_nil, true_and, and_true, List.cons_append, List.nil_append, List.append_nil, List.length_cons, List.length_nil, List.nodup_nil, List.not_mem_nil, not_false_eq_true, ne_eq, reduceCtorEq, Bool.and_true, Bool.true_and, Bool.not_true, Bool.not_false, if_true, if_false, reduceIte, en_byte, en_byte', en_int, en_int', en_bool, en_bool', en_str, en_str', en_row, en_row', sh_at, sh_at', and_assoc, Nat.zero_add, Nat.add_zero, Nat.reduceAdd, appF_zero, Option.isNone_none, Option.isNone_some, en_byteL, en_intL, en_rowL, Int.reduceToNat, Nat.mul_one, Nat.one_mul, Nat.zero_mul, Nat.reduceMul, Nat.reduceSub, Nat.sub_zero, bne_self_eq_false, ti1, ti2, ti3, ti4, ti5, ti6, ti7, ti8, ti9, ti10, ti11, ti12, ti13, ti14, ti15, ti16, ti17, ti18, ti19, ti21, ti22, ti23, ti24, ti25, ti26, ti27, ti28, ti30, ti31, ti33, ti34, ti35, ti36, ti37, ti38, ti39, ti40, ti41, ti42, ti43, ti45, ti46, ti47, ti48, ti49, ti50, ti51, ti52, ti53, ti54, ti55, ti57, ti58, ti59, ti60, ti61, ti62, ti63, ti64, ti65, ti66, ti67, ti68, ti69, ti70, ti71, ti72, ti73, ti74, ti75, ti76, ti77, ti78, ti79, ti80, ti81, ti82, ti83, ti85, ti86, ti87, ti88, ti89, ti90, ti91, ti92, ti93, ti94, ti95, ti96, ti97, ti98, ti99, ti100, ti101, ti102, ti103, ti104, ti105, ti106, ti107, ti108, ti109, partL_full]
      repeat (((with_reducible refine And.intro ?_ ?_)); (focus (first | omega | (simp only [inR]; omega) | rfl | (simp [notinId, notin]; done) | exact Or.inr rfl | (intro i hi; (repeat' (with_reducible first | apply len_cut | apply len_shift | apply len_app | apply len_copy | intro j)) <;> first | rfl | (exact len_lit _ _ (by simp) rfl _) | (simp; done)))))
      ((repeat' (with_reducible refine And.intro ?_ ?_)) <;> first | omega | (simp [notinId]; done) | (exact fun q hq => cut_at0 q (by simpa using hq)) | (exact fun q hq => cut_at0 q (by omega)) | (exact fun _ _ => rfl))
theorem k11 (ow pr : List Int) (su : List (List Int)) (pl : Int) (s : List Bool) (ho : ow.length < 2 ^ 40) (hp : pr.length < 2 ^ 40) (hs : su.length < 2 ^ 40) (hsu1 : ∀ r ∈ su, r.length ≤ 2 ^ 20) :
    Contract Try.prog 13 [game ow pr su, .int .i64 pl, boolRow s] (.tup [.val (boolRow (refAttract ow pr su pl s).1), .val (intRow (refAttract ow pr su pl s).2)]) := k11g ow pr su pl s ho hp hs hsu1 _ (.inl rfl)
theorem k11v (ow pr : List Int) (su : List (List Int)) (pl : Int) (s : List Bool) (ho : ow.length < 2 ^ 40) (hp : pr.length < 2 ^ 40) (hs : su.length < 2 ^ 40) (hsu1 : ∀ r ∈ su, r.length ≤ 2 ^ 20) :
    Contract Try.prog 13 [game ow pr su, .int .i64 pl, boolRow s] (.tup [.vec 1 (refAttract ow pr su pl s).1.length (encL cBool false (refAttract ow pr su pl s).1), .vec 1 (refAttract ow pr su pl s).2.length (encL (cInt .i64) 0 (refAttract ow pr su pl s).2)]) := k11g ow pr su pl s ho hp hs hsu1 _ (.inr rfl)
theorem k17g (ow pr : List Int) (su : List (List Int)) (pl : Int) (s : List Bool) (ho : ow.length < 2 ^ 40) (hp : pr.length < 2 ^ 40) (hs : su.length < 2 ^ 40) (hsu1 : ∀ r ∈ su, r.length ≤ 2 ^ 20) :
    ∀ r : AR1, (r = .val (boolRow (refClosed ow pr su pl s)) ∨ r = .vec 1 (refClosed ow pr su pl s).length (encL cBool false (refClosed ow pr su pl s))) → Contract Try.prog 34 [game ow pr su, .int .i64 pl, boolRow s] (.one r) := by
  intro r hr0
  refine ct34 (SH.Sem.of_wpA hm ?_)
  simp only [padA]
  simp only [Try.f34, Option.getD, w_skip, w_reg, w_regd, w_seq, w_cond, w_block, w_loop, w_rf, w_exit, w_ret, f_ok, f_call, f_yield, yK_cons, a_normal, r_normal, r_ret, r_exit, rg_cons, putL, frz, beq_self_eq_true, Nat.reduceBEq, updG_same, f_bad, cK_nil, cK_cons, v_nil, v_cons, gK_tt, gK_ff, gK_tf, gK_ft, dK_go, d_nil, d_cons, gD_tt, gD_ff, gD_tf, gD_ft, eC_one, eC_tup, eC_own, eE_ok, eE_bad, eD, eff, eBin, eEq, eUn, eConv, eLen, eMin, eMax, eField, eFieldAddr, eIndex, eIndexAddr, eSlice, eLoad, eStore, eAlloc, eBox, eBuild, eBuildSlice, eMake, eAppend, eCopy, eMakeMap, eMapUpdate, eLookup, lookV, optN, eNil, ePick, eExtract, E.pure, Eff.only, Eff.notB, evalA, AV.ofV, AV.ofC, sget, sput, putA, applyU, hset, hget, hlen, alen, takeA, dropA, spliceA, mapA, allA, lget, oget, pget, tget, cellsA, AV.one, AV.goneB, partA, partC, TK.isAgg, nilish, natA, natC, loN, hiN, optC, roCut, loadP, loadC, aggOr, fillA, fillC, allPos, partsC, partsCells, partsAll, kills, killIds, liveAll, gnd, srcOf, inBlk, mapO, mapP, Go.SH.IntKind.uns, TK.flat, eqSc, eqScC, eqFs, eqFsC, seqK, blockK, condK, l_exit, l_ret, retK, retS, rsV, rsC, allT, padA, mapT, glook, bsel, gsplit_true, gsplit_false, resOf, resIds, resAll, nodupN, notin, like, like1, likeL, likeAll, AV.np, AV.gb, idsR, idsM, retI, retR, reify, AR.v, AR.u, AR.nv, nvec, impV, impU, isAlloc, callOf, countA, upIds, Option.map_none, Option.map_some, Option.isSome_some, Option.isSome_none, List.map_cons, List.map_nil, true_and, and_true, List.cons_append, List.nil_append, List.append_nil, List.length_cons, List.length_nil, List.nodup_nil, List.not_mem_nil, not_false_eq_true, ne_eq, reduceCtorEq, Bool.and_true, Bool.true_and, Bool.not_true, Bool.not_false, if_true, if_false, reduceIte, en_byte, en_byte', en_int, en_int', en_bool, en_bool', en_str, en_str', en_row, en_row', sh_at, sh_at', and_assoc, Nat.zero_add, Nat.add_zero, Nat.reduceAdd, appF_zero, Option.isNone_none, Option.isNone_some, en_byteL, en_intL, en_rowL, Int.reduceToNat, Nat.mul_one, Nat.one_mul, Nat.zero_mul, Nat.reduceMul, Nat.reduceSub, Nat.sub_zero, bne_self_eq_false, ti1, ti2, ti3, ti4, ti5, ti6, ti7, ti8, ti9, ti10, ti11, ti12, ti13, ti14, ti15, ti16, ti17, ti18, ti19, ti21, ti22, ti23, ti24, ti25, ti26, ti27, ti28, ti30, ti31, ti33, ti34, ti35, ti36, ti37, ti38, ti39, ti40, ti41, ti42, ti43, ti45, ti46, ti47, ti48, ti49, ti50, ti51, ti52, ti53, ti54, ti55, ti57, ti58, ti59, ti60, ti61, ti62, ti63, ti64, ti65, ti66, ti67, ti68, ti69, ti70, ti71, ti72, ti73, ti74, ti75, ti76, ti77, ti78, ti79, ti80, ti81, ti82, ti83, ti85, ti86, ti87, ti88, ti89, ti90, ti91, ti92, ti93, ti94, ti95, ti96, ti97, ti98, ti99, ti100, ti101, ti102, ti103, ti104, ti105, ti106, ti107, ti108, ti109]
  repeat (((with_reducible refine And.intro ?_ ?_)); (focus (first | omega | (simp only [inR]; omega) | rfl | (simp [notinId, notin]; done) | exact Or.inr rfl | (intro i hi; (repeat' (with_reducible first | apply len_cut | apply len_shift | apply len_app | apply len_copy | intro j)) <;> first | rfl | (exact len_lit _ _ (by simp) rfl _) | (simp; done)))))
  have a25 := k25 ow pr su pl s ho hp hs hsu1
  cases hr : rightB ow pr su pl s
  · have e : openR ow pr su pl s = .tup [.val (.agg [.raw (.slice none 0 0), .raw (.slice none 0 0), .raw (.slice none 0 0), .raw (.slice none 0 0)]), .val (.bool false)] := by rw [openR, hr]; rfl
    rw [e] at a25
    refine EffC.use a25 ?_ (.inr rfl) ?_
    · ((refine evL ?_; (try (with_reducible exact True.intro))) <;> (try simp (disch := (first | omega | (simp only [List.length_append, List.length_cons, List.length_nil, List.length_take, List.length_drop, List.length_map, List.length_nil] <;> omega) | fail)) only [cutF_all, strOf_enc, appF_zero, appF_enc, lit_byte, shiftF_enc, shiftF_0, cutF_enc, List.nil_append, List.drop_zero, List.take_of_length_le]) <;> (repeat' (with_reducible refine And.intro ?_ ?_)) <;> first | trivial | rfl | (intros; first | rfl | trivial; done) | (first | omega | (simp only [List.length_append, List.length_cons, List.length_nil, List.length_take, List.length_drop, List.length_map, List.length_nil] <;> omega) | fail))
    have et : refClosed ow pr su pl s = [] := by rw [refClosed, hr]; rfl
    rw [et] at hr0
    rcases hr0 with rfl | rfl
    · (refine ev ?_; (try (with_reducible exact True.intro)))
      simp [notinId, Value.oneCell']
    · (refine ev ?_; (try (with_reducible exact True.intro)))
      simp [notinId, Value.oneCell']
  have e : openR ow pr su pl s = .tup [.val (.agg [intRow ow, intRow pr, intRows su, intRows (befs su ow.length)]), .val (.bool true)] := by rw [openR, hr]; rfl
  rw [e] at a25
  refine EffC.use a25 ?_ (.inr rfl) ?_
  · ((refine evL ?_; (try (with_reducible exact True.intro))) <;> (try simp (disch := (first | omega | (simp only [List.length_append, List.length_cons, List.length_nil, List.length_take, List.length_drop, List.length_map, List.length_nil] <;> omega) | fail)) only [cutF_all, strOf_enc, appF_zero, appF_enc, lit_byte, shiftF_enc, shiftF_0, cutF_enc, List.nil_append, List.drop_zero, List.take_of_length_le]) <;> (repeat' (with_reducible refine And.intro ?_ ?_)) <;> first | trivial | rfl | (intros; first | rfl | trivial; done) | (first | omega | (simp only [List.length_append, List.length_cons, List.length_nil, List.length_take, List.length_drop, List.length_map, List.length_nil] <;> omega) | fail))
  obtain ⟨hv, hpl, htl⟩ := rightB_spec hr
  obtain ⟨v1, v2, v3, v4⟩ := validB_spec hv
  have et : refClosed ow pr su pl s = sweeps ow su pl s (s.length + 1) := by rw [refClosed, hr]; rfl
  have hrn : rightB ow pr su (1 - pl) (s.map not) = true := by
    rw [rightB, hv, List.length_map, decide_eq_true htl]; rcases hpl with rfl | rfl <;> rfl
  have a26 := k26 ow pr su (1 - pl) (s.map not) hrn hsu1
  rw [List.length_map] at a26
  have ml := (rounds_length ow su (1 - pl) (s.map not) s.length).2
  rw [List.length_map] at ml
  rw [et, sweeps_out hpl (fun i hi => (v4 i (by omega)).1) (fun i hi t ht => by have := (v4 i (by omega)).2.2 t ht; omega)] at hr0
  have emv : mvR ow su (1 - pl) (s.map not) s.length = fun i => (rounds ow su (1 - pl) (s.map not) s.length).2.getD i 0 := rfl
  rw [emv] at hr0
  obtain ⟨mv, hmv⟩ : ∃ mv, (rounds ow su (1 - pl) (s.map not) s.length).2 = mv := ⟨_, rfl⟩
  rw [hmv] at a26 ml hr0
  (refine ev ?_; (try (with_reducible exact True.intro)))
  repeat (((with_reducible refine And.intro ?_ ?_)); (focus (first | omega | (simp only [inR]; omega) | rfl | (simp [notinId, notin]; done) | exact Or.inr rfl | (intro i hi; (repeat' (with_reducible first | apply len_cut | apply len_shift | apply len_app | apply len_copy | intro j)) <;> first | rfl | (exact len_lit _ _ (by simp) rfl _) | (simp; done)))))
  simp only [Int.toNat_natCast]
  refine SH.Sem.loop hm (fun i : Nat => ⟨padA [.undef, .int .i64 pl, boolRow s, .ptr 0 0 0, .undef, .undef, .undef, .ptr 1 0 0, .undef, .sl 2 0 s.length, .undef, .undef, .undef, .undef, .undef, .undef, .undef, .undef, .undef, .undef, .undef, .undef, .undef, .undef, .undef, .undef, .undef, boolRow s, .int .i64 s.length, .int .i64 i] 61, [.box [intRow ow, intRow pr, intRows su], .box [intRow ow, intRow pr, intRows su, intRows (befs su ow.length)], .vec 1 s.length (encL cBool false (partL s.length (fun i => !s.getD i false) (fun _ => false) i))]⟩) (fun i => i ≤ s.length) (fun i => s.length - i) [0, 1, 2] 0 (by omega) ?_ fun i hi0 => ?_
  · simp only [padA, St.le, slotsLe, heapLe, blkLe, rowLe, live, injOn, loLe, nget, nlook, ren, okA, allP, mapA, hget, ABlk.used, notin, List.map_cons, List.map_nil, true_or, or_true, false_or, or_false, true_and, and_true, and_self, AV.int.injEq, AV.bool.injEq, AV.str.injEq, AV.sl.injEq, AV.ro.injEq, AV.agg.injEq, List.cons.injEq, reduceCtorEq, ne_eq, not_false_eq_true, not_true_eq_false]
    exact ⟨rfl, fun q hq => encb0 q hq, by simp⟩
  simp only [padA]
  (refine ev ?_; (try (with_reducible exact True.intro)))
  refine gsd (fun hd => ?_) (fun hd => ?_)
  · have hi : i < s.length := by omega
    have e1 := encb_upd1 (f := fun i => !s.getD i false) (g := fun _ => false) hi _ rfl
    (refine ev ?_; (try (with_reducible exact True.intro)))
    simp only [Int.toNat_natCast, e1]
    repeat (((with_reducible refine And.intro ?_ ?_)); (focus (first | omega | (simp only [inR]; omega) | rfl | (simp [notinId, notin]; done) | exact Or.inr rfl | (intro i hi; (repeat' (with_reducible first | apply len_cut | apply len_shift | apply len_app | apply len_copy | intro j)) <;> first | rfl | (exact len_lit _ _ (by simp) rfl _) | (simp; done)))))
    refine ⟨i + 1, [0, 1, 2], by omega, by show s.length - (i + 1) < s.length - i; omega, ?_⟩
    simp only [padA, St.le, slotsLe, heapLe, blkLe, rowLe, live, injOn, loLe, nget, nlook, ren, okA, allP, mapA, hget, ABlk.used, notin, List.map_cons, List.map_nil, true_or, or_true, false_or, or_false, true_and, and_true, and_self, AV.int.injEq, AV.bool.injEq, AV.str.injEq, AV.sl.injEq, AV.ro.injEq, AV.agg.injEq, List.cons.injEq, reduceCtorEq, ne_eq, not_false_eq_true, not_true_eq_false]; simp
  · have hi : i = s.length := by omega
    subst hi
    have en : (List.range s.length).map (fun i => !s.getD i false) = s.map not := by
      conv => rhs; rw [← range_getD s false]
      rw [List.map_map]; rfl
    simp -implicitDefEqProofs only [Option.getD, w_skip, w_reg, w_regd, w_seq, w_cond, w_block, w_loop, w_rf, w_exit, w_ret, f_ok, f_call, f_yield, yK_cons, a_normal, r_normal, r_ret, r_exit, rg_cons, putL, frz, beq_self_eq_true, Nat.reduceBEq, updG_same, f_bad, cK_nil, cK_cons, v_nil, v_cons, gK_tt, gK_ff, gK_tf, gK_ft, dK_go, d_nil, d_cons, gD_tt, gD_ff, gD_tf, gD_ft, eC_one, eC_tup, eC_own, eE_ok, eE_bad, eD, eff, eBin, eEq, eUn, eConv, eLen, eMin, eMax, eField, eFieldAddr, eIndex, eIndexAddr, eSlice, eLoad, eStore, eAlloc, eBox, eBuild, eBuildSlice, eMake, eAppend, eCopy, eMakeMap, eMapUpdate, eLookup, lookV, optN, eNil, ePick, eExtract, E.pure, Eff.only, Eff.notB, evalA, AV.ofV, AV.ofC, sget, sput, putA, applyU, hset, hget, hlen, alen, takeA, dropA, spliceA, mapA, allA, lget, oget, pget, tget, cellsA, AV.one, AV.goneB, partA, partC, TK.isAgg, nilish, natA, natC, loN, hiN, optC, roCut, loadP, loadC, aggOr, fillA, fillC, allPos, partsC, partsCells, partsAll, kills, killIds, liveAll, gnd, srcOf, inBlk, mapO, mapP, Go.SH.IntKind.uns, TK.flat, eqSc, eqScC, eqFs, eqFsC, seqK, blockK, condK, l_exit, l_ret, retK, retS, rsV, rsC, allT, padA, mapT, glook, bsel, gsplit_true, gsplit_false, resOf, resIds, resAll, nodupN, notin, like, like1, likeL, likeAll, AV.np, AV.gb, idsR, idsM, retI, retR, reify, AR.v, AR.u, AR.nv, nvec, impV, impU, isAlloc, callOf, countA, upIds, Option.map_none, Option.map_some, Option.isSome_some, Option.isSome_none, List.map_cons, List.map_nil, true_and, and_true, List.cons_append, List.nil_append, List.append_nil, List.length_cons, List.length_nil, List.nodup_nil, List.not_mem_nil, not_false_eq_true, ne_eq, reduceCtorEq, Bool.and_true, Bool.true_and, Bool.not_true, Bool.not_false, if_true, if_false, reduceIte, en_byte, en_byte', en_int, en_int', en_bool, en_bool', en_str, en_str', en_row, en_row', sh_at, sh_at', and_assoc, Nat.zero_add, Nat.add_zero, Nat.reduceAdd, appF_zero, Option.isNone_none, Option.isNone_some, en_byteL, en_intL, en_rowL, Int.reduceToNat, Nat.mul_one, Nat.one_mul, Nat.zero_mul, Nat.reduceMul, Nat.reduceSub, Nat.sub_zero, bne_self_eq_false, ti1, ti2, ti3, ti4, ti5, ti6, ti7, ti8, ti9, ti10, ti11, ti12, ti13, ti14, ti15, ti16, ti17, ti18, ti19, ti21, ti22, ti23, ti24, ti25, ti26, ti27, ti28, ti30, ti31, ti33, ti34, ti35, ti36, ti37, ti38, ti39, ti40, ti41, ti42, ti43, ti45, ti46, ti47, ti48, ti49, ti50, ti51, ti52, ti53, ti54, ti55, ti57, ti58, ti59, ti60, ti61, ti62, ti63, ti64, ti65, ti66, ti67, ti68, ti69, ti70, ti71, ti72, ti73, ti74, ti75, ti76, ti77, ti78, ti79, ti80, ti81, ti82, ti83, ti85, ti86, ti87, ti88, ti89, ti90, ti91, ti92, ti93, ti94, ti95, ti96, ti97, ti98, ti99, ti100, ti101, ti102, ti103, ti104, ti105, ti106, ti107, ti108, ti109, partL_full, en]
    simp only [Int.toNat_natCast]
    repeat (((with_reducible refine And.intro ?_ ?_)); (focus (first | omega | (simp only [inR]; omega) | rfl | (simp [notinId, notin]; done) | exact Or.inr rfl | (intro i hi; (repeat' (with_reducible first | apply len_cut | apply len_shift | apply len_app | apply len_copy | intro j)) <;> first | rfl | (exact len_lit _ _ (by simp) rfl _) | (simp; done)))))
    refine EffC.use a26 ?_ (.inl (memless_vec (sz := 1) mv rfl (cInt_scalar .i64))) ?_
    · ((refine evL ?_; (try (with_reducible exact True.intro))) <;> (try simp (disch := (first | omega | (simp only [List.length_append, List.length_cons, List.length_nil, List.length_take, List.length_drop, List.length_map, List.length_nil] <;> omega) | fail)) only [cutF_all, strOf_enc, appF_zero, appF_enc, lit_byte, shiftF_enc, shiftF_0, cutF_enc, List.nil_append, List.drop_zero, List.take_of_length_le]) <;> (repeat' (with_reducible refine And.intro ?_ ?_)) <;> first | trivial | rfl | (intros; first | rfl | trivial; done) | (first | omega | (simp only [List.length_append, List.length_cons, List.length_nil, List.length_take, List.length_drop, List.length_map, List.length_nil] <;> omega) | fail))
    (refine ev ?_; (try (with_reducible exact True.intro)))
    repeat (((with_reducible refine And.intro ?_ ?_)); (focus (first | omega | (simp only [inR]; omega) | rfl | (simp [notinId, notin]; done) | exact Or.inr rfl | (intro i hi; (repeat' (with_reducible first | apply len_cut | apply len_shift | apply len_app | apply len_copy | intro j)) <;> first | rfl | (exact len_lit _ _ (by simp) rfl _) | (simp; done)))))
    refine SH.Sem.loop hm (fun i : Nat => ⟨padA [.undef, .undef, .undef, .undef, .undef, .undef, .undef, .undef, .undef, .undef, .undef, .undef, .sl 2 0 s.length, .undef, .undef, .undef, .undef, .undef, .undef, .undef, .undef, .undef, .undef, .undef, .undef, .undef, .undef, .undef, .undef, .undef, .undef, .undef, .undef, .undef, .undef, .undef, .undef, .undef, .undef, .undef, .undef, .undef, .undef, .undef, .undef, .undef, .undef, .sl 3 0 s.length, .int .i64 s.length, .int .i64 i] 61, [.box [intRow ow, intRow pr, intRows su], .box [intRow ow, intRow pr, intRows su, intRows (befs su ow.length)], .vec 1 s.length (encL cBool false (partL s.length (fun i => decide (mv.getD i 0 < 0)) (fun _ => false) i)), .vec 1 s.length (encL (cInt .i64) 0 mv)]⟩) (fun i => i ≤ s.length) (fun i => s.length - i) [0, 1, 3, 4] 0 (by omega) ?_ fun i hi0 => ?_
    · simp only [padA, St.le, slotsLe, heapLe, blkLe, rowLe, live, injOn, loLe, nget, nlook, ren, okA, allP, mapA, hget, ABlk.used, notin, List.map_cons, List.map_nil, true_or, or_true, false_or, or_false, true_and, and_true, and_self, AV.int.injEq, AV.bool.injEq, AV.str.injEq, AV.sl.injEq, AV.ro.injEq, AV.agg.injEq, List.cons.injEq, reduceCtorEq, ne_eq, not_false_eq_true, not_true_eq_false]
      refine ⟨rfl, ⟨fun q hq => encb0 q hq, by simp⟩, by simp⟩
    simp only [padA]
    (refine ev ?_; (try (with_reducible exact True.intro)))
    refine gsd (fun hd => ?_) (fun hd => ?_)
    · have hi : i < s.length := by omega
      have e1 := encb_upd1 (f := fun i => decide (mv.getD i 0 < 0)) (g := fun _ => false) hi _ rfl
      (refine ev ?_; (try (with_reducible exact True.intro)))
      simp only [Int.toNat_natCast, e1]
      repeat (((with_reducible refine And.intro ?_ ?_)); (focus (first | omega | (simp only [inR]; omega) | rfl | (simp [notinId, notin]; done) | exact Or.inr rfl | (intro i hi; (repeat' (with_reducible first | apply len_cut | apply len_shift | apply len_app | apply len_copy | intro j)) <;> first | rfl | (exact len_lit _ _ (by simp) rfl _) | (simp; done)))))
      refine ⟨i + 1, [0, 1, 2, 3], by omega, by show s.length - (i + 1) < s.length - i; omega, ?_⟩
      simp only [padA, St.le, slotsLe, heapLe, blkLe, rowLe, live, injOn, loLe, nget, nlook, ren, okA, allP, mapA, hget, ABlk.used, notin, List.map_cons, List.map_nil, true_or, or_true, false_or, or_false, true_and, and_true, and_self, AV.int.injEq, AV.bool.injEq, AV.str.injEq, AV.sl.injEq, AV.ro.injEq, AV.agg.injEq, List.cons.injEq, reduceCtorEq, ne_eq, not_false_eq_true, not_true_eq_false]; simp
    · have hi : i = s.length := by omega
      subst hi
      rcases hr0 with rfl | rfl
      · simp -implicitDefEqProofs only [Option.getD, w_skip, w_reg, w_regd, w_seq, w_cond, w_block, w_loop, w_rf, w_exit, w_ret, f_ok, f_call, f_yield, yK_cons, a_normal, r_normal, r_ret, r_exit, rg_cons, putL, frz, beq_self_eq_true, Nat.reduceBEq, updG_same, f_bad, cK_nil, cK_cons, v_nil, v_cons, gK_tt, gK_ff, gK_tf, gK_ft, dK_go, d_nil, d_cons, gD_tt, gD_ff, gD_tf, gD_ft, eC_one, eC_tup, eC_own, eE_ok, eE_bad, eD, eff, eBin, eEq, eUn, eConv, eLen, eMin, eMax, eField, eFieldAddr, eIndex, eIndexAddr, eSlice, eLoad, eStore, eAlloc, eBox, eBuild, eBuildSlice, eMake, eAppend, eCopy, eMakeMap, eMapUpdate, eLookup, lookV, optN, eNil, ePick, eExtract, E.pure, Eff.only, Eff.notB, evalA, AV.ofV, AV.ofC, sget, sput, putA, applyU, hset, hget, hlen, alen, takeA, dropA, spliceA, mapA, allA, lget, oget, pget, tget, cellsA, AV.one, AV.goneB, partA, partC, TK.isAgg, nilish, natA, natC, loN, hiN, optC, roCut, loadP, loadC, aggOr, fillA, fillC, allPos, partsC, partsCells, partsAll, kills, killIds, liveAll, gnd, srcOf, inBlk, mapO, mapP, Go.SH.IntKind.uns, TK.flat, eqSc, eqScC, eqFs, eqFsC, seqK, blockK, condK, l_exit, l_ret, retK, retS, rsV, rsC, allT, padA, mapT, glook, bsel, gsplit_true, gsplit_false, resOf, resIds, resAll, nodupN, notin, like, like1, likeL, likeAll, AV.np, AV.gb, idsR, idsM, retI, retR, reify, AR.v, AR.u, AR.nv, nvec, impV, impU, isAlloc, callOf, countA, upIds, Option.map_none, Option.map_some, Option.isSome_some, Option.isSome_none, List.map_cons, List.map_nil, true_and, and_true, List.cons_append, List.nil_append, List.append_nil, List.length_cons, List.length_nil, List.nodup_nil, List.not_mem_nil, not_false_eq_true, ne_eq, reduceCtorEq, Bool.and_true, Bool.true_and, Bool.not_true, Bool.not_false, if_true, if_false, reduceIte, en_byte, en_byte', en_int, en_int', en_bool, en_bool', en_str, en_str', en_row, en_row', sh_at, sh_at', and_assoc, Nat.zero_add, Nat.add_zero, Nat.reduceAdd, appF_zero, Option.isNone_none, Option.isNone_some, en_byteL, en_intL, en_rowL, Int.reduceToNat, Nat.mul_one, Nat.one_mul, Nat.zero_mul, Nat.reduceMul, Nat.reduceSub, Nat.sub_zero, bne_self_eq_false, ti1, ti2, ti3, ti4, ti5, ti6, ti7, ti8, ti9, ti10, ti11, ti12, ti13, ti14, ti15, ti16, ti17, ti18, ti19, ti21, ti22, ti23, ti24, ti25, ti26, ti27, ti28, ti30, ti31, ti33, ti34, ti35, ti36, ti37, ti38, ti39, ti40, ti41, ti42, ti43, ti45, ti46, ti47, ti48, ti49, ti50, ti51, ti52, ti53, ti54, ti55, ti57, ti58, ti59, ti60, ti61, ti62, ti63, ti64, ti65, ti66, ti67, ti68, ti69, ti70, ti71, ti72, ti73, ti74, ti75, ti76, ti77, ti78, ti79, ti80, ti81, ti82, ti83, ti85, ti86, ti87, ti88, ti89, ti90, ti91, ti92, ti93, ti94, ti95, ti96, ti97, ti98, ti99, ti100, ti101, ti102, ti103, ti104, ti105, ti106, ti107, ti108, ti109, partL_full]
        repeat (((with_reducible refine And.intro ?_ ?_)); (focus (first | omega | (simp only [inR]; omega) | rfl | (simp [notinId, notin]; done) | exact Or.inr rfl | (intro i hi; (repeat' (with_reducible first | apply len_cut | apply len_shift | apply len_app | apply len_copy | intro j)) <;> first | rfl | (exact len_lit _ _ (by simp) rfl _) | (simp; done)))))
        ((repeat' (with_reducible refine And.intro ?_ ?_)) <;> first | omega | (simp [notinId]; done) | (exact fun q hq => cut_at0 q (by simpa using hq)) | (exact fun q hq => cut_at0 q (by omega)) | (exact fun _ _ => rfl))
      · simp -implicitDefEqProofs only [Option.getD, w_skip, w_reg, w_regd, w_seq, w_cond, w_block, w_loop, w_rf, w_exit, w_ret, f_ok, f_call, f_yield, yK_cons, a_normal, r_normal, r_ret, r_exit, rg_cons, putL, frz, beq_self_eq_true, Nat.reduceBEq, updG_same, f_bad, cK_nil, cK_cons, v_nil, v_cons, gK_tt, gK_ff, gK_tf, gK_ft, dK_go, d_nil, d_cons, gD_tt, gD_ff, gD_tf, gD_ft, eC_one, eC_tup, eC_own, eE_ok, eE_bad, eD, eff, eBin, eEq, eUn, eConv, eLen, eMin, eMax, eField, eFieldAddr, eIndex, eIndexAddr, eSlice, eLoad, eStore, eAlloc, eBox, eBuild, eBuildSlice, eMake, eAppend, eCopy, eMakeMap, eMapUpdate, eLookup, lookV, optN, eNil, ePick, eExtract, E.pure, Eff.only, Eff.notB, evalA, AV.ofV, AV.ofC, sget, sput, putA, applyU, hset, hget, hlen, alen, takeA, dropA, spliceA, mapA, allA, lget, oget, pget, tget, cellsA, AV.one, AV.goneB, partA, partC, TK.isAgg, nilish, natA, natC, loN, hiN, optC, roCut, loadP, loadC, aggOr, fillA, fillC, allPos, partsC, partsCells, partsAll, kills, killIds, liveAll, gnd, srcOf, inBlk, mapO, mapP, Go.SH.IntKind.uns, TK.flat, eqSc, eqScC, eqFs, eqFsC, seqK, blockK, condK, l_exit, l_ret, retK, retS, rsV, rsC, allT, padA, mapT, glook, bsel, gsplit_true, gsplit_false, resOf, resIds, resAll, nodupN, notin, like, like1, likeL, likeAll, AV.np, AV.gb, idsR, idsM, retI, retR, reify, AR.v, AR.u, AR.nv, nvec, impV, impU, isAlloc, callOf, countA, upIds, Option.map_none, Option.map_some, Option.isSome_some, Option.isSome_none, List.map_cons, List.map_nil, true_and, and_true, List.cons_append, List.nil_append, List.append_nil, List.length_cons, List.length_nil, List.nodup_nil, List.not_mem_nil, not_false_eq_true, ne_eq, reduceCtorEq, Bool.and_true, Bool.true_and, Bool.not_true, Bool.not_false, if_true, if_false, reduceIte, en_byte, en_byte', en_int, en_int', en_bool, en_bool', en_str, en_str', en_row, en_row', sh_at, sh_at', and_assoc, Nat.zero_add, Nat.add_zero, Nat.reduceAdd, appF_zero, Option.isNone_none, Option.isNone_some, en_byteL, en_intL, en_rowL, Int.reduceToNat, Nat.mul_one, Nat.one_mul, Nat.zero_mul, Nat.reduceMul, Nat.reduceSub, Nat.sub_zero, bne_self_eq_false, ti1, ti2, ti3, ti4, ti5, ti6, ti7, ti8, ti9, ti10, ti11, ti12, ti13, ti14, ti15, ti16, ti17, ti18, ti19, ti21, ti22, ti23, ti24, ti25, ti26, ti27, ti28, ti30, ti31, ti33, ti34, ti35, ti36, ti37, ti38, ti39, ti40, ti41, ti42, ti43, ti45, ti46, ti47, ti48, ti49, ti50, ti51, ti52, ti53, ti54, ti55, ti57, ti58, ti59, ti60, ti61, ti62, ti63, ti64, ti65, ti66, ti67, ti68, ti69, ti70, ti71, ti72, ti73, ti74, ti75, ti76, ti77, ti78, ti79, ti80, ti81, ti82, ti83, ti85, ti86, ti87, ti88, ti89, ti90, ti91, ti92, ti93, ti94, ti95, ti96, ti97, ti98, ti99, ti100, ti101, ti102, ti103, ti104, ti105, ti106, ti107, ti108, ti109, partL_full]
        repeat (((with_reducible refine And.intro ?_ ?_)); (focus (first | omega | (simp only [inR]; omega) | rfl | (simp [notinId, notin]; done) | exact Or.inr rfl | (intro i hi; (repeat' (with_reducible first | apply len_cut | apply len_shift | apply len_app | apply len_copy | intro j)) <;> first | rfl | (exact len_lit _ _ (by simp) rfl _) | (simp; done)))))
        ((repeat' (with_reducible refine And.intro ?_ ?_)) <;> first | omega | (simp [notinId]; done) | (exact fun q hq => cut_at0 q (by simpa using hq)) | (exact fun q hq => cut_at0 q (by omega)) | (exact fun _ _ => rfl))
theorem k17 (ow pr : List Int) (su : List (List Int)) (pl : Int) (s : List Bool) (ho : ow.length < 2 ^ 40) (hp : pr.length < 2 ^ 40) (hs : su.length < 2 ^ 40) (hsu1 : ∀ r ∈ su, r.length ≤ 2 ^ 20) :
    Contract Try.prog 34 [game ow pr su, .int .i64 pl, boolRow s] (.one (.val (boolRow (refClosed ow pr su pl s)))) := k17g ow pr su pl s ho hp hs hsu1 _ (.inl rfl)
theorem k17v (ow pr : List Int) (su : List (List Int)) (pl : Int) (s : List Bool) (ho : ow.length < 2 ^ 40) (hp : pr.length < 2 ^ 40) (hs : su.length < 2 ^ 40) (hsu1 : ∀ r ∈ su, r.length ≤ 2 ^ 20) :
    Contract Try.prog 34 [game ow pr su, .int .i64 pl, boolRow s] (.one (.vec 1 (refClosed ow pr su pl s).length (encL cBool false (refClosed ow pr su pl s)))) := k17g ow pr su pl s ho hp hs hsu1 _ (.inr rfl)
end Go.Proofs.Ythkgnnndlocbbaa
