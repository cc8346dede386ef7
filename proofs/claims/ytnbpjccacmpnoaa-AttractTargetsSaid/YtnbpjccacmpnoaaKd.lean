/-
  The reference's Attract: what it returns. No condition.
-/
import Derived.Test.YtnbpjccacmpnoaaKc
namespace Go.Proofs.Ytnbpjccacmpnoaa
set_option linter.unusedVariables false
set_option linter.unusedSimpArgs false
open Go Go.SH
set_option maxRecDepth 10000
set_option maxHeartbeats 4000000
/-- A row that is filled from the left. -/
def partL {α : Type} (n : Nat) (f g : Nat → α) (i : Nat) : List α := (List.range n).map fun q => if q < i then f q else g q
section
variable {α : Type} {n i : Nat} {f g : Nat → α}
theorem partL_length : (partL n f g i).length = n := by simp [partL]
theorem partL_zero : partL n f g 0 = (List.range n).map g := by simp [partL]
theorem partL_full : partL n f g n = (List.range n).map f := by
  unfold partL
  refine List.map_congr_left fun q hq => ?_
  rw [if_pos (List.mem_range.1 hq)]
theorem partL_getD (q : Nat) (h : q < n) (d : α) : (partL n f g i).getD q d = if q < i then f q else g q := by
  rw [List.getD_eq_getElem?_getD, partL, List.getElem?_map, List.getElem?_range h]; rfl
theorem partL_set (h : i < n) (x : α) (hx : x = f i) : (partL n f g i).set i x = partL n f g (i + 1) := by
  apply List.ext_getElem (by simp [partL_length])
  intro q h1 h2
  rw [List.getElem_set]
  simp only [partL_length, List.length_set] at h1 h2
  simp only [partL, List.getElem_map, List.getElem_range]
  by_cases hq : i = q
  · subst hq; rw [if_pos rfl, if_pos (by omega), hx]
  · rw [if_neg hq]
    by_cases h3 : q < i
    · rw [if_pos h3, if_pos (by omega)]
    · rw [if_neg h3, if_neg (by omega)]
theorem partL_same (hx : f i = g i) : partL n f g (i + 1) = partL n f g i := by
  unfold partL
  refine List.map_congr_left fun q _ => ?_
  by_cases hq : q = i
  · subst hq; rw [if_pos (by omega), if_neg (by omega), hx]
  · by_cases h3 : q < i
    · rw [if_pos (by omega), if_pos h3]
    · rw [if_neg (by omega), if_neg h3]
end
theorem range_getD {α : Type} (xs : List α) (d : α) : (List.range xs.length).map (fun q => xs.getD q d) = xs := by
  apply List.ext_getElem (by simp)
  intro q h1 h2
  rw [List.getElem_map, List.getElem_range, List.getD_eq_getElem?_getD, List.getElem?_eq_getElem h2]; rfl
/-- A round of the reference: the positions and the moves. -/
def stepS (ow : List Int) (su : List (List Int)) (pl : Int) (s : List Bool) (i : Nat) : Bool := s.getD i false || canB ow su pl s i
def stepM (ow : List Int) (su : List (List Int)) (pl : Int) (n : Nat) (s : List Bool) (mv : List Int) (i : Nat) : Int := if s.getD i false = false ∧ canB ow su pl s i = true then (n : Int) else mv.getD i 0
def rounds (ow : List Int) (su : List (List Int)) (pl : Int) (t : List Bool) : Nat → List Bool × List Int
  | 0 => (t, t.map fun b => if b then 0 else -1)
  | n + 1 => ((List.range t.length).map (stepS ow su pl (rounds ow su pl t n).1), (List.range t.length).map (stepM ow su pl (n + 1) (rounds ow su pl t n).1 (rounds ow su pl t n).2))
theorem rounds_length (ow : List Int) (su : List (List Int)) (pl : Int) (t : List Bool) (n : Nat) : (rounds ow su pl t n).1.length = t.length ∧ (rounds ow su pl t n).2.length = t.length := by
  cases n <;> simp [rounds]
def refAttract (ow pr : List Int) (su : List (List Int)) (pl : Int) (t : List Bool) : List Bool × List Int :=
  if rightB ow pr su pl t then rounds ow su pl t t.length else ([], [])
theorem validB_spec {ow pr : List Int} {su : List (List Int)} (h : validB ow pr su = true) : ow.length ≤ 3000 ∧ pr.length = ow.length ∧ su.length = ow.length ∧ ∀ i, i < ow.length → (ow.getD i 0 = 0 ∨ ow.getD i 0 = 1) ∧ 0 < (su.getD i []).length ∧ ∀ t ∈ su.getD i [], 0 ≤ t ∧ t < (ow.length : Int) := by
  simp only [validB, Bool.and_eq_true, decide_eq_true_eq, List.all_eq_true] at h
  obtain ⟨⟨⟨h1, h2⟩, h3⟩, h4⟩ := h
  refine ⟨h1, h2, h3, fun i hi => ?_⟩
  have := h4 i (List.mem_range.2 hi)
  simp only [posB, Bool.and_eq_true, Bool.or_eq_true, beq_iff_eq, decide_eq_true_eq, List.all_eq_true] at this
  exact ⟨this.1.1.1.1, this.1.2, this.2⟩
theorem k12 (ow pr : List Int) (su : List (List Int)) (pl : Int) (t : List Bool) (hsu : ∀ r ∈ su, r.length < 2 ^ 40) : Contract Try.prog 12 [game ow pr su, .int .i64 pl, boolRow t]
    (.tup [.val (boolRow (refAttract ow pr su pl t).1), .val (intRow (refAttract ow pr su pl t).2)]) := by
  refine ct12 (SH.Sem.of_wpA hm ?_)
  simp only [padA]
  simp only [Try.f12, Option.getD, w_skip, w_reg, w_regd, w_seq, w_cond, w_block, w_loop, w_rf, w_exit, w_ret, f_ok, f_call, f_yield, yK_cons, a_normal, r_normal, r_ret, r_exit, rg_cons, putL, frz, beq_self_eq_true, Nat.reduceBEq, updG_same, f_bad, cK_nil, cK_cons, v_nil, v_cons, gK_tt, gK_ff, gK_tf, gK_ft, dK_go, d_nil, d_cons, gD_tt, gD_ff, gD_tf, gD_ft, eC_one, eC_tup, eC_own, eE_ok, eE_bad, eD, eff, eBin, eEq, eUn, eConv, eLen, eMin, eMax, eField, eFieldAddr, eIndex, eIndexAddr, eSlice, eLoad, eStore, eAlloc, eBox, eBuild, eBuildSlice, eMake, eAppend, eCopy, eNil, ePick, eExtract, E.pure, Eff.only, Eff.notB, evalA, AV.ofV, AV.ofC, sget, sput, putA, applyU, hset, hget, hlen, alen, takeA, dropA, spliceA, mapA, allA, lget, oget, pget, tget, cellsA, AV.one, AV.goneB, partA, partC, TK.isAgg, nilish, natA, natC, loN, hiN, optC, roCut, loadP, loadC, aggOr, fillA, fillC, allPos, partsC, partsCells, partsAll, kills, killIds, liveAll, gnd, srcOf, inBlk, mapO, mapP, Go.SH.IntKind.uns, TK.flat, eqSc, eqScC, eqFs, eqFsC, seqK, blockK, condK, l_exit, l_ret, retK, retS, rsV, rsC, allT, padA, mapT, glook, bsel, gsplit_true, gsplit_false, resOf, resIds, resAll, nodupN, notin, like, like1, likeL, likeAll, AV.np, AV.gb, idsR, idsM, retI, retR, reify, AR.v, AR.u, AR.nv, nvec, impV, impU, isAlloc, callOf, countA, upIds, Option.map_none, Option.map_some, Option.isSome_some, Option.isSome_none, List.map_cons, List.map_nil, true_and, and_true, List.cons_append, List.nil_append, List.append_nil, List.length_cons, List.length_nil, List.nodup_nil, List.not_mem_nil, not_false_eq_true, ne_eq, reduceCtorEq, Bool.and_true, Bool.true_and, Bool.not_true, Bool.not_false, if_true, if_false, reduceIte, en_byte, en_byte', en_int, en_int', en_bool, en_bool', en_str, en_str', en_row, en_row', sh_at, sh_at', and_assoc, Nat.zero_add, Nat.add_zero, Nat.reduceAdd, appF_zero, Option.isNone_none, Option.isNone_some, en_byteL, en_intL, en_rowL, Int.reduceToNat, Nat.mul_one, Nat.one_mul, Nat.zero_mul, Nat.reduceMul, Nat.reduceSub, Nat.sub_zero, bne_self_eq_false, ti1, ti2, ti3, ti4, ti5, ti6, ti7, ti8, ti9, ti10, ti11, ti12, ti13, ti14, ti15, ti16, ti17, ti18, ti19, ti21, ti22, ti23, ti24, ti25, ti26, ti27, ti28, ti30, ti31, ti32, ti33, ti34, ti35, ti36, ti37, ti38, ti40, ti41, ti42, ti43, ti44, ti46, ti47, ti48, ti49, ti50, ti51, ti52, ti53, ti54, ti55, ti56, ti57, ti58, ti60, ti61, ti62, ti63, ti64, ti65, ti66, ti67, ti68, ti69, ti70, ti71, ti72, ti73, ti74, ti75, ti76, ti77, ti78, ti79, ti80, ti81]
  repeat (((with_reducible refine And.intro ?_ ?_)); (focus (first | omega | (simp only [inR]; omega) | rfl | (simp [notinId, notin]; done) | exact Or.inr rfl | (intro i hi; (repeat' (with_reducible first | apply len_cut | apply len_shift | apply len_app | apply len_copy | intro j)) <;> first | rfl | (exact len_lit _ _ (by simp) rfl _) | (simp; done)))))
  refine EffC.use (k27 ow pr su pl t hsu) ?_ (.inl rfl) ?_
  · ((refine evL ?_; (try (with_reducible exact True.intro))) <;> (try simp (disch := (first | omega | (simp only [List.length_append, List.length_cons, List.length_nil, List.length_take, List.length_drop, List.length_map, List.length_nil] <;> omega) | fail)) only [cutF_all, strOf_enc, appF_zero, appF_enc, lit_byte, shiftF_enc, shiftF_0, cutF_enc, List.nil_append, List.drop_zero, List.take_of_length_le]) <;> (repeat' (with_reducible refine And.intro ?_ ?_)) <;> first | trivial | rfl | (intros; first | rfl | trivial; done) | (first | omega | (simp only [List.length_append, List.length_cons, List.length_nil, List.length_take, List.length_drop, List.length_map, List.length_nil] <;> omega) | fail))
  (refine ev ?_; (try (with_reducible exact True.intro)))
  repeat (((with_reducible refine And.intro ?_ ?_)); (focus (first | omega | (simp only [inR]; omega) | rfl | (simp [notinId, notin]; done) | exact Or.inr rfl | (intro i hi; (repeat' (with_reducible first | apply len_cut | apply len_shift | apply len_app | apply len_copy | intro j)) <;> first | rfl | (exact len_lit _ _ (by simp) rfl _) | (simp; done)))))
  refine gs (fun hr => ?_) (fun hr => ?_)
  · have e : refAttract ow pr su pl t = ([], []) := by rw [refAttract, if_neg (by simpa using hr)]
    simp only [e]
    (refine ev ?_; (try (with_reducible exact True.intro)))
    simp [notinId]
  have e : refAttract ow pr su pl t = rounds ow su pl t t.length := by rw [refAttract, if_pos (by simpa using hr)]
  have hrb : rightB ow pr su pl t = true := by simpa using hr
  simp only [rightB, Bool.and_eq_true, decide_eq_true_eq] at hrb
  obtain ⟨⟨hv, hpl⟩, htl⟩ := hrb
  obtain ⟨v1, v2, v3, v4⟩ := validB_spec hv
  rw [e]
  (refine ev ?_; (try (with_reducible exact True.intro)))
  repeat (((with_reducible refine And.intro ?_ ?_)); (focus (first | omega | (simp only [inR]; omega) | rfl | (simp [notinId, notin]; done) | exact Or.inr rfl | (intro i hi; (repeat' (with_reducible first | apply len_cut | apply len_shift | apply len_app | apply len_copy | intro j)) <;> first | rfl | (exact len_lit _ _ (by simp) rfl _) | (simp; done)))))
  have htl3 : t.length ≤ 3000 := by omega
  refine SH.Sem.loop hm (fun i : Nat => ⟨padA [game ow pr su, .int .i64 pl, .undef, .ptr 0 0 0, .undef, .undef, .undef, .undef, .sl 1 0 t.length, .sl 2 0 i, .int .i64 i] 76, [.box [intRow ow, intRow pr, intRows su], .vec 1 t.length (encL cBool false t), .vec 1 i (encL (cInt .i64) 0 ((t.take i).map fun b => if b then 0 else -1))]⟩) (fun i => i ≤ t.length) (fun i => t.length - i) [0, 2, 3] 0 (by omega) ?_ fun i h1 => ?_
  · simp only [padA, St.le, slotsLe, heapLe, blkLe, rowLe, live, injOn, loLe, nget, nlook, ren, okA, allP, mapA, hget, ABlk.used, notin, List.map_cons, List.map_nil, true_or, or_true, false_or, or_false, true_and, and_true, and_self, AV.int.injEq, AV.bool.injEq, AV.str.injEq, AV.sl.injEq, AV.ro.injEq, AV.agg.injEq, List.cons.injEq, reduceCtorEq, ne_eq, not_false_eq_true, not_true_eq_false]; simp
  simp only [padA]
  (refine ev ?_; (try (with_reducible exact True.intro)))
  repeat (((with_reducible refine And.intro ?_ ?_)); (focus (first | omega | (simp only [inR]; omega) | rfl | (simp [notinId, notin]; done) | exact Or.inr rfl | (intro i hi; (repeat' (with_reducible first | apply len_cut | apply len_shift | apply len_app | apply len_copy | intro j)) <;> first | rfl | (exact len_lit _ _ (by simp) rfl _) | (simp; done)))))
  refine gsd (fun hd => ?_) (fun hd => ?_)
  · have hi : i < t.length := by omega
    have nx := take_next t false i hi
    (refine ev ?_; (try (with_reducible exact True.intro)))
    simp only [Int.toNat_natCast]
    repeat (((with_reducible refine And.intro ?_ ?_)); (focus (first | omega | (simp only [inR]; omega) | rfl | (simp [notinId, notin]; done) | exact Or.inr rfl | (intro i hi; (repeat' (with_reducible first | apply len_cut | apply len_shift | apply len_app | apply len_copy | intro j)) <;> first | rfl | (exact len_lit _ _ (by simp) rfl _) | (simp; done)))))
    refine gs (fun hb => ?_) (fun hb => ?_)
    · (refine ev ?_; (try (with_reducible exact True.intro)))
      repeat (((with_reducible refine And.intro ?_ ?_)); (focus (first | omega | (simp only [inR]; omega) | rfl | (simp [notinId, notin]; done) | exact Or.inr rfl | (intro i hi; (repeat' (with_reducible first | apply len_cut | apply len_shift | apply len_app | apply len_copy | intro j)) <;> first | rfl | (exact len_lit _ _ (by simp) rfl _) | (simp; done)))))
      refine ⟨i + 1, [0, 1, 4], by omega, by show t.length - (i + 1) < t.length - i; omega, ?_⟩
      simp only [padA, St.le, slotsLe, heapLe, blkLe, rowLe, live, injOn, loLe, nget, nlook, ren, okA, allP, mapA, hget, ABlk.used, notin, List.map_cons, List.map_nil, true_or, or_true, false_or, or_false, true_and, and_true, and_self, AV.int.injEq, AV.bool.injEq, AV.str.injEq, AV.sl.injEq, AV.ro.injEq, AV.agg.injEq, List.cons.injEq, reduceCtorEq, ne_eq, not_false_eq_true, not_true_eq_false, nx, List.map_append]
      refine ⟨by omega, ⟨fun _ _ => trivial, fun q hq => ?_⟩, by omega⟩
      exact app_enc (n := i) (m := 1) (by simp; omega) (fun j h => cut_at0 j h) (fun j h => lit1 (if t.getD i false = true then 0 else -1) (by rw [if_pos hb]; rfl) j h) q hq
    · (refine ev ?_; (try (with_reducible exact True.intro)))
      repeat (((with_reducible refine And.intro ?_ ?_)); (focus (first | omega | (simp only [inR]; omega) | rfl | (simp [notinId, notin]; done) | exact Or.inr rfl | (intro i hi; (repeat' (with_reducible first | apply len_cut | apply len_shift | apply len_app | apply len_copy | intro j)) <;> first | rfl | (exact len_lit _ _ (by simp) rfl _) | (simp; done)))))
      refine ⟨i + 1, [0, 1, 4], by omega, by show t.length - (i + 1) < t.length - i; omega, ?_⟩
      simp only [padA, St.le, slotsLe, heapLe, blkLe, rowLe, live, injOn, loLe, nget, nlook, ren, okA, allP, mapA, hget, ABlk.used, notin, List.map_cons, List.map_nil, true_or, or_true, false_or, or_false, true_and, and_true, and_self, AV.int.injEq, AV.bool.injEq, AV.str.injEq, AV.sl.injEq, AV.ro.injEq, AV.agg.injEq, List.cons.injEq, reduceCtorEq, ne_eq, not_false_eq_true, not_true_eq_false, nx, List.map_append]
      refine ⟨by omega, ⟨fun _ _ => trivial, fun q hq => ?_⟩, by omega⟩
      exact app_enc (n := i) (m := 1) (by simp; omega) (fun j h => cut_at0 j h) (fun j h => lit1 (if t.getD i false = true then 0 else -1) (by rw [if_neg (by rw [hb]; simp)]; rfl) j h) q hq
  · have hi : i = t.length := by omega
    subst hi
    simp -implicitDefEqProofs only [Option.getD, w_skip, w_reg, w_regd, w_seq, w_cond, w_block, w_loop, w_rf, w_exit, w_ret, f_ok, f_call, f_yield, yK_cons, a_normal, r_normal, r_ret, r_exit, rg_cons, putL, frz, beq_self_eq_true, Nat.reduceBEq, updG_same, f_bad, cK_nil, cK_cons, v_nil, v_cons, gK_tt, gK_ff, gK_tf, gK_ft, dK_go, d_nil, d_cons, gD_tt, gD_ff, gD_tf, gD_ft, eC_one, eC_tup, eC_own, eE_ok, eE_bad, eD, eff, eBin, eEq, eUn, eConv, eLen, eMin, eMax, eField, eFieldAddr, eIndex, eIndexAddr, eSlice, eLoad, eStore, eAlloc, eBox, eBuild, eBuildSlice, eMake, eAppend, eCopy, eNil, ePick, eExtract, E.pure, Eff.only, Eff.notB, evalA, AV.ofV, AV.ofC, sget, sput, putA, applyU, hset, hget, hlen, alen, takeA, dropA, spliceA, mapA, allA, lget, oget, pget, tget, cellsA, AV.one, AV.goneB, partA, partC, TK.isAgg, nilish, natA, natC, loN, hiN, optC, roCut, loadP, loadC, aggOr, fillA, fillC, allPos, partsC, partsCells, partsAll, kills, killIds, liveAll, gnd, srcOf, inBlk, mapO, mapP, Go.SH.IntKind.uns, TK.flat, eqSc, eqScC, eqFs, eqFsC, seqK, blockK, condK, l_exit, l_ret, retK, retS, rsV, rsC, allT, padA, mapT, glook, bsel, gsplit_true, gsplit_false, resOf, resIds, resAll, nodupN, notin, like, like1, likeL, likeAll, AV.np, AV.gb, idsR, idsM, retI, retR, reify, AR.v, AR.u, AR.nv, nvec, impV, impU, isAlloc, callOf, countA, upIds, Option.map_none, Option.map_some, Option.isSome_some, Option.isSome_none, List.map_cons, List.map_nil, true_and, and_true, List.cons_append, List.nil_append, List.append_nil, List.length_cons, List.length_nil, List.nodup_nil, List.not_mem_nil, not_false_eq_true, ne_eq, reduceCtorEq, Bool.and_true, Bool.true_and, Bool.not_true, Bool.not_false, if_true, if_false, reduceIte, en_byte, en_byte', en_int, en_int', en_bool, en_bool', en_str, en_str', en_row, en_row', sh_at, sh_at', and_assoc, Nat.zero_add, Nat.add_zero, Nat.reduceAdd, appF_zero, Option.isNone_none, Option.isNone_some, en_byteL, en_intL, en_rowL, Int.reduceToNat, Nat.mul_one, Nat.one_mul, Nat.zero_mul, Nat.reduceMul, Nat.reduceSub, Nat.sub_zero, bne_self_eq_false, ti1, ti2, ti3, ti4, ti5, ti6, ti7, ti8, ti9, ti10, ti11, ti12, ti13, ti14, ti15, ti16, ti17, ti18, ti19, ti21, ti22, ti23, ti24, ti25, ti26, ti27, ti28, ti30, ti31, ti32, ti33, ti34, ti35, ti36, ti37, ti38, ti40, ti41, ti42, ti43, ti44, ti46, ti47, ti48, ti49, ti50, ti51, ti52, ti53, ti54, ti55, ti56, ti57, ti58, ti60, ti61, ti62, ti63, ti64, ti65, ti66, ti67, ti68, ti69, ti70, ti71, ti72, ti73, ti74, ti75, ti76, ti77, ti78, ti79, ti80, ti81, List.take_length]
    repeat (((with_reducible refine And.intro ?_ ?_)); (focus (first | omega | (simp only [inR]; omega) | rfl | (simp [notinId, notin]; done) | exact Or.inr rfl | (intro i hi; (repeat' (with_reducible first | apply len_cut | apply len_shift | apply len_app | apply len_copy | intro j)) <;> first | rfl | (exact len_lit _ _ (by simp) rfl _) | (simp; done)))))
    refine SH.Sem.loop hm (fun k : Nat => ⟨padA [game ow pr su, .int .i64 pl, .undef, .ptr 0 0 0, .undef, .undef, .undef, .undef, .sl 1 0 t.length, .sl 2 0 t.length, .undef, .int .i64 (k + 1)] 76, [.box [intRow ow, intRow pr, intRows su], .vec 1 t.length (encL cBool false (rounds ow su pl t k).1), .vec 1 t.length (encL (cInt .i64) 0 (rounds ow su pl t k).2)]⟩) (fun k => k ≤ t.length) (fun k => t.length - k) [0, 1, 2] 0 (by omega) ?_ fun k h2 => ?_
    · simp only [padA, St.le, slotsLe, heapLe, blkLe, rowLe, live, injOn, loLe, nget, nlook, ren, okA, allP, mapA, hget, ABlk.used, notin, List.map_cons, List.map_nil, true_or, or_true, false_or, or_false, true_and, and_true, and_self, AV.int.injEq, AV.bool.injEq, AV.str.injEq, AV.sl.injEq, AV.ro.injEq, AV.agg.injEq, List.cons.injEq, reduceCtorEq, ne_eq, not_false_eq_true, not_true_eq_false]; simp [rounds]
    simp only [padA]
    (refine ev ?_; (try (with_reducible exact True.intro)))
    repeat (((with_reducible refine And.intro ?_ ?_)); (focus (first | omega | (simp only [inR]; omega) | rfl | (simp [notinId, notin]; done) | exact Or.inr rfl | (intro i hi; (repeat' (with_reducible first | apply len_cut | apply len_shift | apply len_app | apply len_copy | intro j)) <;> first | rfl | (exact len_lit _ _ (by simp) rfl _) | (simp; done)))))
    obtain ⟨rl1, rl2⟩ := rounds_length ow su pl t k
    refine gsd (fun hk => ?_) (fun hk => ?_)
    · have hk : k < t.length := by omega
      (refine ev ?_; (try (with_reducible exact True.intro)))
      repeat (((with_reducible refine And.intro ?_ ?_)); (focus (first | omega | (simp only [inR]; omega) | rfl | (simp [notinId, notin]; done) | exact Or.inr rfl | (intro i hi; (repeat' (with_reducible first | apply len_cut | apply len_shift | apply len_app | apply len_copy | intro j)) <;> first | rfl | (exact len_lit _ _ (by simp) rfl _) | (simp; done)))))
      try simp (disch := (first | omega | (simp only [List.length_append, List.length_cons, List.length_nil, List.length_take, List.length_drop, List.length_map, List.length_nil] <;> omega) | fail)) only [cutF_all, strOf_enc, appF_zero, appF_enc, lit_byte, shiftF_enc, shiftF_0, cutF_enc, List.nil_append, List.drop_zero, List.take_of_length_le]
      obtain ⟨s, hs⟩ : ∃ s, (rounds ow su pl t k).1 = s := ⟨_, rfl⟩
      obtain ⟨mv, hmv⟩ : ∃ mv, (rounds ow su pl t k).2 = mv := ⟨_, rfl⟩
      have hnext : rounds ow su pl t (k + 1) = ((List.range t.length).map (stepS ow su pl s), (List.range t.length).map (stepM ow su pl (k + 1) s mv)) := by rw [rounds, hs, hmv]
      rw [hs] at rl1
      rw [hmv] at rl2
      simp only [hs, hmv]
      refine SH.Sem.loop hm (fun i : Nat => ⟨padA [game ow pr su, .int .i64 pl, .undef, .ptr 0 0 0, .undef, .undef, .undef, .undef, .sl 1 0 t.length, .sl 2 0 t.length, .undef, .int .i64 (k + 1), .sl 3 0 t.length, .int .i64 i] 76,
        [.box [intRow ow, intRow pr, intRows su], .vec 1 t.length (encL cBool false s), .vec 1 t.length (encL (cInt .i64) 0 (partL t.length (stepM ow su pl (k + 1) s mv) (fun q => mv.getD q 0) i)), .vec 1 t.length (encL cBool false (partL t.length (stepS ow su pl s) (fun q => s.getD q false) i))]⟩) (fun i => i ≤ t.length) (fun i => t.length - i) [0, 1, 2, 4] 0 (by omega) ?_ fun i h3 => ?_
      · have e1 : partL t.length (stepS ow su pl s) (fun q => s.getD q false) 0 = s := by rw [partL_zero, ← rl1, range_getD]
        have e2 : partL t.length (stepM ow su pl (k + 1) s mv) (fun q => mv.getD q 0) 0 = mv := by rw [partL_zero, ← rl2, range_getD]
        simp only [padA, St.le, slotsLe, heapLe, blkLe, rowLe, live, injOn, loLe, nget, nlook, ren, okA, allP, mapA, hget, ABlk.used, notin, List.map_cons, List.map_nil, true_or, or_true, false_or, or_false, true_and, and_true, and_self, AV.int.injEq, AV.bool.injEq, AV.str.injEq, AV.sl.injEq, AV.ro.injEq, AV.agg.injEq, List.cons.injEq, reduceCtorEq, ne_eq, not_false_eq_true, not_true_eq_false, e1, e2]
        simp
      simp only [padA]
      (refine ev ?_; (try (with_reducible exact True.intro)))
      repeat (((with_reducible refine And.intro ?_ ?_)); (focus (first | omega | (simp only [inR]; omega) | rfl | (simp [notinId, notin]; done) | exact Or.inr rfl | (intro i hi; (repeat' (with_reducible first | apply len_cut | apply len_shift | apply len_app | apply len_copy | intro j)) <;> first | rfl | (exact len_lit _ _ (by simp) rfl _) | (simp; done)))))
      refine gsd (fun hd => ?_) (fun hd => ?_)
      · have hi : i < t.length := by omega
        obtain ⟨_, w2, w3⟩ := v4 i (by omega)
        have hc := k28 ow pr su pl s i (by omega) (by omega) (hsu _ (getD_mem (by omega) _)) (fun x hx => by have := w3 x hx; omega)
        (refine ev ?_; (try (with_reducible exact True.intro)))
        simp only [Int.toNat_natCast]
        repeat (((with_reducible refine And.intro ?_ ?_)); (focus (first | omega | (simp only [inR]; omega) | rfl | (simp [notinId, notin]; done) | exact Or.inr rfl | (intro i hi; (repeat' (with_reducible first | apply len_cut | apply len_shift | apply len_app | apply len_copy | intro j)) <;> first | rfl | (exact len_lit _ _ (by simp) rfl _) | (simp; done)))))
        refine gs (fun hb => ?_) (fun hb => ?_)
        · have hb : s.getD i false = false := by simpa only [Bool.not_eq_true'] using hb
          (refine ev ?_; (try (with_reducible exact True.intro)))
          repeat (((with_reducible refine And.intro ?_ ?_)); (focus (first | omega | (simp only [inR]; omega) | rfl | (simp [notinId, notin]; done) | exact Or.inr rfl | (intro i hi; (repeat' (with_reducible first | apply len_cut | apply len_shift | apply len_app | apply len_copy | intro j)) <;> first | rfl | (exact len_lit _ _ (by simp) rfl _) | (simp; done)))))
          refine EffC.use hc ?_ (.inl rfl) ?_
          · ((refine evL ?_; (try (with_reducible exact True.intro))) <;> (try simp (disch := (first | omega | (simp only [List.length_append, List.length_cons, List.length_nil, List.length_take, List.length_drop, List.length_map, List.length_nil] <;> omega) | fail)) only [cutF_all, strOf_enc, appF_zero, appF_enc, lit_byte, shiftF_enc, shiftF_0, cutF_enc, List.nil_append, List.drop_zero, List.take_of_length_le]) <;> (repeat' (with_reducible refine And.intro ?_ ?_)) <;> first | trivial | rfl | (intros; first | rfl | trivial; done) | (first | omega | (simp only [List.length_append, List.length_cons, List.length_nil, List.length_take, List.length_drop, List.length_map, List.length_nil] <;> omega) | fail))
          (refine ev ?_; (try (with_reducible exact True.intro)))
          repeat (((with_reducible refine And.intro ?_ ?_)); (focus (first | omega | (simp only [inR]; omega) | rfl | (simp [notinId, notin]; done) | exact Or.inr rfl | (intro i hi; (repeat' (with_reducible first | apply len_cut | apply len_shift | apply len_app | apply len_copy | intro j)) <;> first | rfl | (exact len_lit _ _ (by simp) rfl _) | (simp; done)))))
          refine gs (fun hcn => ?_) (fun hcn => ?_)
          · have f1 : stepS ow su pl s i = true := by rw [stepS, hcn, Bool.or_true]
            have f2 : stepM ow su pl (k + 1) s mv i = ((k + 1 : Nat) : Int) := by rw [stepM, if_pos ⟨hb, hcn⟩]
            have u1 : updF (encL cBool false (partL t.length (stepS ow su pl s) (fun q => s.getD q false) i)) i [.bool true] = encL cBool false (partL t.length (stepS ow su pl s) (fun q => s.getD q false) (i + 1)) := by
              rw [← partL_set hi true f1.symm]; exact updF_enc true (by rw [partL_length]; exact hi)
            have u2 : updF (encL (cInt .i64) 0 (partL t.length (stepM ow su pl (k + 1) s mv) (fun q => mv.getD q 0) i)) i [.int .i64 ((k : Int) + 1)] = encL (cInt .i64) 0 (partL t.length (stepM ow su pl (k + 1) s mv) (fun q => mv.getD q 0) (i + 1)) := by
              rw [← partL_set hi _ f2.symm]; exact updF_enc (e := cInt .i64) ((k + 1 : Nat) : Int) (by rw [partL_length]; exact hi)
            (refine ev ?_; (try (with_reducible exact True.intro)))
            simp only [Int.toNat_natCast, u1, u2]
            repeat (((with_reducible refine And.intro ?_ ?_)); (focus (first | omega | (simp only [inR]; omega) | rfl | (simp [notinId, notin]; done) | exact Or.inr rfl | (intro i hi; (repeat' (with_reducible first | apply len_cut | apply len_shift | apply len_app | apply len_copy | intro j)) <;> first | rfl | (exact len_lit _ _ (by simp) rfl _) | (simp; done)))))
            refine ⟨i + 1, [0, 1, 2, 3], by omega, by show t.length - (i + 1) < t.length - i; omega, ?_⟩
            simp only [padA, St.le, slotsLe, heapLe, blkLe, rowLe, live, injOn, loLe, nget, nlook, ren, okA, allP, mapA, hget, ABlk.used, notin, List.map_cons, List.map_nil, true_or, or_true, false_or, or_false, true_and, and_true, and_self, AV.int.injEq, AV.bool.injEq, AV.str.injEq, AV.sl.injEq, AV.ro.injEq, AV.agg.injEq, List.cons.injEq, reduceCtorEq, ne_eq, not_false_eq_true, not_true_eq_false]
            simp
          · have f1 : stepS ow su pl s i = s.getD i false := by rw [stepS, hcn, Bool.or_false]
            have f2 : stepM ow su pl (k + 1) s mv i = mv.getD i 0 := by rw [stepM, if_neg (fun h => by rw [h.2] at hcn; cases hcn)]
            (refine ev ?_; (try (with_reducible exact True.intro)))
            repeat (((with_reducible refine And.intro ?_ ?_)); (focus (first | omega | (simp only [inR]; omega) | rfl | (simp [notinId, notin]; done) | exact Or.inr rfl | (intro i hi; (repeat' (with_reducible first | apply len_cut | apply len_shift | apply len_app | apply len_copy | intro j)) <;> first | rfl | (exact len_lit _ _ (by simp) rfl _) | (simp; done)))))
            refine ⟨i + 1, [0, 1, 2, 3], by omega, by show t.length - (i + 1) < t.length - i; omega, ?_⟩
            simp only [padA, St.le, slotsLe, heapLe, blkLe, rowLe, live, injOn, loLe, nget, nlook, ren, okA, allP, mapA, hget, ABlk.used, notin, List.map_cons, List.map_nil, true_or, or_true, false_or, or_false, true_and, and_true, and_self, AV.int.injEq, AV.bool.injEq, AV.str.injEq, AV.sl.injEq, AV.ro.injEq, AV.agg.injEq, List.cons.injEq, reduceCtorEq, ne_eq, not_false_eq_true, not_true_eq_false, partL_same (f := stepS ow su pl s) (g := fun q => s.getD q false) f1, partL_same (f := stepM ow su pl (k + 1) s mv) (g := fun q => mv.getD q 0) f2]
            simp
        · have hb : s.getD i false = true := by simpa only [Bool.not_eq_false'] using hb
          have f1 : stepS ow su pl s i = s.getD i false := by rw [stepS, hb, Bool.true_or]
          have f2 : stepM ow su pl (k + 1) s mv i = mv.getD i 0 := by rw [stepM, if_neg (fun h => by rw [h.1] at hb; cases hb)]
          (refine ev ?_; (try (with_reducible exact True.intro)))
          repeat (((with_reducible refine And.intro ?_ ?_)); (focus (first | omega | (simp only [inR]; omega) | rfl | (simp [notinId, notin]; done) | exact Or.inr rfl | (intro i hi; (repeat' (with_reducible first | apply len_cut | apply len_shift | apply len_app | apply len_copy | intro j)) <;> first | rfl | (exact len_lit _ _ (by simp) rfl _) | (simp; done)))))
          refine ⟨i + 1, [0, 1, 2, 3], by omega, by show t.length - (i + 1) < t.length - i; omega, ?_⟩
          simp only [padA, St.le, slotsLe, heapLe, blkLe, rowLe, live, injOn, loLe, nget, nlook, ren, okA, allP, mapA, hget, ABlk.used, notin, List.map_cons, List.map_nil, true_or, or_true, false_or, or_false, true_and, and_true, and_self, AV.int.injEq, AV.bool.injEq, AV.str.injEq, AV.sl.injEq, AV.ro.injEq, AV.agg.injEq, List.cons.injEq, reduceCtorEq, ne_eq, not_false_eq_true, not_true_eq_false, partL_same (f := stepS ow su pl s) (g := fun q => s.getD q false) f1, partL_same (f := stepM ow su pl (k + 1) s mv) (g := fun q => mv.getD q 0) f2]
          simp
      · have hi : i = t.length := by omega
        subst hi
        (refine ev ?_; (try (with_reducible exact True.intro)))
        repeat (((with_reducible refine And.intro ?_ ?_)); (focus (first | omega | (simp only [inR]; omega) | rfl | (simp [notinId, notin]; done) | exact Or.inr rfl | (intro i hi; (repeat' (with_reducible first | apply len_cut | apply len_shift | apply len_app | apply len_copy | intro j)) <;> first | rfl | (exact len_lit _ _ (by simp) rfl _) | (simp; done)))))
        refine ⟨k + 1, [0, 3, 2], by omega, by show t.length - (k + 1) < t.length - k; omega, ?_⟩
        simp only [padA, St.le, slotsLe, heapLe, blkLe, rowLe, live, injOn, loLe, nget, nlook, ren, okA, allP, mapA, hget, ABlk.used, notin, List.map_cons, List.map_nil, true_or, or_true, false_or, or_false, true_and, and_true, and_self, AV.int.injEq, AV.bool.injEq, AV.str.injEq, AV.sl.injEq, AV.ro.injEq, AV.agg.injEq, List.cons.injEq, reduceCtorEq, ne_eq, not_false_eq_true, not_true_eq_false, hnext, partL_full]
        simp
    · have hk : k = t.length := by omega
      subst hk
      (refine ev ?_; (try (with_reducible exact True.intro)))
      repeat (((with_reducible refine And.intro ?_ ?_)); (focus (first | omega | (simp only [inR]; omega) | rfl | (simp [notinId, notin]; done) | exact Or.inr rfl | (intro i hi; (repeat' (with_reducible first | apply len_cut | apply len_shift | apply len_app | apply len_copy | intro j)) <;> first | rfl | (exact len_lit _ _ (by simp) rfl _) | (simp; done)))))
      refine ⟨fun i hi => cut_at0 i (by omega), by simp [notinId], by omega, fun i hi => cut_at0 i (by omega), by simp [notinId]⟩
end Go.Proofs.Ytnbpjccacmpnoaa
