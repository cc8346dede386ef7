/-
  The laws' small functions: right, Example, head: what they return. No condition.
-/
import Derived.Test.YthkgnnndlocbbaaKl
import Derived.Test.YthkgnnndlocbbaaKi
namespace Go.Proofs.Ythkgnnndlocbbaa
set_option linter.unusedVariables false
set_option linter.unusedSimpArgs false
open Go Go.SH
set_option maxRecDepth 100000
set_option maxHeartbeats 4000000
def lawB (ow pr : List Int) (su : List (List Int)) (s : List Bool) : Bool := smallB 24 ow pr su && validB ow pr su && decide (s.length = ow.length)
theorem k19 (ow pr : List Int) (su : List (List Int)) (s : List Bool) : Contract Try.prog 12 [game ow pr su, boolRow s] (.one (.val (.bool (lawB ow pr su s)))) := by
  refine ct12 (SH.Sem.of_wpA hm ?_)
  simp only [padA]
  simp only [Try.f12, Option.getD, w_skip, w_reg, w_regd, w_seq, w_cond, w_block, w_loop, w_rf, w_exit, w_ret, f_ok, f_call, f_yield, yK_cons, a_normal, r_normal, r_ret, r_exit, rg_cons, putL, frz, beq_self_eq_true, Nat.reduceBEq, updG_same, f_bad, cK_nil, cK_cons, v_nil, v_cons, gK_tt, gK_ff, gK_tf, gK_ft, dK_go, d_nil, d_cons, gD_tt, gD_ff, gD_tf, gD_ft, eC_one, eC_tup, eC_own, eE_ok, eE_bad, eD, eff, eBin, eEq, eUn, eConv, eLen, eMin, eMax, eField, eFieldAddr, eIndex, eIndexAddr, eSlice, eLoad, eStore, eAlloc, eBox, eBuild, eBuildSlice, eMake, eAppend, eCopy, eMakeMap, eMapUpdate, eLookup, lookV, optN, eNil, ePick, eExtract, E.pure, Eff.only, Eff.notB, evalA, AV.ofV, AV.ofC, sget, sput, putA, applyU, hset, hget, hlen, alen, takeA, dropA, spliceA, mapA, allA, lget, oget, pget, tget, cellsA, AV.one, AV.goneB, partA, partC, TK.isAgg, nilish, natA, natC, loN, hiN, optC, roCut, loadP, loadC, aggOr, fillA, fillC, allPos, partsC, partsCells, partsAll, kills, killIds, liveAll, gnd, srcOf, inBlk, mapO, mapP, Go.SH.IntKind.uns, TK.flat, eqSc, eqScC, eqFs, eqFsC, seqK, blockK, condK, l_exit, l_ret, retK, retS, rsV, rsC, allT, padA, mapT, glook, bsel, gsplit_true, gsplit_false, resOf, resIds, resAll, nodupN, notin, like, like1, likeL, likeAll, AV.np, AV.gb, idsR, idsM, retI, retR, reify, AR.v, AR.u, AR.nv, nvec, impV, impU, isAlloc, callOf, countA, upIds, Option.map_none, Option.map_some, Option.isSome_some, Option.isSome_none, List.map_cons, List.map_nil, true_and, and_true, List.cons_append, List.nil_append, List.append_nil, List.length_cons, List.length_nil, List.nodup_nil, List.not_mem_nil, not_false_eq_true, ne_eq, reduceCtorEq, Bool.and_true, Bool.true_and, Bool.not_true, Bool.not_false, if_true, if_false, reduceIte, en_byte, en_byte', en_int, en_int', en_bool, en_bool', en_str, en_str', en_row, en_row', sh_at, sh_at', and_assoc, Nat.zero_add, Nat.add_zero, Nat.reduceAdd, appF_zero, Option.isNone_none, Option.isNone_some, en_byteL, en_intL, en_rowL, Int.reduceToNat, Nat.mul_one, Nat.one_mul, Nat.zero_mul, Nat.reduceMul, Nat.reduceSub, Nat.sub_zero, bne_self_eq_false, ti1, ti2, ti3, ti4, ti5, ti6, ti7, ti8, ti9, ti10, ti11, ti12, ti13, ti14, ti15, ti16, ti17, ti18, ti19, ti21, ti22, ti23, ti24, ti25, ti26, ti27, ti28, ti30, ti31, ti33, ti34, ti35, ti36, ti37, ti38, ti39, ti40, ti41, ti42, ti43, ti45, ti46, ti47, ti48, ti49, ti50, ti51, ti52, ti53, ti54, ti55, ti57, ti58, ti59, ti60, ti61, ti62, ti63, ti64, ti65, ti66, ti67, ti68, ti69, ti70, ti71, ti72, ti73, ti74, ti75, ti76, ti77, ti78, ti79, ti80, ti81, ti82, ti83, ti85, ti86, ti87, ti88, ti89, ti90, ti91, ti92, ti93, ti94, ti95, ti96, ti97, ti98, ti99, ti100, ti101, ti102, ti103, ti104, ti105, ti106, ti107, ti108, ti109]
  repeat (((with_reducible refine And.intro ?_ ?_)); (focus (first | omega | (simp only [inR]; omega) | rfl | (simp [notinId, notin]; done) | exact Or.inr rfl | (intro i hi; (repeat' (with_reducible first | apply len_cut | apply len_shift | apply len_app | apply len_copy | intro j)) <;> first | rfl | (exact len_lit _ _ (by simp) rfl _) | (simp; done)))))
  refine EffC.use (k10 ow pr su 24 (by omega)) ?_ (.inl rfl) ?_
  · ((refine evL ?_; (try (with_reducible exact True.intro))) <;> (try simp (disch := (first | omega | (simp only [List.length_append, List.length_cons, List.length_nil, List.length_take, List.length_drop, List.length_map, List.length_nil] <;> omega) | fail)) only [cutF_all, strOf_enc, appF_zero, appF_enc, lit_byte, shiftF_enc, shiftF_0, cutF_enc, List.nil_append, List.drop_zero, List.take_of_length_le]) <;> (repeat' (with_reducible refine And.intro ?_ ?_)) <;> first | trivial | rfl | (intros; first | rfl | trivial; done) | (first | omega | (simp only [List.length_append, List.length_cons, List.length_nil, List.length_take, List.length_drop, List.length_map, List.length_nil] <;> omega) | fail))
  (refine ev ?_; (try (with_reducible exact True.intro)))
  repeat (((with_reducible refine And.intro ?_ ?_)); (focus (first | omega | (simp only [inR]; omega) | rfl | (simp [notinId, notin]; done) | exact Or.inr rfl | (intro i hi; (repeat' (with_reducible first | apply len_cut | apply len_shift | apply len_app | apply len_copy | intro j)) <;> first | rfl | (exact len_lit _ _ (by simp) rfl _) | (simp; done)))))
  refine gs (fun h1 => ?_) (fun h1 => ?_)
  · (refine ev ?_; (try (with_reducible exact True.intro)))
    repeat (((with_reducible refine And.intro ?_ ?_)); (focus (first | omega | (simp only [inR]; omega) | rfl | (simp [notinId, notin]; done) | exact Or.inr rfl | (intro i hi; (repeat' (with_reducible first | apply len_cut | apply len_shift | apply len_app | apply len_copy | intro j)) <;> first | rfl | (exact len_lit _ _ (by simp) rfl _) | (simp; done)))))
    have hsu : ∀ r ∈ su, r.length < 2 ^ 40 := by
      simp only [smallB, Bool.and_eq_true, List.all_eq_true, decide_eq_true_eq] at h1
      intro r hr; have := h1.2 r hr; omega
    refine EffC.use (k29 ow pr su hsu) ?_ (.inl rfl) ?_
    · ((refine evL ?_; (try (with_reducible exact True.intro))) <;> (try simp (disch := (first | omega | (simp only [List.length_append, List.length_cons, List.length_nil, List.length_take, List.length_drop, List.length_map, List.length_nil] <;> omega) | fail)) only [cutF_all, strOf_enc, appF_zero, appF_enc, lit_byte, shiftF_enc, shiftF_0, cutF_enc, List.nil_append, List.drop_zero, List.take_of_length_le]) <;> (repeat' (with_reducible refine And.intro ?_ ?_)) <;> first | trivial | rfl | (intros; first | rfl | trivial; done) | (first | omega | (simp only [List.length_append, List.length_cons, List.length_nil, List.length_take, List.length_drop, List.length_map, List.length_nil] <;> omega) | fail))
    (refine ev ?_; (try (with_reducible exact True.intro)))
    repeat (((with_reducible refine And.intro ?_ ?_)); (focus (first | omega | (simp only [inR]; omega) | rfl | (simp [notinId, notin]; done) | exact Or.inr rfl | (intro i hi; (repeat' (with_reducible first | apply len_cut | apply len_shift | apply len_app | apply len_copy | intro j)) <;> first | rfl | (exact len_lit _ _ (by simp) rfl _) | (simp; done)))))
    refine gs (fun h2 => ?_) (fun h2 => ?_)
    · (refine ev ?_; (try (with_reducible exact True.intro)))
      repeat (((with_reducible refine And.intro ?_ ?_)); (focus (first | omega | (simp only [inR]; omega) | rfl | (simp [notinId, notin]; done) | exact Or.inr rfl | (intro i hi; (repeat' (with_reducible first | apply len_cut | apply len_shift | apply len_app | apply len_copy | intro j)) <;> first | rfl | (exact len_lit _ _ (by simp) rfl _) | (simp; done)))))
      rw [lawB, h1, h2]
      refine ⟨?_, by simp [notinId]⟩
      rw [show ((s.length : Int) == (ow.length : Int)) = decide (s.length = ow.length) from by rw [Bool.eq_iff_iff, beq_iff_eq, decide_eq_true_eq]; omega]
      rfl
    · (refine ev ?_; (try (with_reducible exact True.intro)))
      simp [lawB, h1, h2, notinId]
  · (refine ev ?_; (try (with_reducible exact True.intro)))
    simp [lawB, h1, notinId]
theorem litI (n : Nat) (l : List (List AV)) (xs : List Int) (h : l = xs.map (cInt .i64)) (hn : n = xs.length) : cutF n 0 n (litF l [.int .i64 0]) = encL (cInt .i64) 0 xs := by
  have := litF_enc (e := cInt .i64) (d := 0) (xs := xs) l [.int .i64 0] h rfl
  rw [this, cutF_all hn]
theorem litB (n : Nat) (l : List (List AV)) (xs : List Bool) (h : l = xs.map cBool) (hn : n = xs.length) : cutF n 0 n (litF l [.bool false]) = encL cBool false xs := by
  have := litF_enc (e := cBool) (d := false) (xs := xs) l [.bool false] h rfl
  rw [this, cutF_all hn]
theorem k24 : Contract Try.prog 33 [] (.one (.val (game [0, 1, 0, 1] [0, 1, 2, 3] [[1, 2], [0, 3], [2], [2, 3]]))) := by
  refine ct33 (SH.Sem.of_wpA hm ?_)
  simp only [padA]
  simp only [Try.f33, Option.getD, w_skip, w_reg, w_regd, w_seq, w_cond, w_block, w_loop, w_rf, w_exit, w_ret, f_ok, f_call, f_yield, yK_cons, a_normal, r_normal, r_ret, r_exit, rg_cons, putL, frz, beq_self_eq_true, Nat.reduceBEq, updG_same, f_bad, cK_nil, cK_cons, v_nil, v_cons, gK_tt, gK_ff, gK_tf, gK_ft, dK_go, d_nil, d_cons, gD_tt, gD_ff, gD_tf, gD_ft, eC_one, eC_tup, eC_own, eE_ok, eE_bad, eD, eff, eBin, eEq, eUn, eConv, eLen, eMin, eMax, eField, eFieldAddr, eIndex, eIndexAddr, eSlice, eLoad, eStore, eAlloc, eBox, eBuild, eBuildSlice, eMake, eAppend, eCopy, eMakeMap, eMapUpdate, eLookup, lookV, optN, eNil, ePick, eExtract, E.pure, Eff.only, Eff.notB, evalA, AV.ofV, AV.ofC, sget, sput, putA, applyU, hset, hget, hlen, alen, takeA, dropA, spliceA, mapA, allA, lget, oget, pget, tget, cellsA, AV.one, AV.goneB, partA, partC, TK.isAgg, nilish, natA, natC, loN, hiN, optC, roCut, loadP, loadC, aggOr, fillA, fillC, allPos, partsC, partsCells, partsAll, kills, killIds, liveAll, gnd, srcOf, inBlk, mapO, mapP, Go.SH.IntKind.uns, TK.flat, eqSc, eqScC, eqFs, eqFsC, seqK, blockK, condK, l_exit, l_ret, retK, retS, rsV, rsC, allT, padA, mapT, glook, bsel, gsplit_true, gsplit_false, resOf, resIds, resAll, nodupN, notin, like, like1, likeL, likeAll, AV.np, AV.gb, idsR, idsM, retI, retR, reify, AR.v, AR.u, AR.nv, nvec, impV, impU, isAlloc, callOf, countA, upIds, Option.map_none, Option.map_some, Option.isSome_some, Option.isSome_none, List.map_cons, List.map_nil, true_and, and_true, List.cons_append, List.nil_append, List.append_nil, List.length_cons, List.length_nil, List.nodup_nil, List.not_mem_nil, not_false_eq_true, ne_eq, reduceCtorEq, Bool.and_true, Bool.true_and, Bool.not_true, Bool.not_false, if_true, if_false, reduceIte, en_byte, en_byte', en_int, en_int', en_bool, en_bool', en_str, en_str', en_row, en_row', sh_at, sh_at', and_assoc, Nat.zero_add, Nat.add_zero, Nat.reduceAdd, appF_zero, Option.isNone_none, Option.isNone_some, en_byteL, en_intL, en_rowL, Int.reduceToNat, Nat.mul_one, Nat.one_mul, Nat.zero_mul, Nat.reduceMul, Nat.reduceSub, Nat.sub_zero, bne_self_eq_false, ti1, ti2, ti3, ti4, ti5, ti6, ti7, ti8, ti9, ti10, ti11, ti12, ti13, ti14, ti15, ti16, ti17, ti18, ti19, ti21, ti22, ti23, ti24, ti25, ti26, ti27, ti28, ti30, ti31, ti33, ti34, ti35, ti36, ti37, ti38, ti39, ti40, ti41, ti42, ti43, ti45, ti46, ti47, ti48, ti49, ti50, ti51, ti52, ti53, ti54, ti55, ti57, ti58, ti59, ti60, ti61, ti62, ti63, ti64, ti65, ti66, ti67, ti68, ti69, ti70, ti71, ti72, ti73, ti74, ti75, ti76, ti77, ti78, ti79, ti80, ti81, ti82, ti83, ti85, ti86, ti87, ti88, ti89, ti90, ti91, ti92, ti93, ti94, ti95, ti96, ti97, ti98, ti99, ti100, ti101, ti102, ti103, ti104, ti105, ti106, ti107, ti108, ti109]
  repeat (((with_reducible refine And.intro ?_ ?_)); (focus (first | omega | (simp only [inR]; omega) | rfl | (simp [notinId, notin]; done) | exact Or.inr rfl | (intro i hi; (repeat' (with_reducible first | apply len_cut | apply len_shift | apply len_app | apply len_copy | intro j)) <;> first | rfl | (exact len_lit _ _ (by simp) rfl _) | (simp; done)))))
  have r0 : cutF 2 0 2 (litF [[.int .i64 1], [.int .i64 2]] [.int .i64 0]) = encL (cInt .i64) 0 [1, 2] := litI 2 _ [1, 2] rfl rfl
  have r1 : cutF 2 0 2 (litF [[.int .i64 0], [.int .i64 3]] [.int .i64 0]) = encL (cInt .i64) 0 [0, 3] := litI 2 _ [0, 3] rfl rfl
  have r2 : cutF 1 0 1 (litF [[.int .i64 2]] [.int .i64 0]) = encL (cInt .i64) 0 [2] := litI 1 _ [2] rfl rfl
  have r3 : cutF 2 0 2 (litF [[.int .i64 2], [.int .i64 3]] [.int .i64 0]) = encL (cInt .i64) 0 [2, 3] := litI 2 _ [2, 3] rfl rfl
  refine ⟨fun i _ => congrFun (litI 4 _ [0, 1, 0, 1] rfl rfl) i, fun i _ => congrFun (litI 4 _ [0, 1, 2, 3] rfl rfl) i, fun i hi => ?_, by simp [notinId]⟩
  rw [r0, r1, r2, r3, cut_at0 i hi]
  match i, hi with
  | 0, _ => rfl
  | 1, _ => rfl
  | 2, _ => rfl
  | 3, _ => rfl
abbrev exA : AV := game [0, 1, 0, 1] [0, 1, 2, 3] [[1, 2], [0, 3], [2], [2, 3]]
def refAttractX (pl : Int) (t : List Bool) := refAttract [0, 1, 0, 1] [0, 1, 2, 3] [[1, 2], [0, 3], [2], [2, 3]] pl t
theorem k9 : Contract Try.prog 11 [] (.one (.val (.bool true))) := by
  have a11 := fun pl t => k11 [0, 1, 0, 1] [0, 1, 2, 3] [[1, 2], [0, 3], [2], [2, 3]] pl t (by decide) (by decide) (by decide) (by decide)
  have a17 := fun pl t => k17 [0, 1, 0, 1] [0, 1, 2, 3] [[1, 2], [0, 3], [2], [2, 3]] pl t (by decide) (by decide) (by decide) (by decide)
  have a15 := fun pl t => k15 [0, 1, 0, 1] [0, 1, 2, 3] [[1, 2], [0, 3], [2], [2, 3]] pl t (by decide) (by decide) (by decide) (by decide)
  have b1 := a11 0 [false, false, true, false]
  rw [show refAttract [0, 1, 0, 1] [0, 1, 2, 3] [[1, 2], [0, 3], [2], [2, 3]] 0 [false, false, true, false] = ([true, false, true, false], [1, -1, 0, -1]) by decide +kernel] at b1
  have b2 := a11 1 [true, false, false, false]
  rw [show refAttract [0, 1, 0, 1] [0, 1, 2, 3] [[1, 2], [0, 3], [2], [2, 3]] 1 [true, false, false, false] = ([true, true, false, false], [0, 1, -1, -1]) by decide +kernel] at b2
  have b3 := a17 1 [false, true, false, true]
  rw [show refClosed [0, 1, 0, 1] [0, 1, 2, 3] [[1, 2], [0, 3], [2], [2, 3]] 1 [false, true, false, true] = [false, true, false, true] by decide +kernel] at b3
  have b4 := a17 0 [true, true, false, false]
  rw [show refClosed [0, 1, 0, 1] [0, 1, 2, 3] [[1, 2], [0, 3], [2], [2, 3]] 0 [true, true, false, false] = [false, false, false, false] by decide +kernel] at b4
  have b5 := a11 2 [false, false, true, false]
  rw [show refAttract [0, 1, 0, 1] [0, 1, 2, 3] [[1, 2], [0, 3], [2], [2, 3]] 2 [false, false, true, false] = ([], []) by decide +kernel] at b5
  have b6 := a15 0 [false, false, true, false]
  rw [show trapB [0, 1, 0, 1] [0, 1, 2, 3] [[1, 2], [0, 3], [2], [2, 3]] 0 [false, false, true, false] = true by decide +kernel] at b6
  have b7 := a15 0 [true, false, false, false]
  rw [show trapB [0, 1, 0, 1] [0, 1, 2, 3] [[1, 2], [0, 3], [2], [2, 3]] 0 [true, false, false, false] = false by decide +kernel] at b7
  clear a11 a17 a15
  refine ct11 (SH.Sem.of_wpA hm ?_)
  simp only [padA]
  simp only [Try.f11, Option.getD, w_skip, w_reg, w_regd, w_seq, w_cond, w_block, w_loop, w_rf, w_exit, w_ret, f_ok, f_call, f_yield, yK_cons, a_normal, r_normal, r_ret, r_exit, rg_cons, putL, frz, beq_self_eq_true, Nat.reduceBEq, updG_same, f_bad, cK_nil, cK_cons, v_nil, v_cons, gK_tt, gK_ff, gK_tf, gK_ft, dK_go, d_nil, d_cons, gD_tt, gD_ff, gD_tf, gD_ft, eC_one, eC_tup, eC_own, eE_ok, eE_bad, eD, eff, eBin, eEq, eUn, eConv, eLen, eMin, eMax, eField, eFieldAddr, eIndex, eIndexAddr, eSlice, eLoad, eStore, eAlloc, eBox, eBuild, eBuildSlice, eMake, eAppend, eCopy, eMakeMap, eMapUpdate, eLookup, lookV, optN, eNil, ePick, eExtract, E.pure, Eff.only, Eff.notB, evalA, AV.ofV, AV.ofC, sget, sput, putA, applyU, hset, hget, hlen, alen, takeA, dropA, spliceA, mapA, allA, lget, oget, pget, tget, cellsA, AV.one, AV.goneB, partA, partC, TK.isAgg, nilish, natA, natC, loN, hiN, optC, roCut, loadP, loadC, aggOr, fillA, fillC, allPos, partsC, partsCells, partsAll, kills, killIds, liveAll, gnd, srcOf, inBlk, mapO, mapP, Go.SH.IntKind.uns, TK.flat, eqSc, eqScC, eqFs, eqFsC, seqK, blockK, condK, l_exit, l_ret, retK, retS, rsV, rsC, allT, padA, mapT, glook, bsel, gsplit_true, gsplit_false, resOf, resIds, resAll, nodupN, notin, like, like1, likeL, likeAll, AV.np, AV.gb, idsR, idsM, retI, retR, reify, AR.v, AR.u, AR.nv, nvec, impV, impU, isAlloc, callOf, countA, upIds, Option.map_none, Option.map_some, Option.isSome_some, Option.isSome_none, List.map_cons, List.map_nil, true_and, and_true, List.cons_append, List.nil_append, List.append_nil, List.length_cons, List.length_nil, List.nodup_nil, List.not_mem_nil, not_false_eq_true, ne_eq, reduceCtorEq, Bool.and_true, Bool.true_and, Bool.not_true, Bool.not_false, if_true, if_false, reduceIte, en_byte, en_byte', en_int, en_int', en_bool, en_bool', en_str, en_str', en_row, en_row', sh_at, sh_at', and_assoc, Nat.zero_add, Nat.add_zero, Nat.reduceAdd, appF_zero, Option.isNone_none, Option.isNone_some, en_byteL, en_intL, en_rowL, Int.reduceToNat, Nat.mul_one, Nat.one_mul, Nat.zero_mul, Nat.reduceMul, Nat.reduceSub, Nat.sub_zero, bne_self_eq_false, ti1, ti2, ti3, ti4, ti5, ti6, ti7, ti8, ti9, ti10, ti11, ti12, ti13, ti14, ti15, ti16, ti17, ti18, ti19, ti21, ti22, ti23, ti24, ti25, ti26, ti27, ti28, ti30, ti31, ti33, ti34, ti35, ti36, ti37, ti38, ti39, ti40, ti41, ti42, ti43, ti45, ti46, ti47, ti48, ti49, ti50, ti51, ti52, ti53, ti54, ti55, ti57, ti58, ti59, ti60, ti61, ti62, ti63, ti64, ti65, ti66, ti67, ti68, ti69, ti70, ti71, ti72, ti73, ti74, ti75, ti76, ti77, ti78, ti79, ti80, ti81, ti82, ti83, ti85, ti86, ti87, ti88, ti89, ti90, ti91, ti92, ti93, ti94, ti95, ti96, ti97, ti98, ti99, ti100, ti101, ti102, ti103, ti104, ti105, ti106, ti107, ti108, ti109]
  repeat (((with_reducible refine And.intro ?_ ?_)); (focus (first | omega | (simp only [inR]; omega) | rfl | (simp [notinId, notin]; done) | exact Or.inr rfl | (intro i hi; (repeat' (with_reducible first | apply len_cut | apply len_shift | apply len_app | apply len_copy | intro j)) <;> first | rfl | (exact len_lit _ _ (by simp) rfl _) | (simp; done)))))
  refine EffC.use k24 ?_ (.inr rfl) ?_
  · trivial
  (refine ev ?_; (try (with_reducible exact True.intro)))
  repeat (((with_reducible refine And.intro ?_ ?_)); (focus (first | omega | (simp only [inR]; omega) | rfl | (simp [notinId, notin]; done) | exact Or.inr rfl | (intro i hi; (repeat' (with_reducible first | apply len_cut | apply len_shift | apply len_app | apply len_copy | intro j)) <;> first | rfl | (exact len_lit _ _ (by simp) rfl _) | (simp; done)))))
  refine EffC.freeze 1 rfl ?_
  (refine evL ?_; (try (with_reducible exact True.intro)))
  refine EffC.use b1 ?_ (.inr rfl) ?_
  · (refine evL ?_; (try (with_reducible exact True.intro)))
    exact ⟨fun _ _ => trivial, fun _ _ => trivial, fun _ _ => trivial, fun i _ => congrFun (litB 4 _ [false, false, true, false] rfl rfl) i⟩
  (refine ev ?_; (try (with_reducible exact True.intro)))
  repeat (((with_reducible refine And.intro ?_ ?_)); (focus (first | omega | (simp only [inR]; omega) | rfl | (simp [notinId, notin]; done) | exact Or.inr rfl | (intro i hi; (repeat' (with_reducible first | apply len_cut | apply len_shift | apply len_app | apply len_copy | intro j)) <;> first | rfl | (exact len_lit _ _ (by simp) rfl _) | (simp; done)))))
  refine EffC.freeze 2 rfl ?_
  (refine evL ?_; (try (with_reducible exact True.intro)))
  refine EffC.use b2 ?_ (.inr rfl) ?_
  · (refine evL ?_; (try (with_reducible exact True.intro)))
    exact ⟨fun _ _ => trivial, fun _ _ => trivial, fun _ _ => trivial, fun i _ => congrFun (litB 4 _ [true, false, false, false] rfl rfl) i⟩
  (refine ev ?_; (try (with_reducible exact True.intro)))
  repeat (((with_reducible refine And.intro ?_ ?_)); (focus (first | omega | (simp only [inR]; omega) | rfl | (simp [notinId, notin]; done) | exact Or.inr rfl | (intro i hi; (repeat' (with_reducible first | apply len_cut | apply len_shift | apply len_app | apply len_copy | intro j)) <;> first | rfl | (exact len_lit _ _ (by simp) rfl _) | (simp; done)))))
  refine EffC.freeze 3 rfl ?_
  (refine evL ?_; (try (with_reducible exact True.intro)))
  refine EffC.use b3 ?_ (.inr rfl) ?_
  · (refine evL ?_; (try (with_reducible exact True.intro)))
    exact ⟨fun _ _ => trivial, fun _ _ => trivial, fun _ _ => trivial, fun i _ => congrFun (litB 4 _ [false, true, false, true] rfl rfl) i⟩
  (refine ev ?_; (try (with_reducible exact True.intro)))
  repeat (((with_reducible refine And.intro ?_ ?_)); (focus (first | omega | (simp only [inR]; omega) | rfl | (simp [notinId, notin]; done) | exact Or.inr rfl | (intro i hi; (repeat' (with_reducible first | apply len_cut | apply len_shift | apply len_app | apply len_copy | intro j)) <;> first | rfl | (exact len_lit _ _ (by simp) rfl _) | (simp; done)))))
  refine EffC.freeze 4 rfl ?_
  (refine evL ?_; (try (with_reducible exact True.intro)))
  refine EffC.use b4 ?_ (.inr rfl) ?_
  · (refine evL ?_; (try (with_reducible exact True.intro)))
    exact ⟨fun _ _ => trivial, fun _ _ => trivial, fun _ _ => trivial, fun i _ => congrFun (litB 4 _ [true, true, false, false] rfl rfl) i⟩
  (refine ev ?_; (try (with_reducible exact True.intro)))
  repeat (((with_reducible refine And.intro ?_ ?_)); (focus (first | omega | (simp only [inR]; omega) | rfl | (simp [notinId, notin]; done) | exact Or.inr rfl | (intro i hi; (repeat' (with_reducible first | apply len_cut | apply len_shift | apply len_app | apply len_copy | intro j)) <;> first | rfl | (exact len_lit _ _ (by simp) rfl _) | (simp; done)))))
  refine EffC.freeze 5 rfl ?_
  (refine evL ?_; (try (with_reducible exact True.intro)))
  refine EffC.use b5 ?_ (.inr rfl) ?_
  · (refine evL ?_; (try (with_reducible exact True.intro)))
    exact ⟨fun _ _ => trivial, fun _ _ => trivial, fun _ _ => trivial, fun i _ => congrFun (litB 4 _ [false, false, true, false] rfl rfl) i⟩
  (refine ev ?_; (try (with_reducible exact True.intro)))
  repeat (((with_reducible refine And.intro ?_ ?_)); (focus (first | omega | (simp only [inR]; omega) | rfl | (simp [notinId, notin]; done) | exact Or.inr rfl | (intro i hi; (repeat' (with_reducible first | apply len_cut | apply len_shift | apply len_app | apply len_copy | intro j)) <;> first | rfl | (exact len_lit _ _ (by simp) rfl _) | (simp; done)))))
  have c1 := k13 [true, false, true, false] [true, false, true, false] (by decide)
  rw [show ([true, false, true, false] == [true, false, true, false]) = true from rfl] at c1
  have c2 := k14 [1, -1, 0, -1] [1, -1, 0, -1] (by decide)
  rw [show (([1, -1, 0, -1] : List Int) == [1, -1, 0, -1]) = true from by decide] at c2
  have c3 := k13 [true, true, false, false] [true, true, false, false] (by decide)
  rw [show ([true, true, false, false] == [true, true, false, false]) = true from rfl] at c3
  have c4 := k14 [0, 1, -1, -1] [0, 1, -1, -1] (by decide)
  rw [show (([0, 1, -1, -1] : List Int) == [0, 1, -1, -1]) = true from by decide] at c4
  have c5 := k13 [false, true, false, true] [false, true, false, true] (by decide)
  rw [show ([false, true, false, true] == [false, true, false, true]) = true from rfl] at c5
  have c6 := k13 [false, false, false, false] [false, false, false, false] (by decide)
  rw [show ([false, false, false, false] == [false, false, false, false]) = true from rfl] at c6
  refine EffC.use c1 ?_ (.inl rfl) ?_
  · (refine evL ?_; (try (with_reducible exact True.intro)))
    exact ⟨fun _ _ => trivial, fun i _ => congrFun (litB 4 _ [true, false, true, false] rfl rfl) i⟩
  (refine ev ?_; (try (with_reducible exact True.intro)))
  repeat (((with_reducible refine And.intro ?_ ?_)); (focus (first | omega | (simp only [inR]; omega) | rfl | (simp [notinId, notin]; done) | exact Or.inr rfl | (intro i hi; (repeat' (with_reducible first | apply len_cut | apply len_shift | apply len_app | apply len_copy | intro j)) <;> first | rfl | (exact len_lit _ _ (by simp) rfl _) | (simp; done)))))
  refine EffC.use c2 ?_ (.inl rfl) ?_
  · (refine evL ?_; (try (with_reducible exact True.intro)))
    exact ⟨fun _ _ => trivial, fun i _ => congrFun (litI 4 _ [1, -1, 0, -1] rfl rfl) i⟩
  (refine ev ?_; (try (with_reducible exact True.intro)))
  repeat (((with_reducible refine And.intro ?_ ?_)); (focus (first | omega | (simp only [inR]; omega) | rfl | (simp [notinId, notin]; done) | exact Or.inr rfl | (intro i hi; (repeat' (with_reducible first | apply len_cut | apply len_shift | apply len_app | apply len_copy | intro j)) <;> first | rfl | (exact len_lit _ _ (by simp) rfl _) | (simp; done)))))
  refine EffC.use c3 ?_ (.inl rfl) ?_
  · (refine evL ?_; (try (with_reducible exact True.intro)))
    exact ⟨fun _ _ => trivial, fun i _ => congrFun (litB 4 _ [true, true, false, false] rfl rfl) i⟩
  (refine ev ?_; (try (with_reducible exact True.intro)))
  repeat (((with_reducible refine And.intro ?_ ?_)); (focus (first | omega | (simp only [inR]; omega) | rfl | (simp [notinId, notin]; done) | exact Or.inr rfl | (intro i hi; (repeat' (with_reducible first | apply len_cut | apply len_shift | apply len_app | apply len_copy | intro j)) <;> first | rfl | (exact len_lit _ _ (by simp) rfl _) | (simp; done)))))
  refine EffC.use c4 ?_ (.inl rfl) ?_
  · (refine evL ?_; (try (with_reducible exact True.intro)))
    exact ⟨fun _ _ => trivial, fun i _ => congrFun (litI 4 _ [0, 1, -1, -1] rfl rfl) i⟩
  (refine ev ?_; (try (with_reducible exact True.intro)))
  repeat (((with_reducible refine And.intro ?_ ?_)); (focus (first | omega | (simp only [inR]; omega) | rfl | (simp [notinId, notin]; done) | exact Or.inr rfl | (intro i hi; (repeat' (with_reducible first | apply len_cut | apply len_shift | apply len_app | apply len_copy | intro j)) <;> first | rfl | (exact len_lit _ _ (by simp) rfl _) | (simp; done)))))
  refine EffC.use c5 ?_ (.inl rfl) ?_
  · (refine evL ?_; (try (with_reducible exact True.intro)))
    exact ⟨fun _ _ => trivial, fun i _ => congrFun (litB 4 _ [false, true, false, true] rfl rfl) i⟩
  (refine ev ?_; (try (with_reducible exact True.intro)))
  repeat (((with_reducible refine And.intro ?_ ?_)); (focus (first | omega | (simp only [inR]; omega) | rfl | (simp [notinId, notin]; done) | exact Or.inr rfl | (intro i hi; (repeat' (with_reducible first | apply len_cut | apply len_shift | apply len_app | apply len_copy | intro j)) <;> first | rfl | (exact len_lit _ _ (by simp) rfl _) | (simp; done)))))
  refine EffC.use c6 ?_ (.inl rfl) ?_
  · (refine evL ?_; (try (with_reducible exact True.intro)))
    refine ⟨fun _ _ => trivial, fun i hi => ?_⟩
    rw [cut_at0 i hi]
    match i, hi with
    | 0, _ => rfl
    | 1, _ => rfl
    | 2, _ => rfl
    | 3, _ => rfl
  (refine ev ?_; (try (with_reducible exact True.intro)))
  repeat (((with_reducible refine And.intro ?_ ?_)); (focus (first | omega | (simp only [inR]; omega) | rfl | (simp [notinId, notin]; done) | exact Or.inr rfl | (intro i hi; (repeat' (with_reducible first | apply len_cut | apply len_shift | apply len_app | apply len_copy | intro j)) <;> first | rfl | (exact len_lit _ _ (by simp) rfl _) | (simp; done)))))
  refine EffC.use b6 ?_ (.inl rfl) ?_
  · (refine evL ?_; (try (with_reducible exact True.intro)))
    exact ⟨fun _ _ => trivial, fun _ _ => trivial, fun _ _ => trivial, fun i _ => congrFun (litB 4 _ [false, false, true, false] rfl rfl) i⟩
  (refine ev ?_; (try (with_reducible exact True.intro)))
  repeat (((with_reducible refine And.intro ?_ ?_)); (focus (first | omega | (simp only [inR]; omega) | rfl | (simp [notinId, notin]; done) | exact Or.inr rfl | (intro i hi; (repeat' (with_reducible first | apply len_cut | apply len_shift | apply len_app | apply len_copy | intro j)) <;> first | rfl | (exact len_lit _ _ (by simp) rfl _) | (simp; done)))))
  refine EffC.use b7 ?_ (.inl rfl) ?_
  · (refine evL ?_; (try (with_reducible exact True.intro)))
    exact ⟨fun _ _ => trivial, fun _ _ => trivial, fun _ _ => trivial, fun i _ => congrFun (litB 4 _ [true, false, false, false] rfl rfl) i⟩
  (refine ev ?_; (try (with_reducible exact True.intro)))
  ((repeat' (with_reducible refine And.intro ?_ ?_)) <;> first | omega | (simp [notinId]; done) | (exact fun q hq => cut_at0 q (by simpa using hq)) | (exact fun q hq => cut_at0 q (by omega)) | (exact fun _ _ => rfl))
end Go.Proofs.Ythkgnnndlocbbaa
