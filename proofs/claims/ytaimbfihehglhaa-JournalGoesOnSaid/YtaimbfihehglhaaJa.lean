/-
  The journal's and the reference's small functions: what they return, for lists of bytes of less than 2^40 bytes.
-/
import Derived.Test.YtaimbfihehglhaaJp
namespace Go.Proofs.Ytaimbfihehglhaa
set_option linter.unusedVariables false
set_option linter.unusedSimpArgs false
open Go Go.SH
set_option maxRecDepth 10000
set_option maxHeartbeats 2000000
theorem k32 (n : Nat) (h : n < 65536) : Contract Try.prog 32 [.int .i64 n] (.one (.vec 1 2 (encL cByte 0 (two n)))) := by
  refine ct32 (SH.Sem.of_wpA hm ?_)
  simp only [padA]
  simp only [Try.f32, Option.getD, w_skip, w_reg, w_regd, w_seq, w_cond, w_block, w_loop, w_rf, w_exit, w_ret, f_ok, f_call, f_yield, yK_cons, a_normal, r_normal, r_ret, r_exit, rg_cons, putL, frz, beq_self_eq_true, Nat.reduceBEq, updG_same, f_bad, cK_nil, cK_cons, v_nil, v_cons, gK_tt, gK_ff, gK_tf, gK_ft, dK_go, d_nil, d_cons, gD_tt, gD_ff, gD_tf, gD_ft, eC_one, eC_tup, eC_own, eE_ok, eE_bad, eD, eff, eBin, eEq, eUn, eConv, eLen, eMin, eMax, eField, eFieldAddr, eIndex, eIndexAddr, eSlice, eLoad, eStore, eAlloc, eBox, eBuild, eBuildSlice, eMake, eAppend, eCopy, eNil, ePick, eExtract, E.pure, Eff.only, Eff.notB, evalA, AV.ofV, AV.ofC, sget, sput, putA, applyU, hset, hget, hlen, alen, takeA, dropA, spliceA, mapA, allA, lget, oget, pget, tget, cellsA, AV.one, AV.goneB, partA, partC, TK.isAgg, nilish, natA, natC, loN, hiN, optC, roCut, loadP, loadC, aggOr, fillA, fillC, allPos, partsC, partsCells, partsAll, kills, killIds, liveAll, gnd, srcOf, inBlk, mapO, mapP, Go.SH.IntKind.uns, TK.flat, eqSc, eqScC, eqFs, eqFsC, seqK, blockK, condK, l_exit, l_ret, retK, retS, rsV, rsC, allT, padA, mapT, glook, bsel, gsplit_true, gsplit_false, resOf, resIds, resAll, nodupN, notin, like, like1, likeL, likeAll, AV.np, AV.gb, idsR, idsM, retI, retR, reify, AR.v, AR.u, AR.nv, nvec, impV, impU, isAlloc, callOf, countA, upIds, Option.map_none, Option.map_some, Option.isSome_some, Option.isSome_none, List.map_cons, List.map_nil, true_and, and_true, List.cons_append, List.nil_append, List.append_nil, List.length_cons, List.length_nil, List.nodup_nil, List.not_mem_nil, not_false_eq_true, ne_eq, reduceCtorEq, Bool.and_true, Bool.true_and, Bool.not_true, Bool.not_false, if_true, if_false, reduceIte, en_byte, en_byte', en_int, en_int', en_bool, en_bool', en_str, en_str', en_row, en_row', sh_at, sh_at', and_assoc, Nat.zero_add, Nat.add_zero, Nat.reduceAdd, appF_zero, Option.isNone_none, Option.isNone_some, en_byteL, en_intL, en_rowL, Int.reduceToNat, Nat.mul_one, Nat.one_mul, Nat.zero_mul, Nat.reduceMul, Nat.reduceSub, Nat.sub_zero, bne_self_eq_false, ti1, ti2, ti3, ti4, ti5, ti6, ti7, ti8, ti9, ti10, ti11, ti12, ti13, ti14, ti15, ti16, ti17, ti18, ti19, ti21, ti22, ti23, ti24, ti25, ti26, ti28, ti30, ti31, ti33, ti34, ti35, ti36, ti37, ti38, ti39, ti40, ti41, ti42, ti43, ti44, ti45, ti46, ti47, ti48, ti49, ti50, ti52, ti53, ti54, ti55, ti56, ti57, ti58, ti59, ti60, ti61, ti62, ti63, ti64, ti65, ti66, ti67, ti68, ti69, ti70, ti71, ti72, ti73, ti74]
  simp [inR, Int.tdiv_eq_ediv_of_nonneg, Int.tmod_eq_emod_of_nonneg]
  refine ⟨by omega, fun i hi => ?_⟩
  match i, hi with
  | 0, _ => simp [litF, lget, encL, two, cByte]
  | 1, _ => simp [litF, lget, encL, two, cByte]
theorem k17 (xs ys : List UInt8) (hx : xs.length < 2 ^ 40) : Contract Try.prog 17 [byteRow xs, byteRow ys] (.one (.val (.bool (xs == ys)))) := by
  refine ct17 (SH.Sem.of_wpA hm ?_)
  simp only [padA]
  simp only [Try.f17, Option.getD, w_skip, w_reg, w_regd, w_seq, w_cond, w_block, w_loop, w_rf, w_exit, w_ret, f_ok, f_call, f_yield, yK_cons, a_normal, r_normal, r_ret, r_exit, rg_cons, putL, frz, beq_self_eq_true, Nat.reduceBEq, updG_same, f_bad, cK_nil, cK_cons, v_nil, v_cons, gK_tt, gK_ff, gK_tf, gK_ft, dK_go, d_nil, d_cons, gD_tt, gD_ff, gD_tf, gD_ft, eC_one, eC_tup, eC_own, eE_ok, eE_bad, eD, eff, eBin, eEq, eUn, eConv, eLen, eMin, eMax, eField, eFieldAddr, eIndex, eIndexAddr, eSlice, eLoad, eStore, eAlloc, eBox, eBuild, eBuildSlice, eMake, eAppend, eCopy, eNil, ePick, eExtract, E.pure, Eff.only, Eff.notB, evalA, AV.ofV, AV.ofC, sget, sput, putA, applyU, hset, hget, hlen, alen, takeA, dropA, spliceA, mapA, allA, lget, oget, pget, tget, cellsA, AV.one, AV.goneB, partA, partC, TK.isAgg, nilish, natA, natC, loN, hiN, optC, roCut, loadP, loadC, aggOr, fillA, fillC, allPos, partsC, partsCells, partsAll, kills, killIds, liveAll, gnd, srcOf, inBlk, mapO, mapP, Go.SH.IntKind.uns, TK.flat, eqSc, eqScC, eqFs, eqFsC, seqK, blockK, condK, l_exit, l_ret, retK, retS, rsV, rsC, allT, padA, mapT, glook, bsel, gsplit_true, gsplit_false, resOf, resIds, resAll, nodupN, notin, like, like1, likeL, likeAll, AV.np, AV.gb, idsR, idsM, retI, retR, reify, AR.v, AR.u, AR.nv, nvec, impV, impU, isAlloc, callOf, countA, upIds, Option.map_none, Option.map_some, Option.isSome_some, Option.isSome_none, List.map_cons, List.map_nil, true_and, and_true, List.cons_append, List.nil_append, List.append_nil, List.length_cons, List.length_nil, List.nodup_nil, List.not_mem_nil, not_false_eq_true, ne_eq, reduceCtorEq, Bool.and_true, Bool.true_and, Bool.not_true, Bool.not_false, if_true, if_false, reduceIte, en_byte, en_byte', en_int, en_int', en_bool, en_bool', en_str, en_str', en_row, en_row', sh_at, sh_at', and_assoc, Nat.zero_add, Nat.add_zero, Nat.reduceAdd, appF_zero, Option.isNone_none, Option.isNone_some, en_byteL, en_intL, en_rowL, Int.reduceToNat, Nat.mul_one, Nat.one_mul, Nat.zero_mul, Nat.reduceMul, Nat.reduceSub, Nat.sub_zero, bne_self_eq_false, ti1, ti2, ti3, ti4, ti5, ti6, ti7, ti8, ti9, ti10, ti11, ti12, ti13, ti14, ti15, ti16, ti17, ti18, ti19, ti21, ti22, ti23, ti24, ti25, ti26, ti28, ti30, ti31, ti33, ti34, ti35, ti36, ti37, ti38, ti39, ti40, ti41, ti42, ti43, ti44, ti45, ti46, ti47, ti48, ti49, ti50, ti52, ti53, ti54, ti55, ti56, ti57, ti58, ti59, ti60, ti61, ti62, ti63, ti64, ti65, ti66, ti67, ti68, ti69, ti70, ti71, ti72, ti73, ti74]
  refine ⟨fun hb => ?_, fun hb => ?_⟩
  · (refine ev ?_; (try (with_reducible exact True.intro)))
    refine ⟨?_, by simp [notinId]⟩
    have : xs ≠ ys := fun h => by simp [h] at hb
    simp [this]
  · (refine ev ?_; (try (with_reducible exact True.intro)))
    have hl : xs.length = ys.length := by simp at hb; omega
    refine SH.Sem.loop hm (fun i : Nat => ⟨padA [byteRow xs, byteRow ys, .undef, .undef, .undef, .int .i64 i] 26, []⟩) (fun i => i ≤ xs.length ∧ xs.take i = ys.take i) (fun i => xs.length - i) [] 0 ⟨by omega, rfl⟩ ?_ fun i ⟨h1, h2⟩ => ?_
    · simp only [padA, St.le, slotsLe, heapLe, blkLe, rowLe, live, injOn, loLe, nget, nlook, ren, okA, allP, mapA, hget, ABlk.used, notin, List.map_cons, List.map_nil, true_or, or_true, false_or, or_false, true_and, and_true, and_self, AV.int.injEq, AV.bool.injEq, AV.str.injEq, AV.sl.injEq, AV.ro.injEq, AV.agg.injEq, List.cons.injEq, reduceCtorEq, ne_eq, not_false_eq_true, not_true_eq_false]; simp
    · simp only [padA]
      (refine ev ?_; (try (with_reducible exact True.intro)))
      refine ⟨fun hc => ?_, fun hc => ?_⟩
      · have hi : i < xs.length := by simpa using hc
        (refine ev ?_; (try (with_reducible exact True.intro)))
        repeat (((with_reducible refine And.intro ?_ ?_)); (focus (first | omega | (simp only [inR]; omega) | rfl | (simp [notinId, notin]; done) | exact Or.inr rfl | (intro i hi; (repeat' (with_reducible first | apply len_cut | apply len_shift | apply len_app | apply len_copy | intro j)) <;> first | rfl | (exact len_lit _ _ (by simp) rfl _) | (simp; done)))))
        refine ⟨fun hd => ?_, fun hd => ?_⟩
        · (refine ev ?_; (try (with_reducible exact True.intro)))
          refine ⟨?_, by simp [notinId]⟩
          have : xs ≠ ys := fun h => by simp [h] at hd
          simp [this]
        · (refine ev ?_; (try (with_reducible exact True.intro)))
          refine ⟨by simp only [inR]; omega, i + 1, [], ⟨by omega, ?_⟩, by show xs.length - (i + 1) < xs.length - i; omega, ?_⟩
          · rw [take_next xs 0 i hi, take_next ys 0 i (by omega), h2]
            have : xs.getD i 0 = ys.getD i 0 := by
              simp only [bne_eq_false_iff_eq, Int.toNat_natCast] at hd
              exact UInt8.toNat_inj.1 (by omega)
            rw [this]
          · simp only [padA, St.le, slotsLe, heapLe, blkLe, rowLe, live, injOn, loLe, nget, nlook, ren, okA, allP, mapA, hget, ABlk.used, notin, List.map_cons, List.map_nil, true_or, or_true, false_or, or_false, true_and, and_true, and_self, AV.int.injEq, AV.bool.injEq, AV.str.injEq, AV.sl.injEq, AV.ro.injEq, AV.agg.injEq, List.cons.injEq, reduceCtorEq, ne_eq, not_false_eq_true, not_true_eq_false]; simp
      · (refine ev ?_; (try (with_reducible exact True.intro)))
        refine ⟨?_, by simp [notinId]⟩
        have hi : xs.length ≤ i := by simpa using hc
        rw [List.take_of_length_le hi, List.take_of_length_le (by omega)] at h2
        simp [h2]
theorem k20 (xs ys : List (List UInt8)) (hx : xs.length < 2 ^ 40) (hxs : ∀ x ∈ xs, x.length < 2 ^ 40) : Contract Try.prog 20 [byteRows xs, byteRows ys] (.one (.val (.bool (xs == ys)))) := by
  refine ct20 (SH.Sem.of_wpA hm ?_)
  simp only [padA]
  simp only [Try.f20, Option.getD, w_skip, w_reg, w_regd, w_seq, w_cond, w_block, w_loop, w_rf, w_exit, w_ret, f_ok, f_call, f_yield, yK_cons, a_normal, r_normal, r_ret, r_exit, rg_cons, putL, frz, beq_self_eq_true, Nat.reduceBEq, updG_same, f_bad, cK_nil, cK_cons, v_nil, v_cons, gK_tt, gK_ff, gK_tf, gK_ft, dK_go, d_nil, d_cons, gD_tt, gD_ff, gD_tf, gD_ft, eC_one, eC_tup, eC_own, eE_ok, eE_bad, eD, eff, eBin, eEq, eUn, eConv, eLen, eMin, eMax, eField, eFieldAddr, eIndex, eIndexAddr, eSlice, eLoad, eStore, eAlloc, eBox, eBuild, eBuildSlice, eMake, eAppend, eCopy, eNil, ePick, eExtract, E.pure, Eff.only, Eff.notB, evalA, AV.ofV, AV.ofC, sget, sput, putA, applyU, hset, hget, hlen, alen, takeA, dropA, spliceA, mapA, allA, lget, oget, pget, tget, cellsA, AV.one, AV.goneB, partA, partC, TK.isAgg, nilish, natA, natC, loN, hiN, optC, roCut, loadP, loadC, aggOr, fillA, fillC, allPos, partsC, partsCells, partsAll, kills, killIds, liveAll, gnd, srcOf, inBlk, mapO, mapP, Go.SH.IntKind.uns, TK.flat, eqSc, eqScC, eqFs, eqFsC, seqK, blockK, condK, l_exit, l_ret, retK, retS, rsV, rsC, allT, padA, mapT, glook, bsel, gsplit_true, gsplit_false, resOf, resIds, resAll, nodupN, notin, like, like1, likeL, likeAll, AV.np, AV.gb, idsR, idsM, retI, retR, reify, AR.v, AR.u, AR.nv, nvec, impV, impU, isAlloc, callOf, countA, upIds, Option.map_none, Option.map_some, Option.isSome_some, Option.isSome_none, List.map_cons, List.map_nil, true_and, and_true, List.cons_append, List.nil_append, List.append_nil, List.length_cons, List.length_nil, List.nodup_nil, List.not_mem_nil, not_false_eq_true, ne_eq, reduceCtorEq, Bool.and_true, Bool.true_and, Bool.not_true, Bool.not_false, if_true, if_false, reduceIte, en_byte, en_byte', en_int, en_int', en_bool, en_bool', en_str, en_str', en_row, en_row', sh_at, sh_at', and_assoc, Nat.zero_add, Nat.add_zero, Nat.reduceAdd, appF_zero, Option.isNone_none, Option.isNone_some, en_byteL, en_intL, en_rowL, Int.reduceToNat, Nat.mul_one, Nat.one_mul, Nat.zero_mul, Nat.reduceMul, Nat.reduceSub, Nat.sub_zero, bne_self_eq_false, ti1, ti2, ti3, ti4, ti5, ti6, ti7, ti8, ti9, ti10, ti11, ti12, ti13, ti14, ti15, ti16, ti17, ti18, ti19, ti21, ti22, ti23, ti24, ti25, ti26, ti28, ti30, ti31, ti33, ti34, ti35, ti36, ti37, ti38, ti39, ti40, ti41, ti42, ti43, ti44, ti45, ti46, ti47, ti48, ti49, ti50, ti52, ti53, ti54, ti55, ti56, ti57, ti58, ti59, ti60, ti61, ti62, ti63, ti64, ti65, ti66, ti67, ti68, ti69, ti70, ti71, ti72, ti73, ti74]
  refine ⟨fun hb => ?_, fun hb => ?_⟩
  · (refine ev ?_; (try (with_reducible exact True.intro)))
    refine ⟨?_, by simp [notinId]⟩
    have : xs ≠ ys := fun h => by simp [h] at hb
    simp [this]
  · (refine ev ?_; (try (with_reducible exact True.intro)))
    have hl : xs.length = ys.length := by simp at hb; omega
    refine SH.Sem.loop hm (fun i : Nat => ⟨padA [byteRows xs, byteRows ys, .undef, .undef, .undef, .int .i64 i] 27, []⟩) (fun i => i ≤ xs.length ∧ xs.take i = ys.take i) (fun i => xs.length - i) [] 0 ⟨by omega, rfl⟩ ?_ fun i ⟨h1, h2⟩ => ?_
    · simp only [padA, St.le, slotsLe, heapLe, blkLe, rowLe, live, injOn, loLe, nget, nlook, ren, okA, allP, mapA, hget, ABlk.used, notin, List.map_cons, List.map_nil, true_or, or_true, false_or, or_false, true_and, and_true, and_self, AV.int.injEq, AV.bool.injEq, AV.str.injEq, AV.sl.injEq, AV.ro.injEq, AV.agg.injEq, List.cons.injEq, reduceCtorEq, ne_eq, not_false_eq_true, not_true_eq_false]; simp
    · simp only [padA]
      (refine ev ?_; (try (with_reducible exact True.intro)))
      refine ⟨fun hc => ?_, fun hc => ?_⟩
      · have hi : i < xs.length := by simpa using hc
        (refine ev ?_; (try (with_reducible exact True.intro)))
        repeat (((with_reducible refine And.intro ?_ ?_)); (focus (first | omega | (simp only [inR]; omega) | rfl | (simp [notinId, notin]; done) | exact Or.inr rfl | (intro i hi; (repeat' (with_reducible first | apply len_cut | apply len_shift | apply len_app | apply len_copy | intro j)) <;> first | rfl | (exact len_lit _ _ (by simp) rfl _) | (simp; done)))))
        refine ExCall.use (k17 (xs.getD i []) (ys.getD i []) ?_) ?_ (.inl rfl) ?_
        · rw [List.getD_eq_getElem?_getD, List.getElem?_eq_getElem hi]; exact hxs _ (List.getElem_mem hi)
        · (refine ev ?_; (try (with_reducible exact True.intro))); simp
        · (refine ev ?_; (try (with_reducible exact True.intro)))
          refine ⟨rfl, ?_⟩
          refine ⟨fun hd => ?_, fun hd => ?_⟩
          · (refine ev ?_; (try (with_reducible exact True.intro)))
            refine ⟨?_, by simp [notinId]⟩
            have : xs ≠ ys := fun h => by simp [h] at hd
            simp [this]
          · (refine ev ?_; (try (with_reducible exact True.intro)))
            refine ⟨by simp only [inR]; omega, i + 1, [], ⟨by omega, ?_⟩, by show xs.length - (i + 1) < xs.length - i; omega, ?_⟩
            · rw [take_next xs [] i hi, take_next ys [] i (by omega), h2]
              simp only [Bool.not_eq_false', beq_iff_eq] at hd
              rw [hd]
            · simp only [padA, St.le, slotsLe, heapLe, blkLe, rowLe, live, injOn, loLe, nget, nlook, ren, okA, allP, mapA, hget, ABlk.used, notin, List.map_cons, List.map_nil, true_or, or_true, false_or, or_false, true_and, and_true, and_self, AV.int.injEq, AV.bool.injEq, AV.str.injEq, AV.sl.injEq, AV.ro.injEq, AV.agg.injEq, List.cons.injEq, reduceCtorEq, ne_eq, not_false_eq_true, not_true_eq_false]; simp
      · (refine ev ?_; (try (with_reducible exact True.intro)))
        refine ⟨?_, by simp [notinId]⟩
        have hi : xs.length ≤ i := by simpa using hc
        rw [List.take_of_length_le hi, List.take_of_length_le (by omega)] at h2
        simp [h2]
theorem k33 (xs : List UInt8) (hx : xs.length < 2 ^ 40) : Contract Try.prog 33 [byteRow xs] (.one (.vec 1 4 (encL cByte 0 (sumB xs)))) := by
  refine ct33 (SH.Sem.of_wpA hm ?_)
  simp only [padA]
  simp only [Try.f33, Option.getD, w_skip, w_reg, w_regd, w_seq, w_cond, w_block, w_loop, w_rf, w_exit, w_ret, f_ok, f_call, f_yield, yK_cons, a_normal, r_normal, r_ret, r_exit, rg_cons, putL, frz, beq_self_eq_true, Nat.reduceBEq, updG_same, f_bad, cK_nil, cK_cons, v_nil, v_cons, gK_tt, gK_ff, gK_tf, gK_ft, dK_go, d_nil, d_cons, gD_tt, gD_ff, gD_tf, gD_ft, eC_one, eC_tup, eC_own, eE_ok, eE_bad, eD, eff, eBin, eEq, eUn, eConv, eLen, eMin, eMax, eField, eFieldAddr, eIndex, eIndexAddr, eSlice, eLoad, eStore, eAlloc, eBox, eBuild, eBuildSlice, eMake, eAppend, eCopy, eNil, ePick, eExtract, E.pure, Eff.only, Eff.notB, evalA, AV.ofV, AV.ofC, sget, sput, putA, applyU, hset, hget, hlen, alen, takeA, dropA, spliceA, mapA, allA, lget, oget, pget, tget, cellsA, AV.one, AV.goneB, partA, partC, TK.isAgg, nilish, natA, natC, loN, hiN, optC, roCut, loadP, loadC, aggOr, fillA, fillC, allPos, partsC, partsCells, partsAll, kills, killIds, liveAll, gnd, srcOf, inBlk, mapO, mapP, Go.SH.IntKind.uns, TK.flat, eqSc, eqScC, eqFs, eqFsC, seqK, blockK, condK, l_exit, l_ret, retK, retS, rsV, rsC, allT, padA, mapT, glook, bsel, gsplit_true, gsplit_false, resOf, resIds, resAll, nodupN, notin, like, like1, likeL, likeAll, AV.np, AV.gb, idsR, idsM, retI, retR, reify, AR.v, AR.u, AR.nv, nvec, impV, impU, isAlloc, callOf, countA, upIds, Option.map_none, Option.map_some, Option.isSome_some, Option.isSome_none, List.map_cons, List.map_nil, true_and, and_true, List.cons_append, List.nil_append, List.append_nil, List.length_cons, List.length_nil, List.nodup_nil, List.not_mem_nil, not_false_eq_true, ne_eq, reduceCtorEq, Bool.and_true, Bool.true_and, Bool.not_true, Bool.not_false, if_true, if_false, reduceIte, en_byte, en_byte', en_int, en_int', en_bool, en_bool', en_str, en_str', en_row, en_row', sh_at, sh_at', and_assoc, Nat.zero_add, Nat.add_zero, Nat.reduceAdd, appF_zero, Option.isNone_none, Option.isNone_some, en_byteL, en_intL, en_rowL, Int.reduceToNat, Nat.mul_one, Nat.one_mul, Nat.zero_mul, Nat.reduceMul, Nat.reduceSub, Nat.sub_zero, bne_self_eq_false, ti1, ti2, ti3, ti4, ti5, ti6, ti7, ti8, ti9, ti10, ti11, ti12, ti13, ti14, ti15, ti16, ti17, ti18, ti19, ti21, ti22, ti23, ti24, ti25, ti26, ti28, ti30, ti31, ti33, ti34, ti35, ti36, ti37, ti38, ti39, ti40, ti41, ti42, ti43, ti44, ti45, ti46, ti47, ti48, ti49, ti50, ti52, ti53, ti54, ti55, ti56, ti57, ti58, ti59, ti60, ti61, ti62, ti63, ti64, ti65, ti66, ti67, ti68, ti69, ti70, ti71, ti72, ti73, ti74]
  refine SH.Sem.loop hm (fun i : Nat => ⟨padA [byteRow xs, .undef, .raw (.slice none 0 0), .int .i64 (sums (xs.take i)).1, .int .i64 (sums (xs.take i)).2, .int .i64 i] 29, []⟩) (fun i => i ≤ xs.length) (fun i => xs.length - i) [] 0 (by omega) ?_ fun i h1 => ?_
  · simp only [padA, St.le, slotsLe, heapLe, blkLe, rowLe, live, injOn, loLe, nget, nlook, ren, okA, allP, mapA, hget, ABlk.used, notin, List.map_cons, List.map_nil, true_or, or_true, false_or, or_false, true_and, and_true, and_self, AV.int.injEq, AV.bool.injEq, AV.str.injEq, AV.sl.injEq, AV.ro.injEq, AV.agg.injEq, List.cons.injEq, reduceCtorEq, ne_eq, not_false_eq_true, not_true_eq_false]; simp [sums]
  · simp only [padA]
    (refine ev ?_; (try (with_reducible exact True.intro)))
    have hs := sums_lt (xs.take i)
    refine ⟨fun hc => ?_, fun hc => ?_⟩
    · have hi : i < xs.length := by simpa using hc
      (refine ev ?_; (try (with_reducible exact True.intro)))
      have hb := UInt8.toNat_lt (xs.getD i 0)
      simp only [Int.toNat_natCast, Int.tmod_eq_emod_of_nonneg (show (0 : Int) ≤ ((sums (List.take i xs)).1 : Int) + ((xs.getD i 0).toNat : Int) by omega)]
      rw [Int.tmod_eq_emod_of_nonneg (by omega)]
      repeat (((with_reducible refine And.intro ?_ ?_)); (focus (first | omega | (simp only [inR]; omega) | rfl | (simp [notinId, notin]; done) | exact Or.inr rfl | (intro i hi; (repeat' (with_reducible first | apply len_cut | apply len_shift | apply len_app | apply len_copy | intro j)) <;> first | rfl | (exact len_lit _ _ (by simp) rfl _) | (simp; done)))))
      refine ⟨i + 1, [], by omega, by show xs.length - (i + 1) < xs.length - i; omega, ?_⟩
      simp only [padA, St.le, slotsLe, heapLe, blkLe, rowLe, live, injOn, loLe, nget, nlook, ren, okA, allP, mapA, hget, ABlk.used, notin, List.map_cons, List.map_nil, true_or, or_true, false_or, or_false, true_and, and_true, and_self, AV.int.injEq, AV.bool.injEq, AV.str.injEq, AV.sl.injEq, AV.ro.injEq, AV.agg.injEq, List.cons.injEq, reduceCtorEq, ne_eq, not_false_eq_true, not_true_eq_false, sums_next xs i hi, sumStep]
      simp
    · (refine ev ?_; (try (with_reducible exact True.intro)))
      have hi : i = xs.length := by have : xs.length ≤ i := by simpa using hc
                                    omega
      subst hi
      rw [List.take_length] at hs ⊢
      refine EffC.use (k32 (sums xs).2 (by omega)) (by (refine evL ?_; (try (with_reducible exact True.intro)))) (.inl (memless_byte _)) ?_
      (refine ev ?_; (try (with_reducible exact True.intro)))
      refine EffC.use (k32 (sums xs).1 (by omega)) (by (refine evL ?_; (try (with_reducible exact True.intro)))) (.inl (memless_byte _)) ?_
      (refine ev ?_; (try (with_reducible exact True.intro)))
      repeat (((with_reducible refine And.intro ?_ ?_)); (focus (first | omega | (simp only [inR]; omega) | rfl | (simp [notinId, notin]; done) | exact Or.inr rfl | (intro i hi; (repeat' (with_reducible first | apply len_cut | apply len_shift | apply len_app | apply len_copy | intro j)) <;> first | rfl | (exact len_lit _ _ (by simp) rfl _) | (simp; done)))))
      exact fun i hi => app_enc (n := 2) (m := 2) (xs := two (sums xs).2) (ys := two (sums xs).1) rfl (fun i h => cut_at0 i h) (fun i h => cut_at0 i h) i hi
end Go.Proofs.Ytaimbfihehglhaa
