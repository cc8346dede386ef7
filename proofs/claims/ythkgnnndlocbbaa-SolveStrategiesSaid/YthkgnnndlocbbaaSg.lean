/-
  The solver's laws: their small functions, and the fixed examples. No condition but sizes.
-/
import Derived.Test.YthkgnnndlocbbaaSf
namespace Go.Proofs.Ythkgnnndlocbbaa
set_option linter.unusedVariables false
set_option linter.unusedSimpArgs false
open Go Go.SH Go.Parity
set_option maxRecDepth 100000
set_option maxHeartbeats 4000000
theorem c19 (xs ys : List Int) (hx : xs.length < 2 ^ 40) : Contract Try.prog 19 [intRow xs, intRow ys] (.one (.val (.bool (xs == ys)))) := by
  refine ct19 (SH.Sem.of_wpA hm ?_)
  simp only [padA]
  simp only [Try.f19, Option.getD, w_skip, w_reg, w_regd, w_seq, w_cond, w_block, w_loop, w_rf, w_exit, w_ret, f_ok, f_call, f_yield, yK_cons, a_normal, r_normal, r_ret, r_exit, rg_cons, putL, frz, beq_self_eq_true, Nat.reduceBEq, updG_same, f_bad, cK_nil, cK_cons, v_nil, v_cons, gK_tt, gK_ff, gK_tf, gK_ft, dK_go, d_nil, d_cons, gD_tt, gD_ff, gD_tf, gD_ft, eC_one, eC_tup, eC_own, eE_ok, eE_bad, eD, eff, eBin, eEq, eUn, eConv, eLen, eMin, eMax, eField, eFieldAddr, eIndex, eIndexAddr, eSlice, eLoad, eStore, eAlloc, eBox, eBuild, eBuildSlice, eMake, eAppend, eCopy, eMakeMap, eMapUpdate, eLookup, lookV, optN, eNil, ePick, eExtract, E.pure, Eff.only, Eff.notB, evalA, AV.ofV, AV.ofC, sget, sput, putA, applyU, hset, hget, hlen, alen, takeA, dropA, spliceA, mapA, allA, lget, oget, pget, tget, cellsA, AV.one, AV.goneB, partA, partC, TK.isAgg, nilish, natA, natC, loN, hiN, optC, roCut, loadP, loadC, aggOr, fillA, fillC, allPos, partsC, partsCells, partsAll, kills, killIds, liveAll, gnd, srcOf, inBlk, mapO, mapP, Go.SH.IntKind.uns, TK.flat, eqSc, eqScC, eqFs, eqFsC, seqK, blockK, condK, l_exit, l_ret, retK, retS, rsV, rsC, allT, padA, mapT, glook, bsel, gsplit_true, gsplit_false, resOf, resIds, resAll, nodupN, notin, like, like1, likeL, likeAll, AV.np, AV.gb, idsR, idsM, retI, retR, reify, AR.v, AR.u, AR.nv, nvec, impV, impU, isAlloc, callOf, countA, upIds, Option.map_none, Option.map_some, Option.isSome_some, Option.isSome_none, List.map_cons, List.map_nil, true_and, and_true, List.cons_append, List.nil_append, List.append_nil, List.length_cons, List.length_nil, List.nodup_nil, List.not_mem_nil, not_false_eq_true, ne_eq, reduceCtorEq, Bool.and_true, Bool.true_and, Bool.not_true, Bool.not_false, if_true, if_false, reduceIte, en_byte, en_byte', en_int, en_int', en_bool, en_bool', en_str, en_str', en_row, en_row', sh_at, sh_at', and_assoc, Nat.zero_add, Nat.add_zero, Nat.reduceAdd, appF_zero, Option.isNone_none, Option.isNone_some, en_byteL, en_intL, en_rowL, Int.reduceToNat, Nat.mul_one, Nat.one_mul, Nat.zero_mul, Nat.reduceMul, Nat.reduceSub, Nat.sub_zero, bne_self_eq_false, ti1, ti2, ti3, ti4, ti5, ti6, ti7, ti8, ti9, ti10, ti11, ti12, ti13, ti14, ti15, ti16, ti17, ti18, ti19, ti21, ti22, ti23, ti24, ti25, ti26, ti27, ti28, ti30, ti31, ti33, ti34, ti35, ti36, ti37, ti38, ti39, ti40, ti41, ti42, ti43, ti45, ti46, ti47, ti48, ti49, ti50, ti51, ti52, ti53, ti54, ti55, ti57, ti58, ti59, ti60, ti61, ti62, ti63, ti64, ti65, ti66, ti67, ti68, ti69, ti70, ti71, ti72, ti73, ti74, ti75, ti76, ti77, ti78, ti79, ti80, ti81, ti82, ti83, ti85, ti86, ti87, ti88, ti89, ti90, ti91, ti92, ti93, ti94, ti95, ti96, ti97, ti98, ti99, ti100, ti101, ti102, ti103, ti104, ti105, ti106, ti107, ti108, ti109]
  refine gs (fun hb => ?_) (fun hb => ?_)
  · (refine ev ?_; (try (with_reducible exact True.intro)))
    refine ⟨?_, by simp [notinId]⟩
    have : xs ≠ ys := fun h => by simp [h] at hb
    simp [this]
  · (refine ev ?_; (try (with_reducible exact True.intro)))
    have hl : xs.length = ys.length := by simp at hb; omega
    refine SH.Sem.loop hm (fun i : Nat => ⟨padA [intRow xs, intRow ys, .undef, .undef, .undef, .int .i64 i] 26, []⟩) (fun i => i ≤ xs.length ∧ xs.take i = ys.take i) (fun i => xs.length - i) [] 0 ⟨by omega, rfl⟩ ?_ fun i ⟨h1, h2⟩ => ?_
    · simp only [padA, St.le, slotsLe, heapLe, blkLe, rowLe, live, injOn, loLe, nget, nlook, ren, okA, allP, mapA, hget, ABlk.used, notin, List.map_cons, List.map_nil, true_or, or_true, false_or, or_false, true_and, and_true, and_self, AV.int.injEq, AV.bool.injEq, AV.str.injEq, AV.sl.injEq, AV.ro.injEq, AV.agg.injEq, List.cons.injEq, reduceCtorEq, ne_eq, not_false_eq_true, not_true_eq_false]; simp
    · simp only [padA]
      (refine ev ?_; (try (with_reducible exact True.intro)))
      refine gsd (fun hc => ?_) (fun hc => ?_)
      · have hi : i < xs.length := by omega
        (refine ev ?_; (try (with_reducible exact True.intro)))
        repeat (((with_reducible refine And.intro ?_ ?_)); (focus (first | omega | (simp only [inR]; omega) | rfl | (simp [notinId, notin]; done) | exact Or.inr rfl | (intro i hi; (repeat' (with_reducible first | apply len_cut | apply len_shift | apply len_app | apply len_copy | intro j)) <;> first | rfl | (exact len_lit _ _ (by simp) rfl _) | (simp; done)))))
        refine gs (fun hd => ?_) (fun hd => ?_)
        · (refine ev ?_; (try (with_reducible exact True.intro)))
          refine ⟨?_, by simp [notinId]⟩
          have : xs ≠ ys := fun h => by simp [h] at hd
          simp [this]
        · (refine ev ?_; (try (with_reducible exact True.intro)))
          refine ⟨by simp only [inR]; omega, i + 1, [], ⟨by omega, ?_⟩, by show xs.length - (i + 1) < xs.length - i; omega, ?_⟩
          · rw [take_next xs 0 i hi, take_next ys 0 i (by omega), h2]
            have : xs.getD i 0 = ys.getD i 0 := by
              simpa only [bne_eq_false_iff_eq, Int.toNat_natCast] using hd
            rw [this]
          · simp only [padA, St.le, slotsLe, heapLe, blkLe, rowLe, live, injOn, loLe, nget, nlook, ren, okA, allP, mapA, hget, ABlk.used, notin, List.map_cons, List.map_nil, true_or, or_true, false_or, or_false, true_and, and_true, and_self, AV.int.injEq, AV.bool.injEq, AV.str.injEq, AV.sl.injEq, AV.ro.injEq, AV.agg.injEq, List.cons.injEq, reduceCtorEq, ne_eq, not_false_eq_true, not_true_eq_false]; simp
      · (refine ev ?_; (try (with_reducible exact True.intro)))
        refine ⟨?_, by simp [notinId]⟩
        have hi : xs.length ≤ i := by omega
        rw [List.take_of_length_le hi, List.take_of_length_le (by omega)] at h2
        simp [h2]
theorem c22 (ow pr : List Int) (su : List (List Int)) (most : Int) (hm1 : most < 2 ^ 40) : Contract Try.prog 22 [game ow pr su, .int .i64 most] (.one (.val (.bool (smallB most ow pr su && validB ow pr su)))) := by
  refine ct22 (SH.Sem.of_wpA hm ?_)
  simp only [padA]
  simp only [Try.f22, Option.getD, w_skip, w_reg, w_regd, w_seq, w_cond, w_block, w_loop, w_rf, w_exit, w_ret, f_ok, f_call, f_yield, yK_cons, a_normal, r_normal, r_ret, r_exit, rg_cons, putL, frz, beq_self_eq_true, Nat.reduceBEq, updG_same, f_bad, cK_nil, cK_cons, v_nil, v_cons, gK_tt, gK_ff, gK_tf, gK_ft, dK_go, d_nil, d_cons, gD_tt, gD_ff, gD_tf, gD_ft, eC_one, eC_tup, eC_own, eE_ok, eE_bad, eD, eff, eBin, eEq, eUn, eConv, eLen, eMin, eMax, eField, eFieldAddr, eIndex, eIndexAddr, eSlice, eLoad, eStore, eAlloc, eBox, eBuild, eBuildSlice, eMake, eAppend, eCopy, eMakeMap, eMapUpdate, eLookup, lookV, optN, eNil, ePick, eExtract, E.pure, Eff.only, Eff.notB, evalA, AV.ofV, AV.ofC, sget, sput, putA, applyU, hset, hget, hlen, alen, takeA, dropA, spliceA, mapA, allA, lget, oget, pget, tget, cellsA, AV.one, AV.goneB, partA, partC, TK.isAgg, nilish, natA, natC, loN, hiN, optC, roCut, loadP, loadC, aggOr, fillA, fillC, allPos, partsC, partsCells, partsAll, kills, killIds, liveAll, gnd, srcOf, inBlk, mapO, mapP, Go.SH.IntKind.uns, TK.flat, eqSc, eqScC, eqFs, eqFsC, seqK, blockK, condK, l_exit, l_ret, retK, retS, rsV, rsC, allT, padA, mapT, glook, bsel, gsplit_true, gsplit_false, resOf, resIds, resAll, nodupN, notin, like, like1, likeL, likeAll, AV.np, AV.gb, idsR, idsM, retI, retR, reify, AR.v, AR.u, AR.nv, nvec, impV, impU, isAlloc, callOf, countA, upIds, Option.map_none, Option.map_some, Option.isSome_some, Option.isSome_none, List.map_cons, List.map_nil, true_and, and_true, List.cons_append, List.nil_append, List.append_nil, List.length_cons, List.length_nil, List.nodup_nil, List.not_mem_nil, not_false_eq_true, ne_eq, reduceCtorEq, Bool.and_true, Bool.true_and, Bool.not_true, Bool.not_false, if_true, if_false, reduceIte, en_byte, en_byte', en_int, en_int', en_bool, en_bool', en_str, en_str', en_row, en_row', sh_at, sh_at', and_assoc, Nat.zero_add, Nat.add_zero, Nat.reduceAdd, appF_zero, Option.isNone_none, Option.isNone_some, en_byteL, en_intL, en_rowL, Int.reduceToNat, Nat.mul_one, Nat.one_mul, Nat.zero_mul, Nat.reduceMul, Nat.reduceSub, Nat.sub_zero, bne_self_eq_false, ti1, ti2, ti3, ti4, ti5, ti6, ti7, ti8, ti9, ti10, ti11, ti12, ti13, ti14, ti15, ti16, ti17, ti18, ti19, ti21, ti22, ti23, ti24, ti25, ti26, ti27, ti28, ti30, ti31, ti33, ti34, ti35, ti36, ti37, ti38, ti39, ti40, ti41, ti42, ti43, ti45, ti46, ti47, ti48, ti49, ti50, ti51, ti52, ti53, ti54, ti55, ti57, ti58, ti59, ti60, ti61, ti62, ti63, ti64, ti65, ti66, ti67, ti68, ti69, ti70, ti71, ti72, ti73, ti74, ti75, ti76, ti77, ti78, ti79, ti80, ti81, ti82, ti83, ti85, ti86, ti87, ti88, ti89, ti90, ti91, ti92, ti93, ti94, ti95, ti96, ti97, ti98, ti99, ti100, ti101, ti102, ti103, ti104, ti105, ti106, ti107, ti108, ti109]
  repeat (((with_reducible refine And.intro ?_ ?_)); (focus (first | omega | (simp only [inR]; omega) | rfl | (simp [notinId, notin]; done) | exact Or.inr rfl | (intro i hi; (repeat' (with_reducible first | apply len_cut | apply len_shift | apply len_app | apply len_copy | intro j)) <;> first | rfl | (exact len_lit _ _ (by simp) rfl _) | (simp; done)))))
  refine EffC.use (k10 ow pr su most hm1) ?_ (.inl rfl) ?_
  · ((refine evL ?_; (try (with_reducible exact True.intro))) <;> (repeat' (with_reducible refine And.intro ?_ ?_)) <;> first | trivial | (exact fun _ _ => trivial) | (simp; done) | (exact fun q hq => cut_at0 q (by simpa using hq)) | (exact fun q hq => cut_at0 q (by omega)) | omega)
  (refine ev ?_; (try (with_reducible exact True.intro)))
  repeat (((with_reducible refine And.intro ?_ ?_)); (focus (first | omega | (simp only [inR]; omega) | rfl | (simp [notinId, notin]; done) | exact Or.inr rfl | (intro i hi; (repeat' (with_reducible first | apply len_cut | apply len_shift | apply len_app | apply len_copy | intro j)) <;> first | rfl | (exact len_lit _ _ (by simp) rfl _) | (simp; done)))))
  refine gs (fun h1 => ?_) (fun h1 => ?_)
  · have hsu : ∀ r ∈ su, r.length < 2 ^ 40 := fun r hr => by have := (smallB_spec h1).2.2.2 r hr; omega
    (refine ev ?_; (try (with_reducible exact True.intro)))
    repeat (((with_reducible refine And.intro ?_ ?_)); (focus (first | omega | (simp only [inR]; omega) | rfl | (simp [notinId, notin]; done) | exact Or.inr rfl | (intro i hi; (repeat' (with_reducible first | apply len_cut | apply len_shift | apply len_app | apply len_copy | intro j)) <;> first | rfl | (exact len_lit _ _ (by simp) rfl _) | (simp; done)))))
    refine EffC.use (k29 ow pr su hsu) ?_ (.inl rfl) ?_
    · ((refine evL ?_; (try (with_reducible exact True.intro))) <;> (repeat' (with_reducible refine And.intro ?_ ?_)) <;> first | trivial | (exact fun _ _ => trivial) | (simp; done) | (exact fun q hq => cut_at0 q (by simpa using hq)) | (exact fun q hq => cut_at0 q (by omega)) | omega)
    (refine ev ?_; (try (with_reducible exact True.intro)))
    repeat (((with_reducible refine And.intro ?_ ?_)); (focus (first | omega | (simp only [inR]; omega) | rfl | (simp [notinId, notin]; done) | exact Or.inr rfl | (intro i hi; (repeat' (with_reducible first | apply len_cut | apply len_shift | apply len_app | apply len_copy | intro j)) <;> first | rfl | (exact len_lit _ _ (by simp) rfl _) | (simp; done)))))
    rw [h1, Bool.true_and]
    ((repeat' (with_reducible refine And.intro ?_ ?_)) <;> first | omega | (simp [notinId]; done) | (exact fun q hq => cut_at0 q (by simpa using hq)) | (exact fun q hq => cut_at0 q (by omega)) | (exact fun _ _ => rfl))
  · (refine ev ?_; (try (with_reducible exact True.intro)))
    rw [h1, Bool.false_and]
    ((repeat' (with_reducible refine And.intro ?_ ?_)) <;> first | omega | (simp [notinId]; done) | (exact fun q hq => cut_at0 q (by simpa using hq)) | (exact fun q hq => cut_at0 q (by omega)) | (exact fun _ _ => rfl))
def wonL (n : Nat) (ws : List Int) (pl : Int) : List Bool := (List.range n).map fun i => decide (i < ws.length) && (ws.getD i 0 == pl)
theorem c23 (ow pr : List Int) (su : List (List Int)) (ws : List Int) (pl : Int) (hs : su.length < 2 ^ 40) (hw : ws.length < 2 ^ 40) : ∀ r : AR1, (r = .val (boolRow (wonL su.length ws pl)) ∨ r = .vec 1 su.length (encL cBool false (wonL su.length ws pl))) → Contract Try.prog 23 [game ow pr su, intRow ws, .int .i64 pl] (.one r) := by
  intro r hr
  refine ct23 (SH.Sem.of_wpA hm ?_)
  simp only [padA]
  simp only [Try.f23, Option.getD, w_skip, w_reg, w_regd, w_seq, w_cond, w_block, w_loop, w_rf, w_exit, w_ret, f_ok, f_call, f_yield, yK_cons, a_normal, r_normal, r_ret, r_exit, rg_cons, putL, frz, beq_self_eq_true, Nat.reduceBEq, updG_same, f_bad, cK_nil, cK_cons, v_nil, v_cons, gK_tt, gK_ff, gK_tf, gK_ft, dK_go, d_nil, d_cons, gD_tt, gD_ff, gD_tf, gD_ft, eC_one, eC_tup, eC_own, eE_ok, eE_bad, eD, eff, eBin, eEq, eUn, eConv, eLen, eMin, eMax, eField, eFieldAddr, eIndex, eIndexAddr, eSlice, eLoad, eStore, eAlloc, eBox, eBuild, eBuildSlice, eMake, eAppend, eCopy, eMakeMap, eMapUpdate, eLookup, lookV, optN, eNil, ePick, eExtract, E.pure, Eff.only, Eff.notB, evalA, AV.ofV, AV.ofC, sget, sput, putA, applyU, hset, hget, hlen, alen, takeA, dropA, spliceA, mapA, allA, lget, oget, pget, tget, cellsA, AV.one, AV.goneB, partA, partC, TK.isAgg, nilish, natA, natC, loN, hiN, optC, roCut, loadP, loadC, aggOr, fillA, fillC, allPos, partsC, partsCells, partsAll, kills, killIds, liveAll, gnd, srcOf, inBlk, mapO, mapP, Go.SH.IntKind.uns, TK.flat, eqSc, eqScC, eqFs, eqFsC, seqK, blockK, condK, l_exit, l_ret, retK, retS, rsV, rsC, allT, padA, mapT, glook, bsel, gsplit_true, gsplit_false, resOf, resIds, resAll, nodupN, notin, like, like1, likeL, likeAll, AV.np, AV.gb, idsR, idsM, retI, retR, reify, AR.v, AR.u, AR.nv, nvec, impV, impU, isAlloc, callOf, countA, upIds, Option.map_none, Option.map_some, Option.isSome_some, Option.isSome_none, List.map_cons, List.map_nil, true_and, and_true, List.cons_append, List.nil_append, List.append_nil, List.length_cons, List.length_nil, List.nodup_nil, List.not_mem_nil, not_false_eq_true, ne_eq, reduceCtorEq, Bool.and_true, Bool.true_and, Bool.not_true, Bool.not_false, if_true, if_false, reduceIte, en_byte, en_byte', en_int, en_int', en_bool, en_bool', en_str, en_str', en_row, en_row', sh_at, sh_at', and_assoc, Nat.zero_add, Nat.add_zero, Nat.reduceAdd, appF_zero, Option.isNone_none, Option.isNone_some, en_byteL, en_intL, en_rowL, Int.reduceToNat, Nat.mul_one, Nat.one_mul, Nat.zero_mul, Nat.reduceMul, Nat.reduceSub, Nat.sub_zero, bne_self_eq_false, ti1, ti2, ti3, ti4, ti5, ti6, ti7, ti8, ti9, ti10, ti11, ti12, ti13, ti14, ti15, ti16, ti17, ti18, ti19, ti21, ti22, ti23, ti24, ti25, ti26, ti27, ti28, ti30, ti31, ti33, ti34, ti35, ti36, ti37, ti38, ti39, ti40, ti41, ti42, ti43, ti45, ti46, ti47, ti48, ti49, ti50, ti51, ti52, ti53, ti54, ti55, ti57, ti58, ti59, ti60, ti61, ti62, ti63, ti64, ti65, ti66, ti67, ti68, ti69, ti70, ti71, ti72, ti73, ti74, ti75, ti76, ti77, ti78, ti79, ti80, ti81, ti82, ti83, ti85, ti86, ti87, ti88, ti89, ti90, ti91, ti92, ti93, ti94, ti95, ti96, ti97, ti98, ti99, ti100, ti101, ti102, ti103, ti104, ti105, ti106, ti107, ti108, ti109]
  repeat (((with_reducible refine And.intro ?_ ?_)); (focus (first | omega | (simp only [inR]; omega) | rfl | (simp [notinId, notin]; done) | exact Or.inr rfl | (intro i hi; (repeat' (with_reducible first | apply len_cut | apply len_shift | apply len_app | apply len_copy | intro j)) <;> first | rfl | (exact len_lit _ _ (by simp) rfl _) | (simp; done)))))
  simp only [Int.toNat_natCast]
  obtain ⟨f, hf⟩ : ∃ f : Nat → Bool, f = fun i => decide (i < ws.length) && (ws.getD i 0 == pl) := ⟨_, rfl⟩
  have fin : ∀ i, (i = su.length ∨ ws.length ≤ i) → i ≤ su.length → partL su.length f (fun _ => false) i = wonL su.length ws pl := by
    intro i h1 h2
    unfold partL wonL
    refine List.map_congr_left fun q hq => ?_
    have hq := List.mem_range.1 hq
    rw [hf]
    by_cases h : q < i
    · rw [if_pos h]
    · rw [if_neg h]
      have : ¬ q < ws.length := by omega
      simp [this]
  refine SH.Sem.loop hm (fun i : Nat => ⟨padA [.undef, intRow ws, .int .i64 pl, .ptr 0 0 0, .undef, .undef, .undef, .sl 1 0 su.length, .int .i64 i] 35, [.box [intRow ow, intRow pr, intRows su], .vec 1 su.length (encL cBool false (partL su.length f (fun _ => false) i))]⟩) (fun i => i ≤ su.length) (fun i => su.length - i) [0, 1] 0 (by omega) ?_ fun i hi0 => ?_
  · simp only [padA, St.le, slotsLe, heapLe, blkLe, rowLe, live, injOn, loLe, nget, nlook, ren, okA, allP, mapA, hget, ABlk.used, notin, List.map_cons, List.map_nil, true_or, or_true, false_or, or_false, true_and, and_true, and_self, AV.int.injEq, AV.bool.injEq, AV.str.injEq, AV.sl.injEq, AV.ro.injEq, AV.agg.injEq, List.cons.injEq, reduceCtorEq, ne_eq, not_false_eq_true, not_true_eq_false]
    exact ⟨rfl, fun q hq => encb0 q hq⟩
  simp only [padA]
  (refine ev ?_; (try (with_reducible exact True.intro)))
  refine gsd (fun hd => ?_) (fun hd => ?_)
  · have hi : i < su.length := by omega
    (refine ev ?_; (try (with_reducible exact True.intro)))
    refine gsd (fun hd2 => ?_) (fun hd2 => ?_)
    · have hi2 : i < ws.length := by omega
      have e1 := encb_upd1 (f := f) (g := fun _ => false) hi (ws.getD i 0 == pl) (by rw [hf]; simp [hi2])
      (refine ev ?_; (try (with_reducible exact True.intro)))
      simp only [Int.toNat_natCast, e1]
      repeat (((with_reducible refine And.intro ?_ ?_)); (focus (first | omega | (simp only [inR]; omega) | rfl | (simp [notinId, notin]; done) | exact Or.inr rfl | (intro i hi; (repeat' (with_reducible first | apply len_cut | apply len_shift | apply len_app | apply len_copy | intro j)) <;> first | rfl | (exact len_lit _ _ (by simp) rfl _) | (simp; done)))))
      refine ⟨i + 1, [0, 1], by omega, by show su.length - (i + 1) < su.length - i; omega, ?_⟩
      simp only [padA, St.le, slotsLe, heapLe, blkLe, rowLe, live, injOn, loLe, nget, nlook, ren, okA, allP, mapA, hget, ABlk.used, notin, List.map_cons, List.map_nil, true_or, or_true, false_or, or_false, true_and, and_true, and_self, AV.int.injEq, AV.bool.injEq, AV.str.injEq, AV.sl.injEq, AV.ro.injEq, AV.agg.injEq, List.cons.injEq, reduceCtorEq, ne_eq, not_false_eq_true, not_true_eq_false]; simp
    · have e := fin i (.inr (by omega)) hi0
      simp -implicitDefEqProofs only [Option.getD, w_skip, w_reg, w_regd, w_seq, w_cond, w_block, w_loop, w_rf, w_exit, w_ret, f_ok, f_call, f_yield, yK_cons, a_normal, r_normal, r_ret, r_exit, rg_cons, putL, frz, beq_self_eq_true, Nat.reduceBEq, updG_same, f_bad, cK_nil, cK_cons, v_nil, v_cons, gK_tt, gK_ff, gK_tf, gK_ft, dK_go, d_nil, d_cons, gD_tt, gD_ff, gD_tf, gD_ft, eC_one, eC_tup, eC_own, eE_ok, eE_bad, eD, eff, eBin, eEq, eUn, eConv, eLen, eMin, eMax, eField, eFieldAddr, eIndex, eIndexAddr, eSlice, eLoad, eStore, eAlloc, eBox, eBuild, eBuildSlice, eMake, eAppend, eCopy, eMakeMap, eMapUpdate, eLookup, lookV, optN, eNil, ePick, eExtract, E.pure, Eff.only, Eff.notB, evalA, AV.ofV, AV.ofC, sget, sput, putA, applyU, hset, hget, hlen, alen, takeA, dropA, spliceA, mapA, allA, lget, oget, pget, tget, cellsA, AV.one, AV.goneB, partA, partC, TK.isAgg, nilish, natA, natC, loN, hiN, optC, roCut, loadP, loadC, aggOr, fillA, fillC, allPos, partsC, partsCells, partsAll, kills, killIds, liveAll, gnd, srcOf, inBlk, mapO, mapP, Go.SH.IntKind.uns, TK.flat, eqSc, eqScC, eqFs, eqFsC, seqK, blockK, condK, l_exit, l_ret, retK, retS, rsV, rsC, allT, padA, mapT, glook, bsel, gsplit_true, gsplit_false, resOf, resIds, resAll, nodupN, notin, like, like1, likeL, likeAll, AV.np, AV.gb, idsR, idsM, retI, retR, reify, AR.v, AR.u, AR.nv, nvec, impV, impU, isAlloc, callOf, countA, upIds, Option.map_none, Option.map_some, Option.isSome_some, Option.isSome_none, List.map_cons, List.map_nil, true_and, and_true, List.cons_append, List.nil_append, List.append_nil, List.length_cons, List.length_nil, List.nodup_nil, List.not_mem_nil, not_false_eq_true, ne_eq, reduceCtorEq, Bool.and_true, Bool.true_and, Bool.not_true, Bool.not_false, if_true, if_false, reduceIte, en_byte, en_byte', en_int, en_int', en_bool, en_bool', en_str, en_str', en_row, en_row', sh_at, sh_at', and_assoc, Nat.zero_add, Nat.add_zero, Nat.reduceAdd, appF_zero, Option.isNone_none, Option.isNone_some, en_byteL, en_intL, en_rowL, Int.reduceToNat, Nat.mul_one, Nat.one_mul, Nat.zero_mul, Nat.reduceMul, Nat.reduceSub, Nat.sub_zero, bne_self_eq_false, ti1, ti2, ti3, ti4, ti5, ti6, ti7, ti8, ti9, ti10, ti11, ti12, ti13, ti14, ti15, ti16, ti17, ti18, ti19, ti21, ti22, ti23, ti24, ti25, ti26, ti27, ti28, ti30, ti31, ti33, ti34, ti35, ti36, ti37, ti38, ti39, ti40, ti41, ti42, ti43, ti45, ti46, ti47, ti48, ti49, ti50, ti51, ti52, ti53, ti54, ti55, ti57, ti58, ti59, ti60, ti61, ti62, ti63, ti64, ti65, ti66, ti67, ti68, ti69, ti70, ti71, ti72, ti73, ti74, ti75, ti76, ti77, ti78, ti79, ti80, ti81, ti82, ti83, ti85, ti86, ti87, ti88, ti89, ti90, ti91, ti92, ti93, ti94, ti95, ti96, ti97, ti98, ti99, ti100, ti101, ti102, ti103, ti104, ti105, ti106, ti107, ti108, ti109, e]
      rcases hr with rfl | rfl
      · (refine ev ?_; (try (with_reducible exact True.intro)))
        repeat (((with_reducible refine And.intro ?_ ?_)); (focus (first | omega | (simp only [inR]; omega) | rfl | (simp [notinId, notin]; done) | exact Or.inr rfl | (intro i hi; (repeat' (with_reducible first | apply len_cut | apply len_shift | apply len_app | apply len_copy | intro j)) <;> first | rfl | (exact len_lit _ _ (by simp) rfl _) | (simp; done)))))
        refine ⟨by simp [wonL], fun q hq => cut_at0 q (by simpa [wonL] using hq), by simp [notinId]⟩
      · (refine ev ?_; (try (with_reducible exact True.intro)))
        repeat (((with_reducible refine And.intro ?_ ?_)); (focus (first | omega | (simp only [inR]; omega) | rfl | (simp [notinId, notin]; done) | exact Or.inr rfl | (intro i hi; (repeat' (with_reducible first | apply len_cut | apply len_shift | apply len_app | apply len_copy | intro j)) <;> first | rfl | (exact len_lit _ _ (by simp) rfl _) | (simp; done)))))
        exact fun _ _ => trivial
  · have e := fin i (.inl (by omega)) hi0
    simp -implicitDefEqProofs only [Option.getD, w_skip, w_reg, w_regd, w_seq, w_cond, w_block, w_loop, w_rf, w_exit, w_ret, f_ok, f_call, f_yield, yK_cons, a_normal, r_normal, r_ret, r_exit, rg_cons, putL, frz, beq_self_eq_true, Nat.reduceBEq, updG_same, f_bad, cK_nil, cK_cons, v_nil, v_cons, gK_tt, gK_ff, gK_tf, gK_ft, dK_go, d_nil, d_cons, gD_tt, gD_ff, gD_tf, gD_ft, eC_one, eC_tup, eC_own, eE_ok, eE_bad, eD, eff, eBin, eEq, eUn, eConv, eLen, eMin, eMax, eField, eFieldAddr, eIndex, eIndexAddr, eSlice, eLoad, eStore, eAlloc, eBox, eBuild, eBuildSlice, eMake, eAppend, eCopy, eMakeMap, eMapUpdate, eLookup, lookV, optN, eNil, ePick, eExtract, E.pure, Eff.only, Eff.notB, evalA, AV.ofV, AV.ofC, sget, sput, putA, applyU, hset, hget, hlen, alen, takeA, dropA, spliceA, mapA, allA, lget, oget, pget, tget, cellsA, AV.one, AV.goneB, partA, partC, TK.isAgg, nilish, natA, natC, loN, hiN, optC, roCut, loadP, loadC, aggOr, fillA, fillC, allPos, partsC, partsCells, partsAll, kills, killIds, liveAll, gnd, srcOf, inBlk, mapO, mapP, Go.SH.IntKind.uns, TK.flat, eqSc, eqScC, eqFs, eqFsC, seqK, blockK, condK, l_exit, l_ret, retK, retS, rsV, rsC, allT, padA, mapT, glook, bsel, gsplit_true, gsplit_false, resOf, resIds, resAll, nodupN, notin, like, like1, likeL, likeAll, AV.np, AV.gb, idsR, idsM, retI, retR, reify, AR.v, AR.u, AR.nv, nvec, impV, impU, isAlloc, callOf, countA, upIds, Option.map_none, Option.map_some, Option.isSome_some, Option.isSome_none, List.map_cons, List.map_nil, true_and, and_true, List.cons_append, List.nil_append, List.append_nil, List.length_cons, List.length_nil, List.nodup_nil, List.not_mem_nil, not_false_eq_true, ne_eq, reduceCtorEq, Bool.and_true, Bool.true_and, Bool.not_true, Bool.not_false, if_true, if_false, reduceIte, en_byte, en_byte', en_int, en_int', en_bool, en_bool', en_str, en_str', en_row, en_row', sh_at, sh_at', and_assoc, Nat.zero_add, Nat.add_zero, Nat.reduceAdd, appF_zero, Option.isNone_none, Option.isNone_some, en_byteL, en_intL, en_rowL, Int.reduceToNat, Nat.mul_one, Nat.one_mul, Nat.zero_mul, Nat.reduceMul, Nat.reduceSub, Nat.sub_zero, bne_self_eq_false, ti1, ti2, ti3, ti4, ti5, ti6, ti7, ti8, ti9, ti10, ti11, ti12, ti13, ti14, ti15, ti16, ti17, ti18, ti19, ti21, ti22, ti23, ti24, ti25, ti26, ti27, ti28, ti30, ti31, ti33, ti34, ti35, ti36, ti37, ti38, ti39, ti40, ti41, ti42, ti43, ti45, ti46, ti47, ti48, ti49, ti50, ti51, ti52, ti53, ti54, ti55, ti57, ti58, ti59, ti60, ti61, ti62, ti63, ti64, ti65, ti66, ti67, ti68, ti69, ti70, ti71, ti72, ti73, ti74, ti75, ti76, ti77, ti78, ti79, ti80, ti81, ti82, ti83, ti85, ti86, ti87, ti88, ti89, ti90, ti91, ti92, ti93, ti94, ti95, ti96, ti97, ti98, ti99, ti100, ti101, ti102, ti103, ti104, ti105, ti106, ti107, ti108, ti109, e]
    rcases hr with rfl | rfl
    · (refine ev ?_; (try (with_reducible exact True.intro)))
      repeat (((with_reducible refine And.intro ?_ ?_)); (focus (first | omega | (simp only [inR]; omega) | rfl | (simp [notinId, notin]; done) | exact Or.inr rfl | (intro i hi; (repeat' (with_reducible first | apply len_cut | apply len_shift | apply len_app | apply len_copy | intro j)) <;> first | rfl | (exact len_lit _ _ (by simp) rfl _) | (simp; done)))))
      refine ⟨by simp [wonL], fun q hq => cut_at0 q (by simpa [wonL] using hq), by simp [notinId]⟩
    · (refine ev ?_; (try (with_reducible exact True.intro)))
      repeat (((with_reducible refine And.intro ?_ ?_)); (focus (first | omega | (simp only [inR]; omega) | rfl | (simp [notinId, notin]; done) | exact Or.inr rfl | (intro i hi; (repeat' (with_reducible first | apply len_cut | apply len_shift | apply len_app | apply len_copy | intro j)) <;> first | rfl | (exact len_lit _ _ (by simp) rfl _) | (simp; done)))))
      exact fun _ _ => trivial
theorem c24 (s : List Bool) (hs : s.length < 2 ^ 40) : Contract Try.prog 24 [boolRow s] (.one (.val (.bool (s.any fun b => b)))) := by
  refine ct24 (SH.Sem.of_wpA hm ?_)
  simp only [padA]
  simp only [Try.f24, Option.getD, w_skip, w_reg, w_regd, w_seq, w_cond, w_block, w_loop, w_rf, w_exit, w_ret, f_ok, f_call, f_yield, yK_cons, a_normal, r_normal, r_ret, r_exit, rg_cons, putL, frz, beq_self_eq_true, Nat.reduceBEq, updG_same, f_bad, cK_nil, cK_cons, v_nil, v_cons, gK_tt, gK_ff, gK_tf, gK_ft, dK_go, d_nil, d_cons, gD_tt, gD_ff, gD_tf, gD_ft, eC_one, eC_tup, eC_own, eE_ok, eE_bad, eD, eff, eBin, eEq, eUn, eConv, eLen, eMin, eMax, eField, eFieldAddr, eIndex, eIndexAddr, eSlice, eLoad, eStore, eAlloc, eBox, eBuild, eBuildSlice, eMake, eAppend, eCopy, eMakeMap, eMapUpdate, eLookup, lookV, optN, eNil, ePick, eExtract, E.pure, Eff.only, Eff.notB, evalA, AV.ofV, AV.ofC, sget, sput, putA, applyU, hset, hget, hlen, alen, takeA, dropA, spliceA, mapA, allA, lget, oget, pget, tget, cellsA, AV.one, AV.goneB, partA, partC, TK.isAgg, nilish, natA, natC, loN, hiN, optC, roCut, loadP, loadC, aggOr, fillA, fillC, allPos, partsC, partsCells, partsAll, kills, killIds, liveAll, gnd, srcOf, inBlk, mapO, mapP, Go.SH.IntKind.uns, TK.flat, eqSc, eqScC, eqFs, eqFsC, seqK, blockK, condK, l_exit, l_ret, retK, retS, rsV, rsC, allT, padA, mapT, glook, bsel, gsplit_true, gsplit_false, resOf, resIds, resAll, nodupN, notin, like, like1, likeL, likeAll, AV.np, AV.gb, idsR, idsM, retI, retR, reify, AR.v, AR.u, AR.nv, nvec, impV, impU, isAlloc, callOf, countA, upIds, Option.map_none, Option.map_some, Option.isSome_some, Option.isSome_none, List.map_cons, List.map_nil, true_and, and_true, List.cons_append, List.nil_append, List.append_nil, List.length_cons, List.length_nil, List.nodup_nil, List.not_mem_nil, not_false_eq_true, ne_eq, reduceCtorEq, Bool.and_true, Bool.true_and, Bool.not_true, Bool.not_false, if_true, if_false, reduceIte, en_byte, en_byte', en_int, en_int', en_bool, en_bool', en_str, en_str', en_row, en_row', sh_at, sh_at', and_assoc, Nat.zero_add, Nat.add_zero, Nat.reduceAdd, appF_zero, Option.isNone_none, Option.isNone_some, en_byteL, en_intL, en_rowL, Int.reduceToNat, Nat.mul_one, Nat.one_mul, Nat.zero_mul, Nat.reduceMul, Nat.reduceSub, Nat.sub_zero, bne_self_eq_false, ti1, ti2, ti3, ti4, ti5, ti6, ti7, ti8, ti9, ti10, ti11, ti12, ti13, ti14, ti15, ti16, ti17, ti18, ti19, ti21, ti22, ti23, ti24, ti25, ti26, ti27, ti28, ti30, ti31, ti33, ti34, ti35, ti36, ti37, ti38, ti39, ti40, ti41, ti42, ti43, ti45, ti46, ti47, ti48, ti49, ti50, ti51, ti52, ti53, ti54, ti55, ti57, ti58, ti59, ti60, ti61, ti62, ti63, ti64, ti65, ti66, ti67, ti68, ti69, ti70, ti71, ti72, ti73, ti74, ti75, ti76, ti77, ti78, ti79, ti80, ti81, ti82, ti83, ti85, ti86, ti87, ti88, ti89, ti90, ti91, ti92, ti93, ti94, ti95, ti96, ti97, ti98, ti99, ti100, ti101, ti102, ti103, ti104, ti105, ti106, ti107, ti108, ti109]
  refine SH.Sem.loop hm (fun i : Nat => ⟨padA [boolRow s, .undef, .undef, .int .i64 i] 14, []⟩) (fun i => i ≤ s.length ∧ ∀ j, j < i → s.getD j false = false) (fun i => s.length - i) [] 0 ⟨by omega, fun j hj => by omega⟩ ?_ fun i ⟨h1, h2⟩ => ?_
  · simp only [padA, St.le, slotsLe, heapLe, blkLe, rowLe, live, injOn, loLe, nget, nlook, ren, okA, allP, mapA, hget, ABlk.used, notin, List.map_cons, List.map_nil, true_or, or_true, false_or, or_false, true_and, and_true, and_self, AV.int.injEq, AV.bool.injEq, AV.str.injEq, AV.sl.injEq, AV.ro.injEq, AV.agg.injEq, List.cons.injEq, reduceCtorEq, ne_eq, not_false_eq_true, not_true_eq_false]; simp
  simp only [padA]
  (refine ev ?_; (try (with_reducible exact True.intro)))
  refine gsd (fun hd => ?_) (fun hd => ?_)
  · have hi : i < s.length := by omega
    (refine ev ?_; (try (with_reducible exact True.intro)))
    simp only [Int.toNat_natCast]
    repeat (((with_reducible refine And.intro ?_ ?_)); (focus (first | omega | (simp only [inR]; omega) | rfl | (simp [notinId, notin]; done) | exact Or.inr rfl | (intro i hi; (repeat' (with_reducible first | apply len_cut | apply len_shift | apply len_app | apply len_copy | intro j)) <;> first | rfl | (exact len_lit _ _ (by simp) rfl _) | (simp; done)))))
    refine gs (fun h => ?_) (fun h => ?_)
    · have e : (s.any fun b => b) = true := (any_iff s).2 ⟨i, h⟩
      (refine ev ?_; (try (with_reducible exact True.intro)))
      rw [e]
      ((repeat' (with_reducible refine And.intro ?_ ?_)) <;> first | omega | (simp [notinId]; done) | (exact fun q hq => cut_at0 q (by simpa using hq)) | (exact fun q hq => cut_at0 q (by omega)) | (exact fun _ _ => rfl))
    · (refine ev ?_; (try (with_reducible exact True.intro)))
      repeat (((with_reducible refine And.intro ?_ ?_)); (focus (first | omega | (simp only [inR]; omega) | rfl | (simp [notinId, notin]; done) | exact Or.inr rfl | (intro i hi; (repeat' (with_reducible first | apply len_cut | apply len_shift | apply len_app | apply len_copy | intro j)) <;> first | rfl | (exact len_lit _ _ (by simp) rfl _) | (simp; done)))))
      refine ⟨i + 1, [], ⟨by omega, fun j hj => ?_⟩, by show s.length - (i + 1) < s.length - i; omega, ?_⟩
      · rcases Nat.lt_or_ge j i with h3 | h3
        · exact h2 j h3
        · obtain rfl : j = i := by omega
          exact h
      simp only [padA, St.le, slotsLe, heapLe, blkLe, rowLe, live, injOn, loLe, nget, nlook, ren, okA, allP, mapA, hget, ABlk.used, notin, List.map_cons, List.map_nil, true_or, or_true, false_or, or_false, true_and, and_true, and_self, AV.int.injEq, AV.bool.injEq, AV.str.injEq, AV.sl.injEq, AV.ro.injEq, AV.agg.injEq, List.cons.injEq, reduceCtorEq, ne_eq, not_false_eq_true, not_true_eq_false]; simp
  · have e : (s.any fun b => b) = false := by
      rw [← Bool.not_eq_true, any_iff]
      rintro ⟨v, hv⟩
      have hv : s.getD v false = true := hv
      rcases Nat.lt_or_ge v s.length with h | h
      · rw [h2 v (by omega)] at hv; cases hv
      · rw [getD_ge _ _ _ h] at hv; cases hv
    (refine ev ?_; (try (with_reducible exact True.intro)))
    rw [e]
    ((repeat' (with_reducible refine And.intro ?_ ?_)) <;> first | omega | (simp [notinId]; done) | (exact fun q hq => cut_at0 q (by simpa using hq)) | (exact fun q hq => cut_at0 q (by omega)) | (exact fun _ _ => rfl))
theorem c42 (pr : List Int) : Contract Try.prog 42 [intRow pr] (.one (.val (game [0, 1, 0, 1] pr [[1, 2], [0, 3], [2], [2, 3]]))) := by
  refine ct42 (SH.Sem.of_wpA hm ?_)
  simp only [padA]
  simp only [Try.f42, Option.getD, w_skip, w_reg, w_regd, w_seq, w_cond, w_block, w_loop, w_rf, w_exit, w_ret, f_ok, f_call, f_yield, yK_cons, a_normal, r_normal, r_ret, r_exit, rg_cons, putL, frz, beq_self_eq_true, Nat.reduceBEq, updG_same, f_bad, cK_nil, cK_cons, v_nil, v_cons, gK_tt, gK_ff, gK_tf, gK_ft, dK_go, d_nil, d_cons, gD_tt, gD_ff, gD_tf, gD_ft, eC_one, eC_tup, eC_own, eE_ok, eE_bad, eD, eff, eBin, eEq, eUn, eConv, eLen, eMin, eMax, eField, eFieldAddr, eIndex, eIndexAddr, eSlice, eLoad, eStore, eAlloc, eBox, eBuild, eBuildSlice, eMake, eAppend, eCopy, eMakeMap, eMapUpdate, eLookup, lookV, optN, eNil, ePick, eExtract, E.pure, Eff.only, Eff.notB, evalA, AV.ofV, AV.ofC, sget, sput, putA, applyU, hset, hget, hlen, alen, takeA, dropA, spliceA, mapA, allA, lget, oget, pget, tget, cellsA, AV.one, AV.goneB, partA, partC, TK.isAgg, nilish, natA, natC, loN, hiN, optC, roCut, loadP, loadC, aggOr, fillA, fillC, allPos, partsC, partsCells, partsAll, kills, killIds, liveAll, gnd, srcOf, inBlk, mapO, mapP, Go.SH.IntKind.uns, TK.flat, eqSc, eqScC, eqFs, eqFsC, seqK, blockK, condK, l_exit, l_ret, retK, retS, rsV, rsC, allT, padA, mapT, glook, bsel, gsplit_true, gsplit_false, resOf, resIds, resAll, nodupN, notin, like, like1, likeL, likeAll, AV.np, AV.gb, idsR, idsM, retI, retR, reify, AR.v, AR.u, AR.nv, nvec, impV, impU, isAlloc, callOf, countA, upIds, Option.map_none, Option.map_some, Option.isSome_some, Option.isSome_none, List.map_cons, List.map_nil, true_and, and_true, List.cons_append, List.nil_append, List.append_nil, List.length_cons, List.length_nil, List.nodup_nil, List.not_mem_nil, not_false_eq_true, ne_eq, reduceCtorEq, Bool.and_true, Bool.true_and, Bool.not_true, Bool.not_false, if_true, if_false, reduceIte, en_byte, en_byte', en_int, en_int', en_bool, en_bool', en_str, en_str', en_row, en_row', sh_at, sh_at', and_assoc, Nat.zero_add, Nat.add_zero, Nat.reduceAdd, appF_zero, Option.isNone_none, Option.isNone_some, en_byteL, en_intL, en_rowL, Int.reduceToNat, Nat.mul_one, Nat.one_mul, Nat.zero_mul, Nat.reduceMul, Nat.reduceSub, Nat.sub_zero, bne_self_eq_false, ti1, ti2, ti3, ti4, ti5, ti6, ti7, ti8, ti9, ti10, ti11, ti12, ti13, ti14, ti15, ti16, ti17, ti18, ti19, ti21, ti22, ti23, ti24, ti25, ti26, ti27, ti28, ti30, ti31, ti33, ti34, ti35, ti36, ti37, ti38, ti39, ti40, ti41, ti42, ti43, ti45, ti46, ti47, ti48, ti49, ti50, ti51, ti52, ti53, ti54, ti55, ti57, ti58, ti59, ti60, ti61, ti62, ti63, ti64, ti65, ti66, ti67, ti68, ti69, ti70, ti71, ti72, ti73, ti74, ti75, ti76, ti77, ti78, ti79, ti80, ti81, ti82, ti83, ti85, ti86, ti87, ti88, ti89, ti90, ti91, ti92, ti93, ti94, ti95, ti96, ti97, ti98, ti99, ti100, ti101, ti102, ti103, ti104, ti105, ti106, ti107, ti108, ti109]
  repeat (((with_reducible refine And.intro ?_ ?_)); (focus (first | omega | (simp only [inR]; omega) | rfl | (simp [notinId, notin]; done) | exact Or.inr rfl | (intro i hi; (repeat' (with_reducible first | apply len_cut | apply len_shift | apply len_app | apply len_copy | intro j)) <;> first | rfl | (exact len_lit _ _ (by simp) rfl _) | (simp; done)))))
  have r0 : cutF 2 0 2 (litF [[.int .i64 1], [.int .i64 2]] [.int .i64 0]) = encL (cInt .i64) 0 [1, 2] := litI 2 _ [1, 2] rfl rfl
  have r1 : cutF 2 0 2 (litF [[.int .i64 0], [.int .i64 3]] [.int .i64 0]) = encL (cInt .i64) 0 [0, 3] := litI 2 _ [0, 3] rfl rfl
  have r2 : cutF 1 0 1 (litF [[.int .i64 2]] [.int .i64 0]) = encL (cInt .i64) 0 [2] := litI 1 _ [2] rfl rfl
  have r3 : cutF 2 0 2 (litF [[.int .i64 2], [.int .i64 3]] [.int .i64 0]) = encL (cInt .i64) 0 [2, 3] := litI 2 _ [2, 3] rfl rfl
  have rr : ∀ i, i < 4 → cutF 4 0 4 (litF [[AV.ro 2 (cutF 2 0 2 (litF [[.int .i64 1], [.int .i64 2]] [.int .i64 0]))], [.ro 2 (cutF 2 0 2 (litF [[.int .i64 0], [.int .i64 3]] [.int .i64 0]))], [.ro 1 (cutF 1 0 1 (litF [[.int .i64 2]] [.int .i64 0]))], [.ro 2 (cutF 2 0 2 (litF [[.int .i64 2], [.int .i64 3]] [.int .i64 0]))]] [.raw (.slice none 0 0)]) i = encL (cRow (cInt .i64) 0) [] [[1, 2], [0, 3], [2], [2, 3]] i := by
    intro i hi
    rw [r0, r1, r2, r3, cut_at0 i hi]
    match i, hi with
    | 0, _ => rfl
    | 1, _ => rfl
    | 2, _ => rfl
    | 3, _ => rfl
  exact ⟨fun i _ => congrFun (litI 4 _ [0, 1, 0, 1] rfl rfl) i, fun _ _ => trivial, rr, by simp [notinId]⟩
/-! examples, checked by a strategy and one rank -/
def stepB (pr : List Int) (p : Int) (ρ : List Nat) (a b : Nat) : Bool := decide (ρ.getD b 0 ≤ ρ.getD a 0) && (decide (pr.getD a 0 % 2 = p) || decide (ρ.getD b 0 < ρ.getD a 0))
def chkP (ow pr : List Int) (su : List (List Int)) (p : Int) (X : List Bool) (σ ρ : List Nat) : Bool := decide (X.length = ow.length) && (List.range ow.length).all fun a => !X.getD a false ||
  (if ow.getD a 0 = p then ((su.getD a []).map Int.toNat).contains (σ.getD a 0) && X.getD (σ.getD a 0) false && stepB pr p ρ a (σ.getD a 0) else ((su.getD a []).map Int.toNat).all fun b => X.getD b false && stepB pr p ρ a b)
theorem chk_para {ow pr : List Int} {su : List (List Int)} {p : Int} {X : List Bool} {σ ρ : List Nat} (h : chkP ow pr su p X σ ρ = true) : Para (pg ow pr su) (fun v => v < ow.length) p (inL X) := by
  rw [chkP, Bool.and_eq_true, decide_eq_true_eq, List.all_eq_true] at h
  obtain ⟨hl, h⟩ := h
  have lt : ∀ v, inL X v → v < ow.length := by
    intro v hv
    have hv : X.getD v false = true := hv
    rcases Nat.lt_or_ge v ow.length with h1 | h1
    · exact h1
    · rw [getD_ge _ _ _ (by omega)] at hv; cases hv
  have k : ∀ v, inL X v → (if ow.getD v 0 = p then ((su.getD v []).map Int.toNat).contains (σ.getD v 0) && X.getD (σ.getD v 0) false && stepB pr p ρ v (σ.getD v 0) else ((su.getD v []).map Int.toNat).all fun b => X.getD b false && stepB pr p ρ v b) = true := by
    intro v hv
    have := h v (List.mem_range.2 (lt v hv))
    have hv : X.getD v false = true := hv
    rw [hv] at this; simpa using this
  have st : ∀ v b, inL X v → (pg ow pr su).mv p (fun v => σ.getD v 0) v b → inL X b ∧ stepB pr p ρ v b = true := by
    intro v b hv hm
    have kv := k v hv
    by_cases ho : ow.getD v 0 = p
    · rw [if_pos ho, Bool.and_eq_true, Bool.and_eq_true] at kv
      have e : b = σ.getD v 0 := hm.2 ho
      rw [e]; exact ⟨kv.1.2, kv.2⟩
    · rw [if_neg ho, List.all_eq_true] at kv
      have := kv b hm.1
      rw [Bool.and_eq_true] at this
      exact this
  refine ⟨fun v => σ.getD v 0, lt, fun v hv ho => ?_, fun v hv ho t ht _ => (st v t hv ⟨ht, fun h => absurd h ho⟩).1, fun q hq => ⟨fun v => ρ.getD v 0, fun a b ha hb hm _ _ => ?_⟩⟩
  · have kv := k v hv
    have ho : ow.getD v 0 = p := ho
    rw [if_pos ho, Bool.and_eq_true, Bool.and_eq_true] at kv
    exact ⟨List.contains_iff_mem.1 kv.1.1, kv.1.2⟩
  · have := (st a b ha hm).2
    simp only [stepB, Bool.and_eq_true, Bool.or_eq_true, decide_eq_true_eq] at this
    refine ⟨this.1, fun e => this.2.resolve_left fun h => hq ?_⟩
    have e : pr.getD a 0 = q := e
    rw [← e]; exact h
/-- The winners, by a check. -/
theorem wins_chk {ow pr : List Int} {su : List (List Int)} {ws ex : List Int} (hv : validB ow pr su = true) (hw : Wins ow pr su ws) (hl : ex.length = ow.length) (X0 X1 : List Bool) (σ0 ρ0 σ1 ρ1 : List Nat) (h0 : chkP ow pr su 0 X0 σ0 ρ0 = true) (h1 : chkP ow pr su 1 X1 σ1 ρ1 = true)
    (ha : (List.range ow.length).all (fun v => (X0.getD v false || X1.getD v false) && (decide (ex.getD v 0 = 0) == X0.getD v false) && (decide (ex.getD v 0 = 1) == X1.getD v false)) = true) : ws = ex := by
  have g : Parity.Good (pg ow pr su) (fun v => v < ow.length) (inL X0) (inL X1) := ⟨chk_para h0, chk_para h1, fun v hv => by
    rw [List.all_eq_true] at ha
    have := ha v (List.mem_range.2 hv)
    simp only [Bool.and_eq_true, Bool.or_eq_true] at this
    exact this.1.1⟩
  have U := hw.good.unique (fun v h => h) (two_pg hv) g
  apply List.ext_getElem (by rw [hw.len, hl])
  intro i i1 i2
  have hi : i < ow.length := by rw [← hw.len]; exact i1
  have e1 : ws[i] = ws.getD i 0 := by rw [List.getD_eq_getElem?_getD, List.getElem?_eq_getElem i1]; rfl
  have e2 : ex[i] = ex.getD i 0 := by rw [List.getD_eq_getElem?_getD, List.getElem?_eq_getElem i2]; rfl
  rw [List.all_eq_true] at ha
  have := ha i (List.mem_range.2 hi)
  simp only [Bool.and_eq_true, beq_iff_eq] at this
  rw [e1, e2]
  rcases hw.two i hi with h | h
  · have := (U i).1.1 ⟨hi, h⟩
    have hx : X0.getD i false = true := this
    have h3 := (‹(_ ∧ _) ∧ _›).1.2
    rw [hx, decide_eq_true_eq] at h3
    rw [h, h3]
  · have := (U i).2.1 ⟨hi, h⟩
    have hx : X1.getD i false = true := this
    have h3 := (‹(_ ∧ _) ∧ _›).2
    rw [hx, decide_eq_true_eq] at h3
    rw [h, h3]
theorem c20x (pr ex : List Int) (hv : validB [0, 1, 0, 1] pr [[1, 2], [0, 3], [2], [2, 3]] = true) (hl : ex.length = 4) (X0 X1 : List Bool) (σ0 ρ0 σ1 ρ1 : List Nat) (h0 : chkP [0, 1, 0, 1] pr [[1, 2], [0, 3], [2], [2, 3]] 0 X0 σ0 ρ0 = true) (h1 : chkP [0, 1, 0, 1] pr [[1, 2], [0, 3], [2], [2, 3]] 1 X1 σ1 ρ1 = true)
    (ha : (List.range 4).all (fun v => (X0.getD v false || X1.getD v false) && (decide (ex.getD v 0 = 0) == X0.getD v false) && (decide (ex.getD v 0 = 1) == X1.getD v false)) = true) : Contract Try.prog 20 [game [0, 1, 0, 1] pr [[1, 2], [0, 3], [2], [2, 3]]] (.one (.val (intRow ex))) := by
  have hp := (validB_spec hv).2.1
  obtain ⟨ws, w1, _, w3⟩ := c20 [0, 1, 0, 1] pr [[1, 2], [0, 3], [2], [2, 3]] (by decide) (by rw [hp]; decide) (by decide) (by decide)
  rw [wins_chk hv (w1 hv) hl X0 X1 σ0 ρ0 σ1 ρ1 h0 h1 ha] at w3
  exact w3
theorem ex1 : Contract Try.prog 20 [game [0, 1, 0, 1] [1, 1, 0, 1] [[1, 2], [0, 3], [2], [2, 3]]] (.one (.val (intRow [0, 1, 0, 1]))) :=
  c20x _ _ (by decide +kernel) rfl [true, false, true, false] [false, true, false, true] [2, 0, 2, 0] [1, 0, 0, 0] [0, 3, 0, 3] [0, 0, 0, 0] (by decide +kernel) (by decide +kernel) (by decide +kernel)
theorem ex2 : Contract Try.prog 20 [game [0, 1, 0, 1] [0, 1, 1, 2] [[1, 2], [0, 3], [2], [2, 3]]] (.one (.val (intRow [1, 1, 1, 1]))) :=
  c20x _ _ (by decide +kernel) rfl [false, false, false, false] [true, true, true, true] [] [] [0, 3, 0, 2] [3, 2, 0, 1] (by decide +kernel) (by decide +kernel) (by decide +kernel)
theorem ex3 : Contract Try.prog 20 [game [0, 1, 0, 1] [0, 1, 3, 2] [[1, 2], [0, 3], [2], [2, 3]]] (.one (.val (intRow [1, 1, 1, 1]))) :=
  c20x _ _ (by decide +kernel) rfl [false, false, false, false] [true, true, true, true] [] [] [0, 3, 0, 2] [3, 2, 0, 1] (by decide +kernel) (by decide +kernel) (by decide +kernel)
theorem ex4 : Contract Try.prog 20 [game [0, 1, 0, 1] [0, 2, 2, 4] [[1, 2], [0, 3], [2], [2, 3]]] (.one (.val (intRow [0, 0, 0, 0]))) :=
  c20x _ _ (by decide +kernel) rfl [true, true, true, true] [false, false, false, false] [2, 0, 2, 0] [] [] [] (by decide +kernel) (by decide +kernel) (by decide +kernel)
theorem ex5 : Contract Try.prog 20 [game [0] [0] [[]]] (.one (.val (intRow []))) := by
  obtain ⟨ws, _, w2, w3⟩ := c20 [0] [0] [[]] (by decide) (by decide) (by decide) (by decide)
  rw [w2 (by decide +kernel)] at w3; exact w3
end Go.Proofs.Ythkgnnndlocbbaa
