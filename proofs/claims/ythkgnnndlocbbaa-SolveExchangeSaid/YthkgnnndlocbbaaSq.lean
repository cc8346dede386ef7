/-
  The law SolveExchange: swapped and shifted games, walked. No condition but sizes.
-/
import Derived.Test.YthkgnnndlocbbaaSp
namespace Go.Proofs.Ythkgnnndlocbbaa
set_option linter.unusedVariables false
set_option linter.unusedSimpArgs false
open Go Go.SH Go.Parity
set_option maxRecDepth 100000
set_option maxHeartbeats 4000000
theorem range_map_at (l : List Int) (f : Int → Int) (n : Nat) (h : n = l.length) : (List.range n).map (fun i => f (l.getD i 0)) = l.map f := by
  subst h
  refine List.ext_getElem (by simp) fun v h1 h2 => ?_
  simp only [List.length_map] at h2
  rw [List.getElem_map, List.getElem_range, List.getElem_map, List.getElem_eq_getD 0]
theorem c31 (ow pr : List Int) (su : List (List Int)) (hv : validB ow pr su = true) (hb : ∀ x ∈ pr, x ≤ 1000) (hr : ∀ r ∈ su, r.length ≤ 20) : Contract Try.prog 31 [game ow pr su] (.one (.val (game (swOw ow) (swPr pr) su))) := by
  obtain ⟨v1, v2, v3, v4⟩ := valid_at.1 hv
  have a16 := k23 ow pr su (by omega) (by omega) (by omega) (fun r h => by have := hr r h; omega)
  have a54 := c54 pr 30000 (fun y hy => by have := hb y hy; omega) (by omega)
  have a55 := c55v ow (by omega)
  have b55 := c55v pr (by omega)
  rw [hv] at a16
  obtain ⟨n, hn⟩ : ∃ n, ow.length = n := ⟨_, rfl⟩
  refine ct31 (SH.Sem.of_wpA hm ?_)
  simp only [padA]
  simp only [Try.f31, Option.getD, w_skip, w_reg, w_regd, w_seq, w_cond, w_block, w_loop, w_rf, w_exit, w_ret, f_ok, f_call, f_yield, yK_cons, a_normal, r_normal, r_ret, r_exit, rg_cons, putL, frz, beq_self_eq_true, Nat.reduceBEq, updG_same, f_bad, cK_nil, cK_cons, v_nil, v_cons, gK_tt, gK_ff, gK_tf, gK_ft, dK_go, d_nil, d_cons, gD_tt, gD_ff, gD_tf, gD_ft, eC_one, eC_tup, eC_own, eE_ok, eE_bad, eD, eff, eBin, eEq, eUn, eConv, eLen, eMin, eMax, eField, eFieldAddr, eIndex, eIndexAddr, eSlice, eLoad, eStore, eAlloc, eBox, eBuild, eBuildSlice, eMake, eAppend, eCopy, eMakeMap, eMapUpdate, eLookup, lookV, optN, eNil, ePick, eExtract, E.pure, Eff.only, Eff.notB, evalA, AV.ofV, AV.ofC, sget, sput, putA, applyU, hset, hget, hlen, alen, takeA, dropA, spliceA, mapA, allA, lget, oget, pget, tget, cellsA, AV.one, AV.goneB, partA, partC, TK.isAgg, nilish, natA, natC, loN, hiN, optC, roCut, loadP, loadC, aggOr, fillA, fillC, allPos, partsC, partsCells, partsAll, kills, killIds, liveAll, gnd, srcOf, inBlk, mapO, mapP, Go.SH.IntKind.uns, TK.flat, eqSc, eqScC, eqFs, eqFsC, seqK, blockK, condK, l_exit, l_ret, retK, retS, rsV, rsC, allT, padA, mapT, glook, bsel, gsplit_true, gsplit_false, resOf, resIds, resAll, nodupN, notin, like, like1, likeL, likeAll, AV.np, AV.gb, idsR, idsM, retI, retR, reify, AR.v, AR.u, AR.nv, nvec, impV, impU, isAlloc, callOf, countA, upIds, Option.map_none, Option.map_some, Option.isSome_some, Option.isSome_none, List.map_cons, List.map_nil, true_and, and_true, List.cons_append, List.nil_append, List.append_nil, List.length_cons, List.length_nil, List.nodup_nil, List.not_mem_nil, not_false_eq_true, ne_eq, reduceCtorEq, Bool.and_true, Bool.true_and, Bool.not_true, Bool.not_false, if_true, if_false, reduceIte, en_byte, en_byte', en_int, en_int', en_bool, en_bool', en_str, en_str', en_row, en_row', sh_at, sh_at', and_assoc, Nat.zero_add, Nat.add_zero, Nat.reduceAdd, appF_zero, Option.isNone_none, Option.isNone_some, en_byteL, en_intL, en_rowL, Int.reduceToNat, Nat.mul_one, Nat.one_mul, Nat.zero_mul, Nat.reduceMul, Nat.reduceSub, Nat.sub_zero, bne_self_eq_false, ti1, ti2, ti3, ti4, ti5, ti6, ti7, ti8, ti9, ti10, ti11, ti12, ti13, ti14, ti15, ti16, ti17, ti18, ti19, ti21, ti22, ti23, ti24, ti25, ti26, ti27, ti28, ti30, ti31, ti33, ti34, ti35, ti36, ti37, ti38, ti39, ti40, ti41, ti42, ti43, ti45, ti46, ti47, ti48, ti49, ti50, ti51, ti52, ti53, ti54, ti55, ti57, ti58, ti59, ti60, ti61, ti62, ti63, ti64, ti65, ti66, ti67, ti68, ti69, ti70, ti71, ti72, ti73, ti74, ti75, ti76, ti77, ti78, ti79, ti80, ti81, ti82, ti83, ti85, ti86, ti87, ti88, ti89, ti90, ti91, ti92, ti93, ti94, ti95, ti96, ti97, ti98, ti99, ti100, ti101, ti102, ti103, ti104, ti105, ti106, ti107, ti108, ti109]
  repeat (((with_reducible refine And.intro ?_ ?_)); (focus (first | omega | (simp only [inR]; omega) | rfl | (simp [notinId, notin]; done) | exact Or.inr rfl | (intro i hi; (repeat' (with_reducible first | apply len_cut | apply len_shift | apply len_app | apply len_copy | intro j)) <;> first | rfl | (exact len_lit _ _ (by simp) rfl _) | (simp; done)))))
  refine EffC.use a16 ?_ (.inl rfl) ?_
  · ((refine evL ?_; (try (with_reducible exact True.intro))) <;> (repeat' (with_reducible refine And.intro ?_ ?_)) <;> first | trivial | (exact fun _ _ => trivial) | (simp; done) | (exact fun q hq => cut_at0 q (by simpa using hq)) | (exact fun q hq => cut_at0 q (by omega)) | omega)
  (refine ev ?_; (try (with_reducible exact True.intro)))
  repeat (((with_reducible refine And.intro ?_ ?_)); (focus (first | omega | (simp only [inR]; omega) | rfl | (simp [notinId, notin]; done) | exact Or.inr rfl | (intro i hi; (repeat' (with_reducible first | apply len_cut | apply len_shift | apply len_app | apply len_copy | intro j)) <;> first | rfl | (exact len_lit _ _ (by simp) rfl _) | (simp; done)))))
  refine EffC.use a54 ?_ (.inl rfl) ?_
  · ((refine evL ?_; (try (with_reducible exact True.intro))) <;> (repeat' (with_reducible refine And.intro ?_ ?_)) <;> first | trivial | (exact fun _ _ => trivial) | (simp; done) | (exact fun q hq => cut_at0 q (by simpa using hq)) | (exact fun q hq => cut_at0 q (by omega)) | omega)
  (refine ev ?_; (try (with_reducible exact True.intro)))
  repeat (((with_reducible refine And.intro ?_ ?_)); (focus (first | omega | (simp only [inR]; omega) | rfl | (simp [notinId, notin]; done) | exact Or.inr rfl | (intro i hi; (repeat' (with_reducible first | apply len_cut | apply len_shift | apply len_app | apply len_copy | intro j)) <;> first | rfl | (exact len_lit _ _ (by simp) rfl _) | (simp; done)))))
  refine ExCall.use a55 ?_ (.inr rfl) ?_
  · ((refine evL ?_; (try (with_reducible exact True.intro))) <;> (repeat' (with_reducible refine And.intro ?_ ?_)) <;> first | trivial | (exact fun _ _ => trivial) | (simp; done) | (exact fun q hq => cut_at0 q (by simpa using hq)) | (exact fun q hq => cut_at0 q (by omega)) | omega)
  (refine ev ?_; (try (with_reducible exact True.intro)))
  repeat (((with_reducible refine And.intro ?_ ?_)); (focus (first | omega | (simp only [inR]; omega) | rfl | (simp [notinId, notin]; done) | exact Or.inr rfl | (intro i hi; (repeat' (with_reducible first | apply len_cut | apply len_shift | apply len_app | apply len_copy | intro j)) <;> first | rfl | (exact len_lit _ _ (by simp) rfl _) | (simp; done)))))
  refine ExCall.use b55 ?_ (.inr rfl) ?_
  · ((refine evL ?_; (try (with_reducible exact True.intro))) <;> (repeat' (with_reducible refine And.intro ?_ ?_)) <;> first | trivial | (exact fun _ _ => trivial) | (simp; done) | (exact fun q hq => cut_at0 q (by simpa using hq)) | (exact fun q hq => cut_at0 q (by omega)) | omega)
  (refine ev ?_; (try (with_reducible exact True.intro)))
  repeat (((with_reducible refine And.intro ?_ ?_)); (focus (first | omega | (simp only [inR]; omega) | rfl | (simp [notinId, notin]; done) | exact Or.inr rfl | (intro i hi; (repeat' (with_reducible first | apply len_cut | apply len_shift | apply len_app | apply len_copy | intro j)) <;> first | rfl | (exact len_lit _ _ (by simp) rfl _) | (simp; done)))))
  simp only [v2, hn]
  refine SH.Sem.adoptB 6 2 1 (encL (cRow (cInt .i64) 0) [] []) (by decide) rfl rfl ?_
  simp only [hset, hlen, sput]
  have f0 : ∀ q, q < n → encL (cInt .i64) 0 ow q = encL (cInt .i64) 0 (partL n (fun i => 1 - ow.getD i 0) (fun i => ow.getD i 0) 0) q := fun q hq => by
    rw [encL, encL, partL_getD q hq, if_neg (by omega)]
  have g0 : ∀ q, q < n → encL (cInt .i64) 0 pr q = encL (cInt .i64) 0 (partL n (fun i => pr.getD i 0 + 1) (fun i => pr.getD i 0) 0) q := fun q hq => by
    rw [encL, encL, partL_getD q hq, if_neg (by omega)]
  refine SH.Sem.loop hm (fun i : Nat => ⟨padA [.undef, .ptr 0 0 0, .ptr 1 0 0, .ptr 4 0 0, .undef, .undef, .undef, .undef, .undef, .undef, .undef, .undef, .undef, .undef, .undef, .undef, .undef, .undef, .undef, .undef, .undef, .undef, .undef, .int .i64 n, .int .i64 i] 57, [.box [intRow ow, intRow pr, intRows su], .box [.raw (.slice none 0 0), .raw (.slice none 0 0), .raw (.slice none 0 0)], .vec 1 n (encL (cInt .i64) 0 (partL n (fun i => 1 - ow.getD i 0) (fun i => ow.getD i 0) i)), .vec 1 n (encL (cInt .i64) 0 (partL n (fun i => pr.getD i 0 + 1) (fun i => pr.getD i 0) i)), .box [.sl 2 0 n, .sl 3 0 n, .sl 5 0 i], .vec 1 i (encL (cRow (cInt .i64) 0) [] (su.take i))]⟩) (fun i => i ≤ n) (fun i => n - i) [0, 1, 2, 4, 6, 7] 0 (by omega) ?_ fun i hi0 => ?_
  · simp only [padA, St.le, slotsLe, heapLe, blkLe, rowLe, live, injOn, loLe, nget, nlook, ren, okA, allP, mapA, hget, ABlk.used, notin, List.map_cons, List.map_nil, true_or, or_true, false_or, or_false, true_and, and_true, and_self, AV.int.injEq, AV.bool.injEq, AV.str.injEq, AV.sl.injEq, AV.ro.injEq, AV.agg.injEq, List.cons.injEq, reduceCtorEq, ne_eq, not_false_eq_true, not_true_eq_false]
    (repeat' (with_reducible refine And.intro ?_ ?_)) <;> first | exact f0 | exact g0 | rfl | trivial | (intros; trivial) | (simp; done) | omega
  simp only [padA]
  (refine ev ?_; (try (with_reducible exact True.intro)))
  repeat (((with_reducible refine And.intro ?_ ?_)); (focus (first | omega | (simp only [inR]; omega) | rfl | (simp [notinId, notin]; done) | exact Or.inr rfl | (intro i hi; (repeat' (with_reducible first | apply len_cut | apply len_shift | apply len_app | apply len_copy | intro j)) <;> first | rfl | (exact len_lit _ _ (by simp) rfl _) | (simp; done)))))
  refine gsd (fun hd => ?_) (fun hd => ?_)
  · have hi : i < n := by omega
    have hx : (partL n (fun i => 1 - ow.getD i 0) (fun i => ow.getD i 0) i).getD i 0 = ow.getD i 0 := by rw [partL_getD i hi, if_neg (by omega)]
    have hy : (partL n (fun i => pr.getD i 0 + 1) (fun i => pr.getD i 0) i).getD i 0 = pr.getD i 0 := by rw [partL_getD i hi, if_neg (by omega)]
    obtain ⟨w1, w2, w3, w4, w5⟩ := v4 i (by omega)
    have e1 := enc_upd1 (f := fun i => 1 - ow.getD i 0) (g := fun i => ow.getD i 0) hi (1 - ow.getD i 0) rfl
    have e2 := enc_upd1 (f := fun i => pr.getD i 0 + 1) (g := fun i => pr.getD i 0) hi (pr.getD i 0 + 1) rfl
    have rl := hr _ (getD_mem (show i < su.length by omega) [])
    have c5 := c55 (su.getD i []) (by omega)
    have nxt := take_next su [] i (by omega)
    (refine ev ?_; (try (with_reducible exact True.intro)))
    simp only [Int.toNat_natCast, hx, hy, e1, e2]
    repeat (((with_reducible refine And.intro ?_ ?_)); (focus (first | omega | (simp only [inR]; omega) | rfl | (simp [notinId, notin]; done) | exact Or.inr rfl | (intro i hi; (repeat' (with_reducible first | apply len_cut | apply len_shift | apply len_app | apply len_copy | intro j)) <;> first | rfl | (exact len_lit _ _ (by simp) rfl _) | (simp; done)))))
    refine ExCall.use c5 ?_ (.inr rfl) ?_
    · ((refine evL ?_; (try (with_reducible exact True.intro))) <;> (repeat' (with_reducible refine And.intro ?_ ?_)) <;> first | trivial | (exact fun _ _ => trivial) | (simp; done) | (exact fun q hq => cut_at0 q (by simpa using hq)) | (exact fun q hq => cut_at0 q (by omega)) | omega)
    (refine ev ?_; (try (with_reducible exact True.intro)))
    repeat (((with_reducible refine And.intro ?_ ?_)); (focus (first | omega | (simp only [inR]; omega) | rfl | (simp [notinId, notin]; done) | exact Or.inr rfl | (intro i hi; (repeat' (with_reducible first | apply len_cut | apply len_shift | apply len_app | apply len_copy | intro j)) <;> first | rfl | (exact len_lit _ _ (by simp) rfl _) | (simp; done)))))
    refine ⟨i + 1, [0, 1, 2, 3, 4, 10], by omega, by show n - (i + 1) < n - i; omega, ?_⟩
    have tl : i = (su.take i).length := by rw [List.length_take]; omega
    simp only [padA, St.le, slotsLe, heapLe, blkLe, rowLe, live, injOn, loLe, nget, nlook, ren, okA, allP, mapA, hget, ABlk.used, notin, List.map_cons, List.map_nil, true_or, or_true, false_or, or_false, true_and, and_true, and_self, AV.int.injEq, AV.bool.injEq, AV.str.injEq, AV.sl.injEq, AV.ro.injEq, AV.agg.injEq, List.cons.injEq, reduceCtorEq, ne_eq, not_false_eq_true, not_true_eq_false, nxt]
    (repeat' (with_reducible refine And.intro ?_ ?_)) <;> first | rfl | trivial | (intros; trivial; done) | (intros; rfl; done) | (exact fun q hq => app_enc (n := i) (m := 1) tl (fun j h => cut_at0 j h) (fun j h => lit1 (su.getD i []) rfl j h) q hq) | (simp; done) | omega
  · have hi : i = n := by omega
    subst hi
    have e1 : partL i (fun i => 1 - ow.getD i 0) (fun i => ow.getD i 0) i = swOw ow := by rw [partL_full, swOw, range_map_at ow (fun x => 1 - x) _ hn.symm]
    have e2 : partL i (fun i => pr.getD i 0 + 1) (fun i => pr.getD i 0) i = swPr pr := by rw [partL_full, swPr, range_map_at pr (fun x => x + 1) _ (by omega)]
    have e3 : su.take i = su := List.take_of_length_le (by omega)
    simp -implicitDefEqProofs only [Option.getD, w_skip, w_reg, w_regd, w_seq, w_cond, w_block, w_loop, w_rf, w_exit, w_ret, f_ok, f_call, f_yield, yK_cons, a_normal, r_normal, r_ret, r_exit, rg_cons, putL, frz, beq_self_eq_true, Nat.reduceBEq, updG_same, f_bad, cK_nil, cK_cons, v_nil, v_cons, gK_tt, gK_ff, gK_tf, gK_ft, dK_go, d_nil, d_cons, gD_tt, gD_ff, gD_tf, gD_ft, eC_one, eC_tup, eC_own, eE_ok, eE_bad, eD, eff, eBin, eEq, eUn, eConv, eLen, eMin, eMax, eField, eFieldAddr, eIndex, eIndexAddr, eSlice, eLoad, eStore, eAlloc, eBox, eBuild, eBuildSlice, eMake, eAppend, eCopy, eMakeMap, eMapUpdate, eLookup, lookV, optN, eNil, ePick, eExtract, E.pure, Eff.only, Eff.notB, evalA, AV.ofV, AV.ofC, sget, sput, putA, applyU, hset, hget, hlen, alen, takeA, dropA, spliceA, mapA, allA, lget, oget, pget, tget, cellsA, AV.one, AV.goneB, partA, partC, TK.isAgg, nilish, natA, natC, loN, hiN, optC, roCut, loadP, loadC, aggOr, fillA, fillC, allPos, partsC, partsCells, partsAll, kills, killIds, liveAll, gnd, srcOf, inBlk, mapO, mapP, Go.SH.IntKind.uns, TK.flat, eqSc, eqScC, eqFs, eqFsC, seqK, blockK, condK, l_exit, l_ret, retK, retS, rsV, rsC, allT, padA, mapT, glook, bsel, gsplit_true, gsplit_false, resOf, resIds, resAll, nodupN, notin, like, like1, likeL, likeAll, AV.np, AV.gb, idsR, idsM, retI, retR, reify, AR.v, AR.u, AR.nv, nvec, impV, impU, isAlloc, callOf, countA, upIds, Option.map_none, Option.map_some, Option.isSome_some, Option.isSome_none, List.map_cons, List.map_nil, true_and, and_true, List.cons_append, List.nil_append, List.append_nil, List.length_cons, List.length_nil, List.nodup_nil, List.not_mem_nil, not_false_eq_true, ne_eq, reduceCtorEq, Bool.and_true, Bool.true_and, Bool.not_true, Bool.not_false, if_true, if_false, reduceIte, en_byte, en_byte', en_int, en_int', en_bool, en_bool', en_str, en_str', en_row, en_row', sh_at, sh_at', and_assoc, Nat.zero_add, Nat.add_zero, Nat.reduceAdd, appF_zero, Option.isNone_none, Option.isNone_some, en_byteL, en_intL, en_rowL, Int.reduceToNat, Nat.mul_one, Nat.one_mul, Nat.zero_mul, Nat.reduceMul, Nat.reduceSub, Nat.sub_zero, bne_self_eq_false, ti1, ti2, ti3, ti4, ti5, ti6, ti7, ti8, ti9, ti10, ti11, ti12, ti13, ti14, ti15, ti16, ti17, ti18, ti19, ti21, ti22, ti23, ti24, ti25, ti26, ti27, ti28, ti30, ti31, ti33, ti34, ti35, ti36, ti37, ti38, ti39, ti40, ti41, ti42, ti43, ti45, ti46, ti47, ti48, ti49, ti50, ti51, ti52, ti53, ti54, ti55, ti57, ti58, ti59, ti60, ti61, ti62, ti63, ti64, ti65, ti66, ti67, ti68, ti69, ti70, ti71, ti72, ti73, ti74, ti75, ti76, ti77, ti78, ti79, ti80, ti81, ti82, ti83, ti85, ti86, ti87, ti88, ti89, ti90, ti91, ti92, ti93, ti94, ti95, ti96, ti97, ti98, ti99, ti100, ti101, ti102, ti103, ti104, ti105, ti106, ti107, ti108, ti109, e1, e2, e3]
    repeat (((with_reducible refine And.intro ?_ ?_)); (focus (first | omega | (simp only [inR]; omega) | rfl | (simp [notinId, notin]; done) | exact Or.inr rfl | (intro i hi; (repeat' (with_reducible first | apply len_cut | apply len_shift | apply len_app | apply len_copy | intro j)) <;> first | rfl | (exact len_lit _ _ (by simp) rfl _) | (simp; done)))))
    have l1 : (swOw ow).length = i := by simp [swOw, hn]
    have l2 : (swPr pr).length = i := by simp [swPr, v2, hn]
    have l3 : su.length = i := by omega
    (repeat' (with_reducible refine And.intro ?_ ?_)) <;> first | exact l1.symm | exact l2.symm | exact l3.symm | (exact fun q hq => cut_at0 q (by omega)) | (exact fun _ _ => trivial) | (simp [notinId]; done)
theorem c32 (ow pr : List Int) (su : List (List Int)) (s : Int) (h0 : 0 ≤ s) (h4 : s ≤ 4) (hv : validB ow pr su = true) (hb : ∀ x ∈ pr, x ≤ 1000) : Contract Try.prog 32 [game ow pr su, .int .i64 s] (.one (.val (game ow (shPr s pr) su))) := by
  obtain ⟨v1, v2, v3, v4⟩ := valid_at.1 hv
  refine ct32 (SH.Sem.of_wpA hm ?_)
  simp only [padA]
  simp only [Try.f32, Option.getD, w_skip, w_reg, w_regd, w_seq, w_cond, w_block, w_loop, w_rf, w_exit, w_ret, f_ok, f_call, f_yield, yK_cons, a_normal, r_normal, r_ret, r_exit, rg_cons, putL, frz, beq_self_eq_true, Nat.reduceBEq, updG_same, f_bad, cK_nil, cK_cons, v_nil, v_cons, gK_tt, gK_ff, gK_tf, gK_ft, dK_go, d_nil, d_cons, gD_tt, gD_ff, gD_tf, gD_ft, eC_one, eC_tup, eC_own, eE_ok, eE_bad, eD, eff, eBin, eEq, eUn, eConv, eLen, eMin, eMax, eField, eFieldAddr, eIndex, eIndexAddr, eSlice, eLoad, eStore, eAlloc, eBox, eBuild, eBuildSlice, eMake, eAppend, eCopy, eMakeMap, eMapUpdate, eLookup, lookV, optN, eNil, ePick, eExtract, E.pure, Eff.only, Eff.notB, evalA, AV.ofV, AV.ofC, sget, sput, putA, applyU, hset, hget, hlen, alen, takeA, dropA, spliceA, mapA, allA, lget, oget, pget, tget, cellsA, AV.one, AV.goneB, partA, partC, TK.isAgg, nilish, natA, natC, loN, hiN, optC, roCut, loadP, loadC, aggOr, fillA, fillC, allPos, partsC, partsCells, partsAll, kills, killIds, liveAll, gnd, srcOf, inBlk, mapO, mapP, Go.SH.IntKind.uns, TK.flat, eqSc, eqScC, eqFs, eqFsC, seqK, blockK, condK, l_exit, l_ret, retK, retS, rsV, rsC, allT, padA, mapT, glook, bsel, gsplit_true, gsplit_false, resOf, resIds, resAll, nodupN, notin, like, like1, likeL, likeAll, AV.np, AV.gb, idsR, idsM, retI, retR, reify, AR.v, AR.u, AR.nv, nvec, impV, impU, isAlloc, callOf, countA, upIds, Option.map_none, Option.map_some, Option.isSome_some, Option.isSome_none, List.map_cons, List.map_nil, true_and, and_true, List.cons_append, List.nil_append, List.append_nil, List.length_cons, List.length_nil, List.nodup_nil, List.not_mem_nil, not_false_eq_true, ne_eq, reduceCtorEq, Bool.and_true, Bool.true_and, Bool.not_true, Bool.not_false, if_true, if_false, reduceIte, en_byte, en_byte', en_int, en_int', en_bool, en_bool', en_str, en_str', en_row, en_row', sh_at, sh_at', and_assoc, Nat.zero_add, Nat.add_zero, Nat.reduceAdd, appF_zero, Option.isNone_none, Option.isNone_some, en_byteL, en_intL, en_rowL, Int.reduceToNat, Nat.mul_one, Nat.one_mul, Nat.zero_mul, Nat.reduceMul, Nat.reduceSub, Nat.sub_zero, bne_self_eq_false, ti1, ti2, ti3, ti4, ti5, ti6, ti7, ti8, ti9, ti10, ti11, ti12, ti13, ti14, ti15, ti16, ti17, ti18, ti19, ti21, ti22, ti23, ti24, ti25, ti26, ti27, ti28, ti30, ti31, ti33, ti34, ti35, ti36, ti37, ti38, ti39, ti40, ti41, ti42, ti43, ti45, ti46, ti47, ti48, ti49, ti50, ti51, ti52, ti53, ti54, ti55, ti57, ti58, ti59, ti60, ti61, ti62, ti63, ti64, ti65, ti66, ti67, ti68, ti69, ti70, ti71, ti72, ti73, ti74, ti75, ti76, ti77, ti78, ti79, ti80, ti81, ti82, ti83, ti85, ti86, ti87, ti88, ti89, ti90, ti91, ti92, ti93, ti94, ti95, ti96, ti97, ti98, ti99, ti100, ti101, ti102, ti103, ti104, ti105, ti106, ti107, ti108, ti109]
  repeat (((with_reducible refine And.intro ?_ ?_)); (focus (first | omega | (simp only [inR]; omega) | rfl | (simp [notinId, notin]; done) | exact Or.inr rfl | (intro i hi; (repeat' (with_reducible first | apply len_cut | apply len_shift | apply len_app | apply len_copy | intro j)) <;> first | rfl | (exact len_lit _ _ (by simp) rfl _) | (simp; done)))))
  obtain ⟨n, hn⟩ : ∃ n, pr.length = n := ⟨_, rfl⟩
  have e0 : ∀ q, q < n → encL (cInt .i64) 0 pr q = encL (cInt .i64) 0 (partL n (fun i => shF s (pr.getD i 0)) (fun i => pr.getD i 0) 0) q := fun q hq => by
    rw [encL, encL, partL_getD q hq, if_neg (by omega)]
  simp only [hn]
  refine SH.Sem.loop hm (fun i : Nat => ⟨padA [.undef, .int .i64 s, .ptr 0 0 0, .undef, .ptr 1 0 0, .int .i64 i] 39, [.box [intRow ow, .sl 2 0 n, intRows su], .box [.raw (.slice none 0 0), .raw (.slice none 0 0), .raw (.slice none 0 0)], .vec 1 n (encL (cInt .i64) 0 (partL n (fun i => shF s (pr.getD i 0)) (fun i => pr.getD i 0) i))]⟩) (fun i => i ≤ n) (fun i => n - i) [0, 1, 3] 0 (by omega) ?_ fun i hi0 => ?_
  · simp only [padA, St.le, slotsLe, heapLe, blkLe, rowLe, live, injOn, loLe, nget, nlook, ren, okA, allP, mapA, hget, ABlk.used, notin, List.map_cons, List.map_nil, true_or, or_true, false_or, or_false, true_and, and_true, and_self, AV.int.injEq, AV.bool.injEq, AV.str.injEq, AV.sl.injEq, AV.ro.injEq, AV.agg.injEq, List.cons.injEq, reduceCtorEq, ne_eq, not_false_eq_true, not_true_eq_false]
    (repeat' (with_reducible refine And.intro ?_ ?_)) <;> first | exact e0 | rfl | trivial | (intros; trivial) | (simp; done)
  simp only [padA]
  (refine ev ?_; (try (with_reducible exact True.intro)))
  repeat (((with_reducible refine And.intro ?_ ?_)); (focus (first | omega | (simp only [inR]; omega) | rfl | (simp [notinId, notin]; done) | exact Or.inr rfl | (intro i hi; (repeat' (with_reducible first | apply len_cut | apply len_shift | apply len_app | apply len_copy | intro j)) <;> first | rfl | (exact len_lit _ _ (by simp) rfl _) | (simp; done)))))
  refine gsd (fun hd => ?_) (fun hd => ?_)
  · have hi : i < n := by omega
    have hx : (partL n (fun i => shF s (pr.getD i 0)) (fun i => pr.getD i 0) i).getD i 0 = pr.getD i 0 := by rw [partL_getD i hi, if_neg (by omega)]
    (refine ev ?_; (try (with_reducible exact True.intro)))
    have x0 := (v4 i (by omega)).2.1
    have x1 := hb _ (getD_mem (show i < pr.length by omega) 0)
    have t0 : 0 ≤ (pr.getD i 0).tdiv 2 ∧ (pr.getD i 0).tdiv 2 ≤ 500 := by rw [Int.tdiv_eq_ediv_of_nonneg x0]; omega
    have t1 : 0 ≤ 2 * s * (1 + (pr.getD i 0).tdiv 2) ∧ 2 * s * (1 + (pr.getD i 0).tdiv 2) ≤ 5000 := by
      have : s = 0 ∨ s = 1 ∨ s = 2 ∨ s = 3 ∨ s = 4 := by omega
      rcases this with rfl | rfl | rfl | rfl | rfl <;> omega
    have e1 := enc_upd1 (f := fun i => shF s (pr.getD i 0)) (g := fun i => pr.getD i 0) hi (pr.getD i 0 + 2 * s * (1 + (pr.getD i 0).tdiv 2)) rfl
    simp only [Int.toNat_natCast, hx, e1]
    repeat (((with_reducible refine And.intro ?_ ?_)); (focus (first | omega | (simp only [inR]; omega) | rfl | (simp [notinId, notin]; done) | exact Or.inr rfl | (intro i hi; (repeat' (with_reducible first | apply len_cut | apply len_shift | apply len_app | apply len_copy | intro j)) <;> first | rfl | (exact len_lit _ _ (by simp) rfl _) | (simp; done)))))
    refine ⟨i + 1, [0, 1, 2], by omega, by show n - (i + 1) < n - i; omega, ?_⟩
    simp only [padA, St.le, slotsLe, heapLe, blkLe, rowLe, live, injOn, loLe, nget, nlook, ren, okA, allP, mapA, hget, ABlk.used, notin, List.map_cons, List.map_nil, true_or, or_true, false_or, or_false, true_and, and_true, and_self, AV.int.injEq, AV.bool.injEq, AV.str.injEq, AV.sl.injEq, AV.ro.injEq, AV.agg.injEq, List.cons.injEq, reduceCtorEq, ne_eq, not_false_eq_true, not_true_eq_false]; simp
  · have hi : i = n := by omega
    subst hi
    have e1 : partL i (fun i => shF s (pr.getD i 0)) (fun i => pr.getD i 0) i = shPr s pr := by rw [partL_full, shPr, range_map_at _ _ _ hn.symm]
    simp -implicitDefEqProofs only [Option.getD, w_skip, w_reg, w_regd, w_seq, w_cond, w_block, w_loop, w_rf, w_exit, w_ret, f_ok, f_call, f_yield, yK_cons, a_normal, r_normal, r_ret, r_exit, rg_cons, putL, frz, beq_self_eq_true, Nat.reduceBEq, updG_same, f_bad, cK_nil, cK_cons, v_nil, v_cons, gK_tt, gK_ff, gK_tf, gK_ft, dK_go, d_nil, d_cons, gD_tt, gD_ff, gD_tf, gD_ft, eC_one, eC_tup, eC_own, eE_ok, eE_bad, eD, eff, eBin, eEq, eUn, eConv, eLen, eMin, eMax, eField, eFieldAddr, eIndex, eIndexAddr, eSlice, eLoad, eStore, eAlloc, eBox, eBuild, eBuildSlice, eMake, eAppend, eCopy, eMakeMap, eMapUpdate, eLookup, lookV, optN, eNil, ePick, eExtract, E.pure, Eff.only, Eff.notB, evalA, AV.ofV, AV.ofC, sget, sput, putA, applyU, hset, hget, hlen, alen, takeA, dropA, spliceA, mapA, allA, lget, oget, pget, tget, cellsA, AV.one, AV.goneB, partA, partC, TK.isAgg, nilish, natA, natC, loN, hiN, optC, roCut, loadP, loadC, aggOr, fillA, fillC, allPos, partsC, partsCells, partsAll, kills, killIds, liveAll, gnd, srcOf, inBlk, mapO, mapP, Go.SH.IntKind.uns, TK.flat, eqSc, eqScC, eqFs, eqFsC, seqK, blockK, condK, l_exit, l_ret, retK, retS, rsV, rsC, allT, padA, mapT, glook, bsel, gsplit_true, gsplit_false, resOf, resIds, resAll, nodupN, notin, like, like1, likeL, likeAll, AV.np, AV.gb, idsR, idsM, retI, retR, reify, AR.v, AR.u, AR.nv, nvec, impV, impU, isAlloc, callOf, countA, upIds, Option.map_none, Option.map_some, Option.isSome_some, Option.isSome_none, List.map_cons, List.map_nil, true_and, and_true, List.cons_append, List.nil_append, List.append_nil, List.length_cons, List.length_nil, List.nodup_nil, List.not_mem_nil, not_false_eq_true, ne_eq, reduceCtorEq, Bool.and_true, Bool.true_and, Bool.not_true, Bool.not_false, if_true, if_false, reduceIte, en_byte, en_byte', en_int, en_int', en_bool, en_bool', en_str, en_str', en_row, en_row', sh_at, sh_at', and_assoc, Nat.zero_add, Nat.add_zero, Nat.reduceAdd, appF_zero, Option.isNone_none, Option.isNone_some, en_byteL, en_intL, en_rowL, Int.reduceToNat, Nat.mul_one, Nat.one_mul, Nat.zero_mul, Nat.reduceMul, Nat.reduceSub, Nat.sub_zero, bne_self_eq_false, ti1, ti2, ti3, ti4, ti5, ti6, ti7, ti8, ti9, ti10, ti11, ti12, ti13, ti14, ti15, ti16, ti17, ti18, ti19, ti21, ti22, ti23, ti24, ti25, ti26, ti27, ti28, ti30, ti31, ti33, ti34, ti35, ti36, ti37, ti38, ti39, ti40, ti41, ti42, ti43, ti45, ti46, ti47, ti48, ti49, ti50, ti51, ti52, ti53, ti54, ti55, ti57, ti58, ti59, ti60, ti61, ti62, ti63, ti64, ti65, ti66, ti67, ti68, ti69, ti70, ti71, ti72, ti73, ti74, ti75, ti76, ti77, ti78, ti79, ti80, ti81, ti82, ti83, ti85, ti86, ti87, ti88, ti89, ti90, ti91, ti92, ti93, ti94, ti95, ti96, ti97, ti98, ti99, ti100, ti101, ti102, ti103, ti104, ti105, ti106, ti107, ti108, ti109, e1]
    repeat (((with_reducible refine And.intro ?_ ?_)); (focus (first | omega | (simp only [inR]; omega) | rfl | (simp [notinId, notin]; done) | exact Or.inr rfl | (intro i hi; (repeat' (with_reducible first | apply len_cut | apply len_shift | apply len_app | apply len_copy | intro j)) <;> first | rfl | (exact len_lit _ _ (by simp) rfl _) | (simp; done)))))
    have e2 : (shPr s pr).length = i := by simp [shPr, hn]
    (repeat' (with_reducible refine And.intro ?_ ?_)) <;> first | exact e2.symm | (exact fun q hq => cut_at0 q (by omega)) | (exact fun _ _ => trivial) | (simp [notinId]; done)
theorem s10 (ow pr : List Int) (su : List (List Int)) (b : UInt8) : Contract Try.prog 10 [game ow pr su, .int .u8 (b.toNat : Nat)] (.one (.val (.bool true))) := by
  refine ct10 (SH.Sem.of_wpA hm ?_)
  simp only [padA]
  simp only [Try.f10, Option.getD, w_skip, w_reg, w_regd, w_seq, w_cond, w_block, w_loop, w_rf, w_exit, w_ret, f_ok, f_call, f_yield, yK_cons, a_normal, r_normal, r_ret, r_exit, rg_cons, putL, frz, beq_self_eq_true, Nat.reduceBEq, updG_same, f_bad, cK_nil, cK_cons, v_nil, v_cons, gK_tt, gK_ff, gK_tf, gK_ft, dK_go, d_nil, d_cons, gD_tt, gD_ff, gD_tf, gD_ft, eC_one, eC_tup, eC_own, eE_ok, eE_bad, eD, eff, eBin, eEq, eUn, eConv, eLen, eMin, eMax, eField, eFieldAddr, eIndex, eIndexAddr, eSlice, eLoad, eStore, eAlloc, eBox, eBuild, eBuildSlice, eMake, eAppend, eCopy, eMakeMap, eMapUpdate, eLookup, lookV, optN, eNil, ePick, eExtract, E.pure, Eff.only, Eff.notB, evalA, AV.ofV, AV.ofC, sget, sput, putA, applyU, hset, hget, hlen, alen, takeA, dropA, spliceA, mapA, allA, lget, oget, pget, tget, cellsA, AV.one, AV.goneB, partA, partC, TK.isAgg, nilish, natA, natC, loN, hiN, optC, roCut, loadP, loadC, aggOr, fillA, fillC, allPos, partsC, partsCells, partsAll, kills, killIds, liveAll, gnd, srcOf, inBlk, mapO, mapP, Go.SH.IntKind.uns, TK.flat, eqSc, eqScC, eqFs, eqFsC, seqK, blockK, condK, l_exit, l_ret, retK, retS, rsV, rsC, allT, padA, mapT, glook, bsel, gsplit_true, gsplit_false, resOf, resIds, resAll, nodupN, notin, like, like1, likeL, likeAll, AV.np, AV.gb, idsR, idsM, retI, retR, reify, AR.v, AR.u, AR.nv, nvec, impV, impU, isAlloc, callOf, countA, upIds, Option.map_none, Option.map_some, Option.isSome_some, Option.isSome_none, List.map_cons, List.map_nil, true_and, and_true, List.cons_append, List.nil_append, List.append_nil, List.length_cons, List.length_nil, List.nodup_nil, List.not_mem_nil, not_false_eq_true, ne_eq, reduceCtorEq, Bool.and_true, Bool.true_and, Bool.not_true, Bool.not_false, if_true, if_false, reduceIte, en_byte, en_byte', en_int, en_int', en_bool, en_bool', en_str, en_str', en_row, en_row', sh_at, sh_at', and_assoc, Nat.zero_add, Nat.add_zero, Nat.reduceAdd, appF_zero, Option.isNone_none, Option.isNone_some, en_byteL, en_intL, en_rowL, Int.reduceToNat, Nat.mul_one, Nat.one_mul, Nat.zero_mul, Nat.reduceMul, Nat.reduceSub, Nat.sub_zero, bne_self_eq_false, ti1, ti2, ti3, ti4, ti5, ti6, ti7, ti8, ti9, ti10, ti11, ti12, ti13, ti14, ti15, ti16, ti17, ti18, ti19, ti21, ti22, ti23, ti24, ti25, ti26, ti27, ti28, ti30, ti31, ti33, ti34, ti35, ti36, ti37, ti38, ti39, ti40, ti41, ti42, ti43, ti45, ti46, ti47, ti48, ti49, ti50, ti51, ti52, ti53, ti54, ti55, ti57, ti58, ti59, ti60, ti61, ti62, ti63, ti64, ti65, ti66, ti67, ti68, ti69, ti70, ti71, ti72, ti73, ti74, ti75, ti76, ti77, ti78, ti79, ti80, ti81, ti82, ti83, ti85, ti86, ti87, ti88, ti89, ti90, ti91, ti92, ti93, ti94, ti95, ti96, ti97, ti98, ti99, ti100, ti101, ti102, ti103, ti104, ti105, ti106, ti107, ti108, ti109]
  repeat (((with_reducible refine And.intro ?_ ?_)); (focus (first | omega | (simp only [inR]; omega) | rfl | (simp [notinId, notin]; done) | exact Or.inr rfl | (intro i hi; (repeat' (with_reducible first | apply len_cut | apply len_shift | apply len_app | apply len_copy | intro j)) <;> first | rfl | (exact len_lit _ _ (by simp) rfl _) | (simp; done)))))
  refine EffC.use c17 ?_ (.inl rfl) ?_
  · trivial
  (refine ev ?_; (try (with_reducible exact True.intro)))
  repeat (((with_reducible refine And.intro ?_ ?_)); (focus (first | omega | (simp only [inR]; omega) | rfl | (simp [notinId, notin]; done) | exact Or.inr rfl | (intro i hi; (repeat' (with_reducible first | apply len_cut | apply len_shift | apply len_app | apply len_copy | intro j)) <;> first | rfl | (exact len_lit _ _ (by simp) rfl _) | (simp; done)))))
  have a22 := c22 ow pr su 30 (by omega)
  cases hsm : smallB 30 ow pr su && validB ow pr su
  · rw [hsm] at a22
    refine EffC.use a22 ?_ (.inl rfl) ?_
    · ((refine evL ?_; (try (with_reducible exact True.intro))) <;> (repeat' (with_reducible refine And.intro ?_ ?_)) <;> first | trivial | (exact fun _ _ => trivial) | (simp; done) | (exact fun q hq => cut_at0 q (by simpa using hq)) | (exact fun q hq => cut_at0 q (by omega)) | omega)
    (refine ev ?_; (try (with_reducible exact True.intro)))
    ((repeat' (with_reducible refine And.intro ?_ ?_)) <;> first | omega | (simp [notinId]; done) | (exact fun q hq => cut_at0 q (by simpa using hq)) | (exact fun q hq => cut_at0 q (by omega)) | (exact fun _ _ => rfl))
  rw [hsm] at a22
  refine EffC.use a22 ?_ (.inl rfl) ?_
  · ((refine evL ?_; (try (with_reducible exact True.intro))) <;> (repeat' (with_reducible refine And.intro ?_ ?_)) <;> first | trivial | (exact fun _ _ => trivial) | (simp; done) | (exact fun q hq => cut_at0 q (by simpa using hq)) | (exact fun q hq => cut_at0 q (by omega)) | omega)
  obtain ⟨l1, l4, hv⟩ := small_spec hsm
  obtain ⟨v1, v2, v3, v4⟩ := validB_spec hv
  have hr20 : ∀ r ∈ su, r.length ≤ 2 ^ 20 := fun r hr => by have := l4 r hr; omega
  have a30 := c30 ow pr su (by omega)
  have gl := grL_spec pr
  (refine ev ?_; (try (with_reducible exact True.intro)))
  repeat (((with_reducible refine And.intro ?_ ?_)); (focus (first | omega | (simp only [inR]; omega) | rfl | (simp [notinId, notin]; done) | exact Or.inr rfl | (intro i hi; (repeat' (with_reducible first | apply len_cut | apply len_shift | apply len_app | apply len_copy | intro j)) <;> first | rfl | (exact len_lit _ _ (by simp) rfl _) | (simp; done)))))
  refine EffC.use a30 ?_ (.inl rfl) ?_
  · ((refine evL ?_; (try (with_reducible exact True.intro))) <;> (repeat' (with_reducible refine And.intro ?_ ?_)) <;> first | trivial | (exact fun _ _ => trivial) | (simp; done) | (exact fun q hq => cut_at0 q (by simpa using hq)) | (exact fun q hq => cut_at0 q (by omega)) | omega)
  generalize grL pr = m at gl
  (refine ev ?_; (try (with_reducible exact True.intro)))
  repeat (((with_reducible refine And.intro ?_ ?_)); (focus (first | omega | (simp only [inR]; omega) | rfl | (simp [notinId, notin]; done) | exact Or.inr rfl | (intro i hi; (repeat' (with_reducible first | apply len_cut | apply len_shift | apply len_app | apply len_copy | intro j)) <;> first | rfl | (exact len_lit _ _ (by simp) rfl _) | (simp; done)))))
  refine gsd (fun hg => ?_) (fun hg => ?_)
  · (refine ev ?_; (try (with_reducible exact True.intro)))
    ((repeat' (with_reducible refine And.intro ?_ ?_)) <;> first | omega | (simp [notinId]; done) | (exact fun q hq => cut_at0 q (by simpa using hq)) | (exact fun q hq => cut_at0 q (by omega)) | (exact fun _ _ => rfl))
  have hb : ∀ x ∈ pr, x ≤ 1000 := fun x hx => by have := gl x hx; omega
  obtain ⟨ws, w1, _, a20⟩ := c20 ow pr su (by omega) (by omega) (by omega) hr20
  have hw := w1 hv
  have wl := hw.len
  have hbb := b.toNat_lt
  have a31 := c31 ow pr su hv hb l4
  obtain ⟨ws', w1', _, b20⟩ := c20 (swOw ow) (swPr pr) su (by simp [swOw]; omega) (by simp [swPr]; omega) (by omega) hr20
  have hw' := w1' (sw_valid hv hb)
  have wl' : ws'.length = ow.length := by rw [hw'.len]; simp [swOw]
  have hsw := sw_wins hv hb hw hw'
  have two := hw.two
  obtain ⟨s, hs, s0, s4⟩ : ∃ s : Int, ((b.toNat : Nat) : Int).tmod 5 = s ∧ 0 ≤ s ∧ s ≤ 4 := ⟨_, rfl, by rw [Int.tmod_eq_emod_of_nonneg (by omega)]; omega, by rw [Int.tmod_eq_emod_of_nonneg (by omega)]; omega⟩
  have a32 := c32 ow pr su s s0 s4 hv hb
  obtain ⟨us, u1', _, d20⟩ := c20 ow (shPr s pr) su (by omega) (by simp [shPr]; omega) (by omega) hr20
  have hu := u1' (sh_valid hv hb s0 s4)
  have eu : us = ws := sh_wins hv hb s0 s4 hw hu
  subst eu
  have a19 := c19 us us (by omega)
  rw [beq_self_eq_true] at a19
  clear hu u1' hw' w1' w1 hw v4
  generalize swOw ow = ow' at *
  generalize swPr pr = pr' at *
  generalize shPr s pr = pr2 at *
  (refine ev ?_; (try (with_reducible exact True.intro)))
  repeat (((with_reducible refine And.intro ?_ ?_)); (focus (first | omega | (simp only [inR]; omega) | rfl | (simp [notinId, notin]; done) | exact Or.inr rfl | (intro i hi; (repeat' (with_reducible first | apply len_cut | apply len_shift | apply len_app | apply len_copy | intro j)) <;> first | rfl | (exact len_lit _ _ (by simp) rfl _) | (simp; done)))))
  refine EffC.use a20 ?_ (.inr rfl) ?_
  · ((refine evL ?_; (try (with_reducible exact True.intro))) <;> (repeat' (with_reducible refine And.intro ?_ ?_)) <;> first | trivial | (exact fun _ _ => trivial) | (simp; done) | (exact fun q hq => cut_at0 q (by simpa using hq)) | (exact fun q hq => cut_at0 q (by omega)) | omega)
  (refine ev ?_; (try (with_reducible exact True.intro)))
  repeat (((with_reducible refine And.intro ?_ ?_)); (focus (first | omega | (simp only [inR]; omega) | rfl | (simp [notinId, notin]; done) | exact Or.inr rfl | (intro i hi; (repeat' (with_reducible first | apply len_cut | apply len_shift | apply len_app | apply len_copy | intro j)) <;> first | rfl | (exact len_lit _ _ (by simp) rfl _) | (simp; done)))))
  refine EffC.use a31 ?_ (.inr rfl) ?_
  · ((refine evL ?_; (try (with_reducible exact True.intro))) <;> (repeat' (with_reducible refine And.intro ?_ ?_)) <;> first | trivial | (exact fun _ _ => trivial) | (simp; done) | (exact fun q hq => cut_at0 q (by simpa using hq)) | (exact fun q hq => cut_at0 q (by omega)) | omega)
  (refine ev ?_; (try (with_reducible exact True.intro)))
  repeat (((with_reducible refine And.intro ?_ ?_)); (focus (first | omega | (simp only [inR]; omega) | rfl | (simp [notinId, notin]; done) | exact Or.inr rfl | (intro i hi; (repeat' (with_reducible first | apply len_cut | apply len_shift | apply len_app | apply len_copy | intro j)) <;> first | rfl | (exact len_lit _ _ (by simp) rfl _) | (simp; done)))))
  refine EffC.use b20 ?_ (.inr rfl) ?_
  · ((refine evL ?_; (try (with_reducible exact True.intro))) <;> (repeat' (with_reducible refine And.intro ?_ ?_)) <;> first | trivial | (exact fun _ _ => trivial) | (simp; done) | (exact fun q hq => cut_at0 q (by simpa using hq)) | (exact fun q hq => cut_at0 q (by omega)) | omega)
  (refine ev ?_; (try (with_reducible exact True.intro)))
  repeat (((with_reducible refine And.intro ?_ ?_)); (focus (first | omega | (simp only [inR]; omega) | rfl | (simp [notinId, notin]; done) | exact Or.inr rfl | (intro i hi; (repeat' (with_reducible first | apply len_cut | apply len_shift | apply len_app | apply len_copy | intro j)) <;> first | rfl | (exact len_lit _ _ (by simp) rfl _) | (simp; done)))))
  have z1 : ((us.length : Int) != su.length) = false := by rw [bne_eq_false_iff_eq]; omega
  have z2 : ((ws'.length : Int) != us.length) = false := by rw [bne_eq_false_iff_eq]; omega
  simp only [z1]
  (refine ev ?_; (try (with_reducible exact True.intro)))
  simp only [z2]
  (refine ev ?_; (try (with_reducible exact True.intro)))
  repeat (((with_reducible refine And.intro ?_ ?_)); (focus (first | omega | (simp only [inR]; omega) | rfl | (simp [notinId, notin]; done) | exact Or.inr rfl | (intro i hi; (repeat' (with_reducible first | apply len_cut | apply len_shift | apply len_app | apply len_copy | intro j)) <;> first | rfl | (exact len_lit _ _ (by simp) rfl _) | (simp; done)))))
  refine SH.Sem.loop hm (fun i : Nat => ⟨padA [.undef, .int .u8 (b.toNat : Nat), .ptr 0 0 0, .undef, .undef, .bool true, intRow us, intRow ws', .int .i64 i] 64, [.box [intRow ow, intRow pr, intRows su]]⟩) (fun i => i ≤ ow.length) (fun i => ow.length - i) [0] 0 (by omega) ?_ fun i hi0 => ?_
  · simp only [padA, St.le, slotsLe, heapLe, blkLe, rowLe, live, injOn, loLe, nget, nlook, ren, okA, allP, mapA, hget, ABlk.used, notin, List.map_cons, List.map_nil, true_or, or_true, false_or, or_false, true_and, and_true, and_self, AV.int.injEq, AV.bool.injEq, AV.str.injEq, AV.sl.injEq, AV.ro.injEq, AV.agg.injEq, List.cons.injEq, reduceCtorEq, ne_eq, not_false_eq_true, not_true_eq_false]; simp
  simp only [padA]
  (refine ev ?_; (try (with_reducible exact True.intro)))
  refine gsd (fun hd => ?_) (fun hd => ?_)
  · have hi : i < ow.length := by omega
    have e := hsw i hi
    have h01 : us.getD i 0 = 0 ∨ us.getD i 0 = 1 := two _ hi
    have hz : (1 - us.getD i 0 != 1 - us.getD i 0) = false := by simp
    (refine ev ?_; (try (with_reducible exact True.intro)))
    simp only [Int.toNat_natCast, e, hz]
    repeat (((with_reducible refine And.intro ?_ ?_)); (focus (first | omega | (simp only [inR]; omega) | rfl | (simp [notinId, notin]; done) | exact Or.inr rfl | (intro i hi; (repeat' (with_reducible first | apply len_cut | apply len_shift | apply len_app | apply len_copy | intro j)) <;> first | rfl | (exact len_lit _ _ (by simp) rfl _) | (simp; done)))))
    (refine ev ?_; (try (with_reducible exact True.intro)))
    repeat (((with_reducible refine And.intro ?_ ?_)); (focus (first | omega | (simp only [inR]; omega) | rfl | (simp [notinId, notin]; done) | exact Or.inr rfl | (intro i hi; (repeat' (with_reducible first | apply len_cut | apply len_shift | apply len_app | apply len_copy | intro j)) <;> first | rfl | (exact len_lit _ _ (by simp) rfl _) | (simp; done)))))
    refine ⟨i + 1, [0], by omega, by show ow.length - (i + 1) < ow.length - i; omega, ?_⟩
    simp only [padA, St.le, slotsLe, heapLe, blkLe, rowLe, live, injOn, loLe, nget, nlook, ren, okA, allP, mapA, hget, ABlk.used, notin, List.map_cons, List.map_nil, true_or, or_true, false_or, or_false, true_and, and_true, and_self, AV.int.injEq, AV.bool.injEq, AV.str.injEq, AV.sl.injEq, AV.ro.injEq, AV.agg.injEq, List.cons.injEq, reduceCtorEq, ne_eq, not_false_eq_true, not_true_eq_false]; simp
  · (refine ev ?_; (try (with_reducible exact True.intro)))
    repeat (((with_reducible refine And.intro ?_ ?_)); (focus (first | omega | (simp only [inR]; omega) | rfl | (simp [notinId, notin]; done) | exact Or.inr rfl | (intro i hi; (repeat' (with_reducible first | apply len_cut | apply len_shift | apply len_app | apply len_copy | intro j)) <;> first | rfl | (exact len_lit _ _ (by simp) rfl _) | (simp; done)))))
    simp only [hs]
    refine EffC.use a32 ?_ (.inr rfl) ?_
    · ((refine evL ?_; (try (with_reducible exact True.intro))) <;> (repeat' (with_reducible refine And.intro ?_ ?_)) <;> first | trivial | (exact fun _ _ => trivial) | (simp; done) | (exact fun q hq => cut_at0 q (by simpa using hq)) | (exact fun q hq => cut_at0 q (by omega)) | omega)
    (refine ev ?_; (try (with_reducible exact True.intro)))
    repeat (((with_reducible refine And.intro ?_ ?_)); (focus (first | omega | (simp only [inR]; omega) | rfl | (simp [notinId, notin]; done) | exact Or.inr rfl | (intro i hi; (repeat' (with_reducible first | apply len_cut | apply len_shift | apply len_app | apply len_copy | intro j)) <;> first | rfl | (exact len_lit _ _ (by simp) rfl _) | (simp; done)))))
    refine EffC.use d20 ?_ (.inr rfl) ?_
    · ((refine evL ?_; (try (with_reducible exact True.intro))) <;> (repeat' (with_reducible refine And.intro ?_ ?_)) <;> first | trivial | (exact fun _ _ => trivial) | (simp; done) | (exact fun q hq => cut_at0 q (by simpa using hq)) | (exact fun q hq => cut_at0 q (by omega)) | omega)
    (refine ev ?_; (try (with_reducible exact True.intro)))
    repeat (((with_reducible refine And.intro ?_ ?_)); (focus (first | omega | (simp only [inR]; omega) | rfl | (simp [notinId, notin]; done) | exact Or.inr rfl | (intro i hi; (repeat' (with_reducible first | apply len_cut | apply len_shift | apply len_app | apply len_copy | intro j)) <;> first | rfl | (exact len_lit _ _ (by simp) rfl _) | (simp; done)))))
    refine EffC.use a19 ?_ (.inl rfl) ?_
    · ((refine evL ?_; (try (with_reducible exact True.intro))) <;> (repeat' (with_reducible refine And.intro ?_ ?_)) <;> first | trivial | (exact fun _ _ => trivial) | (simp; done) | (exact fun q hq => cut_at0 q (by simpa using hq)) | (exact fun q hq => cut_at0 q (by omega)) | omega)
    (refine ev ?_; (try (with_reducible exact True.intro)))
    ((repeat' (with_reducible refine And.intro ?_ ?_)) <;> first | omega | (simp [notinId]; done) | (exact fun q hq => cut_at0 q (by simpa using hq)) | (exact fun q hq => cut_at0 q (by omega)) | (exact fun _ _ => rfl))
end Go.Proofs.Ythkgnnndlocbbaa
