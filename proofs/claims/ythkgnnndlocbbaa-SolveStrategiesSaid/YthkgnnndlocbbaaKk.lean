/-
  The field's attract: what it returns. No condition.
-/
import Derived.Test.YthkgnnndlocbbaaKj
namespace Go.Proofs.Ythkgnnndlocbbaa
set_option linter.unusedVariables false
set_option linter.unusedSimpArgs false
open Go Go.SH
set_option maxRecDepth 100000
set_option maxHeartbeats 4000000
abbrev field (ow pr : List Int) (su : List (List Int)) : AV := .agg [intRow ow, intRow pr, intRows su, intRows (befs su ow.length)]
abbrev natRow (qs : List Nat) : Nat → List AV := encL (cInt .i64) (0 : Int) (List.map (fun q : Nat => (q : Int)) qs)
theorem k33 (ow pr : List Int) (su : List (List Int)) (i o : Int) : Contract Try.prog 57 [field ow pr su, .int .i64 i, .int .i64 o] (.one (.val (.bool (o == 0)))) := by
  refine ct57 (SH.Sem.of_wpA hm ?_)
  simp only [padA]
  simp only [Try.f57, Option.getD, w_skip, w_reg, w_regd, w_seq, w_cond, w_block, w_loop, w_rf, w_exit, w_ret, f_ok, f_call, f_yield, yK_cons, a_normal, r_normal, r_ret, r_exit, rg_cons, putL, frz, beq_self_eq_true, Nat.reduceBEq, updG_same, f_bad, cK_nil, cK_cons, v_nil, v_cons, gK_tt, gK_ff, gK_tf, gK_ft, dK_go, d_nil, d_cons, gD_tt, gD_ff, gD_tf, gD_ft, eC_one, eC_tup, eC_own, eE_ok, eE_bad, eD, eff, eBin, eEq, eUn, eConv, eLen, eMin, eMax, eField, eFieldAddr, eIndex, eIndexAddr, eSlice, eLoad, eStore, eAlloc, eBox, eBuild, eBuildSlice, eMake, eAppend, eCopy, eMakeMap, eMapUpdate, eLookup, lookV, optN, eNil, ePick, eExtract, E.pure, Eff.only, Eff.notB, evalA, AV.ofV, AV.ofC, sget, sput, putA, applyU, hset, hget, hlen, alen, takeA, dropA, spliceA, mapA, allA, lget, oget, pget, tget, cellsA, AV.one, AV.goneB, partA, partC, TK.isAgg, nilish, natA, natC, loN, hiN, optC, roCut, loadP, loadC, aggOr, fillA, fillC, allPos, partsC, partsCells, partsAll, kills, killIds, liveAll, gnd, srcOf, inBlk, mapO, mapP, Go.SH.IntKind.uns, TK.flat, eqSc, eqScC, eqFs, eqFsC, seqK, blockK, condK, l_exit, l_ret, retK, retS, rsV, rsC, allT, padA, mapT, glook, bsel, gsplit_true, gsplit_false, resOf, resIds, resAll, nodupN, notin, like, like1, likeL, likeAll, AV.np, AV.gb, idsR, idsM, retI, retR, reify, AR.v, AR.u, AR.nv, nvec, impV, impU, isAlloc, callOf, countA, upIds, Option.map_none, Option.map_some, Option.isSome_some, Option.isSome_none, List.map_cons, List.map_nil, true_and, and_true, List.cons_append, List.nil_append, List.append_nil, List.length_cons, List.length_nil, List.nodup_nil, List.not_mem_nil, not_false_eq_true, ne_eq, reduceCtorEq, Bool.and_true, Bool.true_and, Bool.not_true, Bool.not_false, if_true, if_false, reduceIte, en_byte, en_byte', en_int, en_int', en_bool, en_bool', en_str, en_str', en_row, en_row', sh_at, sh_at', and_assoc, Nat.zero_add, Nat.add_zero, Nat.reduceAdd, appF_zero, Option.isNone_none, Option.isNone_some, en_byteL, en_intL, en_rowL, Int.reduceToNat, Nat.mul_one, Nat.one_mul, Nat.zero_mul, Nat.reduceMul, Nat.reduceSub, Nat.sub_zero, bne_self_eq_false, ti1, ti2, ti3, ti4, ti5, ti6, ti7, ti8, ti9, ti10, ti11, ti12, ti13, ti14, ti15, ti16, ti17, ti18, ti19, ti21, ti22, ti23, ti24, ti25, ti26, ti27, ti28, ti30, ti31, ti33, ti34, ti35, ti36, ti37, ti38, ti39, ti40, ti41, ti42, ti43, ti45, ti46, ti47, ti48, ti49, ti50, ti51, ti52, ti53, ti54, ti55, ti57, ti58, ti59, ti60, ti61, ti62, ti63, ti64, ti65, ti66, ti67, ti68, ti69, ti70, ti71, ti72, ti73, ti74, ti75, ti76, ti77, ti78, ti79, ti80, ti81, ti82, ti83, ti85, ti86, ti87, ti88, ti89, ti90, ti91, ti92, ti93, ti94, ti95, ti96, ti97, ti98, ti99, ti100, ti101, ti102, ti103, ti104, ti105, ti106, ti107, ti108, ti109]
  simp [notinId]
theorem k34 (ow pr : List Int) (su : List (List Int)) (i o : Int) (hi : 0 ≤ i ∧ i < su.length) : Contract Try.prog 58 [field ow pr su, .int .i64 i, .int .i64 o] (.one (.val (.bool (decide (o < ((su.getD i.toNat []).length : Int)))))) := by
  refine ct58 (SH.Sem.of_wpA hm ?_)
  simp only [padA]
  simp only [Try.f58, Option.getD, w_skip, w_reg, w_regd, w_seq, w_cond, w_block, w_loop, w_rf, w_exit, w_ret, f_ok, f_call, f_yield, yK_cons, a_normal, r_normal, r_ret, r_exit, rg_cons, putL, frz, beq_self_eq_true, Nat.reduceBEq, updG_same, f_bad, cK_nil, cK_cons, v_nil, v_cons, gK_tt, gK_ff, gK_tf, gK_ft, dK_go, d_nil, d_cons, gD_tt, gD_ff, gD_tf, gD_ft, eC_one, eC_tup, eC_own, eE_ok, eE_bad, eD, eff, eBin, eEq, eUn, eConv, eLen, eMin, eMax, eField, eFieldAddr, eIndex, eIndexAddr, eSlice, eLoad, eStore, eAlloc, eBox, eBuild, eBuildSlice, eMake, eAppend, eCopy, eMakeMap, eMapUpdate, eLookup, lookV, optN, eNil, ePick, eExtract, E.pure, Eff.only, Eff.notB, evalA, AV.ofV, AV.ofC, sget, sput, putA, applyU, hset, hget, hlen, alen, takeA, dropA, spliceA, mapA, allA, lget, oget, pget, tget, cellsA, AV.one, AV.goneB, partA, partC, TK.isAgg, nilish, natA, natC, loN, hiN, optC, roCut, loadP, loadC, aggOr, fillA, fillC, allPos, partsC, partsCells, partsAll, kills, killIds, liveAll, gnd, srcOf, inBlk, mapO, mapP, Go.SH.IntKind.uns, TK.flat, eqSc, eqScC, eqFs, eqFsC, seqK, blockK, condK, l_exit, l_ret, retK, retS, rsV, rsC, allT, padA, mapT, glook, bsel, gsplit_true, gsplit_false, resOf, resIds, resAll, nodupN, notin, like, like1, likeL, likeAll, AV.np, AV.gb, idsR, idsM, retI, retR, reify, AR.v, AR.u, AR.nv, nvec, impV, impU, isAlloc, callOf, countA, upIds, Option.map_none, Option.map_some, Option.isSome_some, Option.isSome_none, List.map_cons, List.map_nil, true_and, and_true, List.cons_append, List.nil_append, List.append_nil, List.length_cons, List.length_nil, List.nodup_nil, List.not_mem_nil, not_false_eq_true, ne_eq, reduceCtorEq, Bool.and_true, Bool.true_and, Bool.not_true, Bool.not_false, if_true, if_false, reduceIte, en_byte, en_byte', en_int, en_int', en_bool, en_bool', en_str, en_str', en_row, en_row', sh_at, sh_at', and_assoc, Nat.zero_add, Nat.add_zero, Nat.reduceAdd, appF_zero, Option.isNone_none, Option.isNone_some, en_byteL, en_intL, en_rowL, Int.reduceToNat, Nat.mul_one, Nat.one_mul, Nat.zero_mul, Nat.reduceMul, Nat.reduceSub, Nat.sub_zero, bne_self_eq_false, ti1, ti2, ti3, ti4, ti5, ti6, ti7, ti8, ti9, ti10, ti11, ti12, ti13, ti14, ti15, ti16, ti17, ti18, ti19, ti21, ti22, ti23, ti24, ti25, ti26, ti27, ti28, ti30, ti31, ti33, ti34, ti35, ti36, ti37, ti38, ti39, ti40, ti41, ti42, ti43, ti45, ti46, ti47, ti48, ti49, ti50, ti51, ti52, ti53, ti54, ti55, ti57, ti58, ti59, ti60, ti61, ti62, ti63, ti64, ti65, ti66, ti67, ti68, ti69, ti70, ti71, ti72, ti73, ti74, ti75, ti76, ti77, ti78, ti79, ti80, ti81, ti82, ti83, ti85, ti86, ti87, ti88, ti89, ti90, ti91, ti92, ti93, ti94, ti95, ti96, ti97, ti98, ti99, ti100, ti101, ti102, ti103, ti104, ti105, ti106, ti107, ti108, ti109]
  repeat (((with_reducible refine And.intro ?_ ?_)); (focus (first | omega | (simp only [inR]; omega) | rfl | (simp [notinId, notin]; done) | exact Or.inr rfl | (intro i hi; (repeat' (with_reducible first | apply len_cut | apply len_shift | apply len_app | apply len_copy | intro j)) <;> first | rfl | (exact len_lit _ _ (by simp) rfl _) | (simp; done)))))
  simp [notinId]
section
variable {n i : Nat} {f g : Nat → Int}
theorem enc_upd1 (hi : i < n) (x : Int) (hx : x = f i) : updF (encL (cInt .i64) 0 (partL n f g i)) i [.int .i64 x] = encL (cInt .i64) 0 (partL n f g (i + 1)) := by
  rw [← partL_set hi x hx]
  exact updF_enc x (by rw [partL_length]; exact hi)
theorem enc_upd2 (hi : i < n) (y x : Int) (hx : x = f i) : updF (updF (encL (cInt .i64) 0 (partL n f g i)) i [.int .i64 y]) (Int.toNat (i : Int)) (spliceA (updF (encL (cInt .i64) 0 (partL n f g i)) i [.int .i64 y] (Int.toNat (i : Int))) 0 [.int .i64 x]) = encL (cInt .i64) 0 (partL n f g (i + 1)) := by
  rw [← enc_upd1 hi x hx, Int.toNat_natCast]
  funext q
  simp only [updF, if_true, spliceA]
  split <;> rfl
end
theorem nat_push (qs : List Nat) (x q : Nat) (hq : q < qs.length + 1) : appF qs.length (cutF qs.length 0 qs.length (natRow qs)) (cutF 1 0 1 (litF [[.int .i64 x]] [.int .i64 0])) q = natRow (qs ++ [x]) q := by
  show _ = encL (cInt .i64) (0 : Int) (List.map (fun q : Nat => (q : Int)) (qs ++ [x])) q
  rw [List.map_append]
  exact app_enc (n := qs.length) (m := 1) (by simp) (fun j h => cut_at0 j h) (fun j h => lit1 (x : Int) (by simp [cInt]) j h) q hq
theorem nat_push' (all : List Nat) (off x q : Nat) (hq : q < all.length - off + 1) : appF (all.length - off) (cutF all.length off (all.length - off) (natRow all)) (cutF 1 0 1 (litF [[.int .i64 x]] [.int .i64 0])) q = natRow (all.drop off ++ [x]) q := by
  show _ = encL (cInt .i64) (0 : Int) (List.map (fun q : Nat => (q : Int)) (all.drop off ++ [x])) q
  rw [List.map_append]
  refine app_enc (n := all.length - off) (m := 1) (by simp) (fun j h => ?_) (fun j h => lit1 (x : Int) (by simp [cInt]) j h) q hq
  rw [cut_at j h, List.map_drop, encL_drop]
theorem natRow_at (all : List Nat) (q : Nat) : natRow all q = [.int .i64 (all.getD q 0 : Nat)] := by
  show cInt .i64 _ = _
  rw [List.getD_eq_getElem?_getD, List.getD_eq_getElem?_getD, List.getElem?_map]
  cases all[q]? <;> rfl
theorem drop_next {α : Type} (l : List α) (d : α) (i : Nat) (h : i < l.length) : l.drop i = l.getD i d :: l.drop (i + 1) := by
  rw [List.drop_eq_getElem_cons h, List.getD_eq_getElem?_getD, List.getElem?_eq_getElem h]; rfl
theorem e36 (b0 b1 b2 b3 : ABlk) (all : List Nat) (off : Nat) (hal : all.length < 2 ^ 40) {R : AV → List ABlk → Prop} (h1 : ∀ (x : Nat) (ok : Bool) (off' : Nat), (ok = false ∧ all.length ≤ off ∧ off' = off) ∨ (ok = true ∧ off < all.length ∧ off' = off + 1 ∧ x = all.getD off 0) → R (.tup [.int .i64 x, .bool ok]) [b0, b1, b2, b3, .box [.sl 5 off' (all.length - off')], .vec 1 all.length (natRow all)]) :
    EffC Try.prog 60 [.ptr 4 0 0] [b0, b1, b2, b3, .box [.sl 5 off (all.length - off)], .vec 1 all.length (natRow all)] R := by
  refine in60 (SH.Sem.of_wpA hm ?_)
  simp only [padA]
  simp only [Try.f60, Option.getD, w_skip, w_reg, w_regd, w_seq, w_cond, w_block, w_loop, w_rf, w_exit, w_ret, f_ok, f_call, f_yield, yK_cons, a_normal, r_normal, r_ret, r_exit, rg_cons, putL, frz, beq_self_eq_true, Nat.reduceBEq, updG_same, f_bad, cK_nil, cK_cons, v_nil, v_cons, gK_tt, gK_ff, gK_tf, gK_ft, dK_go, d_nil, d_cons, gD_tt, gD_ff, gD_tf, gD_ft, eC_one, eC_tup, eC_own, eE_ok, eE_bad, eD, eff, eBin, eEq, eUn, eConv, eLen, eMin, eMax, eField, eFieldAddr, eIndex, eIndexAddr, eSlice, eLoad, eStore, eAlloc, eBox, eBuild, eBuildSlice, eMake, eAppend, eCopy, eMakeMap, eMapUpdate, eLookup, lookV, optN, eNil, ePick, eExtract, E.pure, Eff.only, Eff.notB, evalA, AV.ofV, AV.ofC, sget, sput, putA, applyU, hset, hget, hlen, alen, takeA, dropA, spliceA, mapA, allA, lget, oget, pget, tget, cellsA, AV.one, AV.goneB, partA, partC, TK.isAgg, nilish, natA, natC, loN, hiN, optC, roCut, loadP, loadC, aggOr, fillA, fillC, allPos, partsC, partsCells, partsAll, kills, killIds, liveAll, gnd, srcOf, inBlk, mapO, mapP, Go.SH.IntKind.uns, TK.flat, eqSc, eqScC, eqFs, eqFsC, seqK, blockK, condK, l_exit, l_ret, retK, retS, rsV, rsC, allT, padA, mapT, glook, bsel, gsplit_true, gsplit_false, resOf, resIds, resAll, nodupN, notin, like, like1, likeL, likeAll, AV.np, AV.gb, idsR, idsM, retI, retR, reify, AR.v, AR.u, AR.nv, nvec, impV, impU, isAlloc, callOf, countA, upIds, Option.map_none, Option.map_some, Option.isSome_some, Option.isSome_none, List.map_cons, List.map_nil, true_and, and_true, List.cons_append, List.nil_append, List.append_nil, List.length_cons, List.length_nil, List.nodup_nil, List.not_mem_nil, not_false_eq_true, ne_eq, reduceCtorEq, Bool.and_true, Bool.true_and, Bool.not_true, Bool.not_false, if_true, if_false, reduceIte, en_byte, en_byte', en_int, en_int', en_bool, en_bool', en_str, en_str', en_row, en_row', sh_at, sh_at', and_assoc, Nat.zero_add, Nat.add_zero, Nat.reduceAdd, appF_zero, Option.isNone_none, Option.isNone_some, en_byteL, en_intL, en_rowL, Int.reduceToNat, Nat.mul_one, Nat.one_mul, Nat.zero_mul, Nat.reduceMul, Nat.reduceSub, Nat.sub_zero, bne_self_eq_false, ti1, ti2, ti3, ti4, ti5, ti6, ti7, ti8, ti9, ti10, ti11, ti12, ti13, ti14, ti15, ti16, ti17, ti18, ti19, ti21, ti22, ti23, ti24, ti25, ti26, ti27, ti28, ti30, ti31, ti33, ti34, ti35, ti36, ti37, ti38, ti39, ti40, ti41, ti42, ti43, ti45, ti46, ti47, ti48, ti49, ti50, ti51, ti52, ti53, ti54, ti55, ti57, ti58, ti59, ti60, ti61, ti62, ti63, ti64, ti65, ti66, ti67, ti68, ti69, ti70, ti71, ti72, ti73, ti74, ti75, ti76, ti77, ti78, ti79, ti80, ti81, ti82, ti83, ti85, ti86, ti87, ti88, ti89, ti90, ti91, ti92, ti93, ti94, ti95, ti96, ti97, ti98, ti99, ti100, ti101, ti102, ti103, ti104, ti105, ti106, ti107, ti108, ti109]
  repeat (((with_reducible refine And.intro ?_ ?_)); (focus (first | omega | (simp only [inR]; omega) | rfl | (simp [notinId, notin]; done) | exact Or.inr rfl | (intro i hi; (repeat' (with_reducible first | apply len_cut | apply len_shift | apply len_app | apply len_copy | intro j)) <;> first | rfl | (exact len_lit _ _ (by simp) rfl _) | (simp; done)))))
  refine gs (fun h => ?_) (fun h => ?_)
  · (refine ev ?_; (try (with_reducible exact True.intro)))
    repeat (((with_reducible refine And.intro ?_ ?_)); (focus (first | omega | (simp only [inR]; omega) | rfl | (simp [notinId, notin]; done) | exact Or.inr rfl | (intro i hi; (repeat' (with_reducible first | apply len_cut | apply len_shift | apply len_app | apply len_copy | intro j)) <;> first | rfl | (exact len_lit _ _ (by simp) rfl _) | (simp; done)))))
    exact h1 0 false off (.inl ⟨rfl, by have := eq_of_beq h; omega, rfl⟩)
  · have hlt : off < all.length := by simp at h; omega
    (refine ev ?_; (try (with_reducible exact True.intro)))
    repeat (((with_reducible refine And.intro ?_ ?_)); (focus (first | omega | (simp only [inR]; omega) | rfl | (simp [notinId, notin]; done) | exact Or.inr rfl | (intro i hi; (repeat' (with_reducible first | apply len_cut | apply len_shift | apply len_app | apply len_copy | intro j)) <;> first | rfl | (exact len_lit _ _ (by simp) rfl _) | (simp; done)))))
    simp only [natRow_at, Option.getD, w_skip, w_reg, w_regd, w_seq, w_cond, w_block, w_loop, w_rf, w_exit, w_ret, f_ok, f_call, f_yield, yK_cons, a_normal, r_normal, r_ret, r_exit, rg_cons, putL, frz, beq_self_eq_true, Nat.reduceBEq, updG_same, f_bad, cK_nil, cK_cons, v_nil, v_cons, gK_tt, gK_ff, gK_tf, gK_ft, dK_go, d_nil, d_cons, gD_tt, gD_ff, gD_tf, gD_ft, eC_one, eC_tup, eC_own, eE_ok, eE_bad, eD, eff, eBin, eEq, eUn, eConv, eLen, eMin, eMax, eField, eFieldAddr, eIndex, eIndexAddr, eSlice, eLoad, eStore, eAlloc, eBox, eBuild, eBuildSlice, eMake, eAppend, eCopy, eMakeMap, eMapUpdate, eLookup, lookV, optN, eNil, ePick, eExtract, E.pure, Eff.only, Eff.notB, evalA, AV.ofV, AV.ofC, sget, sput, putA, applyU, hset, hget, hlen, alen, takeA, dropA, spliceA, mapA, allA, lget, oget, pget, tget, cellsA, AV.one, AV.goneB, partA, partC, TK.isAgg, nilish, natA, natC, loN, hiN, optC, roCut, loadP, loadC, aggOr, fillA, fillC, allPos, partsC, partsCells, partsAll, kills, killIds, liveAll, gnd, srcOf, inBlk, mapO, mapP, Go.SH.IntKind.uns, TK.flat, eqSc, eqScC, eqFs, eqFsC, seqK, blockK, condK, l_exit, l_ret, retK, retS, rsV, rsC, allT, padA, mapT, glook, bsel, gsplit_true, gsplit_false, resOf, resIds, resAll, nodupN, notin, like, like1, likeL, likeAll, AV.np, AV.gb, idsR, idsM, retI, retR, reify, AR.v, AR.u, AR.nv, nvec, impV, impU, isAlloc, callOf, countA, upIds, Option.map_none, Option.map_some, Option.isSome_some, Option.isSome_none, List.map_cons, List.map_nil, true_and, and_true, List.cons_append, List.nil_append, List.append_nil, List.length_cons, List.length_nil, List.nodup_nil, List.not_mem_nil, not_false_eq_true, ne_eq, reduceCtorEq, Bool.and_true, Bool.true_and, Bool.not_true, Bool.not_false, if_true, if_false, reduceIte, en_byte, en_byte', en_int, en_int', en_bool, en_bool', en_str, en_str', en_row, en_row', sh_at, sh_at', and_assoc, Nat.zero_add, Nat.add_zero, Nat.reduceAdd, appF_zero, Option.isNone_none, Option.isNone_some, en_byteL, en_intL, en_rowL, Int.reduceToNat, Nat.mul_one, Nat.one_mul, Nat.zero_mul, Nat.reduceMul, Nat.reduceSub, Nat.sub_zero, bne_self_eq_false, ti1, ti2, ti3, ti4, ti5, ti6, ti7, ti8, ti9, ti10, ti11, ti12, ti13, ti14, ti15, ti16, ti17, ti18, ti19, ti21, ti22, ti23, ti24, ti25, ti26, ti27, ti28, ti30, ti31, ti33, ti34, ti35, ti36, ti37, ti38, ti39, ti40, ti41, ti42, ti43, ti45, ti46, ti47, ti48, ti49, ti50, ti51, ti52, ti53, ti54, ti55, ti57, ti58, ti59, ti60, ti61, ti62, ti63, ti64, ti65, ti66, ti67, ti68, ti69, ti70, ti71, ti72, ti73, ti74, ti75, ti76, ti77, ti78, ti79, ti80, ti81, ti82, ti83, ti85, ti86, ti87, ti88, ti89, ti90, ti91, ti92, ti93, ti94, ti95, ti96, ti97, ti98, ti99, ti100, ti101, ti102, ti103, ti104, ti105, ti106, ti107, ti108, ti109]
    repeat (((with_reducible refine And.intro ?_ ?_)); (focus (first | omega | (simp only [inR]; omega) | rfl | (simp [notinId, notin]; done) | exact Or.inr rfl | (intro i hi; (repeat' (with_reducible first | apply len_cut | apply len_shift | apply len_app | apply len_copy | intro j)) <;> first | rfl | (exact len_lit _ _ (by simp) rfl _) | (simp; done)))))
    exact h1 _ true (off + 1) (.inr ⟨rfl, hlt, rfl, rfl⟩)
structure QT where
  ds : List Nat
  x : Nat
  ok : Bool
  all : List Nat
  off : Nat
  mv : List Int
  os : List Int
theorem k26 (ow pr : List Int) (su : List (List Int)) (pl : Int) (s : List Bool) (hr : rightB ow pr su pl s = true) (hsu1 : ∀ r ∈ su, r.length ≤ 2 ^ 20) :
    Contract Try.prog 38 [field ow pr su, .int .i64 pl, boolRow s] (.one (.vec 1 s.length (encL (cInt .i64) 0 (rounds ow su pl s s.length).2))) := by
  refine ct38 (SH.Sem.of_wpA hm ?_)
  obtain ⟨hv, hpl, htl⟩ := rightB_spec hr
  obtain ⟨v1, v2, v3, v4⟩ := validB_spec hv
  have hss : ∀ p, p < s.length → ∀ t ∈ su.getD p [], 0 ≤ t := fun p hp t ht => ((v4 p (by omega)).2.2 t ht).1
  have hsl : su.length = s.length := by omega
  simp only [padA]
  simp only [Try.f38, Option.getD, w_skip, w_reg, w_regd, w_seq, w_cond, w_block, w_loop, w_rf, w_exit, w_ret, f_ok, f_call, f_yield, yK_cons, a_normal, r_normal, r_ret, r_exit, rg_cons, putL, frz, beq_self_eq_true, Nat.reduceBEq, updG_same, f_bad, cK_nil, cK_cons, v_nil, v_cons, gK_tt, gK_ff, gK_tf, gK_ft, dK_go, d_nil, d_cons, gD_tt, gD_ff, gD_tf, gD_ft, eC_one, eC_tup, eC_own, eE_ok, eE_bad, eD, eff, eBin, eEq, eUn, eConv, eLen, eMin, eMax, eField, eFieldAddr, eIndex, eIndexAddr, eSlice, eLoad, eStore, eAlloc, eBox, eBuild, eBuildSlice, eMake, eAppend, eCopy, eMakeMap, eMapUpdate, eLookup, lookV, optN, eNil, ePick, eExtract, E.pure, Eff.only, Eff.notB, evalA, AV.ofV, AV.ofC, sget, sput, putA, applyU, hset, hget, hlen, alen, takeA, dropA, spliceA, mapA, allA, lget, oget, pget, tget, cellsA, AV.one, AV.goneB, partA, partC, TK.isAgg, nilish, natA, natC, loN, hiN, optC, roCut, loadP, loadC, aggOr, fillA, fillC, allPos, partsC, partsCells, partsAll, kills, killIds, liveAll, gnd, srcOf, inBlk, mapO, mapP, Go.SH.IntKind.uns, TK.flat, eqSc, eqScC, eqFs, eqFsC, seqK, blockK, condK, l_exit, l_ret, retK, retS, rsV, rsC, allT, padA, mapT, glook, bsel, gsplit_true, gsplit_false, resOf, resIds, resAll, nodupN, notin, like, like1, likeL, likeAll, AV.np, AV.gb, idsR, idsM, retI, retR, reify, AR.v, AR.u, AR.nv, nvec, impV, impU, isAlloc, callOf, countA, upIds, Option.map_none, Option.map_some, Option.isSome_some, Option.isSome_none, List.map_cons, List.map_nil, true_and, and_true, List.cons_append, List.nil_append, List.append_nil, List.length_cons, List.length_nil, List.nodup_nil, List.not_mem_nil, not_false_eq_true, ne_eq, reduceCtorEq, Bool.and_true, Bool.true_and, Bool.not_true, Bool.not_false, if_true, if_false, reduceIte, en_byte, en_byte', en_int, en_int', en_bool, en_bool', en_str, en_str', en_row, en_row', sh_at, sh_at', and_assoc, Nat.zero_add, Nat.add_zero, Nat.reduceAdd, appF_zero, Option.isNone_none, Option.isNone_some, en_byteL, en_intL, en_rowL, Int.reduceToNat, Nat.mul_one, Nat.one_mul, Nat.zero_mul, Nat.reduceMul, Nat.reduceSub, Nat.sub_zero, bne_self_eq_false, ti1, ti2, ti3, ti4, ti5, ti6, ti7, ti8, ti9, ti10, ti11, ti12, ti13, ti14, ti15, ti16, ti17, ti18, ti19, ti21, ti22, ti23, ti24, ti25, ti26, ti27, ti28, ti30, ti31, ti33, ti34, ti35, ti36, ti37, ti38, ti39, ti40, ti41, ti42, ti43, ti45, ti46, ti47, ti48, ti49, ti50, ti51, ti52, ti53, ti54, ti55, ti57, ti58, ti59, ti60, ti61, ti62, ti63, ti64, ti65, ti66, ti67, ti68, ti69, ti70, ti71, ti72, ti73, ti74, ti75, ti76, ti77, ti78, ti79, ti80, ti81, ti82, ti83, ti85, ti86, ti87, ti88, ti89, ti90, ti91, ti92, ti93, ti94, ti95, ti96, ti97, ti98, ti99, ti100, ti101, ti102, ti103, ti104, ti105, ti106, ti107, ti108, ti109]
  obtain ⟨ra, rb, er, er0, er1⟩ : ∃ ra rb : Nat, spliceA [.fn (.func 57) [], .fn (.func 57) []] pl.toNat [.fn (.func 58) []] = [.fn (.func ra) [], .fn (.func rb) []] ∧ (pl = 0 → ra = 58 ∧ rb = 57) ∧ (pl = 1 → ra = 57 ∧ rb = 58) := by
    rcases hpl with rfl | rfl
    · exact ⟨58, 57, rfl, by simp, by simp⟩
    · exact ⟨57, 58, rfl, by simp, by simp⟩
  simp only [er]
  repeat (((with_reducible refine And.intro ?_ ?_)); (focus (first | omega | (simp only [inR]; omega) | rfl | (simp [notinId, notin]; done) | exact Or.inr rfl | (intro i hi; (repeat' (with_reducible first | apply len_cut | apply len_shift | apply len_app | apply len_copy | intro j)) <;> first | rfl | (exact len_lit _ _ (by simp) rfl _) | (simp; done)))))
  simp only [Int.toNat_natCast]
  refine SH.Sem.adoptB 5 0 1 (natRow []) (by decide) rfl rfl ?_
  simp only [hset, hlen, sput]
  refine SH.Sem.loop hm (fun i : Nat => ⟨padA [.undef, .undef, .undef, .ptr 0 0 0, .undef, .undef, .undef, .ptr 1 0 0, .sl 2 0 s.length, .sl 3 0 s.length, .ptr 4 0 0, .undef, .undef, .undef, .undef, .undef, .undef, .undef, .undef, .undef, .undef, .undef, .undef, .undef, .undef, .undef, boolRow s, .int .i64 s.length, .int .i64 i] 112, [.box [intRow ow, intRow pr, intRows su, intRows (befs su ow.length)], .box [.fn (.func ra) [], .fn (.func rb) []], .vec 1 s.length (encL (cInt .i64) 0 (partL s.length (fun i => if s.getD i false then 0 else -1) (fun _ => 0) i)), .vec 1 s.length (encL (cInt .i64) 0 (partL s.length (fun i => ((su.getD i []).length : Int)) (fun _ => 0) i)), .box [.sl 5 0 ((List.range i).filter fun i => s.getD i false).length], .vec 1 ((List.range i).filter fun i => s.getD i false).length (natRow ((List.range i).filter fun i => s.getD i false))]⟩) (fun i => i ≤ s.length) (fun i => s.length - i) [0, 1, 2, 4, 5, 6] 0 (by omega) ?_ fun i hi0 => ?_
  · have e0 : ∀ (f : Nat → Int) (q : Nat), q < s.length → constF [AV.int IntKind.i64 0] q = encL (cInt .i64) 0 (partL s.length f (fun _ => 0) 0) q := by
      intro f q hq
      rw [encL, partL_getD q hq]; rfl
    simp only [padA, St.le, slotsLe, heapLe, blkLe, rowLe, live, injOn, loLe, nget, nlook, ren, okA, allP, mapA, hget, ABlk.used, notin, List.map_cons, List.map_nil, true_or, or_true, false_or, or_false, true_and, and_true, and_self, AV.int.injEq, AV.bool.injEq, AV.str.injEq, AV.sl.injEq, AV.ro.injEq, AV.agg.injEq, List.cons.injEq, reduceCtorEq, ne_eq, not_false_eq_true, not_true_eq_false]
    simp only [List.range_zero, List.filter_nil, List.length_nil, true_and, and_true]
    exact ⟨rfl, ⟨fun q hq => e0 _ q hq, fun q hq => e0 _ q hq, by simp⟩, by simp⟩
  simp only [padA]
  (refine ev ?_; (try (with_reducible exact True.intro)))
  refine gsd (fun hd => ?_) (fun hd => ?_)
  · have hi : i < s.length := by omega
    (refine ev ?_; (try (with_reducible exact True.intro)))
    simp only [Int.toNat_natCast]
    repeat (((with_reducible refine And.intro ?_ ?_)); (focus (first | omega | (simp only [inR]; omega) | rfl | (simp [notinId, notin]; done) | exact Or.inr rfl | (intro i hi; (repeat' (with_reducible first | apply len_cut | apply len_shift | apply len_app | apply len_copy | intro j)) <;> first | rfl | (exact len_lit _ _ (by simp) rfl _) | (simp; done)))))
    have hfl : (List.range (i + 1)).filter (fun i => s.getD i false) = (List.range i).filter (fun i => s.getD i false) ++ if s.getD i false then [i] else [] := by
      rw [List.range_succ, List.filter_append, List.filter_cons]; simp
    have hfl2 := List.length_filter_le (fun i => s.getD i false) (List.range i)
    rw [List.length_range] at hfl2
    refine gs (fun hb => ?_) (fun hb => ?_)
    · (refine ev ?_; (try (with_reducible exact True.intro)))
      repeat (((with_reducible refine And.intro ?_ ?_)); (focus (first | omega | (simp only [inR]; omega) | rfl | (simp [notinId, notin]; done) | exact Or.inr rfl | (intro i hi; (repeat' (with_reducible first | apply len_cut | apply len_shift | apply len_app | apply len_copy | intro j)) <;> first | rfl | (exact len_lit _ _ (by simp) rfl _) | (simp; done)))))
      refine in59 (SH.Sem.of_wpA hm ?_)
      simp only [padA]
      simp only [Try.f59, Option.getD, w_skip, w_reg, w_regd, w_seq, w_cond, w_block, w_loop, w_rf, w_exit, w_ret, f_ok, f_call, f_yield, yK_cons, a_normal, r_normal, r_ret, r_exit, rg_cons, putL, frz, beq_self_eq_true, Nat.reduceBEq, updG_same, f_bad, cK_nil, cK_cons, v_nil, v_cons, gK_tt, gK_ff, gK_tf, gK_ft, dK_go, d_nil, d_cons, gD_tt, gD_ff, gD_tf, gD_ft, eC_one, eC_tup, eC_own, eE_ok, eE_bad, eD, eff, eBin, eEq, eUn, eConv, eLen, eMin, eMax, eField, eFieldAddr, eIndex, eIndexAddr, eSlice, eLoad, eStore, eAlloc, eBox, eBuild, eBuildSlice, eMake, eAppend, eCopy, eMakeMap, eMapUpdate, eLookup, lookV, optN, eNil, ePick, eExtract, E.pure, Eff.only, Eff.notB, evalA, AV.ofV, AV.ofC, sget, sput, putA, applyU, hset, hget, hlen, alen, takeA, dropA, spliceA, mapA, allA, lget, oget, pget, tget, cellsA, AV.one, AV.goneB, partA, partC, TK.isAgg, nilish, natA, natC, loN, hiN, optC, roCut, loadP, loadC, aggOr, fillA, fillC, allPos, partsC, partsCells, partsAll, kills, killIds, liveAll, gnd, srcOf, inBlk, mapO, mapP, Go.SH.IntKind.uns, TK.flat, eqSc, eqScC, eqFs, eqFsC, seqK, blockK, condK, l_exit, l_ret, retK, retS, rsV, rsC, allT, padA, mapT, glook, bsel, gsplit_true, gsplit_false, resOf, resIds, resAll, nodupN, notin, like, like1, likeL, likeAll, AV.np, AV.gb, idsR, idsM, retI, retR, reify, AR.v, AR.u, AR.nv, nvec, impV, impU, isAlloc, callOf, countA, upIds, Option.map_none, Option.map_some, Option.isSome_some, Option.isSome_none, List.map_cons, List.map_nil, true_and, and_true, List.cons_append, List.nil_append, List.append_nil, List.length_cons, List.length_nil, List.nodup_nil, List.not_mem_nil, not_false_eq_true, ne_eq, reduceCtorEq, Bool.and_true, Bool.true_and, Bool.not_true, Bool.not_false, if_true, if_false, reduceIte, en_byte, en_byte', en_int, en_int', en_bool, en_bool', en_str, en_str', en_row, en_row', sh_at, sh_at', and_assoc, Nat.zero_add, Nat.add_zero, Nat.reduceAdd, appF_zero, Option.isNone_none, Option.isNone_some, en_byteL, en_intL, en_rowL, Int.reduceToNat, Nat.mul_one, Nat.one_mul, Nat.zero_mul, Nat.reduceMul, Nat.reduceSub, Nat.sub_zero, bne_self_eq_false, ti1, ti2, ti3, ti4, ti5, ti6, ti7, ti8, ti9, ti10, ti11, ti12, ti13, ti14, ti15, ti16, ti17, ti18, ti19, ti21, ti22, ti23, ti24, ti25, ti26, ti27, ti28, ti30, ti31, ti33, ti34, ti35, ti36, ti37, ti38, ti39, ti40, ti41, ti42, ti43, ti45, ti46, ti47, ti48, ti49, ti50, ti51, ti52, ti53, ti54, ti55, ti57, ti58, ti59, ti60, ti61, ti62, ti63, ti64, ti65, ti66, ti67, ti68, ti69, ti70, ti71, ti72, ti73, ti74, ti75, ti76, ti77, ti78, ti79, ti80, ti81, ti82, ti83, ti85, ti86, ti87, ti88, ti89, ti90, ti91, ti92, ti93, ti94, ti95, ti96, ti97, ti98, ti99, ti100, ti101, ti102, ti103, ti104, ti105, ti106, ti107, ti108, ti109]
      repeat (((with_reducible refine And.intro ?_ ?_)); (focus (first | omega | (simp only [inR]; omega) | rfl | (simp [notinId, notin]; done) | exact Or.inr rfl | (intro i hi; (repeat' (with_reducible first | apply len_cut | apply len_shift | apply len_app | apply len_copy | intro j)) <;> first | rfl | (exact len_lit _ _ (by simp) rfl _) | (simp; done)))))
      refine ⟨i + 1, [0, 1, 2, 3, 4, 7], by omega, by show s.length - (i + 1) < s.length - i; omega, ?_⟩
      have e1 := enc_upd2 (f := fun i => if s.getD i false then (0 : Int) else -1) (g := fun _ => 0) hi (-1) 0 (by simp only [hb]; rfl)
      have e2 := enc_upd1 (f := fun i => ((su.getD i []).length : Int)) (g := fun _ => 0) hi _ rfl
      rw [hb, if_pos rfl] at hfl
      simp only [padA, St.le, slotsLe, heapLe, blkLe, rowLe, live, injOn, loLe, nget, nlook, ren, okA, allP, mapA, hget, ABlk.used, notin, List.map_cons, List.map_nil, true_or, or_true, false_or, or_false, true_and, and_true, and_self, AV.int.injEq, AV.bool.injEq, AV.str.injEq, AV.sl.injEq, AV.ro.injEq, AV.agg.injEq, List.cons.injEq, reduceCtorEq, ne_eq, not_false_eq_true, not_true_eq_false, hfl, e1, e2, List.length_append, List.length_cons, List.length_nil, true_and, and_true, Nat.zero_add]
      exact ⟨by omega, ⟨by simp, by simp, fun q hq => nat_push _ i q hq⟩, by simp⟩
    · (refine ev ?_; (try (with_reducible exact True.intro)))
      repeat (((with_reducible refine And.intro ?_ ?_)); (focus (first | omega | (simp only [inR]; omega) | rfl | (simp [notinId, notin]; done) | exact Or.inr rfl | (intro i hi; (repeat' (with_reducible first | apply len_cut | apply len_shift | apply len_app | apply len_copy | intro j)) <;> first | rfl | (exact len_lit _ _ (by simp) rfl _) | (simp; done)))))
      refine ⟨i + 1, [0, 1, 2, 3, 4, 5], by omega, by show s.length - (i + 1) < s.length - i; omega, ?_⟩
      have e1 := enc_upd1 (f := fun i => if s.getD i false then (0 : Int) else -1) (g := fun _ => 0) hi (-1) (by simp only [hb]; rfl)
      have e2 := enc_upd1 (f := fun i => ((su.getD i []).length : Int)) (g := fun _ => 0) hi _ rfl
      simp only [hb, if_neg, Bool.false_eq_true, not_false_eq_true, List.append_nil] at hfl
      simp only [padA, St.le, slotsLe, heapLe, blkLe, rowLe, live, injOn, loLe, nget, nlook, ren, okA, allP, mapA, hget, ABlk.used, notin, List.map_cons, List.map_nil, true_or, or_true, false_or, or_false, true_and, and_true, and_self, AV.int.injEq, AV.bool.injEq, AV.str.injEq, AV.sl.injEq, AV.ro.injEq, AV.agg.injEq, List.cons.injEq, reduceCtorEq, ne_eq, not_false_eq_true, not_true_eq_false, hfl, e1, e2]
      simp
  · have hi : i = s.length := by omega
    subst hi
    (refine ev ?_; (try (with_reducible exact True.intro)))
    repeat (((with_reducible refine And.intro ?_ ?_)); (focus (first | omega | (simp only [inR]; omega) | rfl | (simp [notinId, notin]; done) | exact Or.inr rfl | (intro i hi; (repeat' (with_reducible first | apply len_cut | apply len_shift | apply len_app | apply len_copy | intro j)) <;> first | rfl | (exact len_lit _ _ (by simp) rfl _) | (simp; done)))))
    have e1 := partL_full (n := s.length) (f := fun i => if s.getD i false then (0 : Int) else -1) (g := fun _ => (0 : Int))
    have e2 := partL_full (n := s.length) (f := fun i => ((su.getD i []).length : Int)) (g := fun _ => (0 : Int))
    have hst := BfsQ.start (ow := ow) (pl := pl) hsl (fun p hp => (v4 p (by omega)).2.1)
    rw [← e1, ← e2] at hst
    generalize partL s.length (fun i => if s.getD i false then (0 : Int) else -1) (fun _ => (0 : Int)) s.length = mv at hst ⊢
    generalize partL s.length (fun i => ((su.getD i []).length : Int)) (fun _ => (0 : Int)) s.length = os at hst ⊢
    generalize ((List.range s.length).filter fun i => s.getD i false) = all at hst ⊢
    have f0 := hst.facts
    refine e36 _ _ _ _ all 0 (by have := f0.2.2.1; simp at this; omega) fun x ok off' hpop => ?_
    (refine ev ?_; (try (with_reducible exact True.intro)))
    repeat (((with_reducible refine And.intro ?_ ?_)); (focus (first | omega | (simp only [inR]; omega) | rfl | (simp [notinId, notin]; done) | exact Or.inr rfl | (intro i hi; (repeat' (with_reducible first | apply len_cut | apply len_shift | apply len_app | apply len_copy | intro j)) <;> first | rfl | (exact len_lit _ _ (by simp) rfl _) | (simp; done)))))
    refine SH.Sem.loop hm (fun t : QT => ⟨padA [.undef, .undef, .undef, .ptr 0 0 0, .undef, .undef, .undef, .ptr 1 0 0, .sl 2 0 s.length, .sl 3 0 s.length, .ptr 4 0 0, .undef, .undef, .int .i64 t.x, .bool t.ok] 112, [.box [intRow ow, intRow pr, intRows su, intRows (befs su ow.length)], .box [.fn (.func ra) [], .fn (.func rb) []], .vec 1 s.length (encL (cInt .i64) 0 t.mv), .vec 1 s.length (encL (cInt .i64) 0 t.os), .box [.sl 5 t.off (t.all.length - t.off)], .vec 1 t.all.length (natRow t.all)]⟩)
      (fun t => t.off ≤ t.all.length ∧ t.all.length ≤ s.length ∧ ((t.ok = false ∧ t.all.length ≤ t.off ∧ BfsQ ow su pl s t.ds [] t.mv t.os) ∨ (t.ok = true ∧ BfsX ow su pl s t.ds t.x 0 (t.all.drop t.off) t.mv t.os))) (fun t => s.length - t.ds.length) [0, 1, 2, 3, 4, 5] ⟨[], x, ok, all, off', mv, os⟩ ?_ ?_ ?_
    · have hal : all.length ≤ s.length := by have := f0.2.2.1; simp at this; omega
      rcases hpop with ⟨h1, h2, h3⟩ | ⟨h1, h2, h3, h4⟩
      · have h2 : all.length = 0 := by omega
        obtain rfl := List.eq_nil_of_length_eq_zero h2
        exact ⟨by show off' ≤ 0; omega, by show 0 ≤ _; omega, .inl ⟨h1, by show 0 ≤ _; omega, hst⟩⟩
      · refine ⟨by show off' ≤ all.length; omega, hal, .inr ⟨h1, ?_⟩⟩
        have e := drop_next all 0 0 h2
        rw [List.drop_zero, ← h4] at e
        rw [e] at hst
        show BfsX ow su pl s [] x 0 (all.drop off') mv os
        rw [h3]
        exact hst.pop
    · simp only [padA, St.le, slotsLe, heapLe, blkLe, rowLe, live, injOn, loLe, nget, nlook, ren, okA, allP, mapA, hget, ABlk.used, notin, List.map_cons, List.map_nil, true_or, or_true, false_or, or_false, true_and, and_true, and_self, AV.int.injEq, AV.bool.injEq, AV.str.injEq, AV.sl.injEq, AV.ro.injEq, AV.agg.injEq, List.cons.injEq, reduceCtorEq, ne_eq, not_false_eq_true, not_true_eq_false]; simp
    intro ⟨ds, x, ok, all, off, mv, os⟩ ⟨g1, g1', g2⟩
    dsimp only at g1 g1' g2
    simp only [padA]
    (refine ev ?_; (try (with_reducible exact True.intro)))
    refine gs (fun hk => ?_) (fun hk => ?_)
    · subst hk
      (refine ev ?_; (try (with_reducible exact True.intro)))
      obtain ⟨g3, _⟩ | ⟨_, g2⟩ := g2
      · cases g3
      have f1 := g2.facts
      obtain ⟨f2, f3, f4, f5⟩ := f1
      simp only [List.length_drop] at f5
      have hrx : (befs su ow.length).getD x [] = befL su su.length x := range_map_getD _ _ _ _ (by omega)
      have hbf : (befs su ow.length).length = s.length := by simp [befs]; omega
      simp only [Int.toNat_natCast, hrx, hbf]
      repeat (((with_reducible refine And.intro ?_ ?_)); (focus (first | omega | (simp only [inR]; omega) | rfl | (simp [notinId, notin]; done) | exact Or.inr rfl | (intro i hi; (repeat' (with_reducible first | apply len_cut | apply len_shift | apply len_app | apply len_copy | intro j)) <;> first | rfl | (exact len_lit _ _ (by simp) rfl _) | (simp; done)))))
      have hbl : (befL su su.length x).length ≤ 3001 * 2 ^ 20 := by
        have h1 := befL_length hsu1 x su.length (Nat.le_refl _)
        exact Nat.le_trans h1 (Nat.mul_le_mul_right _ (by omega))
      refine SH.Sem.loop hm (fun t : Nat × List Nat × Nat × List Int × List Int => ⟨padA (.undef :: .undef :: .undef :: .ptr 0 0 0 :: .undef :: .undef :: .undef :: .ptr 1 0 0 :: .sl 2 0 s.length :: .sl 3 0 s.length :: .ptr 4 0 0 :: .undef :: .undef :: .int .i64 x :: .undef :: .undef :: .undef :: .undef :: .undef :: .undef :: .undef :: .undef :: .undef :: .undef :: .undef :: .undef :: .undef :: .undef :: .undef :: .undef :: .undef :: .undef :: .undef :: .undef :: .undef :: .undef :: .undef :: .undef :: .undef :: .undef :: .undef :: .undef :: .undef :: .undef :: .undef :: .undef :: .undef :: .undef :: .undef :: .undef :: .undef :: .undef :: .undef :: .undef :: .undef :: .undef :: .undef :: .undef :: .undef :: .undef :: .undef :: .undef :: .undef :: .undef :: .undef :: .undef :: intRow (befL su su.length x) :: .int .i64 (befL su su.length x).length :: .int .i64 t.1 :: []) 112, [.box [intRow ow, intRow pr, intRows su, intRows (befs su ow.length)], .box [.fn (.func ra) [], .fn (.func rb) []], .vec 1 s.length (encL (cInt .i64) 0 t.2.2.2.1), .vec 1 s.length (encL (cInt .i64) 0 t.2.2.2.2), .box [.sl 5 t.2.2.1 (t.2.1.length - t.2.2.1)], .vec 1 t.2.1.length (natRow t.2.1)]⟩)
        (fun t => t.1 ≤ (befL su su.length x).length ∧ t.2.2.1 ≤ t.2.1.length ∧ t.2.1.length ≤ s.length ∧ BfsX ow su pl s ds x t.1 (t.2.1.drop t.2.2.1) t.2.2.2.1 t.2.2.2.2) (fun t => (befL su su.length x).length - t.1) [0, 1, 2, 3, 4, 5] ⟨0, all, off, mv, os⟩ ⟨by omega, g1, g1', g2⟩ ?_ ?_
      · simp only [padA, St.le, slotsLe, heapLe, blkLe, rowLe, live, injOn, loLe, nget, nlook, ren, okA, allP, mapA, hget, ABlk.used, notin, List.map_cons, List.map_nil, true_or, or_true, false_or, or_false, true_and, and_true, and_self, AV.int.injEq, AV.bool.injEq, AV.str.injEq, AV.sl.injEq, AV.ro.injEq, AV.agg.injEq, List.cons.injEq, reduceCtorEq, ne_eq, not_false_eq_true, not_true_eq_false]; simp
      clear g1 g1' g2 f2 f3 f4 f5
      intro ⟨k, all, off, mv, os⟩ ⟨g0, g1, g1', g2⟩
      dsimp only at g0 g1 g1' g2
      simp only [padA]
      (refine ev ?_; (try (with_reducible exact True.intro)))
      refine gsd (fun hd2 => ?_) (fun hd2 => ?_)
      · have hk : k < (befL su su.length x).length := by omega
        obtain ⟨p, ep, hp⟩ := befL_mem (getD_mem hk 0)
        have hps : p < s.length := by omega
        obtain ⟨f2, f3, f4, f5⟩ := g2.facts
        have fb := g2.bound
        have fo := g2.outb hsl hss
        (refine ev ?_; (try (with_reducible exact True.intro)))
        simp only [Int.toNat_natCast, ep]
        have eo : updF (encL (cInt .i64) 0 os) p [.int .i64 (os.getD p 0 - 1)] = encL (cInt .i64) 0 (os.set p (os.getD p 0 - 1)) := updF_enc (e := cInt .i64) (d := 0) _ (by omega)
        have go : ∀ q, (os.set p (os.getD p 0 - 1)).getD q 0 = if q = p then os.getD p 0 - 1 else os.getD q 0 := fun q => getD_set _ _ _ _ _ (by omega)
        have fop := fo p hps
        have hsp := hsu1 _ (getD_mem (show p < su.length by omega) [])
        simp only [eo]
        repeat (((with_reducible refine And.intro ?_ ?_)); (focus (first | omega | (simp only [inR]; omega) | rfl | (simp [notinId, notin]; done) | exact Or.inr rfl | (intro i hi; (repeat' (with_reducible first | apply len_cut | apply len_shift | apply len_app | apply len_copy | intro j)) <;> first | rfl | (exact len_lit _ _ (by simp) rfl _) | (simp; done)))))
        have stay : ¬ (mv.getD p 0 < 0 ∧ ruleB ow su pl p (os.getD p 0 - 1) = true) → BfsX ow su pl s ds x (k + 1) (all.drop off) mv (os.set p (os.getD p 0 - 1)) := g2.stay hsl hk ep hps
        have join := fun h1 h2 => g2.join hsl hss hk ep hps h1 h2
        refine gsd (fun hm0 => ?_) (fun hm0 => ?_)
        · have hown := (v4 p (by omega)).1
          obtain ⟨rv, hrv⟩ : ∃ rv, ruleB ow su pl p (os.getD p 0 - 1) = rv := ⟨_, rfl⟩
          rw [hrv] at stay join
          have call : ∀ {k : AR → Prop} {H : List ABlk}, k (.one (.val (.bool rv))) → ExCall Try.prog (if ow.getD p 0 = 0 then ra else rb) [field ow pr su, .int .i64 p, .int .i64 (os.getD p 0 - 1)] H k := by
            intro k H hk
            have c33 : ow.getD p 0 ≠ pl → Contract Try.prog 57 [field ow pr su, .int .i64 p, .int .i64 (os.getD p 0 - 1)] (.one (.val (.bool rv))) := by
              intro hne
              have := k33 ow pr su p (os.getD p 0 - 1)
              rw [ruleB, if_neg hne] at hrv
              rw [← hrv]; exact this
            have c34 : ow.getD p 0 = pl → Contract Try.prog 58 [field ow pr su, .int .i64 p, .int .i64 (os.getD p 0 - 1)] (.one (.val (.bool rv))) := by
              intro he
              have := k34 ow pr su p (os.getD p 0 - 1) (by omega)
              rw [ruleB, if_pos he] at hrv
              rw [← hrv]; exact this
            rcases hpl with h0 | h0 <;> rcases hown with h1 | h1
            · rw [if_pos h1, (er0 h0).1]
              refine ExCall.use (c34 (by omega)) ?_ (.inl rfl) hk
              ((refine evL ?_; (try (with_reducible exact True.intro))) <;> (try simp (disch := (first | omega | (simp only [List.length_append, List.length_cons, List.length_nil, List.length_take, List.length_drop, List.length_map, List.length_nil] <;> omega) | fail)) only [cutF_all, strOf_enc, appF_zero, appF_enc, lit_byte, shiftF_enc, shiftF_0, cutF_enc, List.nil_append, List.drop_zero, List.take_of_length_le]) <;> (repeat' (with_reducible refine And.intro ?_ ?_)) <;> first | trivial | rfl | (intros; first | rfl | trivial; done) | (first | omega | (simp only [List.length_append, List.length_cons, List.length_nil, List.length_take, List.length_drop, List.length_map, List.length_nil] <;> omega) | fail))
            · rw [if_neg (by omega), (er0 h0).2]
              refine ExCall.use (c33 (by omega)) ?_ (.inl rfl) hk
              ((refine evL ?_; (try (with_reducible exact True.intro))) <;> (try simp (disch := (first | omega | (simp only [List.length_append, List.length_cons, List.length_nil, List.length_take, List.length_drop, List.length_map, List.length_nil] <;> omega) | fail)) only [cutF_all, strOf_enc, appF_zero, appF_enc, lit_byte, shiftF_enc, shiftF_0, cutF_enc, List.nil_append, List.drop_zero, List.take_of_length_le]) <;> (repeat' (with_reducible refine And.intro ?_ ?_)) <;> first | trivial | rfl | (intros; first | rfl | trivial; done) | (first | omega | (simp only [List.length_append, List.length_cons, List.length_nil, List.length_take, List.length_drop, List.length_map, List.length_nil] <;> omega) | fail))
            · rw [if_pos h1, (er1 h0).1]
              refine ExCall.use (c33 (by omega)) ?_ (.inl rfl) hk
              ((refine evL ?_; (try (with_reducible exact True.intro))) <;> (try simp (disch := (first | omega | (simp only [List.length_append, List.length_cons, List.length_nil, List.length_take, List.length_drop, List.length_map, List.length_nil] <;> omega) | fail)) only [cutF_all, strOf_enc, appF_zero, appF_enc, lit_byte, shiftF_enc, shiftF_0, cutF_enc, List.nil_append, List.drop_zero, List.take_of_length_le]) <;> (repeat' (with_reducible refine And.intro ?_ ?_)) <;> first | trivial | rfl | (intros; first | rfl | trivial; done) | (first | omega | (simp only [List.length_append, List.length_cons, List.length_nil, List.length_take, List.length_drop, List.length_map, List.length_nil] <;> omega) | fail))
            · rw [if_neg (by omega), (er1 h0).2]
              refine ExCall.use (c34 (by omega)) ?_ (.inl rfl) hk
              ((refine evL ?_; (try (with_reducible exact True.intro))) <;> (try simp (disch := (first | omega | (simp only [List.length_append, List.length_cons, List.length_nil, List.length_take, List.length_drop, List.length_map, List.length_nil] <;> omega) | fail)) only [cutF_all, strOf_enc, appF_zero, appF_enc, lit_byte, shiftF_enc, shiftF_0, cutF_enc, List.nil_append, List.drop_zero, List.take_of_length_le]) <;> (repeat' (with_reducible refine And.intro ?_ ?_)) <;> first | trivial | rfl | (intros; first | rfl | trivial; done) | (first | omega | (simp only [List.length_append, List.length_cons, List.length_nil, List.length_take, List.length_drop, List.length_map, List.length_nil] <;> omega) | fail))
          rcases hown with hown | hown
          · rw [if_pos hown] at call
            (refine ev ?_; (try (with_reducible exact True.intro)))
            simp only [Int.toNat_natCast, hown, go, if_true]
            (refine ev ?_; (try (with_reducible exact True.intro)))
            repeat (((with_reducible refine And.intro ?_ ?_)); (focus (first | omega | (simp only [inR]; omega) | rfl | (simp [notinId, notin]; done) | exact Or.inr rfl | (intro i hi; (repeat' (with_reducible first | apply len_cut | apply len_shift | apply len_app | apply len_copy | intro j)) <;> first | rfl | (exact len_lit _ _ (by simp) rfl _) | (simp; done)))))
            refine call ?_
            (refine ev ?_; (try (with_reducible exact True.intro)))
            repeat (((with_reducible refine And.intro ?_ ?_)); (focus (first | omega | (simp only [inR]; omega) | rfl | (simp [notinId, notin]; done) | exact Or.inr rfl | (intro i hi; (repeat' (with_reducible first | apply len_cut | apply len_shift | apply len_app | apply len_copy | intro j)) <;> first | rfl | (exact len_lit _ _ (by simp) rfl _) | (simp; done)))))
            refine gs (fun hrt => ?_) (fun hrt => ?_)
            · subst hrt
              (refine ev ?_; (try (with_reducible exact True.intro)))
              have em : updF (encL (cInt .i64) 0 mv) p [.int .i64 (mv.getD x 0 + 1)] = encL (cInt .i64) 0 (mv.set p (mv.getD x 0 + 1)) := updF_enc (e := cInt .i64) (d := 0) _ (by omega)
              simp only [Int.toNat_natCast, em]
              have fbx := fb x f4
              repeat (((with_reducible refine And.intro ?_ ?_)); (focus (first | omega | (simp only [inR]; omega) | rfl | (simp [notinId, notin]; done) | exact Or.inr rfl | (intro i hi; (repeat' (with_reducible first | apply len_cut | apply len_shift | apply len_app | apply len_copy | intro j)) <;> first | rfl | (exact len_lit _ _ (by simp) rfl _) | (simp; done)))))
              refine in59 (SH.Sem.of_wpA hm ?_)
              simp only [padA]
              simp only [Try.f59, Option.getD, w_skip, w_reg, w_regd, w_seq, w_cond, w_block, w_loop, w_rf, w_exit, w_ret, f_ok, f_call, f_yield, yK_cons, a_normal, r_normal, r_ret, r_exit, rg_cons, putL, frz, beq_self_eq_true, Nat.reduceBEq, updG_same, f_bad, cK_nil, cK_cons, v_nil, v_cons, gK_tt, gK_ff, gK_tf, gK_ft, dK_go, d_nil, d_cons, gD_tt, gD_ff, gD_tf, gD_ft, eC_one, eC_tup, eC_own, eE_ok, eE_bad, eD, eff, eBin, eEq, eUn, eConv, eLen, eMin, eMax, eField, eFieldAddr, eIndex, eIndexAddr, eSlice, eLoad, eStore, eAlloc, eBox, eBuild, eBuildSlice, eMake, eAppend, eCopy, eMakeMap, eMapUpdate, eLookup, lookV, optN, eNil, ePick, eExtract, E.pure, Eff.only, Eff.notB, evalA, AV.ofV, AV.ofC, sget, sput, putA, applyU, hset, hget, hlen, alen, takeA, dropA, spliceA, mapA, allA, lget, oget, pget, tget, cellsA, AV.one, AV.goneB, partA, partC, TK.isAgg, nilish, natA, natC, loN, hiN, optC, roCut, loadP, loadC, aggOr, fillA, fillC, allPos, partsC, partsCells, partsAll, kills, killIds, liveAll, gnd, srcOf, inBlk, mapO, mapP, Go.SH.IntKind.uns, TK.flat, eqSc, eqScC, eqFs, eqFsC, seqK, blockK, condK, l_exit, l_ret, retK, retS, rsV, rsC, allT, padA, mapT, glook, bsel, gsplit_true, gsplit_false, resOf, resIds, resAll, nodupN, notin, like, like1, likeL, likeAll, AV.np, AV.gb, idsR, idsM, retI, retR, reify, AR.v, AR.u, AR.nv, nvec, impV, impU, isAlloc, callOf, countA, upIds, Option.map_none, Option.map_some, Option.isSome_some, Option.isSome_none, List.map_cons, List.map_nil, true_and, and_true, List.cons_append, List.nil_append, List.append_nil, List.length_cons, List.length_nil, List.nodup_nil, List.not_mem_nil, not_false_eq_true, ne_eq, reduceCtorEq, Bool.and_true, Bool.true_and, Bool.not_true, Bool.not_false, if_true, if_false, reduceIte, en_byte, en_byte', en_int, en_int', en_bool, en_bool', en_str, en_str', en_row, en_row', sh_at, sh_at', and_assoc, Nat.zero_add, Nat.add_zero, Nat.reduceAdd, appF_zero, Option.isNone_none, Option.isNone_some, en_byteL, en_intL, en_rowL, Int.reduceToNat, Nat.mul_one, Nat.one_mul, Nat.zero_mul, Nat.reduceMul, Nat.reduceSub, Nat.sub_zero, bne_self_eq_false, ti1, ti2, ti3, ti4, ti5, ti6, ti7, ti8, ti9, ti10, ti11, ti12, ti13, ti14, ti15, ti16, ti17, ti18, ti19, ti21, ti22, ti23, ti24, ti25, ti26, ti27, ti28, ti30, ti31, ti33, ti34, ti35, ti36, ti37, ti38, ti39, ti40, ti41, ti42, ti43, ti45, ti46, ti47, ti48, ti49, ti50, ti51, ti52, ti53, ti54, ti55, ti57, ti58, ti59, ti60, ti61, ti62, ti63, ti64, ti65, ti66, ti67, ti68, ti69, ti70, ti71, ti72, ti73, ti74, ti75, ti76, ti77, ti78, ti79, ti80, ti81, ti82, ti83, ti85, ti86, ti87, ti88, ti89, ti90, ti91, ti92, ti93, ti94, ti95, ti96, ti97, ti98, ti99, ti100, ti101, ti102, ti103, ti104, ti105, ti106, ti107, ti108, ti109]
              repeat (((with_reducible refine And.intro ?_ ?_)); (focus (first | omega | (simp only [inR]; omega) | rfl | (simp [notinId, notin]; done) | exact Or.inr rfl | (intro i hi; (repeat' (with_reducible first | apply len_cut | apply len_shift | apply len_app | apply len_copy | intro j)) <;> first | rfl | (exact len_lit _ _ (by simp) rfl _) | (simp; done)))))
              refine ⟨⟨k + 1, all.drop off ++ [p], 0, mv.set p (mv.getD x 0 + 1), os.set p (os.getD p 0 - 1)⟩, [0, 1, 2, 3, 4, 7], ⟨by show k + 1 ≤ _; omega, by show 0 ≤ _; omega, ?_, join hm0 rfl⟩, by show (befL su su.length x).length - (k + 1) < (befL su su.length x).length - k; omega, ?_⟩
              · show (all.drop off ++ [p]).length ≤ _
                rw [List.length_append, List.length_singleton]; omega
              simp only [padA, St.le, slotsLe, heapLe, blkLe, rowLe, live, injOn, loLe, nget, nlook, ren, okA, allP, mapA, hget, ABlk.used, notin, List.map_cons, List.map_nil, true_or, or_true, false_or, or_false, true_and, and_true, and_self, AV.int.injEq, AV.bool.injEq, AV.str.injEq, AV.sl.injEq, AV.ro.injEq, AV.agg.injEq, List.cons.injEq, reduceCtorEq, ne_eq, not_false_eq_true, not_true_eq_false, List.length_append, List.length_drop, List.length_singleton]
              exact ⟨by omega, ⟨by simp, by simp, by omega, fun q hq => nat_push' all off p q hq⟩, by simp⟩
            · subst hrt
              (refine ev ?_; (try (with_reducible exact True.intro)))
              repeat (((with_reducible refine And.intro ?_ ?_)); (focus (first | omega | (simp only [inR]; omega) | rfl | (simp [notinId, notin]; done) | exact Or.inr rfl | (intro i hi; (repeat' (with_reducible first | apply len_cut | apply len_shift | apply len_app | apply len_copy | intro j)) <;> first | rfl | (exact len_lit _ _ (by simp) rfl _) | (simp; done)))))
              refine ⟨⟨k + 1, all, off, mv, os.set p (os.getD p 0 - 1)⟩, [0, 1, 2, 3, 4, 5], ⟨by show k + 1 ≤ _; omega, g1, g1', stay fun h => by cases h.2⟩, by show (befL su su.length x).length - (k + 1) < (befL su su.length x).length - k; omega, ?_⟩
              simp only [padA, St.le, slotsLe, heapLe, blkLe, rowLe, live, injOn, loLe, nget, nlook, ren, okA, allP, mapA, hget, ABlk.used, notin, List.map_cons, List.map_nil, true_or, or_true, false_or, or_false, true_and, and_true, and_self, AV.int.injEq, AV.bool.injEq, AV.str.injEq, AV.sl.injEq, AV.ro.injEq, AV.agg.injEq, List.cons.injEq, reduceCtorEq, ne_eq, not_false_eq_true, not_true_eq_false]
              simp
          · rw [if_neg (by omega)] at call
            (refine ev ?_; (try (with_reducible exact True.intro)))
            simp only [Int.toNat_natCast, hown, go, if_true]
            (refine ev ?_; (try (with_reducible exact True.intro)))
            repeat (((with_reducible refine And.intro ?_ ?_)); (focus (first | omega | (simp only [inR]; omega) | rfl | (simp [notinId, notin]; done) | exact Or.inr rfl | (intro i hi; (repeat' (with_reducible first | apply len_cut | apply len_shift | apply len_app | apply len_copy | intro j)) <;> first | rfl | (exact len_lit _ _ (by simp) rfl _) | (simp; done)))))
            refine call ?_
            (refine ev ?_; (try (with_reducible exact True.intro)))
            repeat (((with_reducible refine And.intro ?_ ?_)); (focus (first | omega | (simp only [inR]; omega) | rfl | (simp [notinId, notin]; done) | exact Or.inr rfl | (intro i hi; (repeat' (with_reducible first | apply len_cut | apply len_shift | apply len_app | apply len_copy | intro j)) <;> first | rfl | (exact len_lit _ _ (by simp) rfl _) | (simp; done)))))
            refine gs (fun hrt => ?_) (fun hrt => ?_)
            · subst hrt
              (refine ev ?_; (try (with_reducible exact True.intro)))
              have em : updF (encL (cInt .i64) 0 mv) p [.int .i64 (mv.getD x 0 + 1)] = encL (cInt .i64) 0 (mv.set p (mv.getD x 0 + 1)) := updF_enc (e := cInt .i64) (d := 0) _ (by omega)
              simp only [Int.toNat_natCast, em]
              have fbx := fb x f4
              repeat (((with_reducible refine And.intro ?_ ?_)); (focus (first | omega | (simp only [inR]; omega) | rfl | (simp [notinId, notin]; done) | exact Or.inr rfl | (intro i hi; (repeat' (with_reducible first | apply len_cut | apply len_shift | apply len_app | apply len_copy | intro j)) <;> first | rfl | (exact len_lit _ _ (by simp) rfl _) | (simp; done)))))
              refine in59 (SH.Sem.of_wpA hm ?_)
              simp only [padA]
              simp only [Try.f59, Option.getD, w_skip, w_reg, w_regd, w_seq, w_cond, w_block, w_loop, w_rf, w_exit, w_ret, f_ok, f_call, f_yield, yK_cons, a_normal, r_normal, r_ret, r_exit, rg_cons, putL, frz, beq_self_eq_true, Nat.reduceBEq, updG_same, f_bad, cK_nil, cK_cons, v_nil, v_cons, gK_tt, gK_ff, gK_tf, gK_ft, dK_go, d_nil, d_cons, gD_tt, gD_ff, gD_tf, gD_ft, eC_one, eC_tup, eC_own, eE_ok, eE_bad, eD, eff, eBin, eEq, eUn, eConv, eLen, eMin, eMax, eField, eFieldAddr, eIndex, eIndexAddr, eSlice, eLoad, eStore, eAlloc, eBox, eBuild, eBuildSlice, eMake, eAppend, eCopy, eMakeMap, eMapUpdate, eLookup, lookV, optN, eNil, ePick, eExtract, E.pure, Eff.only, Eff.notB, evalA, AV.ofV, AV.ofC, sget, sput, putA, applyU, hset, hget, hlen, alen, takeA, dropA, spliceA, mapA, allA, lget, oget, pget, tget, cellsA, AV.one, AV.goneB, partA, partC, TK.isAgg, nilish, natA, natC, loN, hiN, optC, roCut, loadP, loadC, aggOr, fillA, fillC, allPos, partsC, partsCells, partsAll, kills, killIds, liveAll, gnd, srcOf, inBlk, mapO, mapP, Go.SH.IntKind.uns, TK.flat, eqSc, eqScC, eqFs, eqFsC, seqK, blockK, condK, l_exit, l_ret, retK, retS, rsV, rsC, allT, padA, mapT, glook, bsel, gsplit_true, gsplit_false, resOf, resIds, resAll, nodupN, notin, like, like1, likeL, likeAll, AV.np, AV.gb, idsR, idsM, retI, retR, reify, AR.v, AR.u, AR.nv, nvec, impV, impU, isAlloc, callOf, countA, upIds, Option.map_none, Option.map_some, Option.isSome_some, Option.isSome_none, List.map_cons, List.map_nil, true_and, and_true, List.cons_append, List.nil_append, List.append_nil, List.length_cons, List.length_nil, List.nodup_nil, List.not_mem_nil, not_false_eq_true, ne_eq, reduceCtorEq, Bool.and_true, Bool.true_and, Bool.not_true, Bool.not_false, if_true, if_false, reduceIte, en_byte, en_byte', en_int, en_int', en_bool, en_bool', en_str, en_str', en_row, en_row', sh_at, sh_at', and_assoc, Nat.zero_add, Nat.add_zero, Nat.reduceAdd, appF_zero, Option.isNone_none, Option.isNone_some, en_byteL, en_intL, en_rowL, Int.reduceToNat, Nat.mul_one, Nat.one_mul, Nat.zero_mul, Nat.reduceMul, Nat.reduceSub, Nat.sub_zero, bne_self_eq_false, ti1, ti2, ti3, ti4, ti5, ti6, ti7, ti8, ti9, ti10, ti11, ti12, ti13, ti14, ti15, ti16, ti17, ti18, ti19, ti21, ti22, ti23, ti24, ti25, ti26, ti27, ti28, ti30, ti31, ti33, ti34, ti35, ti36, ti37, ti38, ti39, ti40, ti41, ti42, ti43, ti45, ti46, ti47, ti48, ti49, ti50, ti51, ti52, ti53, ti54, ti55, ti57, ti58, ti59, ti60, ti61, ti62, ti63, ti64, ti65, ti66, ti67, ti68, ti69, ti70, ti71, ti72, ti73, ti74, ti75, ti76, ti77, ti78, ti79, ti80, ti81, ti82, ti83, ti85, ti86, ti87, ti88, ti89, ti90, ti91, ti92, ti93, ti94, ti95, ti96, ti97, ti98, ti99, ti100, ti101, ti102, ti103, ti104, ti105, ti106, ti107, ti108, ti109]
              repeat (((with_reducible refine And.intro ?_ ?_)); (focus (first | omega | (simp only [inR]; omega) | rfl | (simp [notinId, notin]; done) | exact Or.inr rfl | (intro i hi; (repeat' (with_reducible first | apply len_cut | apply len_shift | apply len_app | apply len_copy | intro j)) <;> first | rfl | (exact len_lit _ _ (by simp) rfl _) | (simp; done)))))
              refine ⟨⟨k + 1, all.drop off ++ [p], 0, mv.set p (mv.getD x 0 + 1), os.set p (os.getD p 0 - 1)⟩, [0, 1, 2, 3, 4, 7], ⟨by show k + 1 ≤ _; omega, by show 0 ≤ _; omega, ?_, join hm0 rfl⟩, by show (befL su su.length x).length - (k + 1) < (befL su su.length x).length - k; omega, ?_⟩
              · show (all.drop off ++ [p]).length ≤ _
                rw [List.length_append, List.length_singleton]; omega
              simp only [padA, St.le, slotsLe, heapLe, blkLe, rowLe, live, injOn, loLe, nget, nlook, ren, okA, allP, mapA, hget, ABlk.used, notin, List.map_cons, List.map_nil, true_or, or_true, false_or, or_false, true_and, and_true, and_self, AV.int.injEq, AV.bool.injEq, AV.str.injEq, AV.sl.injEq, AV.ro.injEq, AV.agg.injEq, List.cons.injEq, reduceCtorEq, ne_eq, not_false_eq_true, not_true_eq_false, List.length_append, List.length_drop, List.length_singleton]
              exact ⟨by omega, ⟨by simp, by simp, by omega, fun q hq => nat_push' all off p q hq⟩, by simp⟩
            · subst hrt
              (refine ev ?_; (try (with_reducible exact True.intro)))
              repeat (((with_reducible refine And.intro ?_ ?_)); (focus (first | omega | (simp only [inR]; omega) | rfl | (simp [notinId, notin]; done) | exact Or.inr rfl | (intro i hi; (repeat' (with_reducible first | apply len_cut | apply len_shift | apply len_app | apply len_copy | intro j)) <;> first | rfl | (exact len_lit _ _ (by simp) rfl _) | (simp; done)))))
              refine ⟨⟨k + 1, all, off, mv, os.set p (os.getD p 0 - 1)⟩, [0, 1, 2, 3, 4, 5], ⟨by show k + 1 ≤ _; omega, g1, g1', stay fun h => by cases h.2⟩, by show (befL su su.length x).length - (k + 1) < (befL su su.length x).length - k; omega, ?_⟩
              simp only [padA, St.le, slotsLe, heapLe, blkLe, rowLe, live, injOn, loLe, nget, nlook, ren, okA, allP, mapA, hget, ABlk.used, notin, List.map_cons, List.map_nil, true_or, or_true, false_or, or_false, true_and, and_true, and_self, AV.int.injEq, AV.bool.injEq, AV.str.injEq, AV.sl.injEq, AV.ro.injEq, AV.agg.injEq, List.cons.injEq, reduceCtorEq, ne_eq, not_false_eq_true, not_true_eq_false]
              simp
        · (refine ev ?_; (try (with_reducible exact True.intro)))
          repeat (((with_reducible refine And.intro ?_ ?_)); (focus (first | omega | (simp only [inR]; omega) | rfl | (simp [notinId, notin]; done) | exact Or.inr rfl | (intro i hi; (repeat' (with_reducible first | apply len_cut | apply len_shift | apply len_app | apply len_copy | intro j)) <;> first | rfl | (exact len_lit _ _ (by simp) rfl _) | (simp; done)))))
          refine ⟨⟨k + 1, all, off, mv, os.set p (os.getD p 0 - 1)⟩, [0, 1, 2, 3, 4, 5], ⟨by show k + 1 ≤ _; omega, g1, g1', stay fun h => hm0 h.1⟩, by show (befL su su.length x).length - (k + 1) < (befL su su.length x).length - k; omega, ?_⟩
          simp only [padA, St.le, slotsLe, heapLe, blkLe, rowLe, live, injOn, loLe, nget, nlook, ren, okA, allP, mapA, hget, ABlk.used, notin, List.map_cons, List.map_nil, true_or, or_true, false_or, or_false, true_and, and_true, and_self, AV.int.injEq, AV.bool.injEq, AV.str.injEq, AV.sl.injEq, AV.ro.injEq, AV.agg.injEq, List.cons.injEq, reduceCtorEq, ne_eq, not_false_eq_true, not_true_eq_false]
          simp
      · have hk : k = (befL su su.length x).length := by omega
        subst hk
        (refine ev ?_; (try (with_reducible exact True.intro)))
        repeat (((with_reducible refine And.intro ?_ ?_)); (focus (first | omega | (simp only [inR]; omega) | rfl | (simp [notinId, notin]; done) | exact Or.inr rfl | (intro i hi; (repeat' (with_reducible first | apply len_cut | apply len_shift | apply len_app | apply len_copy | intro j)) <;> first | rfl | (exact len_lit _ _ (by simp) rfl _) | (simp; done)))))
        obtain ⟨f2, f3, f4, f5⟩ := g2.facts
        have g3 := g2.push hsl hss (Nat.le_refl _)
        refine e36 _ _ _ _ all off (by omega) fun x' ok' off' hpop => ?_
        (refine ev ?_; (try (with_reducible exact True.intro)))
        repeat (((with_reducible refine And.intro ?_ ?_)); (focus (first | omega | (simp only [inR]; omega) | rfl | (simp [notinId, notin]; done) | exact Or.inr rfl | (intro i hi; (repeat' (with_reducible first | apply len_cut | apply len_shift | apply len_app | apply len_copy | intro j)) <;> first | rfl | (exact len_lit _ _ (by simp) rfl _) | (simp; done)))))
        refine ⟨⟨ds ++ [x], x', ok', all, off', mv, os⟩, [0, 1, 2, 3, 4, 5], ⟨?_, g1', ?_⟩, ?_, ?_⟩
        · show off' ≤ all.length
          have := g1
          rcases hpop with ⟨h1, h2, h3⟩ | ⟨h1, h2, h3, h4⟩ <;> omega
        · rcases hpop with ⟨h1, h2, h3⟩ | ⟨h1, h2, h3, h4⟩
          · left
            refine ⟨h1, by show all.length ≤ off'; omega, ?_⟩
            rw [List.drop_of_length_le h2] at g3
            exact g3
          · right
            refine ⟨h1, ?_⟩
            rw [drop_next all 0 off h2, ← h4] at g3
            rw [show off' = off + 1 from h3]
            exact g3.pop
        · show s.length - (ds ++ [x]).length < s.length - ds.length
          rw [List.length_append, List.length_singleton]; omega
        · simp only [padA, St.le, slotsLe, heapLe, blkLe, rowLe, live, injOn, loLe, nget, nlook, ren, okA, allP, mapA, hget, ABlk.used, notin, List.map_cons, List.map_nil, true_or, or_true, false_or, or_false, true_and, and_true, and_self, AV.int.injEq, AV.bool.injEq, AV.str.injEq, AV.sl.injEq, AV.ro.injEq, AV.agg.injEq, List.cons.injEq, reduceCtorEq, ne_eq, not_false_eq_true, not_true_eq_false]; simp
    · subst hk
      obtain ⟨_, g3, g4⟩ | ⟨g3, _⟩ := g2
      · (refine ev ?_; (try (with_reducible exact True.intro)))
        repeat (((with_reducible refine And.intro ?_ ?_)); (focus (first | omega | (simp only [inR]; omega) | rfl | (simp [notinId, notin]; done) | exact Or.inr rfl | (intro i hi; (repeat' (with_reducible first | apply len_cut | apply len_shift | apply len_app | apply len_copy | intro j)) <;> first | rfl | (exact len_lit _ _ (by simp) rfl _) | (simp; done)))))
        have e := g4.done
        subst e
        exact fun i _ => rfl
      · cases g3
end Go.Proofs.Ythkgnnndlocbbaa
