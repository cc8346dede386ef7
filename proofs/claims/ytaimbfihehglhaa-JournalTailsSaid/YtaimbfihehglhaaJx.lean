/-
  The law JournalTails: its function returns true, for all records and bytes.
-/
-- LEN: two_length, sumB_length, frameB_length
import Derived.Test.YtaimbfihehglhaaJv
import Derived.Test.YtaimbfihehglhaaJl
namespace Go.Proofs.Ytaimbfihehglhaa
set_option linter.unusedVariables false
set_option linter.unusedSimpArgs false
open Go Go.SH
set_option maxRecDepth 10000
set_option maxHeartbeats 2000000
theorem k7 (rs : List (List UInt8)) (t : List UInt8) : Contract Try.prog 7 [byteRows rs, byteRow t] (.one (.val (.bool true))) := by
  refine ct7 (SH.Sem.of_wpA hm ?_)
  simp only [padA]
  simp only [Try.f7, Option.getD, w_skip, w_reg, w_regd, w_seq, w_cond, w_block, w_loop, w_rf, w_exit, w_ret, f_ok, f_call, f_yield, yK_cons, a_normal, r_normal, r_ret, r_exit, rg_cons, putL, frz, beq_self_eq_true, Nat.reduceBEq, updG_same, f_bad, cK_nil, cK_cons, v_nil, v_cons, gK_tt, gK_ff, gK_tf, gK_ft, dK_go, d_nil, d_cons, gD_tt, gD_ff, gD_tf, gD_ft, eC_one, eC_tup, eC_own, eE_ok, eE_bad, eD, eff, eBin, eEq, eUn, eConv, eLen, eMin, eMax, eField, eFieldAddr, eIndex, eIndexAddr, eSlice, eLoad, eStore, eAlloc, eBox, eBuild, eBuildSlice, eMake, eAppend, eCopy, eNil, ePick, eExtract, E.pure, Eff.only, Eff.notB, evalA, AV.ofV, AV.ofC, sget, sput, putA, applyU, hset, hget, hlen, alen, takeA, dropA, spliceA, mapA, allA, lget, oget, pget, tget, cellsA, AV.one, AV.goneB, partA, partC, TK.isAgg, nilish, natA, natC, loN, hiN, optC, roCut, loadP, loadC, aggOr, fillA, fillC, allPos, partsC, partsCells, partsAll, kills, killIds, liveAll, gnd, srcOf, inBlk, mapO, mapP, Go.SH.IntKind.uns, TK.flat, eqSc, eqScC, eqFs, eqFsC, seqK, blockK, condK, l_exit, l_ret, retK, retS, rsV, rsC, allT, padA, mapT, glook, bsel, gsplit_true, gsplit_false, resOf, resIds, resAll, nodupN, notin, like, like1, likeL, likeAll, AV.np, AV.gb, idsR, idsM, retI, retR, reify, AR.v, AR.u, AR.nv, nvec, impV, impU, isAlloc, callOf, countA, upIds, Option.map_none, Option.map_some, Option.isSome_some, Option.isSome_none, List.map_cons, List.map_nil, true_and, and_true, List.cons_append, List.nil_append, List.append_nil, List.length_cons, List.length_nil, List.nodup_nil, List.not_mem_nil, not_false_eq_true, ne_eq, reduceCtorEq, Bool.and_true, Bool.true_and, Bool.not_true, Bool.not_false, if_true, if_false, reduceIte, en_byte, en_byte', en_int, en_int', en_bool, en_bool', en_str, en_str', en_row, en_row', sh_at, sh_at', and_assoc, Nat.zero_add, Nat.add_zero, Nat.reduceAdd, appF_zero, Option.isNone_none, Option.isNone_some, en_byteL, en_intL, en_rowL, Int.reduceToNat, Nat.mul_one, Nat.one_mul, Nat.zero_mul, Nat.reduceMul, Nat.reduceSub, Nat.sub_zero, bne_self_eq_false, ti1, ti2, ti3, ti4, ti5, ti6, ti7, ti8, ti9, ti10, ti11, ti12, ti13, ti14, ti15, ti16, ti17, ti18, ti19, ti21, ti22, ti23, ti24, ti25, ti26, ti28, ti30, ti31, ti33, ti34, ti35, ti36, ti37, ti38, ti39, ti40, ti41, ti42, ti43, ti44, ti45, ti46, ti47, ti48, ti49, ti50, ti52, ti53, ti54, ti55, ti56, ti57, ti58, ti59, ti60, ti61, ti62, ti63, ti64, ti65, ti66, ti67, ti68, ti69, ti70, ti71, ti72, ti73, ti74]
  repeat (((with_reducible refine And.intro ?_ ?_)); (focus (first | omega | (simp only [inR]; omega) | rfl | (simp [notinId, notin]; done) | exact Or.inr rfl | (intro i hi; (repeat' (with_reducible first | apply len_cut | apply len_shift | apply len_app | apply len_copy | intro j)) <;> first | rfl | (exact len_lit _ _ (by simp) rfl _) | (simp; done)))))
  refine EffC.use k10 ?_ (.inl rfl) ?_
  · ((refine evL ?_; (try (with_reducible exact True.intro))) <;> (try simp (disch := (first | omega | (simp only [List.length_append, List.length_cons, List.length_nil, List.length_take, List.length_drop, List.length_map, two_length, sumB_length, frameB_length] <;> omega) | fail)) only [cutF_all, strOf_enc, appF_zero, appF_enc, lit_byte, shiftF_enc, shiftF_0, cutF_enc, List.nil_append, List.drop_zero, List.take_of_length_le]) <;> (repeat' (with_reducible refine And.intro ?_ ?_)) <;> first | trivial | rfl | (intros; first | rfl | trivial; done) | (first | omega | (simp only [List.length_append, List.length_cons, List.length_nil, List.length_take, List.length_drop, List.length_map, two_length, sumB_length, frameB_length] <;> omega) | fail))
  (refine ev ?_; (try (with_reducible exact True.intro)))
  repeat (((with_reducible refine And.intro ?_ ?_)); (focus (first | omega | (simp only [inR]; omega) | rfl | (simp [notinId, notin]; done) | exact Or.inr rfl | (intro i hi; (repeat' (with_reducible first | apply len_cut | apply len_shift | apply len_app | apply len_copy | intro j)) <;> first | rfl | (exact len_lit _ _ (by simp) rfl _) | (simp; done)))))
  refine EffC.use (k22 rs) ?_ (.inl rfl) ?_
  · ((refine evL ?_; (try (with_reducible exact True.intro))) <;> (try simp (disch := (first | omega | (simp only [List.length_append, List.length_cons, List.length_nil, List.length_take, List.length_drop, List.length_map, two_length, sumB_length, frameB_length] <;> omega) | fail)) only [cutF_all, strOf_enc, appF_zero, appF_enc, lit_byte, shiftF_enc, shiftF_0, cutF_enc, List.nil_append, List.drop_zero, List.take_of_length_le]) <;> (repeat' (with_reducible refine And.intro ?_ ?_)) <;> first | trivial | rfl | (intros; first | rfl | trivial; done) | (first | omega | (simp only [List.length_append, List.length_cons, List.length_nil, List.length_take, List.length_drop, List.length_map, two_length, sumB_length, frameB_length] <;> omega) | fail))
  (refine ev ?_; (try (with_reducible exact True.intro)))
  repeat (((with_reducible refine And.intro ?_ ?_)); (focus (first | omega | (simp only [inR]; omega) | rfl | (simp [notinId, notin]; done) | exact Or.inr rfl | (intro i hi; (repeat' (with_reducible first | apply len_cut | apply len_shift | apply len_app | apply len_copy | intro j)) <;> first | rfl | (exact len_lit _ _ (by simp) rfl _) | (simp; done)))))
  refine gs (fun hs => ?_) (fun hs => ?_)
  · (refine ev ?_; (try (with_reducible exact True.intro)))
    simp [notinId]
  (refine ev ?_; (try (with_reducible exact True.intro)))
  repeat (((with_reducible refine And.intro ?_ ?_)); (focus (first | omega | (simp only [inR]; omega) | rfl | (simp [notinId, notin]; done) | exact Or.inr rfl | (intro i hi; (repeat' (with_reducible first | apply len_cut | apply len_shift | apply len_app | apply len_copy | intro j)) <;> first | rfl | (exact len_lit _ _ (by simp) rfl _) | (simp; done)))))
  refine gsd (fun ht => ?_) (fun ht => ?_)
  · (refine ev ?_; (try (with_reducible exact True.intro)))
    simp [notinId]
  (refine ev ?_; (try (with_reducible exact True.intro)))
  repeat (((with_reducible refine And.intro ?_ ?_)); (focus (first | omega | (simp only [inR]; omega) | rfl | (simp [notinId, notin]; done) | exact Or.inr rfl | (intro i hi; (repeat' (with_reducible first | apply len_cut | apply len_shift | apply len_app | apply len_copy | intro j)) <;> first | rfl | (exact len_lit _ _ (by simp) rfl _) | (simp; done)))))
  have hsh : shortB rs = true := by simpa using hs
  obtain ⟨l, hj, hl, hl15⟩ := wholeB_frames hsh
  have hfl := frames_length hl
  have hok : ∀ x ∈ l, okR x := fun x hx => (hl x hx).1
  have a23 := k23 rs hsh
  rw [hj] at a23
  refine EffC.use a23 ?_ (.inr rfl) ?_
  · ((refine evL ?_; (try (with_reducible exact True.intro))) <;> (try simp (disch := (first | omega | (simp only [List.length_append, List.length_cons, List.length_nil, List.length_take, List.length_drop, List.length_map, two_length, sumB_length, frameB_length] <;> omega) | fail)) only [cutF_all, strOf_enc, appF_zero, appF_enc, lit_byte, shiftF_enc, shiftF_0, cutF_enc, List.nil_append, List.drop_zero, List.take_of_length_le]) <;> (repeat' (with_reducible refine And.intro ?_ ?_)) <;> first | trivial | rfl | (intros; first | rfl | trivial; done) | (first | omega | (simp only [List.length_append, List.length_cons, List.length_nil, List.length_take, List.length_drop, List.length_map, two_length, sumB_length, frameB_length] <;> omega) | fail))
  (refine ev ?_; (try (with_reducible exact True.intro)))
  repeat (((with_reducible refine And.intro ?_ ?_)); (focus (first | omega | (simp only [inR]; omega) | rfl | (simp [notinId, notin]; done) | exact Or.inr rfl | (intro i hi; (repeat' (with_reducible first | apply len_cut | apply len_shift | apply len_app | apply len_copy | intro j)) <;> first | rfl | (exact len_lit _ _ (by simp) rfl _) | (simp; done)))))
  have a15 := k15 (frames l) (by omega)
  simp only [recsR, recs_whole l 500 hok (by omega)] at a15
  refine EffC.use a15 ?_ (.inr rfl) ?_
  · ((refine evL ?_; (try (with_reducible exact True.intro))) <;> (try simp (disch := (first | omega | (simp only [List.length_append, List.length_cons, List.length_nil, List.length_take, List.length_drop, List.length_map, two_length, sumB_length, frameB_length] <;> omega) | fail)) only [cutF_all, strOf_enc, appF_zero, appF_enc, lit_byte, shiftF_enc, shiftF_0, cutF_enc, List.nil_append, List.drop_zero, List.take_of_length_le]) <;> (repeat' (with_reducible refine And.intro ?_ ?_)) <;> first | trivial | rfl | (intros; first | rfl | trivial; done) | (first | omega | (simp only [List.length_append, List.length_cons, List.length_nil, List.length_take, List.length_drop, List.length_map, two_length, sumB_length, frameB_length] <;> omega) | fail))
  (refine ev ?_; (try (with_reducible exact True.intro)))
  repeat (((with_reducible refine And.intro ?_ ?_)); (focus (first | omega | (simp only [inR]; omega) | rfl | (simp [notinId, notin]; done) | exact Or.inr rfl | (intro i hi; (repeat' (with_reducible first | apply len_cut | apply len_shift | apply len_app | apply len_copy | intro j)) <;> first | rfl | (exact len_lit _ _ (by simp) rfl _) | (simp; done)))))
  simp (disch := (first | omega | (simp only [List.length_append, List.length_cons, List.length_nil, List.length_take, List.length_drop, List.length_map, two_length, sumB_length, frameB_length] <;> omega) | fail)) only [cutF_all, strOf_enc, appF_zero, appF_enc, lit_byte, shiftF_enc, shiftF_0, cutF_enc, List.nil_append, List.drop_zero, List.take_of_length_le]
  have er := recs_frames l 500 t hok (by omega)
  obtain ⟨m2, hm2⟩ : ∃ m2, m2 = (recs (500 - l.length) t).1 := ⟨_, rfl⟩
  obtain ⟨n2, hn2⟩ : ∃ n2, n2 = (recs (500 - l.length) t).2 := ⟨_, rfl⟩
  rw [← hm2, ← hn2] at er
  have b15 := k15 (frames l ++ t) (by rw [List.length_append]; omega)
  simp only [recsR, er] at b15
  have hle := recs_le_length 500 (frames l ++ t)
  rw [er, List.length_append] at hle
  have hlm := (recs_spec 500 (frames l ++ t)).2.1
  rw [er] at hlm
  have hla : (l ++ m2).length = l.length + m2.length := List.length_append
  simp only at hle hlm
  refine SH.EffC.freeze 2 rfl ?_
  refine EffC.use b15 ?_ (.inr rfl) ?_
  · ((refine evL ?_; (try (with_reducible exact True.intro))) <;> (try simp (disch := (first | omega | (simp only [List.length_append, List.length_cons, List.length_nil, List.length_take, List.length_drop, List.length_map, two_length, sumB_length, frameB_length] <;> omega) | fail)) only [cutF_all, strOf_enc, appF_zero, appF_enc, lit_byte, shiftF_enc, shiftF_0, cutF_enc, List.nil_append, List.drop_zero, List.take_of_length_le]) <;> (repeat' (with_reducible refine And.intro ?_ ?_)) <;> first | trivial | rfl | (intros; first | rfl | trivial; done) | (first | omega | (simp only [List.length_append, List.length_cons, List.length_nil, List.length_take, List.length_drop, List.length_map, two_length, sumB_length, frameB_length] <;> omega) | fail))
  (refine ev ?_; (try (with_reducible exact True.intro)))
  repeat (((with_reducible refine And.intro ?_ ?_)); (focus (first | omega | (simp only [inR]; omega) | rfl | (simp [notinId, notin]; done) | exact Or.inr rfl | (intro i hi; (repeat' (with_reducible first | apply len_cut | apply len_shift | apply len_app | apply len_copy | intro j)) <;> first | rfl | (exact len_lit _ _ (by simp) rfl _) | (simp; done)))))
  try simp only [hla]
  (repeat ((with_reducible first | refine gs (fun _ => ?_) (fun h => absurd h (by decide)) | refine gs (fun h => absurd h (by decide)) (fun _ => ?_)); ((refine ev ?_; (try (with_reducible exact True.intro)))); (repeat (((with_reducible refine And.intro ?_ ?_)); (focus (first | omega | (simp only [inR]; omega) | rfl | (simp [notinId, notin]; done) | exact Or.inr rfl | (intro i hi; (repeat' (with_reducible first | apply len_cut | apply len_shift | apply len_app | apply len_copy | intro j)) <;> first | rfl | (exact len_lit _ _ (by simp) rfl _) | (simp; done))))))))
  refine gsd (fun _ => ?_) (fun h => absurd h (by omega))
  (refine ev ?_; (try (with_reducible exact True.intro)))
  repeat (((with_reducible refine And.intro ?_ ?_)); (focus (first | omega | (simp only [inR]; omega) | rfl | (simp [notinId, notin]; done) | exact Or.inr rfl | (intro i hi; (repeat' (with_reducible first | apply len_cut | apply len_shift | apply len_app | apply len_copy | intro j)) <;> first | rfl | (exact len_lit _ _ (by simp) rfl _) | (simp; done)))))
  simp only [hla]
  refine gsd (fun _ => ?_) (fun h => absurd h (by omega))
  (refine ev ?_; (try (with_reducible exact True.intro)))
  simp only [hla, Int.toNat_natCast]
  repeat (((with_reducible refine And.intro ?_ ?_)); (focus (first | omega | (simp only [inR]; omega) | rfl | (simp [notinId, notin]; done) | exact Or.inr rfl | (intro i hi; (repeat' (with_reducible first | apply len_cut | apply len_shift | apply len_app | apply len_copy | intro j)) <;> first | rfl | (exact len_lit _ _ (by simp) rfl _) | (simp; done)))))
  simp (disch := (first | omega | (simp only [List.length_append, List.length_cons, List.length_nil, List.length_take, List.length_drop, List.length_map, two_length, sumB_length, frameB_length] <;> omega) | fail)) only [cutF_all, strOf_enc, appF_zero, appF_enc, lit_byte, shiftF_enc, shiftF_0, cutF_enc, List.nil_append, List.drop_zero, List.take_of_length_le]
  have htk : (l ++ m2).take l.length = l := List.take_left
  simp only [htk]
  refine EffC.use (k20 l l (by omega) (fun x hx => ?_)) ?_ (.inl rfl) ?_
  · have := (hl x hx).2; omega
  · ((refine evL ?_; (try (with_reducible exact True.intro))) <;> (try simp (disch := (first | omega | (simp only [List.length_append, List.length_cons, List.length_nil, List.length_take, List.length_drop, List.length_map, two_length, sumB_length, frameB_length] <;> omega) | fail)) only [cutF_all, strOf_enc, appF_zero, appF_enc, lit_byte, shiftF_enc, shiftF_0, cutF_enc, List.nil_append, List.drop_zero, List.take_of_length_le]) <;> (repeat' (with_reducible refine And.intro ?_ ?_)) <;> first | trivial | rfl | (intros; first | rfl | trivial; done) | (first | omega | (simp only [List.length_append, List.length_cons, List.length_nil, List.length_take, List.length_drop, List.length_map, two_length, sumB_length, frameB_length] <;> omega) | fail))
  (refine ev ?_; (try (with_reducible exact True.intro)))
  repeat (((with_reducible refine And.intro ?_ ?_)); (focus (first | omega | (simp only [inR]; omega) | rfl | (simp [notinId, notin]; done) | exact Or.inr rfl | (intro i hi; (repeat' (with_reducible first | apply len_cut | apply len_shift | apply len_app | apply len_copy | intro j)) <;> first | rfl | (exact len_lit _ _ (by simp) rfl _) | (simp; done)))))
  simp [notinId]
end Go.Proofs.Ytaimbfihehglhaa
