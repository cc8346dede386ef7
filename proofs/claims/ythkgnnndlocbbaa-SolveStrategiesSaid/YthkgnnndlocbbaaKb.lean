/-
  The reference's Valid, right, can: what they return. No condition.
-/
import Derived.Test.YthkgnnndlocbbaaKa
namespace Go.Proofs.Ythkgnnndlocbbaa
set_option linter.unusedVariables false
set_option linter.unusedSimpArgs false
open Go Go.SH
set_option maxRecDepth 10000
set_option maxHeartbeats 2000000
def posB (n : Nat) (ow pr : List Int) (su : List (List Int)) (i : Nat) : Bool :=
  (ow.getD i 0 == 0 || ow.getD i 0 == 1) && decide (0 ≤ pr.getD i 0) && decide (pr.getD i 0 ≤ 30000) && decide (0 < (su.getD i []).length) && (su.getD i []).all fun t => decide (0 ≤ t) && decide (t < n)
def validB (ow pr : List Int) (su : List (List Int)) : Bool := decide (ow.length ≤ 3000) && decide (pr.length = ow.length) && decide (su.length = ow.length) && (List.range ow.length).all (posB ow.length ow pr su)
theorem getD_mem {α : Type} {l : List α} {i : Nat} (h : i < l.length) (d : α) : l.getD i d ∈ l := by
  rw [List.getD_eq_getElem?_getD, List.getElem?_eq_getElem h]; simp
theorem validB_no {ow pr : List Int} {su : List (List Int)} (h : 3000 < ow.length ∨ pr.length ≠ ow.length ∨ su.length ≠ ow.length ∨ ∃ i, i < ow.length ∧ posB ow.length ow pr su i = false) : validB ow pr su = false := by
  rcases h with h | h | h | ⟨i, hi, h⟩
  · simp [validB, show ¬ ow.length ≤ 3000 by omega]
  · simp [validB, h]
  · simp [validB, h]
  · have : (List.range ow.length).all (posB ow.length ow pr su) = false := by
      rw [← Bool.not_eq_true, List.all_eq_true]; intro g; rw [g i (List.mem_range.2 hi)] at h; cases h
    rw [validB, this, Bool.and_false]
theorem k29 (ow pr : List Int) (su : List (List Int)) (hsu : ∀ r ∈ su, r.length < 2 ^ 40) : Contract Try.prog 36 [game ow pr su] (.one (.val (.bool (validB ow pr su)))) := by
  refine ct36 (SH.Sem.of_wpA hm ?_)
  simp only [padA]
  simp only [Try.f36, Option.getD, w_skip, w_reg, w_regd, w_seq, w_cond, w_block, w_loop, w_rf, w_exit, w_ret, f_ok, f_call, f_yield, yK_cons, a_normal, r_normal, r_ret, r_exit, rg_cons, putL, frz, beq_self_eq_true, Nat.reduceBEq, updG_same, f_bad, cK_nil, cK_cons, v_nil, v_cons, gK_tt, gK_ff, gK_tf, gK_ft, dK_go, d_nil, d_cons, gD_tt, gD_ff, gD_tf, gD_ft, eC_one, eC_tup, eC_own, eE_ok, eE_bad, eD, eff, eBin, eEq, eUn, eConv, eLen, eMin, eMax, eField, eFieldAddr, eIndex, eIndexAddr, eSlice, eLoad, eStore, eAlloc, eBox, eBuild, eBuildSlice, eMake, eAppend, eCopy, eMakeMap, eMapUpdate, eLookup, lookV, optN, eNil, ePick, eExtract, E.pure, Eff.only, Eff.notB, evalA, AV.ofV, AV.ofC, sget, sput, putA, applyU, hset, hget, hlen, alen, takeA, dropA, spliceA, mapA, allA, lget, oget, pget, tget, cellsA, AV.one, AV.goneB, partA, partC, TK.isAgg, nilish, natA, natC, loN, hiN, optC, roCut, loadP, loadC, aggOr, fillA, fillC, allPos, partsC, partsCells, partsAll, kills, killIds, liveAll, gnd, srcOf, inBlk, mapO, mapP, Go.SH.IntKind.uns, TK.flat, eqSc, eqScC, eqFs, eqFsC, seqK, blockK, condK, l_exit, l_ret, retK, retS, rsV, rsC, allT, padA, mapT, glook, bsel, gsplit_true, gsplit_false, resOf, resIds, resAll, nodupN, notin, like, like1, likeL, likeAll, AV.np, AV.gb, idsR, idsM, retI, retR, reify, AR.v, AR.u, AR.nv, nvec, impV, impU, isAlloc, callOf, countA, upIds, Option.map_none, Option.map_some, Option.isSome_some, Option.isSome_none, List.map_cons, List.map_nil, true_and, and_true, List.cons_append, List.nil_append, List.append_nil, List.length_cons, List.length_nil, List.nodup_nil, List.not_mem_nil, not_false_eq_true, ne_eq, reduceCtorEq, Bool.and_true, Bool.true_and, Bool.not_true, Bool.not_false, if_true, if_false, reduceIte, en_byte, en_byte', en_int, en_int', en_bool, en_bool', en_str, en_str', en_row, en_row', sh_at, sh_at', and_assoc, Nat.zero_add, Nat.add_zero, Nat.reduceAdd, appF_zero, Option.isNone_none, Option.isNone_some, en_byteL, en_intL, en_rowL, Int.reduceToNat, Nat.mul_one, Nat.one_mul, Nat.zero_mul, Nat.reduceMul, Nat.reduceSub, Nat.sub_zero, bne_self_eq_false, ti1, ti2, ti3, ti4, ti5, ti6, ti7, ti8, ti9, ti10, ti11, ti12, ti13, ti14, ti15, ti16, ti17, ti18, ti19, ti21, ti22, ti23, ti24, ti25, ti26, ti27, ti28, ti30, ti31, ti33, ti34, ti35, ti36, ti37, ti38, ti39, ti40, ti41, ti42, ti43, ti45, ti46, ti47, ti48, ti49, ti50, ti51, ti52, ti53, ti54, ti55, ti57, ti58, ti59, ti60, ti61, ti62, ti63, ti64, ti65, ti66, ti67, ti68, ti69, ti70, ti71, ti72, ti73, ti74, ti75, ti76, ti77, ti78, ti79, ti80, ti81, ti82, ti83, ti85, ti86, ti87, ti88, ti89, ti90, ti91, ti92, ti93, ti94, ti95, ti96, ti97, ti98, ti99, ti100, ti101, ti102, ti103, ti104, ti105, ti106, ti107, ti108, ti109]
  repeat (((with_reducible refine And.intro ?_ ?_)); (focus (first | omega | (simp only [inR]; omega) | rfl | (simp [notinId, notin]; done) | exact Or.inr rfl | (intro i hi; (repeat' (with_reducible first | apply len_cut | apply len_shift | apply len_app | apply len_copy | intro j)) <;> first | rfl | (exact len_lit _ _ (by simp) rfl _) | (simp; done)))))
  refine gsd (fun h => ?_) (fun h1 => ?_)
  · (refine ev ?_; (try (with_reducible exact True.intro)))
    simp [validB_no (ow := ow) (pr := pr) (su := su) (.inl (by omega)), notinId]
  (refine ev ?_; (try (with_reducible exact True.intro)))
  repeat (((with_reducible refine And.intro ?_ ?_)); (focus (first | omega | (simp only [inR]; omega) | rfl | (simp [notinId, notin]; done) | exact Or.inr rfl | (intro i hi; (repeat' (with_reducible first | apply len_cut | apply len_shift | apply len_app | apply len_copy | intro j)) <;> first | rfl | (exact len_lit _ _ (by simp) rfl _) | (simp; done)))))
  refine gs (fun h => ?_) (fun h2 => ?_)
  · (refine ev ?_; (try (with_reducible exact True.intro)))
    simp [validB_no (ow := ow) (pr := pr) (su := su) (.inr (.inl (by simp at h; omega))), notinId]
  (refine ev ?_; (try (with_reducible exact True.intro)))
  repeat (((with_reducible refine And.intro ?_ ?_)); (focus (first | omega | (simp only [inR]; omega) | rfl | (simp [notinId, notin]; done) | exact Or.inr rfl | (intro i hi; (repeat' (with_reducible first | apply len_cut | apply len_shift | apply len_app | apply len_copy | intro j)) <;> first | rfl | (exact len_lit _ _ (by simp) rfl _) | (simp; done)))))
  refine gs (fun h => ?_) (fun h3 => ?_)
  · (refine ev ?_; (try (with_reducible exact True.intro)))
    simp [validB_no (ow := ow) (pr := pr) (su := su) (.inr (.inr (.inl (by simp at h; omega)))), notinId]
  have h2 : pr.length = ow.length := by simp at h2; omega
  have h3 : su.length = ow.length := by simp at h3; omega
  (refine ev ?_; (try (with_reducible exact True.intro)))
  repeat (((with_reducible refine And.intro ?_ ?_)); (focus (first | omega | (simp only [inR]; omega) | rfl | (simp [notinId, notin]; done) | exact Or.inr rfl | (intro i hi; (repeat' (with_reducible first | apply len_cut | apply len_shift | apply len_app | apply len_copy | intro j)) <;> first | rfl | (exact len_lit _ _ (by simp) rfl _) | (simp; done)))))
  refine SH.Sem.loop hm (fun i : Nat => ⟨padA [game ow pr su, .ptr 0 0 0, .undef, .int .i64 ow.length, .int .i64 i] 101, [.box [intRow ow, intRow pr, intRows su]]⟩) (fun i => i ≤ ow.length ∧ ∀ k, k < i → posB ow.length ow pr su k = true) (fun i => ow.length - i) [0] 0 ⟨by omega, by intro k hk; omega⟩ ?_ fun i ⟨g1, g2⟩ => ?_
  · simp only [padA, St.le, slotsLe, heapLe, blkLe, rowLe, live, injOn, loLe, nget, nlook, ren, okA, allP, mapA, hget, ABlk.used, notin, List.map_cons, List.map_nil, true_or, or_true, false_or, or_false, true_and, and_true, and_self, AV.int.injEq, AV.bool.injEq, AV.str.injEq, AV.sl.injEq, AV.ro.injEq, AV.agg.injEq, List.cons.injEq, reduceCtorEq, ne_eq, not_false_eq_true, not_true_eq_false]; simp
  simp only [padA]
  (refine ev ?_; (try (with_reducible exact True.intro)))
  repeat (((with_reducible refine And.intro ?_ ?_)); (focus (first | omega | (simp only [inR]; omega) | rfl | (simp [notinId, notin]; done) | exact Or.inr rfl | (intro i hi; (repeat' (with_reducible first | apply len_cut | apply len_shift | apply len_app | apply len_copy | intro j)) <;> first | rfl | (exact len_lit _ _ (by simp) rfl _) | (simp; done)))))
  refine gsd (fun hc => ?_) (fun hc => ?_)
  · have hi : i < ow.length := by omega
    (refine ev ?_; (try (with_reducible exact True.intro)))
    repeat (((with_reducible refine And.intro ?_ ?_)); (focus (first | omega | (simp only [inR]; omega) | rfl | (simp [notinId, notin]; done) | exact Or.inr rfl | (intro i hi; (repeat' (with_reducible first | apply len_cut | apply len_shift | apply len_app | apply len_copy | intro j)) <;> first | rfl | (exact len_lit _ _ (by simp) rfl _) | (simp; done)))))
    simp only [Int.toNat_natCast]
    have hrow : (su.getD i []).length < 2 ^ 40 := hsu _ (getD_mem (by omega) _)
    obtain ⟨o, ho⟩ : ∃ o, ow.getD i 0 = o := ⟨_, rfl⟩
    obtain ⟨p, hp⟩ : ∃ p, pr.getD i 0 = p := ⟨_, rfl⟩
    obtain ⟨row, hr⟩ : ∃ row, su.getD i [] = row := ⟨_, rfl⟩
    have hpos : posB ow.length ow pr su i = ((o == 0 || o == 1) && decide (0 ≤ p) && decide (p ≤ 30000) && decide (0 < row.length) && row.all fun t => decide (0 ≤ t) && decide (t < ow.length)) := by
      unfold posB; rw [ho, hp, hr]
    rw [hr] at hrow
    simp only [ho]
    repeat' ((first | (with_reducible refine gsd (fun hg => ?_) (fun hg => ?_)) | (with_reducible refine gs (fun hg => ?_) (fun hg => ?_)) | (refine ExCall.use k37 trivial (.inl rfl) ?_)) <;> ((refine ev ?_; (try (with_reducible exact True.intro)))) <;> (repeat (((with_reducible refine And.intro ?_ ?_)); (focus (first | omega | (simp only [inR]; omega) | rfl | (simp [notinId, notin]; done) | exact Or.inr rfl | (intro i hi; (repeat' (with_reducible first | apply len_cut | apply len_shift | apply len_app | apply len_copy | intro j)) <;> first | rfl | (exact len_lit _ _ (by simp) rfl _) | (simp; done)))))) <;> (try simp only [Int.toNat_natCast, ho, hp, hr]))
    all_goals (try (refine ⟨?_, by simp [notinId]⟩; rw [validB_no (.inr (.inr (.inr ⟨i, hi, by rw [hpos]; simp_all; try omega⟩)))]; done))
    all_goals (
      have hfst : ((o == 0 || o == 1) && decide (0 ≤ p) && decide (p ≤ 30000) && decide (0 < row.length)) = true := by
        simp_all
        exact List.length_pos_iff.2 (by assumption)
      have rno : ∀ t ∈ row, (t < 0 ∨ (ow.length : Int) ≤ t) → validB ow pr su = false := by
        intro t ht h
        refine validB_no (.inr (.inr (.inr ⟨i, hi, ?_⟩)))
        have : row.all (fun t => decide (0 ≤ t) && decide (t < (ow.length : Int))) = false := by
          rw [← Bool.not_eq_true, List.all_eq_true]; intro g; have := g t ht; simp at this; omega
        rw [hpos, this, Bool.and_false]
      refine SH.Sem.loop hm (fun k : Nat => ⟨padA [game ow pr su, .ptr 0 0 0, .undef, .int .i64 ow.length, .int .i64 i, .int .i64 k] 101, [.box [intRow ow, intRow pr, intRows su]]⟩) (fun k => k ≤ row.length ∧ ∀ t ∈ row.take k, 0 ≤ t ∧ t < ow.length) (fun k => row.length - k) [0] 0 ⟨by omega, by simp⟩ ?_ fun k ⟨f1, f2⟩ => ?_
      · simp only [padA, St.le, slotsLe, heapLe, blkLe, rowLe, live, injOn, loLe, nget, nlook, ren, okA, allP, mapA, hget, ABlk.used, notin, List.map_cons, List.map_nil, true_or, or_true, false_or, or_false, true_and, and_true, and_self, AV.int.injEq, AV.bool.injEq, AV.str.injEq, AV.sl.injEq, AV.ro.injEq, AV.agg.injEq, List.cons.injEq, reduceCtorEq, ne_eq, not_false_eq_true, not_true_eq_false]; simp
      simp only [padA]
      (refine ev ?_; (try (with_reducible exact True.intro)))
      simp only [Int.toNat_natCast, hr]
      repeat (((with_reducible refine And.intro ?_ ?_)); (focus (first | omega | (simp only [inR]; omega) | rfl | (simp [notinId, notin]; done) | exact Or.inr rfl | (intro i hi; (repeat' (with_reducible first | apply len_cut | apply len_shift | apply len_app | apply len_copy | intro j)) <;> first | rfl | (exact len_lit _ _ (by simp) rfl _) | (simp; done)))))
      refine gsd (fun hd => ?_) (fun hd => ?_)
      · have hk : k < row.length := by omega
        have hmem := getD_mem hk 0
        (refine ev ?_; (try (with_reducible exact True.intro)))
        simp only [Int.toNat_natCast, hr]
        repeat (((with_reducible refine And.intro ?_ ?_)); (focus (first | omega | (simp only [inR]; omega) | rfl | (simp [notinId, notin]; done) | exact Or.inr rfl | (intro i hi; (repeat' (with_reducible first | apply len_cut | apply len_shift | apply len_app | apply len_copy | intro j)) <;> first | rfl | (exact len_lit _ _ (by simp) rfl _) | (simp; done)))))
        refine gsd (fun h5 => ?_) (fun h5 => ?_)
        · (refine ev ?_; (try (with_reducible exact True.intro)))
          simp [rno _ hmem (.inl h5), notinId]
        (refine ev ?_; (try (with_reducible exact True.intro)))
        simp only [Int.toNat_natCast, hr]
        repeat (((with_reducible refine And.intro ?_ ?_)); (focus (first | omega | (simp only [inR]; omega) | rfl | (simp [notinId, notin]; done) | exact Or.inr rfl | (intro i hi; (repeat' (with_reducible first | apply len_cut | apply len_shift | apply len_app | apply len_copy | intro j)) <;> first | rfl | (exact len_lit _ _ (by simp) rfl _) | (simp; done)))))
        refine gsd (fun h6 => ?_) (fun h6 => ?_)
        · (refine ev ?_; (try (with_reducible exact True.intro)))
          simp [rno _ hmem (.inr h6), notinId]
        (refine ev ?_; (try (with_reducible exact True.intro)))
        repeat (((with_reducible refine And.intro ?_ ?_)); (focus (first | omega | (simp only [inR]; omega) | rfl | (simp [notinId, notin]; done) | exact Or.inr rfl | (intro i hi; (repeat' (with_reducible first | apply len_cut | apply len_shift | apply len_app | apply len_copy | intro j)) <;> first | rfl | (exact len_lit _ _ (by simp) rfl _) | (simp; done)))))
        refine ⟨k + 1, [0], ⟨by omega, ?_⟩, by show row.length - (k + 1) < row.length - k; omega, ?_⟩
        · rw [take_next row 0 k hk]
          intro t ht
          rcases List.mem_append.1 ht with ht | ht
          · exact f2 t ht
          · rw [List.mem_singleton] at ht; subst ht; omega
        · simp only [padA, St.le, slotsLe, heapLe, blkLe, rowLe, live, injOn, loLe, nget, nlook, ren, okA, allP, mapA, hget, ABlk.used, notin, List.map_cons, List.map_nil, true_or, or_true, false_or, or_false, true_and, and_true, and_self, AV.int.injEq, AV.bool.injEq, AV.str.injEq, AV.sl.injEq, AV.ro.injEq, AV.agg.injEq, List.cons.injEq, reduceCtorEq, ne_eq, not_false_eq_true, not_true_eq_false]; simp
      · have hk : k = row.length := by omega
        subst hk
        rw [List.take_length] at f2
        (refine ev ?_; (try (with_reducible exact True.intro)))
        repeat (((with_reducible refine And.intro ?_ ?_)); (focus (first | omega | (simp only [inR]; omega) | rfl | (simp [notinId, notin]; done) | exact Or.inr rfl | (intro i hi; (repeat' (with_reducible first | apply len_cut | apply len_shift | apply len_app | apply len_copy | intro j)) <;> first | rfl | (exact len_lit _ _ (by simp) rfl _) | (simp; done)))))
        refine ⟨i + 1, [0], ⟨by omega, ?_⟩, by show ow.length - (i + 1) < ow.length - i; omega, ?_⟩
        · intro q hq
          rcases Nat.lt_or_ge q i with h | h
          · exact g2 q h
          · obtain rfl : q = i := by omega
            rw [hpos, hfst, Bool.true_and, List.all_eq_true]
            intro t ht; have := f2 t ht; simp; omega
        · simp only [padA, St.le, slotsLe, heapLe, blkLe, rowLe, live, injOn, loLe, nget, nlook, ren, okA, allP, mapA, hget, ABlk.used, notin, List.map_cons, List.map_nil, true_or, or_true, false_or, or_false, true_and, and_true, and_self, AV.int.injEq, AV.bool.injEq, AV.str.injEq, AV.sl.injEq, AV.ro.injEq, AV.agg.injEq, List.cons.injEq, reduceCtorEq, ne_eq, not_false_eq_true, not_true_eq_false]; simp)
  · have hi : i = ow.length := by omega
    subst hi
    have e : validB ow pr su = true := by
      simp only [validB, Bool.and_eq_true, decide_eq_true_eq, List.all_eq_true]
      exact ⟨⟨⟨by omega, h2⟩, h3⟩, fun x hx => g2 x (List.mem_range.1 hx)⟩
    (refine ev ?_; (try (with_reducible exact True.intro)))
    simp [e, notinId]
end Go.Proofs.Ythkgnnndlocbbaa
