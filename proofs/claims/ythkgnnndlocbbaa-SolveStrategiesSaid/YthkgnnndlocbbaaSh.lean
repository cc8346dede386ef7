/-
  The solver's laws: the fixed examples are as they say. No condition.
-/
import Derived.Test.YthkgnnndlocbbaaSg
namespace Go.Proofs.Ythkgnnndlocbbaa
set_option linter.unusedVariables false
set_option linter.unusedSimpArgs false
open Go Go.SH Go.Parity
set_option maxRecDepth 100000
set_option maxHeartbeats 4000000
theorem ex5n : Contract Try.prog 20 [.agg [intRow [0], intRow [0], .ro 1 (fun _ => [.raw (.slice none 0 0)])]] (.one (.val (intRow []))) := by
  refine ex5.via rfl fun i a a' h1 h2 w M v h => ?_
  match i, h1, h2 with
  | 0, h1, h2 =>
    simp at h1 h2; subst h1 h2
    cases h with
    | agg hl hc =>
      refine .agg hl fun j c u h3 h4 => ?_
      match j, h3 with
      | 0, h3 => simp at h3; subst h3; exact hc 0 _ u rfl h4
      | 1, h3 => simp at h3; subst h3; exact hc 1 _ u rfl h4
      | 2, h3 =>
        simp at h3; subst h3
        have := hc 2 _ u rfl h4
        refine this.rows (fun i hi => rfl) fun i j c c' hi h5 h6 x hx => ?_
        have hi0 : i = 0 := by simp at hi; omega
        subst hi0
        match j, h5, h6 with
        | 0, h5, h6 =>
          simp at h5; subst h5
          have h6 : AV.ro 0 (encL (cInt .i64) 0 []) = c' := by simpa [encL, cRow] using h6
          subst h6; exact hx.nil0
        | j + 1, h5, h6 => simp at h5
      | j + 3, h3 => simp at h3
  | i + 1, h1, h2 => simp at h1
theorem c17 : Contract Try.prog 17 [] (.one (.val (.bool true))) := by
  have e1 := ex1
  have e2 := ex2
  have e3 := ex3
  have e4 := ex4
  have e5 := ex5n
  have b1 := k11 [0, 1, 0, 1] [1, 1, 0, 1] [[1, 2], [0, 3], [2], [2, 3]] 0 [false, false, true, false] (by decide) (by decide) (by decide) (by decide)
  rw [show refAttract [0, 1, 0, 1] [1, 1, 0, 1] [[1, 2], [0, 3], [2], [2, 3]] 0 [false, false, true, false] = ([true, false, true, false], [1, -1, 0, -1]) by decide +kernel] at b1
  have b2 := k23 [0, 1, 0, 1] [0, 0, 0, 0] [[1, 2], [0, 3], [2], [2, 3]] (by decide) (by decide) (by decide) (by decide)
  rw [show validB [0, 1, 0, 1] [0, 0, 0, 0] [[1, 2], [0, 3], [2], [2, 3]] = true by decide +kernel] at b2
  have d1 := c19 [0, 1, 0, 1] [0, 1, 0, 1] (by decide)
  rw [show (([0, 1, 0, 1] : List Int) == [0, 1, 0, 1]) = true from by decide] at d1
  have d2 := c19 [1, 1, 1, 1] [1, 1, 1, 1] (by decide)
  rw [show (([1, 1, 1, 1] : List Int) == [1, 1, 1, 1]) = true from by decide] at d2
  have d4 := c19 [0, 0, 0, 0] [0, 0, 0, 0] (by decide)
  rw [show (([0, 0, 0, 0] : List Int) == [0, 0, 0, 0]) = true from by decide] at d4
  have d5 := k13 [true, false, true, false] [true, false, true, false] (by decide)
  rw [show ([true, false, true, false] == [true, false, true, false]) = true from rfl] at d5
  refine ct17 (SH.Sem.of_wpA hm ?_)
  simp only [padA]
  simp only [Try.f17, Option.getD, w_skip, w_reg, w_regd, w_seq, w_cond, w_block, w_loop, w_rf, w_exit, w_ret, f_ok, f_call, f_yield, yK_cons, a_normal, r_normal, r_ret, r_exit, rg_cons, putL, frz, beq_self_eq_true, Nat.reduceBEq, updG_same, f_bad, cK_nil, cK_cons, v_nil, v_cons, gK_tt, gK_ff, gK_tf, gK_ft, dK_go, d_nil, d_cons, gD_tt, gD_ff, gD_tf, gD_ft, eC_one, eC_tup, eC_own, eE_ok, eE_bad, eD, eff, eBin, eEq, eUn, eConv, eLen, eMin, eMax, eField, eFieldAddr, eIndex, eIndexAddr, eSlice, eLoad, eStore, eAlloc, eBox, eBuild, eBuildSlice, eMake, eAppend, eCopy, eMakeMap, eMapUpdate, eLookup, lookV, optN, eNil, ePick, eExtract, E.pure, Eff.only, Eff.notB, evalA, AV.ofV, AV.ofC, sget, sput, putA, applyU, hset, hget, hlen, alen, takeA, dropA, spliceA, mapA, allA, lget, oget, pget, tget, cellsA, AV.one, AV.goneB, partA, partC, TK.isAgg, nilish, natA, natC, loN, hiN, optC, roCut, loadP, loadC, aggOr, fillA, fillC, allPos, partsC, partsCells, partsAll, kills, killIds, liveAll, gnd, srcOf, inBlk, mapO, mapP, Go.SH.IntKind.uns, TK.flat, eqSc, eqScC, eqFs, eqFsC, seqK, blockK, condK, l_exit, l_ret, retK, retS, rsV, rsC, allT, padA, mapT, glook, bsel, gsplit_true, gsplit_false, resOf, resIds, resAll, nodupN, notin, like, like1, likeL, likeAll, AV.np, AV.gb, idsR, idsM, retI, retR, reify, AR.v, AR.u, AR.nv, nvec, impV, impU, isAlloc, callOf, countA, upIds, Option.map_none, Option.map_some, Option.isSome_some, Option.isSome_none, List.map_cons, List.map_nil, true_and, and_true, List.cons_append, List.nil_append, List.append_nil, List.length_cons, List.length_nil, List.nodup_nil, List.not_mem_nil, not_false_eq_true, ne_eq, reduceCtorEq, Bool.and_true, Bool.true_and, Bool.not_true, Bool.not_false, if_true, if_false, reduceIte, en_byte, en_byte', en_int, en_int', en_bool, en_bool', en_str, en_str', en_row, en_row', sh_at, sh_at', and_assoc, Nat.zero_add, Nat.add_zero, Nat.reduceAdd, appF_zero, Option.isNone_none, Option.isNone_some, en_byteL, en_intL, en_rowL, Int.reduceToNat, Nat.mul_one, Nat.one_mul, Nat.zero_mul, Nat.reduceMul, Nat.reduceSub, Nat.sub_zero, bne_self_eq_false, ti1, ti2, ti3, ti4, ti5, ti6, ti7, ti8, ti9, ti10, ti11, ti12, ti13, ti14, ti15, ti16, ti17, ti18, ti19, ti21, ti22, ti23, ti24, ti25, ti26, ti27, ti28, ti30, ti31, ti33, ti34, ti35, ti36, ti37, ti38, ti39, ti40, ti41, ti42, ti43, ti45, ti46, ti47, ti48, ti49, ti50, ti51, ti52, ti53, ti54, ti55, ti57, ti58, ti59, ti60, ti61, ti62, ti63, ti64, ti65, ti66, ti67, ti68, ti69, ti70, ti71, ti72, ti73, ti74, ti75, ti76, ti77, ti78, ti79, ti80, ti81, ti82, ti83, ti85, ti86, ti87, ti88, ti89, ti90, ti91, ti92, ti93, ti94, ti95, ti96, ti97, ti98, ti99, ti100, ti101, ti102, ti103, ti104, ti105, ti106, ti107, ti108, ti109]
  repeat (((with_reducible refine And.intro ?_ ?_)); (focus (first | omega | (simp only [inR]; omega) | rfl | (simp [notinId, notin]; done) | exact Or.inr rfl | (intro i hi; (repeat' (with_reducible first | apply len_cut | apply len_shift | apply len_app | apply len_copy | intro j)) <;> first | rfl | (exact len_lit _ _ (by simp) rfl _) | (simp; done)))))
  refine EffC.freeze 0 rfl ?_
  (refine evL ?_; (try (with_reducible exact True.intro)))
  refine EffC.use (c42 [1, 1, 0, 1]) ?_ (.inr rfl) ?_
  · (refine evL ?_; (try (with_reducible exact True.intro)))
    exact fun i _ => congrFun (litI 4 _ [1, 1, 0, 1] rfl rfl) i
  (refine ev ?_; (try (with_reducible exact True.intro)))
  repeat (((with_reducible refine And.intro ?_ ?_)); (focus (first | omega | (simp only [inR]; omega) | rfl | (simp [notinId, notin]; done) | exact Or.inr rfl | (intro i hi; (repeat' (with_reducible first | apply len_cut | apply len_shift | apply len_app | apply len_copy | intro j)) <;> first | rfl | (exact len_lit _ _ (by simp) rfl _) | (simp; done)))))
  refine EffC.use e1 ?_ (.inr rfl) ?_
  · ((refine evL ?_; (try (with_reducible exact True.intro))) <;> (repeat' (with_reducible refine And.intro ?_ ?_)) <;> first | trivial | (exact fun _ _ => trivial) | (simp; done) | (exact fun q hq => cut_at0 q (by simpa using hq)) | (exact fun q hq => cut_at0 q (by omega)) | omega)
  (refine ev ?_; (try (with_reducible exact True.intro)))
  repeat (((with_reducible refine And.intro ?_ ?_)); (focus (first | omega | (simp only [inR]; omega) | rfl | (simp [notinId, notin]; done) | exact Or.inr rfl | (intro i hi; (repeat' (with_reducible first | apply len_cut | apply len_shift | apply len_app | apply len_copy | intro j)) <;> first | rfl | (exact len_lit _ _ (by simp) rfl _) | (simp; done)))))
  refine EffC.use d1 ?_ (.inl rfl) ?_
  · (refine evL ?_; (try (with_reducible exact True.intro)))
    exact ⟨fun _ _ => trivial, fun i _ => congrFun (litI 4 _ [0, 1, 0, 1] rfl rfl) i⟩
  (refine ev ?_; (try (with_reducible exact True.intro)))
  repeat (((with_reducible refine And.intro ?_ ?_)); (focus (first | omega | (simp only [inR]; omega) | rfl | (simp [notinId, notin]; done) | exact Or.inr rfl | (intro i hi; (repeat' (with_reducible first | apply len_cut | apply len_shift | apply len_app | apply len_copy | intro j)) <;> first | rfl | (exact len_lit _ _ (by simp) rfl _) | (simp; done)))))
  refine EffC.freeze 2 rfl ?_
  (refine evL ?_; (try (with_reducible exact True.intro)))
  refine EffC.use (c42 [0, 1, 1, 2]) ?_ (.inr rfl) ?_
  · (refine evL ?_; (try (with_reducible exact True.intro)))
    exact fun i _ => congrFun (litI 4 _ [0, 1, 1, 2] rfl rfl) i
  (refine ev ?_; (try (with_reducible exact True.intro)))
  repeat (((with_reducible refine And.intro ?_ ?_)); (focus (first | omega | (simp only [inR]; omega) | rfl | (simp [notinId, notin]; done) | exact Or.inr rfl | (intro i hi; (repeat' (with_reducible first | apply len_cut | apply len_shift | apply len_app | apply len_copy | intro j)) <;> first | rfl | (exact len_lit _ _ (by simp) rfl _) | (simp; done)))))
  refine EffC.use e2 ?_ (.inr rfl) ?_
  · ((refine evL ?_; (try (with_reducible exact True.intro))) <;> (repeat' (with_reducible refine And.intro ?_ ?_)) <;> first | trivial | (exact fun _ _ => trivial) | (simp; done) | (exact fun q hq => cut_at0 q (by simpa using hq)) | (exact fun q hq => cut_at0 q (by omega)) | omega)
  (refine ev ?_; (try (with_reducible exact True.intro)))
  repeat (((with_reducible refine And.intro ?_ ?_)); (focus (first | omega | (simp only [inR]; omega) | rfl | (simp [notinId, notin]; done) | exact Or.inr rfl | (intro i hi; (repeat' (with_reducible first | apply len_cut | apply len_shift | apply len_app | apply len_copy | intro j)) <;> first | rfl | (exact len_lit _ _ (by simp) rfl _) | (simp; done)))))
  refine EffC.use d2 ?_ (.inl rfl) ?_
  · (refine evL ?_; (try (with_reducible exact True.intro)))
    exact ⟨fun _ _ => trivial, fun i _ => congrFun (litI 4 _ [1, 1, 1, 1] rfl rfl) i⟩
  (refine ev ?_; (try (with_reducible exact True.intro)))
  repeat (((with_reducible refine And.intro ?_ ?_)); (focus (first | omega | (simp only [inR]; omega) | rfl | (simp [notinId, notin]; done) | exact Or.inr rfl | (intro i hi; (repeat' (with_reducible first | apply len_cut | apply len_shift | apply len_app | apply len_copy | intro j)) <;> first | rfl | (exact len_lit _ _ (by simp) rfl _) | (simp; done)))))
  refine EffC.freeze 4 rfl ?_
  (refine evL ?_; (try (with_reducible exact True.intro)))
  refine EffC.use (c42 [0, 1, 3, 2]) ?_ (.inr rfl) ?_
  · (refine evL ?_; (try (with_reducible exact True.intro)))
    exact fun i _ => congrFun (litI 4 _ [0, 1, 3, 2] rfl rfl) i
  (refine ev ?_; (try (with_reducible exact True.intro)))
  repeat (((with_reducible refine And.intro ?_ ?_)); (focus (first | omega | (simp only [inR]; omega) | rfl | (simp [notinId, notin]; done) | exact Or.inr rfl | (intro i hi; (repeat' (with_reducible first | apply len_cut | apply len_shift | apply len_app | apply len_copy | intro j)) <;> first | rfl | (exact len_lit _ _ (by simp) rfl _) | (simp; done)))))
  refine EffC.use e3 ?_ (.inr rfl) ?_
  · ((refine evL ?_; (try (with_reducible exact True.intro))) <;> (repeat' (with_reducible refine And.intro ?_ ?_)) <;> first | trivial | (exact fun _ _ => trivial) | (simp; done) | (exact fun q hq => cut_at0 q (by simpa using hq)) | (exact fun q hq => cut_at0 q (by omega)) | omega)
  (refine ev ?_; (try (with_reducible exact True.intro)))
  repeat (((with_reducible refine And.intro ?_ ?_)); (focus (first | omega | (simp only [inR]; omega) | rfl | (simp [notinId, notin]; done) | exact Or.inr rfl | (intro i hi; (repeat' (with_reducible first | apply len_cut | apply len_shift | apply len_app | apply len_copy | intro j)) <;> first | rfl | (exact len_lit _ _ (by simp) rfl _) | (simp; done)))))
  refine EffC.use d2 ?_ (.inl rfl) ?_
  · (refine evL ?_; (try (with_reducible exact True.intro)))
    exact ⟨fun _ _ => trivial, fun i _ => congrFun (litI 4 _ [1, 1, 1, 1] rfl rfl) i⟩
  (refine ev ?_; (try (with_reducible exact True.intro)))
  repeat (((with_reducible refine And.intro ?_ ?_)); (focus (first | omega | (simp only [inR]; omega) | rfl | (simp [notinId, notin]; done) | exact Or.inr rfl | (intro i hi; (repeat' (with_reducible first | apply len_cut | apply len_shift | apply len_app | apply len_copy | intro j)) <;> first | rfl | (exact len_lit _ _ (by simp) rfl _) | (simp; done)))))
  refine EffC.freeze 6 rfl ?_
  (refine evL ?_; (try (with_reducible exact True.intro)))
  refine EffC.use (c42 [0, 2, 2, 4]) ?_ (.inr rfl) ?_
  · (refine evL ?_; (try (with_reducible exact True.intro)))
    exact fun i _ => congrFun (litI 4 _ [0, 2, 2, 4] rfl rfl) i
  (refine ev ?_; (try (with_reducible exact True.intro)))
  repeat (((with_reducible refine And.intro ?_ ?_)); (focus (first | omega | (simp only [inR]; omega) | rfl | (simp [notinId, notin]; done) | exact Or.inr rfl | (intro i hi; (repeat' (with_reducible first | apply len_cut | apply len_shift | apply len_app | apply len_copy | intro j)) <;> first | rfl | (exact len_lit _ _ (by simp) rfl _) | (simp; done)))))
  refine EffC.use e4 ?_ (.inr rfl) ?_
  · ((refine evL ?_; (try (with_reducible exact True.intro))) <;> (repeat' (with_reducible refine And.intro ?_ ?_)) <;> first | trivial | (exact fun _ _ => trivial) | (simp; done) | (exact fun q hq => cut_at0 q (by simpa using hq)) | (exact fun q hq => cut_at0 q (by omega)) | omega)
  (refine ev ?_; (try (with_reducible exact True.intro)))
  repeat (((with_reducible refine And.intro ?_ ?_)); (focus (first | omega | (simp only [inR]; omega) | rfl | (simp [notinId, notin]; done) | exact Or.inr rfl | (intro i hi; (repeat' (with_reducible first | apply len_cut | apply len_shift | apply len_app | apply len_copy | intro j)) <;> first | rfl | (exact len_lit _ _ (by simp) rfl _) | (simp; done)))))
  refine EffC.use d4 ?_ (.inl rfl) ?_
  · (refine evL ?_; (try (with_reducible exact True.intro)))
    exact ⟨fun _ _ => trivial, fun i _ => congrFun (litI 4 _ [0, 0, 0, 0] rfl rfl) i⟩
  (refine ev ?_; (try (with_reducible exact True.intro)))
  repeat (((with_reducible refine And.intro ?_ ?_)); (focus (first | omega | (simp only [inR]; omega) | rfl | (simp [notinId, notin]; done) | exact Or.inr rfl | (intro i hi; (repeat' (with_reducible first | apply len_cut | apply len_shift | apply len_app | apply len_copy | intro j)) <;> first | rfl | (exact len_lit _ _ (by simp) rfl _) | (simp; done)))))
  refine EffC.freeze 8 rfl ?_
  (refine evL ?_; (try (with_reducible exact True.intro)))
  refine EffC.use (c42 [1, 1, 0, 1]) ?_ (.inr rfl) ?_
  · (refine evL ?_; (try (with_reducible exact True.intro)))
    exact fun i _ => congrFun (litI 4 _ [1, 1, 0, 1] rfl rfl) i
  (refine ev ?_; (try (with_reducible exact True.intro)))
  repeat (((with_reducible refine And.intro ?_ ?_)); (focus (first | omega | (simp only [inR]; omega) | rfl | (simp [notinId, notin]; done) | exact Or.inr rfl | (intro i hi; (repeat' (with_reducible first | apply len_cut | apply len_shift | apply len_app | apply len_copy | intro j)) <;> first | rfl | (exact len_lit _ _ (by simp) rfl _) | (simp; done)))))
  refine EffC.freeze 9 rfl ?_
  (refine evL ?_; (try (with_reducible exact True.intro)))
  refine EffC.use b1 ?_ (.inr rfl) ?_
  · (refine evL ?_; (try (with_reducible exact True.intro)))
    exact ⟨fun _ _ => trivial, fun _ _ => trivial, fun _ _ => trivial, fun i _ => congrFun (litB 4 _ [false, false, true, false] rfl rfl) i⟩
  (refine ev ?_; (try (with_reducible exact True.intro)))
  repeat (((with_reducible refine And.intro ?_ ?_)); (focus (first | omega | (simp only [inR]; omega) | rfl | (simp [notinId, notin]; done) | exact Or.inr rfl | (intro i hi; (repeat' (with_reducible first | apply len_cut | apply len_shift | apply len_app | apply len_copy | intro j)) <;> first | rfl | (exact len_lit _ _ (by simp) rfl _) | (simp; done)))))
  refine EffC.freeze 10 rfl ?_
  (refine evL ?_; (try (with_reducible exact True.intro)))
  refine EffC.freeze 11 rfl ?_
  (refine evL ?_; (try (with_reducible exact True.intro)))
  refine EffC.freeze 12 rfl ?_
  (refine evL ?_; (try (with_reducible exact True.intro)))
  refine EffC.use e5 ?_ (.inr rfl) ?_
  · (refine evL ?_; (try (with_reducible exact True.intro)))
    refine ⟨fun i hi => ?_, fun i hi => ?_, fun i hi => ?_⟩
    all_goals
      have hi0 : i = 0 := by omega
      subst hi0; rfl
  (refine ev ?_; (try (with_reducible exact True.intro)))
  repeat (((with_reducible refine And.intro ?_ ?_)); (focus (first | omega | (simp only [inR]; omega) | rfl | (simp [notinId, notin]; done) | exact Or.inr rfl | (intro i hi; (repeat' (with_reducible first | apply len_cut | apply len_shift | apply len_app | apply len_copy | intro j)) <;> first | rfl | (exact len_lit _ _ (by simp) rfl _) | (simp; done)))))
  simp only [show (((0 : Nat) : Int) == 0) = true from rfl]
  (refine ev ?_; (try (with_reducible exact True.intro)))
  repeat (((with_reducible refine And.intro ?_ ?_)); (focus (first | omega | (simp only [inR]; omega) | rfl | (simp [notinId, notin]; done) | exact Or.inr rfl | (intro i hi; (repeat' (with_reducible first | apply len_cut | apply len_shift | apply len_app | apply len_copy | intro j)) <;> first | rfl | (exact len_lit _ _ (by simp) rfl _) | (simp; done)))))
  refine EffC.use d5 ?_ (.inl rfl) ?_
  · (refine evL ?_; (try (with_reducible exact True.intro)))
    exact ⟨fun _ _ => trivial, fun i _ => congrFun (litB 4 _ [true, false, true, false] rfl rfl) i⟩
  (refine ev ?_; (try (with_reducible exact True.intro)))
  repeat (((with_reducible refine And.intro ?_ ?_)); (focus (first | omega | (simp only [inR]; omega) | rfl | (simp [notinId, notin]; done) | exact Or.inr rfl | (intro i hi; (repeat' (with_reducible first | apply len_cut | apply len_shift | apply len_app | apply len_copy | intro j)) <;> first | rfl | (exact len_lit _ _ (by simp) rfl _) | (simp; done)))))
  refine EffC.freeze 14 rfl ?_
  (refine evL ?_; (try (with_reducible exact True.intro)))
  refine EffC.use (c42 [0, 0, 0, 0]) ?_ (.inr rfl) ?_
  · (refine evL ?_; (try (with_reducible exact True.intro)))
    exact fun i _ => congrFun (litI 4 _ [0, 0, 0, 0] rfl rfl) i
  (refine ev ?_; (try (with_reducible exact True.intro)))
  repeat (((with_reducible refine And.intro ?_ ?_)); (focus (first | omega | (simp only [inR]; omega) | rfl | (simp [notinId, notin]; done) | exact Or.inr rfl | (intro i hi; (repeat' (with_reducible first | apply len_cut | apply len_shift | apply len_app | apply len_copy | intro j)) <;> first | rfl | (exact len_lit _ _ (by simp) rfl _) | (simp; done)))))
  refine EffC.use b2 ?_ (.inl rfl) ?_
  · ((refine evL ?_; (try (with_reducible exact True.intro))) <;> (repeat' (with_reducible refine And.intro ?_ ?_)) <;> first | trivial | (exact fun _ _ => trivial) | (simp; done) | (exact fun q hq => cut_at0 q (by simpa using hq)) | (exact fun q hq => cut_at0 q (by omega)) | omega)
  (refine ev ?_; (try (with_reducible exact True.intro)))
  ((repeat' (with_reducible refine And.intro ?_ ?_)) <;> first | omega | (simp [notinId]; done) | (exact fun q hq => cut_at0 q (by simpa using hq)) | (exact fun q hq => cut_at0 q (by omega)) | (exact fun _ _ => rfl))
end Go.Proofs.Ythkgnnndlocbbaa
