/-
  The law SolveRegions' function: it returns true. No condition.
-/
import Derived.Test.YthkgnnndlocbbaaSi
import Derived.Test.YthkgnnndlocbbaaKi
namespace Go.Proofs.Ythkgnnndlocbbaa
set_option linter.unusedVariables false
set_option linter.unusedSimpArgs false
open Go Go.SH Go.Parity
set_option maxRecDepth 100000
set_option maxHeartbeats 4000000
set_option pp.maxSteps 8000
section
variable {ow pr : List Int} {su : List (List Int)} {ws : List Int} {pl : Int}
theorem wonL_at {n v : Nat} (hl : ws.length = n) : inL (wonL n ws pl) v ↔ v < n ∧ ws.getD v 0 = pl := by
  show (wonL n ws pl).getD v false = true ↔ _
  rcases Nat.lt_or_ge v n with h | h
  · rw [wonL, range_map_getD _ _ _ _ h]; simp [h, hl]
  · rw [getD_ge _ _ _ (by simpa [wonL] using h)]; simp; omega
theorem wins_p (hp : pl = 0 ∨ pl = 1) (hw : Wins ow pr su ws) : GoodP (pg ow pr su) (fun v => v < ow.length) pl (inL (wonL ow.length ws pl)) (fun v => v < ow.length ∧ ws.getD v 0 = 1 - pl) := by
  have e : (fun v => v < ow.length ∧ ws.getD v 0 = pl) = inL (wonL ow.length ws pl) := funext fun v => propext (wonL_at hw.len).symm
  rw [← e]
  rcases hp with rfl | rfl
  · exact hw.good.to0
  · exact hw.good.to1
theorem wins_trap (hv : validB ow pr su = true) (hp : pl = 0 ∨ pl = 1) (hw : Wins ow pr su ws) : trapB ow pr su (1 - pl) (wonL ow.length ws pl) = true := by
  have hl : (wonL ow.length ws pl).length = ow.length := by simp [wonL]
  obtain ⟨σ, a1, a2, a3, _⟩ := (wins_p hp hw).a
  refine trapB_intro (right_of hv (by omega) hl) fun i hi h => ?_
  rw [(one_sub hp).2]
  unfold canF
  by_cases ho : ow.getD i 0 = pl
  · rw [if_pos ho, List.any_eq_true]
    obtain ⟨b1, b2⟩ := a2 i h ho
    obtain ⟨y, y1, y2⟩ := sc_mem.1 b1
    exact ⟨y, y1, by rw [y2]; exact b2⟩
  · rw [if_neg ho, List.all_eq_true]
    intro y hy
    have := ((validB_spec hv).2.2.2 i (by omega)).2.2 y hy
    exact a3 i h ho y.toNat (sc_mem.2 ⟨y, hy, rfl⟩) (by show y.toNat < ow.length; omega)
theorem wins_attr (hv : validB ow pr su = true) (hp : pl = 0 ∨ pl = 1) (hw : Wins ow pr su ws) : (refAttract ow pr su pl (wonL ow.length ws pl)).1 = wonL ow.length ws pl := by
  have hl : (wonL ow.length ws pl).length = ow.length := by simp [wonL]
  have hr : rightB ow pr su pl (wonL ow.length ws pl) = true := right_of hv hp hl
  have hA := attr_list hr
  refine list_eq_of (refA_len hr).1 fun i hi => ?_
  rw [Bool.eq_iff_iff]
  exact ⟨fun h => hA.own_para (fun v h => h) (two_pg hv) hp (wins_p hp hw) i h, fun h => hA.tgt i h⟩
end
theorem who_mod (b : UInt8) : ∃ pl : Int, (pl = 0 ∨ pl = 1) ∧ ((b.toNat : Nat) : Int).tmod 2 = pl := by
  refine ⟨_, ?_, rfl⟩
  rw [Int.tmod_eq_emod_of_nonneg (by omega)]; omega
theorem s9 (ow pr : List Int) (su : List (List Int)) (b : UInt8) : Contract Try.prog 9 [game ow pr su, .int .u8 (b.toNat : Nat)] (.one (.val (.bool true))) := by
  refine ct9 (SH.Sem.of_wpA hm ?_)
  simp only [padA]
  simp only [Try.f9, Option.getD, w_skip, w_reg, w_regd, w_seq, w_cond, w_block, w_loop, w_rf, w_exit, w_ret, f_ok, f_call, f_yield, yK_cons, a_normal, r_normal, r_ret, r_exit, rg_cons, putL, frz, beq_self_eq_true, Nat.reduceBEq, updG_same, f_bad, cK_nil, cK_cons, v_nil, v_cons, gK_tt, gK_ff, gK_tf, gK_ft, dK_go, d_nil, d_cons, gD_tt, gD_ff, gD_tf, gD_ft, eC_one, eC_tup, eC_own, eE_ok, eE_bad, eD, eff, eBin, eEq, eUn, eConv, eLen, eMin, eMax, eField, eFieldAddr, eIndex, eIndexAddr, eSlice, eLoad, eStore, eAlloc, eBox, eBuild, eBuildSlice, eMake, eAppend, eCopy, eMakeMap, eMapUpdate, eLookup, lookV, optN, eNil, ePick, eExtract, E.pure, Eff.only, Eff.notB, evalA, AV.ofV, AV.ofC, sget, sput, putA, applyU, hset, hget, hlen, alen, takeA, dropA, spliceA, mapA, allA, lget, oget, pget, tget, cellsA, AV.one, AV.goneB, partA, partC, TK.isAgg, nilish, natA, natC, loN, hiN, optC, roCut, loadP, loadC, aggOr, fillA, fillC, allPos, partsC, partsCells, partsAll, kills, killIds, liveAll, gnd, srcOf, inBlk, mapO, mapP, Go.SH.IntKind.uns, TK.flat, eqSc, eqScC, eqFs, eqFsC, seqK, blockK, condK, l_exit, l_ret, retK, retS, rsV, rsC, allT, padA, mapT, glook, bsel, gsplit_true, gsplit_false, resOf, resIds, resAll, nodupN, notin, like, like1, likeL, likeAll, AV.np, AV.gb, idsR, idsM, retI, retR, reify, AR.v, AR.u, AR.nv, nvec, impV, impU, isAlloc, callOf, countA, upIds, Option.map_none, Option.map_some, Option.isSome_some, Option.isSome_none, List.map_cons, List.map_nil, true_and, and_true, List.cons_append, List.nil_append, List.append_nil, List.length_cons, List.length_nil, List.nodup_nil, List.not_mem_nil, not_false_eq_true, ne_eq, reduceCtorEq, Bool.and_true, Bool.true_and, Bool.not_true, Bool.not_false, if_true, if_false, reduceIte, en_byte, en_byte', en_int, en_int', en_bool, en_bool', en_str, en_str', en_row, en_row', sh_at, sh_at', and_assoc, Nat.zero_add, Nat.add_zero, Nat.reduceAdd, appF_zero, Option.isNone_none, Option.isNone_some, en_byteL, en_intL, en_rowL, Int.reduceToNat, Nat.mul_one, Nat.one_mul, Nat.zero_mul, Nat.reduceMul, Nat.reduceSub, Nat.sub_zero, bne_self_eq_false, ti1, ti2, ti3, ti4, ti5, ti6, ti7, ti8, ti9, ti10, ti11, ti12, ti13, ti14, ti15, ti16, ti17, ti18, ti19, ti21, ti22, ti23, ti24, ti25, ti26, ti27, ti28, ti30, ti31, ti33, ti34, ti35, ti36, ti37, ti38, ti39, ti40, ti41, ti42, ti43, ti45, ti46, ti47, ti48, ti49, ti50, ti51, ti52, ti53, ti54, ti55, ti57, ti58, ti59, ti60, ti61, ti62, ti63, ti64, ti65, ti66, ti67, ti68, ti69, ti70, ti71, ti72, ti73, ti74, ti75, ti76, ti77, ti78, ti79, ti80, ti81, ti82, ti83, ti85, ti86, ti87, ti88, ti89, ti90, ti91, ti92, ti93, ti94, ti95, ti96, ti97, ti98, ti99, ti100, ti101, ti102, ti103, ti104, ti105, ti106, ti107, ti108, ti109]
  repeat (((with_reducible refine And.intro ?_ ?_)); (focus (first | omega | (simp only [inR]; omega) | rfl | (simp [notinId, notin]; done) | exact Or.inr rfl | (intro i hi; (repeat' (with_reducible first | apply len_cut | apply len_shift | apply len_app | apply len_copy | intro j)) <;> first | rfl | (exact len_lit _ _ (by simp) rfl _) | (simp; done)))))
  refine EffC.use c17 ?_ (.inl rfl) ?_
  · trivial
  (refine ev ?_; (try (with_reducible exact True.intro)))
  repeat (((with_reducible refine And.intro ?_ ?_)); (focus (first | omega | (simp only [inR]; omega) | rfl | (simp [notinId, notin]; done) | exact Or.inr rfl | (intro i hi; (repeat' (with_reducible first | apply len_cut | apply len_shift | apply len_app | apply len_copy | intro j)) <;> first | rfl | (exact len_lit _ _ (by simp) rfl _) | (simp; done)))))
  have a22 := c22 ow pr su 30 (by omega)
  cases hsm : smallB 30 ow pr su && validB ow pr su
  · rw [hsm] at a22
    refine EffC.use a22 ?_ (.inl rfl) ?_
    · ((refine evL ?_; (try (with_reducible exact True.intro))) <;> (repeat' (with_reducible refine And.intro ?_ ?_)) <;> first | trivial | (exact fun _ _ => trivial) | (simp; done) | (exact fun q hq => cut_at0 q (by simpa using hq)) | (exact fun q hq => cut_at0 q (by omega)) | omega)
    (refine ev ?_; (try (with_reducible exact True.intro)))
    ((repeat' (with_reducible refine And.intro ?_ ?_)) <;> first | omega | (simp [notinId]; done) | (exact fun q hq => cut_at0 q (by simpa using hq)) | (exact fun q hq => cut_at0 q (by omega)) | (exact fun _ _ => rfl))
  rw [hsm] at a22
  refine EffC.use a22 ?_ (.inl rfl) ?_
  · ((refine evL ?_; (try (with_reducible exact True.intro))) <;> (repeat' (with_reducible refine And.intro ?_ ?_)) <;> first | trivial | (exact fun _ _ => trivial) | (simp; done) | (exact fun q hq => cut_at0 q (by simpa using hq)) | (exact fun q hq => cut_at0 q (by omega)) | omega)
  obtain ⟨l1, l4, hv⟩ := small_spec hsm
  obtain ⟨v1, v2, v3, v4⟩ := validB_spec hv
  have hr20 : ∀ r ∈ su, r.length ≤ 2 ^ 20 := fun r hr => by have := l4 r hr; omega
  obtain ⟨ws, w1, _, a20⟩ := c20 ow pr su (by omega) (by omega) (by omega) hr20
  have hw := w1 hv
  have wl := hw.len
  have two := hw.two
  obtain ⟨pl, hp, hpl⟩ := who_mod b
  have hb := b.toNat_lt
  have a23 := c23 ow pr su ws pl (by omega) (by omega) _ (.inl rfl)
  have a13 := k11 ow pr su pl (wonL ow.length ws pl) (by omega) (by omega) (by omega) hr20
  rw [wins_attr hv hp hw] at a13
  have a28 := k15 ow pr su (1 - pl) (wonL ow.length ws pl) (by omega) (by omega) (by omega) hr20
  rw [wins_trap hv hp hw] at a28
  have sl : (wonL ow.length ws pl).length = ow.length := by simp [wonL]
  have a29 := k13 (wonL ow.length ws pl) (wonL ow.length ws pl) (by omega)
  rw [beq_self_eq_true] at a29
  rw [v3] at a23
  generalize wonL ow.length ws pl = set at *
  generalize (refAttract ow pr su pl set).2 = mv at *
  clear w1 hw
  (refine ev ?_; (try (with_reducible exact True.intro)))
  simp only [hpl]
  repeat (((with_reducible refine And.intro ?_ ?_)); (focus (first | omega | (simp only [inR]; omega) | rfl | (simp [notinId, notin]; done) | exact Or.inr rfl | (intro i hi; (repeat' (with_reducible first | apply len_cut | apply len_shift | apply len_app | apply len_copy | intro j)) <;> first | rfl | (exact len_lit _ _ (by simp) rfl _) | (simp; done)))))
  refine EffC.use a20 ?_ (.inr rfl) ?_
  · ((refine evL ?_; (try (with_reducible exact True.intro))) <;> (repeat' (with_reducible refine And.intro ?_ ?_)) <;> first | trivial | (exact fun _ _ => trivial) | (simp; done) | (exact fun q hq => cut_at0 q (by simpa using hq)) | (exact fun q hq => cut_at0 q (by omega)) | omega)
  (refine ev ?_; (try (with_reducible exact True.intro)))
  repeat (((with_reducible refine And.intro ?_ ?_)); (focus (first | omega | (simp only [inR]; omega) | rfl | (simp [notinId, notin]; done) | exact Or.inr rfl | (intro i hi; (repeat' (with_reducible first | apply len_cut | apply len_shift | apply len_app | apply len_copy | intro j)) <;> first | rfl | (exact len_lit _ _ (by simp) rfl _) | (simp; done)))))
  simp only [wl, v3]
  (refine ev ?_; (try (with_reducible exact True.intro)))
  repeat (((with_reducible refine And.intro ?_ ?_)); (focus (first | omega | (simp only [inR]; omega) | rfl | (simp [notinId, notin]; done) | exact Or.inr rfl | (intro i hi; (repeat' (with_reducible first | apply len_cut | apply len_shift | apply len_app | apply len_copy | intro j)) <;> first | rfl | (exact len_lit _ _ (by simp) rfl _) | (simp; done)))))
  refine SH.Sem.loop hm (fun i : Nat => ⟨padA [.undef, .undef, .ptr 0 0 0, .undef, .undef, .bool true, .int .i64 pl, intRow ws, .int .i64 i] 70, [.box [intRow ow, intRow pr, intRows su]]⟩) (fun i => i ≤ ow.length) (fun i => ow.length - i) [0] 0 (by omega) ?_ fun i hi0 => ?_
  · simp only [padA, St.le, slotsLe, heapLe, blkLe, rowLe, live, injOn, loLe, nget, nlook, ren, okA, allP, mapA, hget, ABlk.used, notin, List.map_cons, List.map_nil, true_or, or_true, false_or, or_false, true_and, and_true, and_self, AV.int.injEq, AV.bool.injEq, AV.str.injEq, AV.sl.injEq, AV.ro.injEq, AV.agg.injEq, List.cons.injEq, reduceCtorEq, ne_eq, not_false_eq_true, not_true_eq_false]; simp
  simp only [padA]
  (refine ev ?_; (try (with_reducible exact True.intro)))
  simp only [wl]
  refine gsd (fun hd => ?_) (fun hd => ?_)
  · have hi : i < ow.length := by omega
    have tw := two i hi
    (refine ev ?_; (try (with_reducible exact True.intro)))
    simp only [Int.toNat_natCast]
    repeat (((with_reducible refine And.intro ?_ ?_)); (focus (first | omega | (simp only [inR]; omega) | rfl | (simp [notinId, notin]; done) | exact Or.inr rfl | (intro i hi; (repeat' (with_reducible first | apply len_cut | apply len_shift | apply len_app | apply len_copy | intro j)) <;> first | rfl | (exact len_lit _ _ (by simp) rfl _) | (simp; done)))))
    rcases tw with tw | tw
    all_goals
      simp only [tw]
      try simp only [show ((0 : Int) != 0) = false from rfl, show ((1 : Int) != 0) = true from rfl]
      (refine ev ?_; (try (with_reducible exact True.intro)))
      try simp only [Int.toNat_natCast, tw]
      try simp only [show ((1 : Int) != 1) = false from rfl]
      try (refine ev ?_; (try (with_reducible exact True.intro)))
      repeat (((with_reducible refine And.intro ?_ ?_)); (focus (first | omega | (simp only [inR]; omega) | rfl | (simp [notinId, notin]; done) | exact Or.inr rfl | (intro i hi; (repeat' (with_reducible first | apply len_cut | apply len_shift | apply len_app | apply len_copy | intro j)) <;> first | rfl | (exact len_lit _ _ (by simp) rfl _) | (simp; done)))))
      refine ⟨i + 1, [0], by omega, by show ow.length - (i + 1) < ow.length - i; omega, ?_⟩
      simp only [padA, St.le, slotsLe, heapLe, blkLe, rowLe, live, injOn, loLe, nget, nlook, ren, okA, allP, mapA, hget, ABlk.used, notin, List.map_cons, List.map_nil, true_or, or_true, false_or, or_false, true_and, and_true, and_self, AV.int.injEq, AV.bool.injEq, AV.str.injEq, AV.sl.injEq, AV.ro.injEq, AV.agg.injEq, List.cons.injEq, reduceCtorEq, ne_eq, not_false_eq_true, not_true_eq_false]; simp
  · (refine ev ?_; (try (with_reducible exact True.intro)))
    repeat (((with_reducible refine And.intro ?_ ?_)); (focus (first | omega | (simp only [inR]; omega) | rfl | (simp [notinId, notin]; done) | exact Or.inr rfl | (intro i hi; (repeat' (with_reducible first | apply len_cut | apply len_shift | apply len_app | apply len_copy | intro j)) <;> first | rfl | (exact len_lit _ _ (by simp) rfl _) | (simp; done)))))
    refine EffC.use a23 ?_ (.inr rfl) ?_
    · ((refine evL ?_; (try (with_reducible exact True.intro))) <;> (repeat' (with_reducible refine And.intro ?_ ?_)) <;> first | trivial | (exact fun _ _ => trivial) | (simp; done) | (exact fun q hq => cut_at0 q (by simpa using hq)) | (exact fun q hq => cut_at0 q (by omega)) | omega)
    (refine ev ?_; (try (with_reducible exact True.intro)))
    repeat (((with_reducible refine And.intro ?_ ?_)); (focus (first | omega | (simp only [inR]; omega) | rfl | (simp [notinId, notin]; done) | exact Or.inr rfl | (intro i hi; (repeat' (with_reducible first | apply len_cut | apply len_shift | apply len_app | apply len_copy | intro j)) <;> first | rfl | (exact len_lit _ _ (by simp) rfl _) | (simp; done)))))
    refine EffC.use a13 ?_ (.inr rfl) ?_
    · ((refine evL ?_; (try (with_reducible exact True.intro))) <;> (repeat' (with_reducible refine And.intro ?_ ?_)) <;> first | trivial | (exact fun _ _ => trivial) | (simp; done) | (exact fun q hq => cut_at0 q (by simpa using hq)) | (exact fun q hq => cut_at0 q (by omega)) | omega)
    (refine ev ?_; (try (with_reducible exact True.intro)))
    repeat (((with_reducible refine And.intro ?_ ?_)); (focus (first | omega | (simp only [inR]; omega) | rfl | (simp [notinId, notin]; done) | exact Or.inr rfl | (intro i hi; (repeat' (with_reducible first | apply len_cut | apply len_shift | apply len_app | apply len_copy | intro j)) <;> first | rfl | (exact len_lit _ _ (by simp) rfl _) | (simp; done)))))
    refine EffC.use a28 ?_ (.inl rfl) ?_
    · ((refine evL ?_; (try (with_reducible exact True.intro))) <;> (repeat' (with_reducible refine And.intro ?_ ?_)) <;> first | trivial | (exact fun _ _ => trivial) | (simp; done) | (exact fun q hq => cut_at0 q (by simpa using hq)) | (exact fun q hq => cut_at0 q (by omega)) | omega)
    (refine ev ?_; (try (with_reducible exact True.intro)))
    repeat (((with_reducible refine And.intro ?_ ?_)); (focus (first | omega | (simp only [inR]; omega) | rfl | (simp [notinId, notin]; done) | exact Or.inr rfl | (intro i hi; (repeat' (with_reducible first | apply len_cut | apply len_shift | apply len_app | apply len_copy | intro j)) <;> first | rfl | (exact len_lit _ _ (by simp) rfl _) | (simp; done)))))
    refine EffC.use a29 ?_ (.inl rfl) ?_
    · ((refine evL ?_; (try (with_reducible exact True.intro))) <;> (repeat' (with_reducible refine And.intro ?_ ?_)) <;> first | trivial | (exact fun _ _ => trivial) | (simp; done) | (exact fun q hq => cut_at0 q (by simpa using hq)) | (exact fun q hq => cut_at0 q (by omega)) | omega)
    (refine ev ?_; (try (with_reducible exact True.intro)))
    trace_state
    ((repeat' (with_reducible refine And.intro ?_ ?_)) <;> first | omega | (simp [notinId]; done) | (exact fun q hq => cut_at0 q (by simpa using hq)) | (exact fun q hq => cut_at0 q (by omega)) | (exact fun _ _ => rfl))
end Go.Proofs.Ythkgnnndlocbbaa
