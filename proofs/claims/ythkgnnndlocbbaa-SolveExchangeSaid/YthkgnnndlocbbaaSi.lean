/-
  The law SolveMoves' function: it returns true. No condition.
-/
import Derived.Test.YthkgnnndlocbbaaSh
namespace Go.Proofs.Ythkgnnndlocbbaa
set_option linter.unusedVariables false
set_option linter.unusedSimpArgs false
open Go Go.SH Go.Parity
set_option maxRecDepth 100000
set_option maxHeartbeats 4000000
def zeroAt (ws : List Int) (t : Int) : Bool := ws.getD t.toNat 0 == 0
/-- What the winners say of a move. -/
theorem wins_move {ow pr : List Int} {su : List (List Int)} {ws : List Int} (hv : validB ow pr su = true) (hw : Wins ow pr su ws) {v : Nat} (h : v < ow.length) :
    (ws.getD v 0 == 0) = ((ow.getD v 0 == 0) && (su.getD v []).any (zeroAt ws) || (ow.getD v 0 == 1) && (su.getD v []).all (zeroAt ws)) := by
  obtain ⟨_, v2, v3⟩ := (validB_spec hv).2.2.2 v h
  have hown := ((validB_spec hv).2.2.2 v h).1
  have lt : ∀ y ∈ su.getD v [], y.toNat < ow.length := fun y hy => by have := v3 y hy; omega
  have no : ∀ u, u < ow.length → ws.getD u 0 = 1 → zeroAt ws (u : Int) = false := fun u _ hu => by simp only [zeroAt, Int.toNat_natCast, hu]; rfl
  have one : ∀ y : Int, ws.getD y.toNat 0 = 1 → zeroAt ws y = false := fun y hy => by simp only [zeroAt, hy]; rfl
  rcases hw.two v h with h0 | h1
  · obtain ⟨σ, a1, a2, a3, _⟩ := hw.good.p0
    have hv0 : (fun v => v < ow.length ∧ ws.getD v 0 = 0) v := ⟨h, h0⟩
    rw [h0]
    rcases hown with ho | ho
    · obtain ⟨b1, b2⟩ := a2 v hv0 ho
      obtain ⟨y, y1, y2⟩ := sc_mem.1 b1
      have : (su.getD v []).any (zeroAt ws) = true := List.any_eq_true.2 ⟨y, y1, by rw [zeroAt, y2]; exact beq_iff_eq.2 b2.2⟩
      rw [ho, this]; rfl
    · have : (su.getD v []).all (zeroAt ws) = true := List.all_eq_true.2 fun y hy => by
        have := a3 v hv0 (by show ow.getD v 0 ≠ 0; omega) y.toNat (sc_mem.2 ⟨y, hy, rfl⟩) (lt y hy)
        rw [zeroAt]; exact beq_iff_eq.2 this.2
      rw [ho, this]; simp
  · obtain ⟨σ, a1, a2, a3, _⟩ := hw.good.p1
    have hv1 : (fun v => v < ow.length ∧ ws.getD v 0 = 1) v := ⟨h, h1⟩
    rw [h1]
    rcases hown with ho | ho
    · have : (su.getD v []).any (zeroAt ws) = false := by
        rw [← Bool.not_eq_true, List.any_eq_true]
        rintro ⟨y, y1, y2⟩
        have := a3 v hv1 (by show ow.getD v 0 ≠ 1; omega) y.toNat (sc_mem.2 ⟨y, y1, rfl⟩) (lt y y1)
        rw [one y this.2] at y2; cases y2
      rw [ho, this]; rfl
    · obtain ⟨b1, b2⟩ := a2 v hv1 ho
      obtain ⟨y, y1, y2⟩ := sc_mem.1 b1
      have : (su.getD v []).all (zeroAt ws) = false := by
        rw [← Bool.not_eq_true, List.all_eq_true]
        intro hall
        have h3 := hall y y1
        rw [one y (by rw [y2]; exact b2.2)] at h3; cases h3
      rw [ho, this]; rfl
theorem small_spec {most : Int} {ow pr : List Int} {su : List (List Int)} (h : (smallB most ow pr su && validB ow pr su) = true) : (ow.length : Int) ≤ most ∧ (∀ r ∈ su, r.length ≤ 20) ∧ validB ow pr su = true := by
  rw [Bool.and_eq_true] at h
  exact ⟨(smallB_spec h.1).1, (smallB_spec h.1).2.2.2, h.2⟩
theorem s8 (ow pr : List Int) (su : List (List Int)) : Contract Try.prog 8 [game ow pr su] (.one (.val (.bool true))) := by
  refine ct8 (SH.Sem.of_wpA hm ?_)
  simp only [padA]
  simp only [Try.f8, Option.getD, w_skip, w_reg, w_regd, w_seq, w_cond, w_block, w_loop, w_rf, w_exit, w_ret, f_ok, f_call, f_yield, yK_cons, a_normal, r_normal, r_ret, r_exit, rg_cons, putL, frz, beq_self_eq_true, Nat.reduceBEq, updG_same, f_bad, cK_nil, cK_cons, v_nil, v_cons, gK_tt, gK_ff, gK_tf, gK_ft, dK_go, d_nil, d_cons, gD_tt, gD_ff, gD_tf, gD_ft, eC_one, eC_tup, eC_own, eE_ok, eE_bad, eD, eff, eBin, eEq, eUn, eConv, eLen, eMin, eMax, eField, eFieldAddr, eIndex, eIndexAddr, eSlice, eLoad, eStore, eAlloc, eBox, eBuild, eBuildSlice, eMake, eAppend, eCopy, eMakeMap, eMapUpdate, eLookup, lookV, optN, eNil, ePick, eExtract, E.pure, Eff.only, Eff.notB, evalA, AV.ofV, AV.ofC, sget, sput, putA, applyU, hset, hget, hlen, alen, takeA, dropA, spliceA, mapA, allA, lget, oget, pget, tget, cellsA, AV.one, AV.goneB, partA, partC, TK.isAgg, nilish, natA, natC, loN, hiN, optC, roCut, loadP, loadC, aggOr, fillA, fillC, allPos, partsC, partsCells, partsAll, kills, killIds, liveAll, gnd, srcOf, inBlk, mapO, mapP, Go.SH.IntKind.uns, TK.flat, eqSc, eqScC, eqFs, eqFsC, seqK, blockK, condK, l_exit, l_ret, retK, retS, rsV, rsC, allT, padA, mapT, glook, bsel, gsplit_true, gsplit_false, resOf, resIds, resAll, nodupN, notin, like, like1, likeL, likeAll, AV.np, AV.gb, idsR, idsM, retI, retR, reify, AR.v, AR.u, AR.nv, nvec, impV, impU, isAlloc, callOf, countA, upIds, Option.map_none, Option.map_some, Option.isSome_some, Option.isSome_none, List.map_cons, List.map_nil, true_and, and_true, List.cons_append, List.nil_append, List.append_nil, List.length_cons, List.length_nil, List.nodup_nil, List.not_mem_nil, not_false_eq_true, ne_eq, reduceCtorEq, Bool.and_true, Bool.true_and, Bool.not_true, Bool.not_false, if_true, if_false, reduceIte, en_byte, en_byte', en_int, en_int', en_bool, en_bool', en_str, en_str', en_row, en_row', sh_at, sh_at', and_assoc, Nat.zero_add, Nat.add_zero, Nat.reduceAdd, appF_zero, Option.isNone_none, Option.isNone_some, en_byteL, en_intL, en_rowL, Int.reduceToNat, Nat.mul_one, Nat.one_mul, Nat.zero_mul, Nat.reduceMul, Nat.reduceSub, Nat.sub_zero, bne_self_eq_false, ti1, ti2, ti3, ti4, ti5, ti6, ti7, ti8, ti9, ti10, ti11, ti12, ti13, ti14, ti15, ti16, ti17, ti18, ti19, ti21, ti22, ti23, ti24, ti25, ti26, ti27, ti28, ti30, ti31, ti33, ti34, ti35, ti36, ti37, ti38, ti39, ti40, ti41, ti42, ti43, ti45, ti46, ti47, ti48, ti49, ti50, ti51, ti52, ti53, ti54, ti55, ti57, ti58, ti59, ti60, ti61, ti62, ti63, ti64, ti65, ti66, ti67, ti68, ti69, ti70, ti71, ti72, ti73, ti74, ti75, ti76, ti77, ti78, ti79, ti80, ti81, ti82, ti83, ti85, ti86, ti87, ti88, ti89, ti90, ti91, ti92, ti93, ti94, ti95, ti96, ti97, ti98, ti99, ti100, ti101, ti102, ti103, ti104, ti105, ti106, ti107, ti108, ti109]
  repeat (((with_reducible refine And.intro ?_ ?_)); (focus (first | omega | (simp only [inR]; omega) | rfl | (simp [notinId, notin]; done) | exact Or.inr rfl | (intro i hi; (repeat' (with_reducible first | apply len_cut | apply len_shift | apply len_app | apply len_copy | intro j)) <;> first | rfl | (exact len_lit _ _ (by simp) rfl _) | (simp; done)))))
  refine EffC.use c17 ?_ (.inl rfl) ?_
  · trivial
  (refine ev ?_; (try (with_reducible exact True.intro)))
  repeat (((with_reducible refine And.intro ?_ ?_)); (focus (first | omega | (simp only [inR]; omega) | rfl | (simp [notinId, notin]; done) | exact Or.inr rfl | (intro i hi; (repeat' (with_reducible first | apply len_cut | apply len_shift | apply len_app | apply len_copy | intro j)) <;> first | rfl | (exact len_lit _ _ (by simp) rfl _) | (simp; done)))))
  have a22 := c22 ow pr su 30 (by omega)
  cases hsm : smallB 30 ow pr su && validB ow pr su
  · rw [hsm] at a22
    refine EffC.use a22 ?_ (.inl rfl) ?_
    · ((refine evL ?_; (try (with_reducible exact True.intro))) <;> (repeat' (with_reducible refine And.intro ?_ ?_)) <;> first | trivial | (exact fun _ _ => trivial) | (simp; done) | (exact fun q hq => cut_at0 q (by simpa using hq)) | (exact fun q hq => cut_at0 q (by omega)) | omega)
    (refine ev ?_; (try (with_reducible exact True.intro)))
    ((repeat' (with_reducible refine And.intro ?_ ?_)) <;> first | omega | (simp [notinId]; done) | (exact fun q hq => cut_at0 q (by simpa using hq)) | (exact fun q hq => cut_at0 q (by omega)) | (exact fun _ _ => rfl))
  rw [hsm] at a22
  refine EffC.use a22 ?_ (.inl rfl) ?_
  · ((refine evL ?_; (try (with_reducible exact True.intro))) <;> (repeat' (with_reducible refine And.intro ?_ ?_)) <;> first | trivial | (exact fun _ _ => trivial) | (simp; done) | (exact fun q hq => cut_at0 q (by simpa using hq)) | (exact fun q hq => cut_at0 q (by omega)) | omega)
  obtain ⟨l1, l4, hv⟩ := small_spec hsm
  obtain ⟨v1, v2, v3, v4⟩ := validB_spec hv
  obtain ⟨ws, w1, _, a20⟩ := c20 ow pr su (by omega) (by omega) (by omega) (fun r hr => by have := l4 r hr; omega)
  have hw := w1 hv
  have wl := hw.len
  have mvs := fun v h => wins_move hv hw (v := v) h
  clear w1 hw
  (refine ev ?_; (try (with_reducible exact True.intro)))
  repeat (((with_reducible refine And.intro ?_ ?_)); (focus (first | omega | (simp only [inR]; omega) | rfl | (simp [notinId, notin]; done) | exact Or.inr rfl | (intro i hi; (repeat' (with_reducible first | apply len_cut | apply len_shift | apply len_app | apply len_copy | intro j)) <;> first | rfl | (exact len_lit _ _ (by simp) rfl _) | (simp; done)))))
  refine EffC.use a20 ?_ (.inr rfl) ?_
  · ((refine evL ?_; (try (with_reducible exact True.intro))) <;> (repeat' (with_reducible refine And.intro ?_ ?_)) <;> first | trivial | (exact fun _ _ => trivial) | (simp; done) | (exact fun q hq => cut_at0 q (by simpa using hq)) | (exact fun q hq => cut_at0 q (by omega)) | omega)
  (refine ev ?_; (try (with_reducible exact True.intro)))
  repeat (((with_reducible refine And.intro ?_ ?_)); (focus (first | omega | (simp only [inR]; omega) | rfl | (simp [notinId, notin]; done) | exact Or.inr rfl | (intro i hi; (repeat' (with_reducible first | apply len_cut | apply len_shift | apply len_app | apply len_copy | intro j)) <;> first | rfl | (exact len_lit _ _ (by simp) rfl _) | (simp; done)))))
  simp only [wl, v3]
  (refine ev ?_; (try (with_reducible exact True.intro)))
  repeat (((with_reducible refine And.intro ?_ ?_)); (focus (first | omega | (simp only [inR]; omega) | rfl | (simp [notinId, notin]; done) | exact Or.inr rfl | (intro i hi; (repeat' (with_reducible first | apply len_cut | apply len_shift | apply len_app | apply len_copy | intro j)) <;> first | rfl | (exact len_lit _ _ (by simp) rfl _) | (simp; done)))))
  refine SH.Sem.loop hm (fun i : Nat => ⟨padA [.undef, .ptr 0 0 0, .undef, .bool true, intRow ws, .int .i64 i] 95, [.box [intRow ow, intRow pr, intRows su]]⟩) (fun i => i ≤ ow.length) (fun i => ow.length - i) [0] 0 (by omega) ?_ fun i hi0 => ?_
  · simp only [padA, St.le, slotsLe, heapLe, blkLe, rowLe, live, injOn, loLe, nget, nlook, ren, okA, allP, mapA, hget, ABlk.used, notin, List.map_cons, List.map_nil, true_or, or_true, false_or, or_false, true_and, and_true, and_self, AV.int.injEq, AV.bool.injEq, AV.str.injEq, AV.sl.injEq, AV.ro.injEq, AV.agg.injEq, List.cons.injEq, reduceCtorEq, ne_eq, not_false_eq_true, not_true_eq_false]; simp
  simp only [padA]
  (refine ev ?_; (try (with_reducible exact True.intro)))
  simp only [wl]
  refine gsd (fun hd => ?_) (fun hd => ?_)
  · have hi : i < ow.length := by omega
    obtain ⟨row, hrow⟩ : ∃ row, su.getD i [] = row := ⟨_, rfl⟩
    have w3 := (v4 i hi).2.2
    have hrl := l4 _ (getD_mem (show i < su.length by omega) [])
    have mv := mvs i hi
    rw [hrow] at w3 hrl mv
    (refine ev ?_; (try (with_reducible exact True.intro)))
    repeat (((with_reducible refine And.intro ?_ ?_)); (focus (first | omega | (simp only [inR]; omega) | rfl | (simp [notinId, notin]; done) | exact Or.inr rfl | (intro i hi; (repeat' (with_reducible first | apply len_cut | apply len_shift | apply len_app | apply len_copy | intro j)) <;> first | rfl | (exact len_lit _ _ (by simp) rfl _) | (simp; done)))))
    refine SH.Sem.loop hm (fun k : Nat => ⟨padA [.undef, .ptr 0 0 0, .undef, .bool true, intRow ws, .int .i64 i, .bool ((row.take k).any (zeroAt ws)), .bool ((row.take k).all (zeroAt ws)), .int .i64 k] 95, [.box [intRow ow, intRow pr, intRows su]]⟩) (fun k => k ≤ row.length) (fun k => row.length - k) [0] 0 (by omega) ?_ fun k hk0 => ?_
    · simp only [padA, St.le, slotsLe, heapLe, blkLe, rowLe, live, injOn, loLe, nget, nlook, ren, okA, allP, mapA, hget, ABlk.used, notin, List.map_cons, List.map_nil, true_or, or_true, false_or, or_false, true_and, and_true, and_self, AV.int.injEq, AV.bool.injEq, AV.str.injEq, AV.sl.injEq, AV.ro.injEq, AV.agg.injEq, List.cons.injEq, reduceCtorEq, ne_eq, not_false_eq_true, not_true_eq_false]; simp
    simp only [padA]
    (refine ev ?_; (try (with_reducible exact True.intro)))
    simp only [Int.toNat_natCast, hrow]
    repeat (((with_reducible refine And.intro ?_ ?_)); (focus (first | omega | (simp only [inR]; omega) | rfl | (simp [notinId, notin]; done) | exact Or.inr rfl | (intro i hi; (repeat' (with_reducible first | apply len_cut | apply len_shift | apply len_app | apply len_copy | intro j)) <;> first | rfl | (exact len_lit _ _ (by simp) rfl _) | (simp; done)))))
    refine gsd (fun hd2 => ?_) (fun hd2 => ?_)
    · have hk : k < row.length := by omega
      obtain ⟨t, et⟩ : ∃ t, row.getD k 0 = t := ⟨_, rfl⟩
      have w3 := w3 _ (getD_mem hk 0)
      have nx := take_next row 0 k hk
      rw [et] at nx w3
      have a1 : (row.take (k + 1)).any (zeroAt ws) = ((row.take k).any (zeroAt ws) || (ws.getD t.toNat 0 == 0)) := by rw [nx]; simp [zeroAt]
      have a2 : (row.take (k + 1)).all (zeroAt ws) = ((row.take k).all (zeroAt ws) && (ws.getD t.toNat 0 == 0)) := by rw [nx]; simp [zeroAt]
      obtain ⟨x, hx⟩ : ∃ x, (row.take k).any (zeroAt ws) = x := ⟨_, rfl⟩
      obtain ⟨y, hy⟩ : ∃ y, (row.take k).all (zeroAt ws) = y := ⟨_, rfl⟩
      rw [hx] at a1
      rw [hy] at a2
      simp only [hx, hy]
      cases x <;> cases y
      all_goals (
        (refine ev ?_; (try (with_reducible exact True.intro)))
        try simp only [Int.toNat_natCast, hrow, et]
        repeat (((with_reducible refine And.intro ?_ ?_)); (focus (first | omega | (simp only [inR]; omega) | rfl | (simp [notinId, notin]; done) | exact Or.inr rfl | (intro i hi; (repeat' (with_reducible first | apply len_cut | apply len_shift | apply len_app | apply len_copy | intro j)) <;> first | rfl | (exact len_lit _ _ (by simp) rfl _) | (simp; done))))))
      all_goals (
        refine ⟨k + 1, [0], by omega, by show row.length - (k + 1) < row.length - k; omega, ?_⟩
        simp only [padA, St.le, slotsLe, heapLe, blkLe, rowLe, live, injOn, loLe, nget, nlook, ren, okA, allP, mapA, hget, ABlk.used, notin, List.map_cons, List.map_nil, true_or, or_true, false_or, or_false, true_and, and_true, and_self, AV.int.injEq, AV.bool.injEq, AV.str.injEq, AV.sl.injEq, AV.ro.injEq, AV.agg.injEq, List.cons.injEq, reduceCtorEq, ne_eq, not_false_eq_true, not_true_eq_false, a1, a2]
        simp)
    · have hk : k = row.length := by omega
      subst hk
      (refine ev ?_; (try (with_reducible exact True.intro)))
      simp only [Int.toNat_natCast, List.take_length]
      repeat (((with_reducible refine And.intro ?_ ?_)); (focus (first | omega | (simp only [inR]; omega) | rfl | (simp [notinId, notin]; done) | exact Or.inr rfl | (intro i hi; (repeat' (with_reducible first | apply len_cut | apply len_shift | apply len_app | apply len_copy | intro j)) <;> first | rfl | (exact len_lit _ _ (by simp) rfl _) | (simp; done)))))
      generalize row.any (zeroAt ws) = A at *
      generalize row.all (zeroAt ws) = B at *
      rcases (v4 i hi).1 with ho | ho
      · rw [ho] at mv
        have mv : (ws.getD i 0 == 0) = A := by rw [mv]; cases A <;> cases B <;> rfl
        simp only [ho, mv, show ((0 : Int) == 0) = true from rfl]
        cases A <;> cases B
        all_goals
          (refine ev ?_; (try (with_reducible exact True.intro)))
          try simp only [Int.toNat_natCast, ho, show ((0 : Int) == 1) = false from rfl]
          try (refine ev ?_; (try (with_reducible exact True.intro)))
          repeat (((with_reducible refine And.intro ?_ ?_)); (focus (first | omega | (simp only [inR]; omega) | rfl | (simp [notinId, notin]; done) | exact Or.inr rfl | (intro i hi; (repeat' (with_reducible first | apply len_cut | apply len_shift | apply len_app | apply len_copy | intro j)) <;> first | rfl | (exact len_lit _ _ (by simp) rfl _) | (simp; done)))))
          refine ⟨i + 1, [0], by omega, by show ow.length - (i + 1) < ow.length - i; omega, ?_⟩
          simp only [padA, St.le, slotsLe, heapLe, blkLe, rowLe, live, injOn, loLe, nget, nlook, ren, okA, allP, mapA, hget, ABlk.used, notin, List.map_cons, List.map_nil, true_or, or_true, false_or, or_false, true_and, and_true, and_self, AV.int.injEq, AV.bool.injEq, AV.str.injEq, AV.sl.injEq, AV.ro.injEq, AV.agg.injEq, List.cons.injEq, reduceCtorEq, ne_eq, not_false_eq_true, not_true_eq_false]; simp
      · rw [ho] at mv
        have mv : (ws.getD i 0 == 0) = B := by rw [mv]; cases A <;> cases B <;> rfl
        simp only [ho, mv, show ((1 : Int) == 0) = false from rfl]
        cases A <;> cases B
        all_goals
          (refine ev ?_; (try (with_reducible exact True.intro)))
          try simp only [Int.toNat_natCast, ho, show ((1 : Int) == 1) = true from rfl]
          try (refine ev ?_; (try (with_reducible exact True.intro)))
          repeat (((with_reducible refine And.intro ?_ ?_)); (focus (first | omega | (simp only [inR]; omega) | rfl | (simp [notinId, notin]; done) | exact Or.inr rfl | (intro i hi; (repeat' (with_reducible first | apply len_cut | apply len_shift | apply len_app | apply len_copy | intro j)) <;> first | rfl | (exact len_lit _ _ (by simp) rfl _) | (simp; done)))))
          refine ⟨i + 1, [0], by omega, by show ow.length - (i + 1) < ow.length - i; omega, ?_⟩
          simp only [padA, St.le, slotsLe, heapLe, blkLe, rowLe, live, injOn, loLe, nget, nlook, ren, okA, allP, mapA, hget, ABlk.used, notin, List.map_cons, List.map_nil, true_or, or_true, false_or, or_false, true_and, and_true, and_self, AV.int.injEq, AV.bool.injEq, AV.str.injEq, AV.sl.injEq, AV.ro.injEq, AV.agg.injEq, List.cons.injEq, reduceCtorEq, ne_eq, not_false_eq_true, not_true_eq_false]; simp
  · (refine ev ?_; (try (with_reducible exact True.intro)))
    ((repeat' (with_reducible refine And.intro ?_ ?_)) <;> first | omega | (simp [notinId]; done) | (exact fun q hq => cut_at0 q (by simpa using hq)) | (exact fun q hq => cut_at0 q (by omega)) | (exact fun _ _ => rfl))
end Go.Proofs.Ythkgnnndlocbbaa
