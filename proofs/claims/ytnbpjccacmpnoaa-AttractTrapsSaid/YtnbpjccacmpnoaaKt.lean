/-
  The law AttractTraps' function: it returns true. No condition.
-/
import Derived.Test.YtnbpjccacmpnoaaKr
namespace Go.Proofs.Ytnbpjccacmpnoaa
set_option linter.unusedVariables false
set_option linter.unusedSimpArgs false
open Go Go.SH
set_option maxRecDepth 100000
set_option maxHeartbeats 4000000
set_option pp.maxSteps 8000
section
variable {ow pr : List Int} {su : List (List Int)} {pl : Int} {s a b : List Bool}
theorem trap_all (hv : validB ow pr su = true) (hp : pl = 0 ∨ pl = 1) (n : Nat) (hn : n = ow.length) : trapB ow pr su pl ((List.range n).map fun _ => true) = true := by
  have hl : ((List.range n).map fun _ => true).length = ow.length := by simpa using hn
  obtain ⟨ho, hs, hr, _⟩ := valid_ow hv hl
  refine trapB_intro (right_of hv hp hl) fun i hi _ => ?_
  have g : ∀ t ∈ su.getD i [], ((List.range n).map fun _ => true).getD t.toNat false = true := fun t ht => by
    have := hs i hi t ht
    rw [range_map_getD _ _ _ _ (by simpa using this)]
  have hpos := hr i hi
  unfold canF
  split
  · rw [List.any_eq_true]
    obtain ⟨x, hx⟩ := List.exists_mem_of_length_pos hpos
    exact ⟨x, hx, g x hx⟩
  · rw [List.all_eq_true]; exact g
theorem trap_none (hv : validB ow pr su = true) (hp : pl = 0 ∨ pl = 1) (n : Nat) (hn : n = ow.length) : trapB ow pr su pl (((List.range n).map fun _ => true).map not) = true := by
  refine trapB_intro (right_of hv hp (by simpa using hn)) fun i hi h => ?_
  rw [getD_map_not _ _ (by simpa using hi), range_map_getD _ _ _ _ (by simpa using hi)] at h
  cases h
theorem trap_both (hv : validB ow pr su = true) (hp : pl = 0 ∨ pl = 1) (n : Nat) (hn : n = ow.length) (ha : a.length = n) (hb : b.length = n) : trapB ow pr su pl ((List.range n).map fun i => (refClosed ow pr su (1 - pl) a).getD i false || (refClosed ow pr su (1 - pl) b).getD i false) = true := by
  have hp1 := (one_sub hp).1
  have ra := right_of (r := a) hv hp1 (by omega)
  have rb := right_of (r := b) hv hp1 (by omega)
  have hl : ((List.range n).map fun i => (refClosed ow pr su (1 - pl) a).getD i false || (refClosed ow pr su (1 - pl) b).getD i false).length = ow.length := by simpa using hn
  obtain ⟨ho, hs, hr, _⟩ := valid_ow hv hl
  have ca := comp_c ra
  have cb := comp_c rb
  rw [(one_sub hp).2] at ca cb
  have ea := trapB_elim ca
  have eb := trapB_elim cb
  rw [refC_len ra, ha] at ea
  rw [refC_len rb, hb] at eb
  refine trapB_intro (right_of hv hp hl) fun i hi h => ?_
  have hi' : i < n := by simpa using hi
  rw [range_map_getD _ _ _ _ hi', Bool.or_eq_true] at h
  rcases h with h | h
  · refine canF_mono (fun t ht e => ?_) (ea i hi' h)
    rw [range_map_getD _ _ _ _ (by simpa using hs i hi t ht)]
    rw [e, Bool.true_or]
  · refine canF_mono (fun t ht e => ?_) (eb i hi' h)
    rw [range_map_getD _ _ _ _ (by simpa using hs i hi t ht)]
    rw [e, Bool.or_true]
theorem closed_great (hr : rightB ow pr su pl s = true) {D : Nat → Bool} (h0 : ∀ i, i < s.length → D i = true → s.getD i false = true) (h1 : ∀ i, i < s.length → D i = true → canF ow su pl D i = true) (i : Nat) (hi : i < s.length) (hD : D i = true) : (refClosed ow pr su pl s).getD i false = true := by
  obtain ⟨hv, hp, hl⟩ := rightB_spec hr
  obtain ⟨ho, hs, _, _⟩ := valid_ow hv hl
  rw [refC_at hr i hi]
  exact out_great hp ho hs h0 h1 _ i hi hD
theorem both_sub (hv : validB ow pr su = true) (hp : pl = 0 ∨ pl = 1) (n : Nat) (hn : n = ow.length) (ha : a.length = n) (hb : b.length = n) :
    partB ((List.range n).map fun i => (refClosed ow pr su (1 - pl) a).getD i false || (refClosed ow pr su (1 - pl) b).getD i false) (refClosed ow pr su (1 - pl) ((List.range n).map fun i => a.getD i false || b.getD i false)) = true := by
  have hp1 := (one_sub hp).1
  have ra := right_of (r := a) hv hp1 (by omega)
  have rb := right_of (r := b) hv hp1 (by omega)
  have ru : rightB ow pr su (1 - pl) ((List.range n).map fun i => a.getD i false || b.getD i false) = true := right_of hv hp1 (by simpa using hn)
  have tb := trap_both hv hp n hn ha hb
  have te := trapB_elim tb
  refine partB_intro (by rw [refC_len ru]; simp) fun i hi h => ?_
  have hi' : i < n := by simpa using hi
  refine closed_great ru (D := fun i => decide (i < n) && ((refClosed ow pr su (1 - pl) a).getD i false || (refClosed ow pr su (1 - pl) b).getD i false)) (fun q hq hD => ?_) (fun q hq hD => ?_) i (by simpa using hi') ?_
  · have hq' : q < n := by simpa using hq
    rw [Bool.and_eq_true, Bool.or_eq_true] at hD
    rw [range_map_getD _ _ _ _ hq', Bool.or_eq_true]
    rcases hD.2 with h | h
    · left; rw [refC_at ra q (by omega)] at h; exact out_sub (by omega) h
    · right; rw [refC_at rb q (by omega)] at h; exact out_sub (by omega) h
  · have hq' : q < n := by simpa using hq
    rw [Bool.and_eq_true] at hD
    have := te q (by simpa using hq') (by rw [range_map_getD _ _ _ _ hq']; exact hD.2)
    refine canF_mono (fun t ht e => ?_) this
    rcases Nat.lt_or_ge t.toNat n with h1 | h1
    · rw [range_map_getD _ _ _ _ h1] at e
      rw [decide_eq_true h1, Bool.true_and]; exact e
    · rw [getD_ge _ _ _ (by simpa using h1)] at e; cases e
  · rw [range_map_getD _ _ _ _ hi'] at h
    rw [decide_eq_true hi', Bool.true_and]; exact h
theorem trap_sub (hv : validB ow pr su = true) (hp : pl = 0 ∨ pl = 1) (n : Nat) (hn : n = ow.length) (ha : a.length = n) (ht : trapB ow pr su pl a = true) :
    partB a (refClosed ow pr su (1 - pl) ((List.range n).map fun i => a.getD i false || b.getD i false)) = true := by
  have hp1 := (one_sub hp).1
  have ru : rightB ow pr su (1 - pl) ((List.range n).map fun i => a.getD i false || b.getD i false) = true := right_of hv hp1 (by simpa using hn)
  have te := trapB_elim ht
  refine partB_intro (by rw [refC_len ru]; simpa using ha) fun i hi h => ?_
  refine closed_great ru (D := fun i => a.getD i false) (fun q hq hD => ?_) (fun q hq hD => ?_) i (by simp; omega) h
  · have hq' : q < n := by simpa using hq
    have hD : a.getD q false = true := hD
    rw [range_map_getD _ _ _ _ hq', hD, Bool.true_or]
  · exact te q (by simp at hq; omega) hD
end
theorem k7 (ow pr : List Int) (su : List (List Int)) (b2 : Bool) (a b : List Bool) : Contract Try.prog 7 [game ow pr su, .bool b2, boolRow a, boolRow b] (.one (.val (.bool true))) := by
  refine ct7 (SH.Sem.of_wpA hm ?_)
  simp only [padA]
  simp only [Try.f7, Option.getD, w_skip, w_reg, w_regd, w_seq, w_cond, w_block, w_loop, w_rf, w_exit, w_ret, f_ok, f_call, f_yield, yK_cons, a_normal, r_normal, r_ret, r_exit, rg_cons, putL, frz, beq_self_eq_true, Nat.reduceBEq, updG_same, f_bad, cK_nil, cK_cons, v_nil, v_cons, gK_tt, gK_ff, gK_tf, gK_ft, dK_go, d_nil, d_cons, gD_tt, gD_ff, gD_tf, gD_ft, eC_one, eC_tup, eC_own, eE_ok, eE_bad, eD, eff, eBin, eEq, eUn, eConv, eLen, eMin, eMax, eField, eFieldAddr, eIndex, eIndexAddr, eSlice, eLoad, eStore, eAlloc, eBox, eBuild, eBuildSlice, eMake, eAppend, eCopy, eNil, ePick, eExtract, E.pure, Eff.only, Eff.notB, evalA, AV.ofV, AV.ofC, sget, sput, putA, applyU, hset, hget, hlen, alen, takeA, dropA, spliceA, mapA, allA, lget, oget, pget, tget, cellsA, AV.one, AV.goneB, partA, partC, TK.isAgg, nilish, natA, natC, loN, hiN, optC, roCut, loadP, loadC, aggOr, fillA, fillC, allPos, partsC, partsCells, partsAll, kills, killIds, liveAll, gnd, srcOf, inBlk, mapO, mapP, Go.SH.IntKind.uns, TK.flat, eqSc, eqScC, eqFs, eqFsC, seqK, blockK, condK, l_exit, l_ret, retK, retS, rsV, rsC, allT, padA, mapT, glook, bsel, gsplit_true, gsplit_false, resOf, resIds, resAll, nodupN, notin, like, like1, likeL, likeAll, AV.np, AV.gb, idsR, idsM, retI, retR, reify, AR.v, AR.u, AR.nv, nvec, impV, impU, isAlloc, callOf, countA, upIds, Option.map_none, Option.map_some, Option.isSome_some, Option.isSome_none, List.map_cons, List.map_nil, true_and, and_true, List.cons_append, List.nil_append, List.append_nil, List.length_cons, List.length_nil, List.nodup_nil, List.not_mem_nil, not_false_eq_true, ne_eq, reduceCtorEq, Bool.and_true, Bool.true_and, Bool.not_true, Bool.not_false, if_true, if_false, reduceIte, en_byte, en_byte', en_int, en_int', en_bool, en_bool', en_str, en_str', en_row, en_row', sh_at, sh_at', and_assoc, Nat.zero_add, Nat.add_zero, Nat.reduceAdd, appF_zero, Option.isNone_none, Option.isNone_some, en_byteL, en_intL, en_rowL, Int.reduceToNat, Nat.mul_one, Nat.one_mul, Nat.zero_mul, Nat.reduceMul, Nat.reduceSub, Nat.sub_zero, bne_self_eq_false, ti1, ti2, ti3, ti4, ti5, ti6, ti7, ti8, ti9, ti10, ti11, ti12, ti13, ti14, ti15, ti16, ti17, ti18, ti19, ti21, ti22, ti23, ti24, ti25, ti26, ti27, ti28, ti30, ti31, ti32, ti33, ti34, ti35, ti36, ti37, ti38, ti40, ti41, ti42, ti43, ti44, ti46, ti47, ti48, ti49, ti50, ti51, ti52, ti53, ti54, ti55, ti56, ti57, ti58, ti60, ti61, ti62, ti63, ti64, ti65, ti66, ti67, ti68, ti69, ti70, ti71, ti72, ti73, ti74, ti75, ti76, ti77, ti78, ti79, ti80, ti81]
  repeat (((with_reducible refine And.intro ?_ ?_)); (focus (first | omega | (simp only [inR]; omega) | rfl | (simp [notinId, notin]; done) | exact Or.inr rfl | (intro i hi; (repeat' (with_reducible first | apply len_cut | apply len_shift | apply len_app | apply len_copy | intro j)) <;> first | rfl | (exact len_lit _ _ (by simp) rfl _) | (simp; done)))))
  refine EffC.use k9 ?_ (.inl rfl) ?_
  · trivial
  (refine ev ?_; (try (with_reducible exact True.intro)))
  repeat (((with_reducible refine And.intro ?_ ?_)); (focus (first | omega | (simp only [inR]; omega) | rfl | (simp [notinId, notin]; done) | exact Or.inr rfl | (intro i hi; (repeat' (with_reducible first | apply len_cut | apply len_shift | apply len_app | apply len_copy | intro j)) <;> first | rfl | (exact len_lit _ _ (by simp) rfl _) | (simp; done)))))
  have a19 := k19 ow pr su a
  cases hlw : lawB ow pr su a
  · rw [hlw] at a19
    refine EffC.use a19 ?_ (.inl rfl) ?_
    · ((refine evL ?_; (try (with_reducible exact True.intro))) <;> (try simp (disch := (first | omega | (simp only [List.length_append, List.length_cons, List.length_nil, List.length_take, List.length_drop, List.length_map, List.length_nil] <;> omega) | fail)) only [cutF_all, strOf_enc, appF_zero, appF_enc, lit_byte, shiftF_enc, shiftF_0, cutF_enc, List.nil_append, List.drop_zero, List.take_of_length_le]) <;> (repeat' (with_reducible refine And.intro ?_ ?_)) <;> first | trivial | rfl | (intros; first | rfl | trivial; done) | (first | omega | (simp only [List.length_append, List.length_cons, List.length_nil, List.length_take, List.length_drop, List.length_map, List.length_nil] <;> omega) | fail))
    (refine ev ?_; (try (with_reducible exact True.intro)))
    ((repeat' (with_reducible refine And.intro ?_ ?_)) <;> first | omega | (simp [notinId]; done) | (exact fun q hq => cut_at0 q (by simpa using hq)) | (exact fun q hq => cut_at0 q (by omega)) | (exact fun _ _ => rfl))
  rw [hlw] at a19
  refine EffC.use a19 ?_ (.inl rfl) ?_
  · ((refine evL ?_; (try (with_reducible exact True.intro))) <;> (try simp (disch := (first | omega | (simp only [List.length_append, List.length_cons, List.length_nil, List.length_take, List.length_drop, List.length_map, List.length_nil] <;> omega) | fail)) only [cutF_all, strOf_enc, appF_zero, appF_enc, lit_byte, shiftF_enc, shiftF_0, cutF_enc, List.nil_append, List.drop_zero, List.take_of_length_le]) <;> (repeat' (with_reducible refine And.intro ?_ ?_)) <;> first | trivial | rfl | (intros; first | rfl | trivial; done) | (first | omega | (simp only [List.length_append, List.length_cons, List.length_nil, List.length_take, List.length_drop, List.length_map, List.length_nil] <;> omega) | fail))
  obtain ⟨⟨l1, l2, l3, l4⟩, hv, hsl⟩ := lawB_spec hlw
  have hs20 : ∀ r ∈ su, r.length ≤ 2 ^ 20 := fun r hr => by have := l4 r hr; omega
  (refine ev ?_; (try (with_reducible exact True.intro)))
  repeat (((with_reducible refine And.intro ?_ ?_)); (focus (first | omega | (simp only [inR]; omega) | rfl | (simp [notinId, notin]; done) | exact Or.inr rfl | (intro i hi; (repeat' (with_reducible first | apply len_cut | apply len_shift | apply len_app | apply len_copy | intro j)) <;> first | rfl | (exact len_lit _ _ (by simp) rfl _) | (simp; done)))))
  refine gs (fun hd => ?_) (fun hd => ?_)
  · (refine ev ?_; (try (with_reducible exact True.intro)))
    ((repeat' (with_reducible refine And.intro ?_ ?_)) <;> first | omega | (simp [notinId]; done) | (exact fun q hq => cut_at0 q (by simpa using hq)) | (exact fun q hq => cut_at0 q (by omega)) | (exact fun _ _ => rfl))
  have hbl : b.length = a.length := by simp at hd; omega
  obtain ⟨pl, hpl, ep⟩ : ∃ pl, (pl = 0 ∨ pl = 1) ∧ pl = plOf b2 := ⟨_, plOf_or b2, rfl⟩
  have hp1 := (one_sub hpl).1
  have ra := right_of (r := a) hv hp1 (by omega)
  have rb := right_of (r := b) hv hp1 (by omega)
  have ru : rightB ow pr su (1 - pl) ((List.range a.length).map fun i => a.getD i false || b.getD i false) = true := right_of hv hp1 (by simpa using hsl)
  have t1 := k15 ow pr su pl ((List.range a.length).map fun _ => true) (by omega) (by omega) (by omega) hs20
  rw [trap_all hv hpl _ hsl] at t1
  have t2 := k15 ow pr su pl (((List.range a.length).map fun _ => true).map not) (by omega) (by omega) (by omega) hs20
  rw [trap_none hv hpl _ hsl] at t2
  have n1 := k21 ((List.range a.length).map fun _ => true) (by simp; omega)
  have c1 := k17 ow pr su (1 - pl) a (by omega) (by omega) (by omega) hs20
  have c2 := k17 ow pr su (1 - pl) b (by omega) (by omega) (by omega) hs20
  have c3 := k17v ow pr su (1 - pl) ((List.range a.length).map fun i => a.getD i false || b.getD i false) (by omega) (by omega) (by omega) hs20
  have t3 := k15 ow pr su pl ((List.range a.length).map fun i => (refClosed ow pr su (1 - pl) a).getD i false || (refClosed ow pr su (1 - pl) b).getD i false) (by omega) (by omega) (by omega) hs20
  rw [trap_both hv hpl _ hsl rfl hbl] at t3
  have p1 := k20 ((List.range a.length).map fun i => (refClosed ow pr su (1 - pl) a).getD i false || (refClosed ow pr su (1 - pl) b).getD i false) (refClosed ow pr su (1 - pl) ((List.range a.length).map fun i => a.getD i false || b.getD i false)) (by simp; omega)
  rw [both_sub hv hpl _ hsl rfl hbl] at p1
  have t4 := k15 ow pr su pl a (by omega) (by omega) (by omega) hs20
  have p2 := k20 a (refClosed ow pr su (1 - pl) ((List.range a.length).map fun i => a.getD i false || b.getD i false)) (by omega)
  have p3 : trapB ow pr su pl a = true → partB a (refClosed ow pr su (1 - pl) ((List.range a.length).map fun i => a.getD i false || b.getD i false)) = true := trap_sub hv hpl _ hsl rfl
  have q1 := refC_len ra
  have q2 := refC_len rb
  have q3 := refC_len ru
  generalize refClosed ow pr su (1 - pl) a = x at *
  generalize refClosed ow pr su (1 - pl) b = y at *
  generalize refClosed ow pr su (1 - pl) ((List.range a.length).map fun i => a.getD i false || b.getD i false) = z at *
  have hxl : x.length = a.length := by omega
  have hyl : y.length = a.length := by omega
  have hzl : z.length = a.length := by simpa using q3
  clear q1 q2 q3 ra rb ru hp1 hpl
  cases b2
  case' false => have ep : pl = 0 := ep
  case' true => have ep : pl = 1 := ep
  all_goals
    (refine ev ?_; (try (with_reducible exact True.intro)))
    repeat (((with_reducible refine And.intro ?_ ?_)); (focus (first | omega | (simp only [inR]; omega) | rfl | (simp [notinId, notin]; done) | exact Or.inr rfl | (intro i hi; (repeat' (with_reducible first | apply len_cut | apply len_shift | apply len_app | apply len_copy | intro j)) <;> first | rfl | (exact len_lit _ _ (by simp) rfl _) | (simp; done)))))
    refine SH.Sem.loop hm (fun i : Nat => ⟨padA [.undef, .undef, boolRow a, boolRow b, .ptr 0 0 0, .undef, .undef, .undef, .undef, .bool true, .int .i64 pl, .sl 1 0 i, .sl 2 0 i, .int .i64 i] 144, [.box [intRow ow, intRow pr, intRows su], .vec 1 i (encL cBool false ((List.range i).map fun _ => true)), .vec 1 i (encL cBool false ((List.range i).map fun i => a.getD i false || b.getD i false))]⟩) (fun i => i ≤ a.length) (fun i => a.length - i) [0, 1, 2] 0 (by omega) ?_ fun i hi0 => ?_
    · simp only [padA, St.le, slotsLe, heapLe, blkLe, rowLe, live, injOn, loLe, nget, nlook, ren, okA, allP, mapA, hget, ABlk.used, notin, List.map_cons, List.map_nil, true_or, or_true, false_or, or_false, true_and, and_true, and_self, AV.int.injEq, AV.bool.injEq, AV.str.injEq, AV.sl.injEq, AV.ro.injEq, AV.agg.injEq, List.cons.injEq, reduceCtorEq, ne_eq, not_false_eq_true, not_true_eq_false]; simp [ep]
    simp only [padA]
    (refine ev ?_; (try (with_reducible exact True.intro)))
    refine gsd (fun hd => ?_) (fun hd => ?_)
    · have hi : i < a.length := by omega
      have nx := map_range_next (fun i => a.getD i false || b.getD i false) i
      have nx0 := map_range_next (fun _ => true) i
      (refine ev ?_; (try (with_reducible exact True.intro)))
      simp only [Int.toNat_natCast]
      repeat (((with_reducible refine And.intro ?_ ?_)); (focus (first | omega | (simp only [inR]; omega) | rfl | (simp [notinId, notin]; done) | exact Or.inr rfl | (intro i hi; (repeat' (with_reducible first | apply len_cut | apply len_shift | apply len_app | apply len_copy | intro j)) <;> first | rfl | (exact len_lit _ _ (by simp) rfl _) | (simp; done)))))
      refine gs (fun h1 => ?_) (fun h1 => ?_)
      · rw [h1, Bool.true_or] at nx
        (refine ev ?_; (try (with_reducible exact True.intro)))
        repeat (((with_reducible refine And.intro ?_ ?_)); (focus (first | omega | (simp only [inR]; omega) | rfl | (simp [notinId, notin]; done) | exact Or.inr rfl | (intro i hi; (repeat' (with_reducible first | apply len_cut | apply len_shift | apply len_app | apply len_copy | intro j)) <;> first | rfl | (exact len_lit _ _ (by simp) rfl _) | (simp; done)))))
        refine ⟨i + 1, [0, 4, 6], by omega, by show a.length - (i + 1) < a.length - i; omega, ?_⟩
        simp only [padA, St.le, slotsLe, heapLe, blkLe, rowLe, live, injOn, loLe, nget, nlook, ren, okA, allP, mapA, hget, ABlk.used, notin, List.map_cons, List.map_nil, true_or, or_true, false_or, or_false, true_and, and_true, and_self, AV.int.injEq, AV.bool.injEq, AV.str.injEq, AV.sl.injEq, AV.ro.injEq, AV.agg.injEq, List.cons.injEq, reduceCtorEq, ne_eq, not_false_eq_true, not_true_eq_false, nx, nx0]
        refine ⟨by omega, ⟨fun q hq => b_push _ _ _ q (by simp) hq, fun q hq => b_push _ _ _ q (by simp) hq⟩, by simp⟩
      · rw [h1, Bool.false_or] at nx
        (refine ev ?_; (try (with_reducible exact True.intro)))
        simp only [Int.toNat_natCast]
        repeat (((with_reducible refine And.intro ?_ ?_)); (focus (first | omega | (simp only [inR]; omega) | rfl | (simp [notinId, notin]; done) | exact Or.inr rfl | (intro i hi; (repeat' (with_reducible first | apply len_cut | apply len_shift | apply len_app | apply len_copy | intro j)) <;> first | rfl | (exact len_lit _ _ (by simp) rfl _) | (simp; done)))))
        refine ⟨i + 1, [0, 4, 6], by omega, by show a.length - (i + 1) < a.length - i; omega, ?_⟩
        simp only [padA, St.le, slotsLe, heapLe, blkLe, rowLe, live, injOn, loLe, nget, nlook, ren, okA, allP, mapA, hget, ABlk.used, notin, List.map_cons, List.map_nil, true_or, or_true, false_or, or_false, true_and, and_true, and_self, AV.int.injEq, AV.bool.injEq, AV.str.injEq, AV.sl.injEq, AV.ro.injEq, AV.agg.injEq, List.cons.injEq, reduceCtorEq, ne_eq, not_false_eq_true, not_true_eq_false, nx, nx0]
        refine ⟨by omega, ⟨fun q hq => b_push _ _ _ q (by simp) hq, fun q hq => b_push _ _ _ q (by simp) hq⟩, by simp⟩
    · have hi : i = a.length := by omega
      subst hi
      (refine ev ?_; (try (with_reducible exact True.intro)))
      repeat (((with_reducible refine And.intro ?_ ?_)); (focus (first | omega | (simp only [inR]; omega) | rfl | (simp [notinId, notin]; done) | exact Or.inr rfl | (intro i hi; (repeat' (with_reducible first | apply len_cut | apply len_shift | apply len_app | apply len_copy | intro j)) <;> first | rfl | (exact len_lit _ _ (by simp) rfl _) | (simp; done)))))
      refine ExCall.use t1 ?_ (.inl rfl) ?_
      · ((refine evL ?_; (try (with_reducible exact True.intro))) <;> (repeat' (with_reducible refine And.intro ?_ ?_)) <;> first | trivial | (exact fun _ _ => trivial) | (simp; done) | (exact fun q hq => cut_at0 q (by simpa using hq)) | (exact fun q hq => cut_at0 q (by omega)) | omega)
      (refine ev ?_; (try (with_reducible exact True.intro)))
      repeat (((with_reducible refine And.intro ?_ ?_)); (focus (first | omega | (simp only [inR]; omega) | rfl | (simp [notinId, notin]; done) | exact Or.inr rfl | (intro i hi; (repeat' (with_reducible first | apply len_cut | apply len_shift | apply len_app | apply len_copy | intro j)) <;> first | rfl | (exact len_lit _ _ (by simp) rfl _) | (simp; done)))))
      refine ExCall.use n1 ?_ (.inl (memless_vec (sz := 1) _ rfl (fun x a ha => by simp [cBool] at ha; subst ha; rfl))) ?_
      · ((refine evL ?_; (try (with_reducible exact True.intro))) <;> (repeat' (with_reducible refine And.intro ?_ ?_)) <;> first | trivial | (exact fun _ _ => trivial) | (simp; done) | (exact fun q hq => cut_at0 q (by simpa using hq)) | (exact fun q hq => cut_at0 q (by omega)) | omega)
      (refine ev ?_; (try (with_reducible exact True.intro)))
      repeat (((with_reducible refine And.intro ?_ ?_)); (focus (first | omega | (simp only [inR]; omega) | rfl | (simp [notinId, notin]; done) | exact Or.inr rfl | (intro i hi; (repeat' (with_reducible first | apply len_cut | apply len_shift | apply len_app | apply len_copy | intro j)) <;> first | rfl | (exact len_lit _ _ (by simp) rfl _) | (simp; done)))))
      refine ExCall.use t2 ?_ (.inl rfl) ?_
      · ((refine evL ?_; (try (with_reducible exact True.intro))) <;> (repeat' (with_reducible refine And.intro ?_ ?_)) <;> first | trivial | (exact fun _ _ => trivial) | (simp; done) | (exact fun q hq => cut_at0 q (by simpa using hq)) | (exact fun q hq => cut_at0 q (by omega)) | omega)
      (refine ev ?_; (try (with_reducible exact True.intro)))
      repeat (((with_reducible refine And.intro ?_ ?_)); (focus (first | omega | (simp only [inR]; omega) | rfl | (simp [notinId, notin]; done) | exact Or.inr rfl | (intro i hi; (repeat' (with_reducible first | apply len_cut | apply len_shift | apply len_app | apply len_copy | intro j)) <;> first | rfl | (exact len_lit _ _ (by simp) rfl _) | (simp; done)))))
      have c1' := c1
      have c2' := c2
      refine EffC.use c1 ?_ (.inr rfl) ?_
      · ((refine evL ?_; (try (with_reducible exact True.intro))) <;> (repeat' (with_reducible refine And.intro ?_ ?_)) <;> first | trivial | (exact fun _ _ => trivial) | (simp; done) | (exact fun q hq => cut_at0 q (by simpa using hq)) | (exact fun q hq => cut_at0 q (by omega)) | omega)
      (refine ev ?_; (try (with_reducible exact True.intro)))
      repeat (((with_reducible refine And.intro ?_ ?_)); (focus (first | omega | (simp only [inR]; omega) | rfl | (simp [notinId, notin]; done) | exact Or.inr rfl | (intro i hi; (repeat' (with_reducible first | apply len_cut | apply len_shift | apply len_app | apply len_copy | intro j)) <;> first | rfl | (exact len_lit _ _ (by simp) rfl _) | (simp; done)))))
      refine EffC.use c2 ?_ (.inr rfl) ?_
      · ((refine evL ?_; (try (with_reducible exact True.intro))) <;> (repeat' (with_reducible refine And.intro ?_ ?_)) <;> first | trivial | (exact fun _ _ => trivial) | (simp; done) | (exact fun q hq => cut_at0 q (by simpa using hq)) | (exact fun q hq => cut_at0 q (by omega)) | omega)
      (refine ev ?_; (try (with_reducible exact True.intro)))
      repeat (((with_reducible refine And.intro ?_ ?_)); (focus (first | omega | (simp only [inR]; omega) | rfl | (simp [notinId, notin]; done) | exact Or.inr rfl | (intro i hi; (repeat' (with_reducible first | apply len_cut | apply len_shift | apply len_app | apply len_copy | intro j)) <;> first | rfl | (exact len_lit _ _ (by simp) rfl _) | (simp; done)))))
      refine SH.Sem.loop hm (fun i : Nat => ⟨padA [.undef, .undef, boolRow a, boolRow b, .ptr 0 0 0, .undef, .undef, .undef, .undef, .bool true, .int .i64 pl, .undef, .sl 1 0 a.length, .undef, boolRow x, boolRow y, .sl 2 0 i, .int .i64 i] 144, [.box [intRow ow, intRow pr, intRows su], .vec 1 a.length (encL cBool false ((List.range a.length).map fun i => a.getD i false || b.getD i false)), .vec 1 i (encL cBool false ((List.range i).map fun i => x.getD i false || y.getD i false))]⟩) (fun i => i ≤ a.length) (fun i => a.length - i) [0, 2, 6] 0 (by omega) ?_ fun i hi0 => ?_
      · simp only [padA, St.le, slotsLe, heapLe, blkLe, rowLe, live, injOn, loLe, nget, nlook, ren, okA, allP, mapA, hget, ABlk.used, notin, List.map_cons, List.map_nil, true_or, or_true, false_or, or_false, true_and, and_true, and_self, AV.int.injEq, AV.bool.injEq, AV.str.injEq, AV.sl.injEq, AV.ro.injEq, AV.agg.injEq, List.cons.injEq, reduceCtorEq, ne_eq, not_false_eq_true, not_true_eq_false]; simp
      simp only [padA]
      (refine ev ?_; (try (with_reducible exact True.intro)))
      simp only [hxl, hyl]
      refine gsd (fun hd => ?_) (fun hd => ?_)
      · have hi : i < a.length := by omega
        have nx := map_range_next (fun i => x.getD i false || y.getD i false) i
        (refine ev ?_; (try (with_reducible exact True.intro)))
        simp only [hxl, hyl]
        refine gsd (fun hd2 => ?_) (fun hd2 => absurd hd hd2)
        (refine ev ?_; (try (with_reducible exact True.intro)))
        simp only [Int.toNat_natCast]
        repeat (((with_reducible refine And.intro ?_ ?_)); (focus (first | omega | (simp only [inR]; omega) | rfl | (simp [notinId, notin]; done) | exact Or.inr rfl | (intro i hi; (repeat' (with_reducible first | apply len_cut | apply len_shift | apply len_app | apply len_copy | intro j)) <;> first | rfl | (exact len_lit _ _ (by simp) rfl _) | (simp; done)))))
        refine gs (fun h1 => ?_) (fun h1 => ?_)
        · rw [h1, Bool.true_or] at nx
          (refine ev ?_; (try (with_reducible exact True.intro)))
          repeat (((with_reducible refine And.intro ?_ ?_)); (focus (first | omega | (simp only [inR]; omega) | rfl | (simp [notinId, notin]; done) | exact Or.inr rfl | (intro i hi; (repeat' (with_reducible first | apply len_cut | apply len_shift | apply len_app | apply len_copy | intro j)) <;> first | rfl | (exact len_lit _ _ (by simp) rfl _) | (simp; done)))))
          refine ⟨i + 1, [0, 1, 4], by omega, by show a.length - (i + 1) < a.length - i; omega, ?_⟩
          simp only [padA, St.le, slotsLe, heapLe, blkLe, rowLe, live, injOn, loLe, nget, nlook, ren, okA, allP, mapA, hget, ABlk.used, notin, List.map_cons, List.map_nil, true_or, or_true, false_or, or_false, true_and, and_true, and_self, AV.int.injEq, AV.bool.injEq, AV.str.injEq, AV.sl.injEq, AV.ro.injEq, AV.agg.injEq, List.cons.injEq, reduceCtorEq, ne_eq, not_false_eq_true, not_true_eq_false, nx]
          refine ⟨by omega, ⟨by simp, fun q hq => b_push _ _ _ q (by simp) hq⟩, by simp⟩
        · rw [h1, Bool.false_or] at nx
          (refine ev ?_; (try (with_reducible exact True.intro)))
          simp only [Int.toNat_natCast]
          repeat (((with_reducible refine And.intro ?_ ?_)); (focus (first | omega | (simp only [inR]; omega) | rfl | (simp [notinId, notin]; done) | exact Or.inr rfl | (intro i hi; (repeat' (with_reducible first | apply len_cut | apply len_shift | apply len_app | apply len_copy | intro j)) <;> first | rfl | (exact len_lit _ _ (by simp) rfl _) | (simp; done)))))
          refine ⟨i + 1, [0, 1, 4], by omega, by show a.length - (i + 1) < a.length - i; omega, ?_⟩
          simp only [padA, St.le, slotsLe, heapLe, blkLe, rowLe, live, injOn, loLe, nget, nlook, ren, okA, allP, mapA, hget, ABlk.used, notin, List.map_cons, List.map_nil, true_or, or_true, false_or, or_false, true_and, and_true, and_self, AV.int.injEq, AV.bool.injEq, AV.str.injEq, AV.sl.injEq, AV.ro.injEq, AV.agg.injEq, List.cons.injEq, reduceCtorEq, ne_eq, not_false_eq_true, not_true_eq_false, nx]
          refine ⟨by omega, ⟨by simp, fun q hq => b_push _ _ _ q (by simp) hq⟩, by simp⟩
      · have hi : i = a.length := by omega
        subst hi
        (refine ev ?_; (try (with_reducible exact True.intro)))
        repeat (((with_reducible refine And.intro ?_ ?_)); (focus (first | omega | (simp only [inR]; omega) | rfl | (simp [notinId, notin]; done) | exact Or.inr rfl | (intro i hi; (repeat' (with_reducible first | apply len_cut | apply len_shift | apply len_app | apply len_copy | intro j)) <;> first | rfl | (exact len_lit _ _ (by simp) rfl _) | (simp; done)))))
        refine EffC.use t3 ?_ (.inl rfl) ?_
        · ((refine evL ?_; (try (with_reducible exact True.intro))) <;> (repeat' (with_reducible refine And.intro ?_ ?_)) <;> first | trivial | (exact fun _ _ => trivial) | (simp; done) | (exact fun q hq => cut_at0 q (by simpa using hq)) | (exact fun q hq => cut_at0 q (by omega)) | omega)
        (refine ev ?_; (try (with_reducible exact True.intro)))
        repeat (((with_reducible refine And.intro ?_ ?_)); (focus (first | omega | (simp only [inR]; omega) | rfl | (simp [notinId, notin]; done) | exact Or.inr rfl | (intro i hi; (repeat' (with_reducible first | apply len_cut | apply len_shift | apply len_app | apply len_copy | intro j)) <;> first | rfl | (exact len_lit _ _ (by simp) rfl _) | (simp; done)))))
        refine EffC.use c3 ?_ (.inl (memless_vec (sz := 1) _ rfl (fun x a ha => by simp [cBool] at ha; subst ha; rfl))) ?_
        · ((refine evL ?_; (try (with_reducible exact True.intro))) <;> (repeat' (with_reducible refine And.intro ?_ ?_)) <;> first | trivial | (exact fun _ _ => trivial) | (simp; done) | (exact fun q hq => cut_at0 q (by simpa using hq)) | (exact fun q hq => cut_at0 q (by omega)) | omega)
        (refine ev ?_; (try (with_reducible exact True.intro)))
        repeat (((with_reducible refine And.intro ?_ ?_)); (focus (first | omega | (simp only [inR]; omega) | rfl | (simp [notinId, notin]; done) | exact Or.inr rfl | (intro i hi; (repeat' (with_reducible first | apply len_cut | apply len_shift | apply len_app | apply len_copy | intro j)) <;> first | rfl | (exact len_lit _ _ (by simp) rfl _) | (simp; done)))))
        refine EffC.use p1 ?_ (.inl rfl) ?_
        · ((refine evL ?_; (try (with_reducible exact True.intro))) <;> (repeat' (with_reducible refine And.intro ?_ ?_)) <;> first | trivial | (exact fun _ _ => trivial) | (simp; done) | (exact fun q hq => cut_at0 q (by simpa using hq)) | (exact fun q hq => cut_at0 q (by omega)) | omega)
        (refine ev ?_; (try (with_reducible exact True.intro)))
        repeat (((with_reducible refine And.intro ?_ ?_)); (focus (first | omega | (simp only [inR]; omega) | rfl | (simp [notinId, notin]; done) | exact Or.inr rfl | (intro i hi; (repeat' (with_reducible first | apply len_cut | apply len_shift | apply len_app | apply len_copy | intro j)) <;> first | rfl | (exact len_lit _ _ (by simp) rfl _) | (simp; done)))))
        refine EffC.use t4 ?_ (.inl rfl) ?_
        · ((refine evL ?_; (try (with_reducible exact True.intro))) <;> (repeat' (with_reducible refine And.intro ?_ ?_)) <;> first | trivial | (exact fun _ _ => trivial) | (simp; done) | (exact fun q hq => cut_at0 q (by simpa using hq)) | (exact fun q hq => cut_at0 q (by omega)) | omega)
        cases ht : trapB ow pr su pl a
        · (refine ev ?_; (try (with_reducible exact True.intro)))
          repeat (((with_reducible refine And.intro ?_ ?_)); (focus (first | omega | (simp only [inR]; omega) | rfl | (simp [notinId, notin]; done) | exact Or.inr rfl | (intro i hi; (repeat' (with_reducible first | apply len_cut | apply len_shift | apply len_app | apply len_copy | intro j)) <;> first | rfl | (exact len_lit _ _ (by simp) rfl _) | (simp; done)))))
          ((repeat' (with_reducible refine And.intro ?_ ?_)) <;> first | omega | (simp [notinId]; done) | (exact fun q hq => cut_at0 q (by simpa using hq)) | (exact fun q hq => cut_at0 q (by omega)) | (exact fun _ _ => rfl))
        · rw [p3 ht] at p2
          (refine ev ?_; (try (with_reducible exact True.intro)))
          repeat (((with_reducible refine And.intro ?_ ?_)); (focus (first | omega | (simp only [inR]; omega) | rfl | (simp [notinId, notin]; done) | exact Or.inr rfl | (intro i hi; (repeat' (with_reducible first | apply len_cut | apply len_shift | apply len_app | apply len_copy | intro j)) <;> first | rfl | (exact len_lit _ _ (by simp) rfl _) | (simp; done)))))
          refine EffC.use c3 ?_ (.inl (memless_vec (sz := 1) _ rfl (fun x a ha => by simp [cBool] at ha; subst ha; rfl))) ?_
          · ((refine evL ?_; (try (with_reducible exact True.intro))) <;> (repeat' (with_reducible refine And.intro ?_ ?_)) <;> first | trivial | (exact fun _ _ => trivial) | (simp; done) | (exact fun q hq => cut_at0 q (by simpa using hq)) | (exact fun q hq => cut_at0 q (by omega)) | omega)
          (refine ev ?_; (try (with_reducible exact True.intro)))
          repeat (((with_reducible refine And.intro ?_ ?_)); (focus (first | omega | (simp only [inR]; omega) | rfl | (simp [notinId, notin]; done) | exact Or.inr rfl | (intro i hi; (repeat' (with_reducible first | apply len_cut | apply len_shift | apply len_app | apply len_copy | intro j)) <;> first | rfl | (exact len_lit _ _ (by simp) rfl _) | (simp; done)))))
          refine EffC.use p2 ?_ (.inl rfl) ?_
          · ((refine evL ?_; (try (with_reducible exact True.intro))) <;> (repeat' (with_reducible refine And.intro ?_ ?_)) <;> first | trivial | (exact fun _ _ => trivial) | (simp; done) | (exact fun q hq => cut_at0 q (by simpa using hq)) | (exact fun q hq => cut_at0 q (by omega)) | omega)
          (refine ev ?_; (try (with_reducible exact True.intro)))
          repeat (((with_reducible refine And.intro ?_ ?_)); (focus (first | omega | (simp only [inR]; omega) | rfl | (simp [notinId, notin]; done) | exact Or.inr rfl | (intro i hi; (repeat' (with_reducible first | apply len_cut | apply len_shift | apply len_app | apply len_copy | intro j)) <;> first | rfl | (exact len_lit _ _ (by simp) rfl _) | (simp; done)))))
          trace_state
          ((repeat' (with_reducible refine And.intro ?_ ?_)) <;> first | omega | (simp [notinId]; done) | (exact fun q hq => cut_at0 q (by simpa using hq)) | (exact fun q hq => cut_at0 q (by omega)) | (exact fun _ _ => rfl))
end Go.Proofs.Ytnbpjccacmpnoaa
