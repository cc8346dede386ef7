/-
  The attractors' field: what open returns. No condition.
-/
import Derived.Test.YthkgnnndlocbbaaKg
import Derived.Test.YthkgnnndlocbbaaKe
import Derived.Test.YthkgnnndlocbbaaShY
namespace Go.Proofs.Ythkgnnndlocbbaa
set_option linter.unusedVariables false
set_option linter.unusedSimpArgs false
open Go Go.SH
set_option maxRecDepth 10000
set_option maxHeartbeats 4000000
/-- The predecessors of a position, once for each edge, by their own order. -/
def befL (su : List (List Int)) (m : Nat) (q : Nat) : List Int := (List.range m).flatMap fun (i : Nat) => ((su.getD i []).filter fun t => t == (q : Int)).map fun _ => (i : Int)
def befs (su : List (List Int)) (n : Nat) : List (List Int) := (List.range n).map (befL su su.length)
/-- The same, within the round of a position. -/
def befK (su : List (List Int)) (row : List Int) (i k : Nat) (q : Nat) : List Int := befL su i q ++ ((row.take k).filter fun t => t == (q : Int)).map fun _ => (i : Int)
/-- Rows within rows: lists. -/
def rowsG (L : Nat → List Int) : Nat → MRow := fun q => .row 1 (L q).length (encL (cInt .i64) 0 (L q))
def openR (ow pr : List Int) (su : List (List Int)) (pl : Int) (s : List Bool) : AR :=
  if rightB ow pr su pl s then .tup [.val (.agg [intRow ow, intRow pr, intRows su, intRows (befs su ow.length)]), .val (.bool true)]
  else .tup [.val (.agg [.raw (.slice none 0 0), .raw (.slice none 0 0), .raw (.slice none 0 0), .raw (.slice none 0 0)]), .val (.bool false)]
theorem befL_next (su : List (List Int)) (m q : Nat) : befL su (m + 1) q = befL su m q ++ ((su.getD m []).filter fun t => t == (q : Int)).map fun _ => (m : Int) := by
  unfold befL
  rw [List.range_succ, List.flatMap_append]
  simp
theorem befL_length {su : List (List Int)} (h : ∀ r ∈ su, r.length ≤ 2 ^ 20) (q : Nat) : ∀ m, m ≤ su.length → (befL su m q).length ≤ m * 2 ^ 20
  | 0, _ => by simp [befL]
  | m + 1, hm => by
    have h1 := befL_length h q m (by omega)
    have h2 := h _ (getD_mem (show m < su.length by omega) [])
    have h3 := List.length_filter_le (fun t => t == (q : Int)) (su.getD m [])
    rw [befL_next, List.length_append, List.length_map]
    omega
theorem befK_next (su : List (List Int)) (row : List Int) (i k q : Nat) (hk : k < row.length) : befK su row i (k + 1) q = befK su row i k q ++ if row.getD k 0 = (q : Int) then [(i : Int)] else [] := by
  unfold befK
  rw [take_next row 0 k hk, List.filter_append, List.map_append, List.append_assoc]
  congr 2
  by_cases h : row.getD k 0 = (q : Int)
  · rw [if_pos h, List.filter_cons_of_pos (by rw [h]; simp)]; rfl
  · rw [if_neg h, List.filter_cons_of_neg (by simpa using h)]; rfl
theorem k25 (ow pr : List Int) (su : List (List Int)) (pl : Int) (s : List Bool) (ho : ow.length < 2 ^ 40) (hp : pr.length < 2 ^ 40) (hs : su.length < 2 ^ 40) (hsu1 : ∀ r ∈ su, r.length ≤ 2 ^ 20) :
    Contract Try.prog 37 [game ow pr su, .int .i64 pl, boolRow s] (openR ow pr su pl s) := by
  have hsu : ∀ r ∈ su, r.length < 2 ^ 40 := fun r hr => by have := hsu1 r hr; omega
  refine ct37 ?_
  simp only [padA]
  simp only [Try.f37, Option.getD]
  refine SH.Sem.step hm ?_
  (refine ev ?_; (try (with_reducible exact True.intro)))
  repeat (((with_reducible refine And.intro ?_ ?_)); (focus (first | omega | (simp only [inR]; omega) | rfl | (simp [notinId, notin]; done) | exact Or.inr rfl | (intro i hi; (repeat' (with_reducible first | apply len_cut | apply len_shift | apply len_app | apply len_copy | intro j)) <;> first | rfl | (exact len_lit _ _ (by simp) rfl _) | (simp; done)))))
  refine SH.Sem.step hm ?_
  (refine ev ?_; (try (with_reducible exact True.intro)))
  repeat (((with_reducible refine And.intro ?_ ?_)); (focus (first | omega | (simp only [inR]; omega) | rfl | (simp [notinId, notin]; done) | exact Or.inr rfl | (intro i hi; (repeat' (with_reducible first | apply len_cut | apply len_shift | apply len_app | apply len_copy | intro j)) <;> first | rfl | (exact len_lit _ _ (by simp) rfl _) | (simp; done)))))
  refine EffC.use (k23 ow pr su ho hp hs hsu) ?_ (.inl rfl) ?_
  · ((refine evL ?_; (try (with_reducible exact True.intro))) <;> (try simp (disch := (first | omega | (simp only [List.length_append, List.length_cons, List.length_nil, List.length_take, List.length_drop, List.length_map, List.length_nil] <;> omega) | fail)) only [cutF_all, strOf_enc, appF_zero, appF_enc, lit_byte, shiftF_enc, shiftF_0, cutF_enc, List.nil_append, List.drop_zero, List.take_of_length_le]) <;> (repeat' (with_reducible refine And.intro ?_ ?_)) <;> first | trivial | rfl | (intros; first | rfl | trivial; done) | (first | omega | (simp only [List.length_append, List.length_cons, List.length_nil, List.length_take, List.length_drop, List.length_map, List.length_nil] <;> omega) | fail))
  (refine ev ?_; (try (with_reducible exact True.intro)))
  repeat (((with_reducible refine And.intro ?_ ?_)); (focus (first | omega | (simp only [inR]; omega) | rfl | (simp [notinId, notin]; done) | exact Or.inr rfl | (intro i hi; (repeat' (with_reducible first | apply len_cut | apply len_shift | apply len_app | apply len_copy | intro j)) <;> first | rfl | (exact len_lit _ _ (by simp) rfl _) | (simp; done)))))
  have no : rightB ow pr su pl s = false → openR ow pr su pl s = .tup [.val (.agg [.raw (.slice none 0 0), .raw (.slice none 0 0), .raw (.slice none 0 0), .raw (.slice none 0 0)]), .val (.bool false)] := fun h => by rw [openR, h]; rfl
  cases hv : validB ow pr su
  · rw [no (by rw [rightB, hv]; rfl)]
    (refine ev ?_; (try (with_reducible exact True.intro)))
    repeat (((with_reducible refine And.intro ?_ ?_)); (focus (first | omega | (simp only [inR]; omega) | rfl | (simp [notinId, notin]; done) | exact Or.inr rfl | (intro i hi; (repeat' (with_reducible first | apply len_cut | apply len_shift | apply len_app | apply len_copy | intro j)) <;> first | rfl | (exact len_lit _ _ (by simp) rfl _) | (simp; done)))))
    simp [notinId, Value.oneCell']
  (refine ev ?_; (try (with_reducible exact True.intro)))
  repeat (((with_reducible refine And.intro ?_ ?_)); (focus (first | omega | (simp only [inR]; omega) | rfl | (simp [notinId, notin]; done) | exact Or.inr rfl | (intro i hi; (repeat' (with_reducible first | apply len_cut | apply len_shift | apply len_app | apply len_copy | intro j)) <;> first | rfl | (exact len_lit _ _ (by simp) rfl _) | (simp; done)))))
  refine gsd (fun h1 => ?_) (fun h1 => ?_)
  · rw [no (by rw [rightB, hv]; simp; omega)]
    (refine ev ?_; (try (with_reducible exact True.intro)))
    repeat (((with_reducible refine And.intro ?_ ?_)); (focus (first | omega | (simp only [inR]; omega) | rfl | (simp [notinId, notin]; done) | exact Or.inr rfl | (intro i hi; (repeat' (with_reducible first | apply len_cut | apply len_shift | apply len_app | apply len_copy | intro j)) <;> first | rfl | (exact len_lit _ _ (by simp) rfl _) | (simp; done)))))
    simp [notinId, Value.oneCell']
  (refine ev ?_; (try (with_reducible exact True.intro)))
  repeat (((with_reducible refine And.intro ?_ ?_)); (focus (first | omega | (simp only [inR]; omega) | rfl | (simp [notinId, notin]; done) | exact Or.inr rfl | (intro i hi; (repeat' (with_reducible first | apply len_cut | apply len_shift | apply len_app | apply len_copy | intro j)) <;> first | rfl | (exact len_lit _ _ (by simp) rfl _) | (simp; done)))))
  refine gsd (fun h2 => ?_) (fun h2 => ?_)
  · rw [no (by rw [rightB, hv]; simp; omega)]
    (refine ev ?_; (try (with_reducible exact True.intro)))
    repeat (((with_reducible refine And.intro ?_ ?_)); (focus (first | omega | (simp only [inR]; omega) | rfl | (simp [notinId, notin]; done) | exact Or.inr rfl | (intro i hi; (repeat' (with_reducible first | apply len_cut | apply len_shift | apply len_app | apply len_copy | intro j)) <;> first | rfl | (exact len_lit _ _ (by simp) rfl _) | (simp; done)))))
    simp [notinId, Value.oneCell']
  (refine ev ?_; (try (with_reducible exact True.intro)))
  repeat (((with_reducible refine And.intro ?_ ?_)); (focus (first | omega | (simp only [inR]; omega) | rfl | (simp [notinId, notin]; done) | exact Or.inr rfl | (intro i hi; (repeat' (with_reducible first | apply len_cut | apply len_shift | apply len_app | apply len_copy | intro j)) <;> first | rfl | (exact len_lit _ _ (by simp) rfl _) | (simp; done)))))
  refine gs (fun h3 => ?_) (fun h3 => ?_)
  · rw [no (by rw [rightB, hv]; simp at h3 ⊢; omega)]
    (refine ev ?_; (try (with_reducible exact True.intro)))
    repeat (((with_reducible refine And.intro ?_ ?_)); (focus (first | omega | (simp only [inR]; omega) | rfl | (simp [notinId, notin]; done) | exact Or.inr rfl | (intro i hi; (repeat' (with_reducible first | apply len_cut | apply len_shift | apply len_app | apply len_copy | intro j)) <;> first | rfl | (exact len_lit _ _ (by simp) rfl _) | (simp; done)))))
    simp [notinId, Value.oneCell']
  have h3 : s.length = ow.length := by simp at h3; omega
  have e : openR ow pr su pl s = .tup [.val (.agg [intRow ow, intRow pr, intRows su, intRows (befs su ow.length)]), .val (.bool true)] := by
    rw [openR, if_pos]
    rw [rightB, hv, decide_eq_true h3]
    simp; omega
  rw [e]
  obtain ⟨v1, v2, v3, v4⟩ := validB_spec hv
  (refine ev ?_; (try (with_reducible exact True.intro)))
  repeat (((with_reducible refine And.intro ?_ ?_)); (focus (first | omega | (simp only [inR]; omega) | rfl | (simp [notinId, notin]; done) | exact Or.inr rfl | (intro i hi; (repeat' (with_reducible first | apply len_cut | apply len_shift | apply len_app | apply len_copy | intro j)) <;> first | rfl | (exact len_lit _ _ (by simp) rfl _) | (simp; done)))))
  refine SH.Sem.step hm ?_
  (refine ev ?_; (try (with_reducible exact True.intro)))
  repeat (((with_reducible refine And.intro ?_ ?_)); (focus (first | omega | (simp only [inR]; omega) | rfl | (simp [notinId, notin]; done) | exact Or.inr rfl | (intro i hi; (repeat' (with_reducible first | apply len_cut | apply len_shift | apply len_app | apply len_copy | intro j)) <;> first | rfl | (exact len_lit _ _ (by simp) rfl _) | (simp; done)))))
  simp only [Int.toNat_natCast]
  refine SH.Sem.tomat 2 1 (encL (cInt .i64) 0 []) (by decide) rfl (fun i _ => rfl) ?_
  simp only [hset]
  refine SH.Sem.step hm ?_
  (refine ev ?_; (try (with_reducible exact True.intro)))
  repeat (((with_reducible refine And.intro ?_ ?_)); (focus (first | omega | (simp only [inR]; omega) | rfl | (simp [notinId, notin]; done) | exact Or.inr rfl | (intro i hi; (repeat' (with_reducible first | apply len_cut | apply len_shift | apply len_app | apply len_copy | intro j)) <;> first | rfl | (exact len_lit _ _ (by simp) rfl _) | (simp; done)))))
  refine SH.Sem.loop hm (fun i : Nat => ⟨padA [.undef, .undef, .undef, .ptr 0 0 0, .undef, .undef, .ptr 1 0 0, .undef, .ptr 3 0 0, .undef, .undef, .undef, .undef, .undef, .undef, .undef, .undef, .undef, .undef, .undef, .undef, .undef, .undef, .undef, .undef, .undef, .undef, .undef, .undef, .undef, .undef, .undef, .undef, .undef, .undef, .undef, .undef, .undef, .undef, .undef, intRows su, .int .i64 su.length, .int .i64 i] 68, [.box [intRow ow, intRow pr, intRows su], .box [.raw (.slice none 0 0), .raw (.slice none 0 0), .raw (.slice none 0 0), .raw (.slice none 0 0)], .mat ow.length (rowsG (befL su i)), .box [intRow ow, intRow pr, intRows su, .sl 2 0 ow.length]]⟩) (fun i => i ≤ su.length) (fun i => su.length - i) [0, 1, 2, 4] 0 (by omega) ?_ fun i hi0 => ?_
  · have e0 : rowsG (befL su 0) = fun _ => .row 1 0 (encL (cInt .i64) 0 []) := by funext q; simp [rowsG, befL]
    simp only [padA, St.le, slotsLe, heapLe, blkLe, rowLe, live, injOn, loLe, nget, nlook, ren, okA, allP, mapA, hget, ABlk.used, notin, List.map_cons, List.map_nil, true_or, or_true, false_or, or_false, true_and, and_true, and_self, AV.int.injEq, AV.bool.injEq, AV.str.injEq, AV.sl.injEq, AV.ro.injEq, AV.agg.injEq, List.cons.injEq, reduceCtorEq, ne_eq, not_false_eq_true, not_true_eq_false, e0]
    simp
  simp only [padA]
  (refine ev ?_; (try (with_reducible exact True.intro)))
  refine gsd (fun hd => ?_) (fun hd => ?_)
  · have hi : i < su.length := by omega
    (refine ev ?_; (try (with_reducible exact True.intro)))
    simp only [Int.toNat_natCast]
    repeat (((with_reducible refine And.intro ?_ ?_)); (focus (first | omega | (simp only [inR]; omega) | rfl | (simp [notinId, notin]; done) | exact Or.inr rfl | (intro i hi; (repeat' (with_reducible first | apply len_cut | apply len_shift | apply len_app | apply len_copy | intro j)) <;> first | rfl | (exact len_lit _ _ (by simp) rfl _) | (simp; done)))))
    obtain ⟨row, hrow⟩ : ∃ row, su.getD i [] = row := ⟨_, rfl⟩
    have w3 := (v4 i (by omega)).2.2
    have hrl := hsu _ (getD_mem (show i < su.length by omega) [])
    rw [hrow] at w3 hrl
    simp only [hrow]
    refine SH.Sem.loopS (fun k : Nat => ⟨padA [.undef, .undef, .undef, .ptr 0 0 0, .undef, .undef, .ptr 1 0 0, .undef, .ptr 3 0 0, .int .i64 i, .undef, .undef, .undef, .undef, .undef, .undef, .undef, .undef, .undef, .undef, .undef, .undef, .undef, .undef, .undef, .undef, .undef, .undef, .undef, .undef, .undef, .undef, .undef, .undef, .undef, .undef, .undef, .undef, .undef, .undef, intRows su, .int .i64 su.length, .int .i64 i, .undef, .undef, .undef, .undef, intRow row, .int .i64 row.length, .int .i64 k] 68, [.box [intRow ow, intRow pr, intRows su], .box [.raw (.slice none 0 0), .raw (.slice none 0 0), .raw (.slice none 0 0), .raw (.slice none 0 0)], .mat ow.length (rowsG (befK su row i k)), .box [intRow ow, intRow pr, intRows su, .sl 2 0 ow.length]]⟩) (fun k => k ≤ row.length) (fun k => row.length - k) [0, 1, 2, 3] 0 (by omega) ?_ fun k hk0 => ?_
    · have e0 : rowsG (befK su row i 0) = rowsG (befL su i) := by funext q; simp [rowsG, befK]
      simp only [padA, St.le, slotsLe, heapLe, blkLe, rowLe, live, injOn, loLe, nget, nlook, ren, okA, allP, mapA, hget, ABlk.used, notin, List.map_cons, List.map_nil, true_or, or_true, false_or, or_false, true_and, and_true, and_self, AV.int.injEq, AV.bool.injEq, AV.str.injEq, AV.sl.injEq, AV.ro.injEq, AV.agg.injEq, List.cons.injEq, reduceCtorEq, ne_eq, not_false_eq_true, not_true_eq_false, e0]
      simp
      exact fun q _ => ⟨rfl, rfl, fun _ _ => rfl⟩
    simp only [padA]
    refine SH.Sem.step hm ?_
    (refine ev ?_; (try (with_reducible exact True.intro)))
    refine SH.Sem.step hm ?_
    (refine ev ?_; (try (with_reducible exact True.intro)))
    refine gsd (fun hd2 => ?_) (fun hd2 => ?_)
    · have hk : k < row.length := by omega
      obtain ⟨t1, t2⟩ := w3 _ (getD_mem hk 0)
      obtain ⟨t, et⟩ : ∃ t : Nat, row.getD k 0 = (t : Int) := ⟨(row.getD k 0).toNat, by omega⟩
      rw [et] at t1 t2
      (refine ev ?_; (try (with_reducible exact True.intro)))
      refine SH.Sem.seq ?_
      refine SH.Sem.block ?_
      refine SH.Sem.step hm ?_
      (refine ev ?_; (try (with_reducible exact True.intro)))
      simp only [Int.toNat_natCast, et]
      repeat (((with_reducible refine And.intro ?_ ?_)); (focus (first | omega | (simp only [inR]; omega) | rfl | (simp [notinId, notin]; done) | exact Or.inr rfl | (intro i hi; (repeat' (with_reducible first | apply len_cut | apply len_shift | apply len_app | apply len_copy | intro j)) <;> first | rfl | (exact len_lit _ _ (by simp) rfl _) | (simp; done)))))
      have htn : t < ow.length := by omega
      refine SH.Sem.lend 2 t rfl htn rfl ?_
      simp only [hlen, hset, Nat.zero_add, Nat.reduceAdd]
      refine Sem.of_wpA hm ?_
      simp -implicitDefEqProofs only [Option.getD, w_skip, w_reg, w_regd, w_seq, w_cond, w_block, w_loop, w_rf, w_exit, w_ret, f_ok, f_call, f_yield, yK_cons, a_normal, r_normal, r_ret, r_exit, rg_cons, putL, frz, beq_self_eq_true, Nat.reduceBEq, updG_same, f_bad, cK_nil, cK_cons, v_nil, v_cons, gK_tt, gK_ff, gK_tf, gK_ft, dK_go, d_nil, d_cons, gD_tt, gD_ff, gD_tf, gD_ft, eC_one, eC_tup, eC_own, eE_ok, eE_bad, eD, eff, eBin, eEq, eUn, eConv, eLen, eMin, eMax, eField, eFieldAddr, eIndex, eIndexAddr, eSlice, eLoad, eStore, eAlloc, eBox, eBuild, eBuildSlice, eMake, eAppend, eCopy, eMakeMap, eMapUpdate, eLookup, lookV, optN, eNil, ePick, eExtract, E.pure, Eff.only, Eff.notB, evalA, AV.ofV, AV.ofC, sget, sput, putA, applyU, hset, hget, hlen, alen, takeA, dropA, spliceA, mapA, allA, lget, oget, pget, tget, cellsA, AV.one, AV.goneB, partA, partC, TK.isAgg, nilish, natA, natC, loN, hiN, optC, roCut, loadP, loadC, aggOr, fillA, fillC, allPos, partsC, partsCells, partsAll, kills, killIds, liveAll, gnd, srcOf, inBlk, mapO, mapP, Go.SH.IntKind.uns, TK.flat, eqSc, eqScC, eqFs, eqFsC, seqK, blockK, condK, l_exit, l_ret, retK, retS, rsV, rsC, allT, padA, mapT, glook, bsel, gsplit_true, gsplit_false, resOf, resIds, resAll, nodupN, notin, like, like1, likeL, likeAll, AV.np, AV.gb, idsR, idsM, retI, retR, reify, AR.v, AR.u, AR.nv, nvec, impV, impU, isAlloc, callOf, countA, upIds, Option.map_none, Option.map_some, Option.isSome_some, Option.isSome_none, List.map_cons, List.map_nil, true_and, and_true, List.cons_append, List.nil_append, List.append_nil, List.length_cons, List.length_nil, List.nodup_nil, List.not_mem_nil, not_false_eq_true, ne_eq, reduceCtorEq, Bool.and_true, Bool.true_and, Bool.not_true, Bool.not_false, if_true, if_false, reduceIte, en_byte, en_byte', en_int, en_int', en_bool, en_bool', en_str, en_str', en_row, en_row', sh_at, sh_at', and_assoc, Nat.zero_add, Nat.add_zero, Nat.reduceAdd, appF_zero, Option.isNone_none, Option.isNone_some, en_byteL, en_intL, en_rowL, Int.reduceToNat, Nat.mul_one, Nat.one_mul, Nat.zero_mul, Nat.reduceMul, Nat.reduceSub, Nat.sub_zero, bne_self_eq_false, ti1, ti2, ti3, ti4, ti5, ti6, ti7, ti8, ti9, ti10, ti11, ti12, ti13, ti14, ti15, ti16, ti17, ti18, ti19, ti21, ti22, ti23, ti24, ti25, ti26, ti27, ti28, ti30, ti31, ti33, ti34, ti35, ti36, ti37, ti38, ti39, ti40, ti41, ti42, ti43, ti45, ti46, ti47, ti48, ti49, ti50, ti51, ti52, ti53, ti54, ti55, ti57, ti58, ti59, ti60, ti61, ti62, ti63, ti64, ti65, ti66, ti67, ti68, ti69, ti70, ti71, ti72, ti73, ti74, ti75, ti76, ti77, ti78, ti79, ti80, ti81, ti82, ti83, ti85, ti86, ti87, ti88, ti89, ti90, ti91, ti92, ti93, ti94, ti95, ti96, ti97, ti98, ti99, ti100, ti101, ti102, ti103, ti104, ti105, ti106, ti107, ti108, ti109, Int.toNat_natCast]
      repeat (((with_reducible refine And.intro ?_ ?_)); (focus (first | omega | (simp only [inR]; omega) | rfl | (simp [notinId, notin]; done) | exact Or.inr rfl | (intro i hi; (repeat' (with_reducible first | apply len_cut | apply len_shift | apply len_app | apply len_copy | intro j)) <;> first | rfl | (exact len_lit _ _ (by simp) rfl _) | (simp; done)))))
      have hbl : (befK su row i k t).length ≤ 3001 * 2 ^ 20 := by
        have h1 := befL_length hsu1 t i (by omega)
        have h2 := List.length_filter_le (fun x => x == (t : Int)) (row.take k)
        have h3 := hsu1 _ (getD_mem (show i < su.length by omega) [])
        rw [hrow] at h3
        rw [befK, List.length_append, List.length_map]
        rw [List.length_take] at h2
        omega
      refine ⟨by omega, by omega, fun j hj => by rw [cut_at0 j hj]; match j, hj with | 0, _ => rfl, by omega, by omega, rfl, ?_⟩
      refine SH.Sem.back 2 t 7 rfl htn (updG_same _ _ _) rfl ?_
      simp only [hset]
      refine Sem.of_wpA hm ?_
      (refine ev ?_; (try (with_reducible exact True.intro)))
      repeat (((with_reducible refine And.intro ?_ ?_)); (focus (first | omega | (simp only [inR]; omega) | rfl | (simp [notinId, notin]; done) | exact Or.inr rfl | (intro i hi; (repeat' (with_reducible first | apply len_cut | apply len_shift | apply len_app | apply len_copy | intro j)) <;> first | rfl | (exact len_lit _ _ (by simp) rfl _) | (simp; done)))))
      refine ⟨k + 1, [0, 1, 2, 3], by omega, by show row.length - (k + 1) < row.length - k; omega, ?_⟩
      simp only [padA, St.le, slotsLe, heapLe, blkLe, rowLe, live, injOn, loLe, nget, nlook, ren, okA, allP, mapA, hget, ABlk.used, notin, List.map_cons, List.map_nil, true_or, or_true, false_or, or_false, true_and, and_true, and_self, AV.int.injEq, AV.bool.injEq, AV.str.injEq, AV.sl.injEq, AV.ro.injEq, AV.agg.injEq, List.cons.injEq, reduceCtorEq, ne_eq, not_false_eq_true, not_true_eq_false]
      refine ⟨by omega, fun q hq => ?_, by simp⟩
      by_cases hqt : q = t
      · subst hqt
        simp only [updG_same, rowsG, befK_next su row i k q hk, if_pos et]
        refine ⟨trivial, by simp, fun j hj => ?_⟩
        exact app_enc (n := (befK su row i k q).length) (m := 1) (e := cInt .i64) (d := 0) rfl (fun j h => cut_at0 j h) (fun j h => lit1 (i : Int) (by rfl) j h) j (by simpa using hj)
      · have hne : ¬ row.getD k 0 = (q : Int) := fun h => hqt (by rw [et] at h; omega)
        simp only [updG_ne _ _ hqt, rowsG, befK_next su row i k q hk, if_neg hne, List.append_nil]
        exact ⟨trivial, trivial, fun _ _ => trivial⟩
    · have hk : k = row.length := by omega
      subst hk
      (refine ev ?_; (try (with_reducible exact True.intro)))
      repeat (((with_reducible refine And.intro ?_ ?_)); (focus (first | omega | (simp only [inR]; omega) | rfl | (simp [notinId, notin]; done) | exact Or.inr rfl | (intro i hi; (repeat' (with_reducible first | apply len_cut | apply len_shift | apply len_app | apply len_copy | intro j)) <;> first | rfl | (exact len_lit _ _ (by simp) rfl _) | (simp; done)))))
      have eK : befK su row i row.length = befL su (i + 1) := by
        funext q
        unfold befK befL
        rw [List.take_length, List.range_succ, List.flatMap_append]
        rw [← hrow]
        simp
      refine ⟨i + 1, [0, 1, 2, 3], by omega, by show su.length - (i + 1) < su.length - i; omega, ?_⟩
      simp only [padA, St.le, slotsLe, heapLe, blkLe, rowLe, live, injOn, loLe, nget, nlook, ren, okA, allP, mapA, hget, ABlk.used, notin, List.map_cons, List.map_nil, true_or, or_true, false_or, or_false, true_and, and_true, and_self, AV.int.injEq, AV.bool.injEq, AV.str.injEq, AV.sl.injEq, AV.ro.injEq, AV.agg.injEq, List.cons.injEq, reduceCtorEq, ne_eq, not_false_eq_true, not_true_eq_false, eK]
      simp
      exact fun q _ => ⟨rfl, rfl, fun _ _ => rfl⟩
  · have hi : i = su.length := by omega
    subst hi
    (refine ev ?_; (try (with_reducible exact True.intro)))
    have eF : ∀ q, q < ow.length → encL (cRow (cInt .i64) 0) [] (befs su ow.length) q = [.ro (befL su su.length q).length (encL (cInt .i64) 0 (befL su su.length q))] := by
      intro q hq
      rw [encL_get _ _ (by simpa [befs] using hq)]
      simp [befs, cRow]
    refine SH.Sem.matfrz 2 1 (fun q => (befL su su.length q).length) (fun q => encL (cInt .i64) 0 (befL su su.length q)) (encL (cRow (cInt .i64) 0) [] (befs su ow.length)) rfl (fun q _ => rfl) eF ?_
    simp only [hset]
    refine SH.Sem.freezeB 2 3 rfl rfl ?_
    refine Sem.of_wpA hm ?_
    (refine ev ?_; (try (with_reducible exact True.intro)))
    repeat (((with_reducible refine And.intro ?_ ?_)); (focus (first | omega | (simp only [inR]; omega) | rfl | (simp [notinId, notin]; done) | exact Or.inr rfl | (intro i hi; (repeat' (with_reducible first | apply len_cut | apply len_shift | apply len_app | apply len_copy | intro j)) <;> first | rfl | (exact len_lit _ _ (by simp) rfl _) | (simp; done)))))
    refine ⟨by simp [befs], fun i hi => cut_at0 i (by simpa [befs] using hi), by simp [notinId], by simp [notinId]⟩
end Go.Proofs.Ythkgnnndlocbbaa
