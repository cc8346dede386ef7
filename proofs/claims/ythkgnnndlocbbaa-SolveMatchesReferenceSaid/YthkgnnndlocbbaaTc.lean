/-
  ref23's region: its steps walked. No condition but sizes.
-/
import Derived.Test.YthkgnnndlocbbaaTm
import Derived.Test.YthkgnnndlocbbaaSg
namespace Go.Proofs.Ythkgnnndlocbbaa
set_option linter.unusedVariables false
set_option linter.unusedSimpArgs false
open Go Go.SH Go.Parity
set_option maxRecDepth 100000
set_option maxHeartbeats 4000000
def OwnR (ow pr : List Int) (su : List (List Int)) (n : Nat) (s w : List Bool) : Prop :=
  EffC Try.prog 53 [game ow pr su, .sl 0 0 n] [.vec 1 n (encL cBool false s)] fun res H' => ∃ k, res = .sl k 0 n ∧ hget H' k = .vec 1 n (encL cBool false w)
def RegC (ow pr : List Int) (su : List (List Int)) (n k : Nat) : Prop := ∀ s : List Bool, s.length = n → TotS ow pr su s → (numsOf s).length ≤ k →
  ∃ w : List Bool, w.length = n ∧ RegG ow pr su s w ∧ Contract Try.prog 53 [game ow pr su, boolRow s] (.one (.val (boolRow w))) ∧ OwnR ow pr su n s w
theorem game_ro {ow pr : List Int} {su : List (List Int)} {x : AV} (j : Nat) (c : AV) (hj : j ≠ 1) (h : [AV.agg [intRow ow, intRow pr, intRows su], x][j]? = some c) : c.roB 6 = true := by
  match j, hj, h with
  | 0, _, h => simp at h; subst h; rfl
  | 1, hj, _ => exact absurd rfl hj
  | j + 2, _, h => simp at h
theorem zero_at (n : Nat) : constF [AV.bool false] = encL cBool false ((List.range n).map fun _ => false) := by
  funext q
  rcases Nat.lt_or_ge q n with h | h
  · rw [encL, range_map_getD _ _ _ _ h]; rfl
  · rw [encL, getD_ge _ _ _ (by simpa using h)]; rfl
theorem zero_no (n v : Nat) : ¬ inL ((List.range n).map fun _ => false) v := fun h => by
  have h : ((List.range n).map fun _ => false).getD v false = true := h
  rcases Nat.lt_or_ge v n with h1 | h1
  · rw [range_map_getD _ _ _ _ h1] at h; cases h
  · rw [getD_ge _ _ _ (by simpa using h1)] at h; cases h
theorem region_none (ow pr : List Int) (su : List (List Int)) (s : List Bool) (hv : validB ow pr su = true) (n : Nat) (hn : ow.length = n) (hsl : s.length = n) (hno : (s.any fun b => b) = false) :
    ∃ w : List Bool, w.length = n ∧ RegG ow pr su s w ∧ Contract Try.prog 53 [game ow pr su, boolRow s] (.one (.val (boolRow w))) ∧ OwnR ow pr su n s w := by
  obtain ⟨v1, v2, v3, v4⟩ := validB_spec hv
  have hs : ∀ v, ¬ inL s v := fun v h => by rw [(any_iff s).2 ⟨v, h⟩] at hno; cases hno
  have a65 := c65 s (by omega)
  rw [hno] at a65
  refine ⟨(List.range n).map fun _ => false, by simp, reg_none hs (zero_no n), ?_, ?_⟩
  · refine ct53 (SH.Sem.of_wpA hm ?_)
    simp only [padA]
    simp only [Try.f53, Option.getD, w_skip, w_reg, w_regd, w_seq, w_cond, w_block, w_loop, w_rf, w_exit, w_ret, f_ok, f_call, f_yield, yK_cons, a_normal, r_normal, r_ret, r_exit, rg_cons, putL, frz, beq_self_eq_true, Nat.reduceBEq, updG_same, f_bad, cK_nil, cK_cons, v_nil, v_cons, gK_tt, gK_ff, gK_tf, gK_ft, dK_go, d_nil, d_cons, gD_tt, gD_ff, gD_tf, gD_ft, eC_one, eC_tup, eC_own, eE_ok, eE_bad, eD, eff, eBin, eEq, eUn, eConv, eLen, eMin, eMax, eField, eFieldAddr, eIndex, eIndexAddr, eSlice, eLoad, eStore, eAlloc, eBox, eBuild, eBuildSlice, eMake, eAppend, eCopy, eMakeMap, eMapUpdate, eLookup, lookV, optN, eNil, ePick, eExtract, E.pure, Eff.only, Eff.notB, evalA, AV.ofV, AV.ofC, sget, sput, putA, applyU, hset, hget, hlen, alen, takeA, dropA, spliceA, mapA, allA, lget, oget, pget, tget, cellsA, AV.one, AV.goneB, partA, partC, TK.isAgg, nilish, natA, natC, loN, hiN, optC, roCut, loadP, loadC, aggOr, fillA, fillC, allPos, partsC, partsCells, partsAll, kills, killIds, liveAll, gnd, srcOf, inBlk, mapO, mapP, Go.SH.IntKind.uns, TK.flat, eqSc, eqScC, eqFs, eqFsC, seqK, blockK, condK, l_exit, l_ret, retK, retS, rsV, rsC, allT, padA, mapT, glook, bsel, gsplit_true, gsplit_false, resOf, resIds, resAll, nodupN, notin, like, like1, likeL, likeAll, AV.np, AV.gb, idsR, idsM, retI, retR, reify, AR.v, AR.u, AR.nv, nvec, impV, impU, isAlloc, callOf, countA, upIds, Option.map_none, Option.map_some, Option.isSome_some, Option.isSome_none, List.map_cons, List.map_nil, true_and, and_true, List.cons_append, List.nil_append, List.append_nil, List.length_cons, List.length_nil, List.nodup_nil, List.not_mem_nil, not_false_eq_true, ne_eq, reduceCtorEq, Bool.and_true, Bool.true_and, Bool.not_true, Bool.not_false, if_true, if_false, reduceIte, en_byte, en_byte', en_int, en_int', en_bool, en_bool', en_str, en_str', en_row, en_row', sh_at, sh_at', and_assoc, Nat.zero_add, Nat.add_zero, Nat.reduceAdd, appF_zero, Option.isNone_none, Option.isNone_some, en_byteL, en_intL, en_rowL, Int.reduceToNat, Nat.mul_one, Nat.one_mul, Nat.zero_mul, Nat.reduceMul, Nat.reduceSub, Nat.sub_zero, bne_self_eq_false, ti1, ti2, ti3, ti4, ti5, ti6, ti7, ti8, ti9, ti10, ti11, ti12, ti13, ti14, ti15, ti16, ti17, ti18, ti19, ti21, ti22, ti23, ti24, ti25, ti26, ti27, ti28, ti30, ti31, ti33, ti34, ti35, ti36, ti37, ti38, ti39, ti40, ti41, ti42, ti43, ti45, ti46, ti47, ti48, ti49, ti50, ti51, ti52, ti53, ti54, ti55, ti57, ti58, ti59, ti60, ti61, ti62, ti63, ti64, ti65, ti66, ti67, ti68, ti69, ti70, ti71, ti72, ti73, ti74, ti75, ti76, ti77, ti78, ti79, ti80, ti81, ti82, ti83, ti85, ti86, ti87, ti88, ti89, ti90, ti91, ti92, ti93, ti94, ti95, ti96, ti97, ti98, ti99, ti100, ti101, ti102, ti103, ti104, ti105, ti106, ti107, ti108, ti109]
    simp only [v3, hn]
    simp only [Int.toNat_natCast]
    repeat (((with_reducible refine And.intro ?_ ?_)); (focus (first | omega | (simp only [inR]; omega) | rfl | (simp [notinId, notin]; done) | exact Or.inr rfl | (intro i hi; (repeat' (with_reducible first | apply len_cut | apply len_shift | apply len_app | apply len_copy | intro j)) <;> first | rfl | (exact len_lit _ _ (by simp) rfl _) | (simp; done)))))
    refine EffC.use a65 ?_ (.inl rfl) ?_
    · ((refine evL ?_; (try (with_reducible exact True.intro))) <;> (repeat' (with_reducible refine And.intro ?_ ?_)) <;> first | trivial | (exact fun _ _ => trivial) | (simp; done) | (exact fun q hq => cut_at0 q (by simpa using hq)) | (exact fun q hq => cut_at0 q (by omega)) | omega)
    (refine ev ?_; (try (with_reducible exact True.intro)))
    repeat (((with_reducible refine And.intro ?_ ?_)); (focus (first | omega | (simp only [inR]; omega) | rfl | (simp [notinId, notin]; done) | exact Or.inr rfl | (intro i hi; (repeat' (with_reducible first | apply len_cut | apply len_shift | apply len_app | apply len_copy | intro j)) <;> first | rfl | (exact len_lit _ _ (by simp) rfl _) | (simp; done)))))
    exact ⟨fun q hq => by rw [cut_at0 q (by simpa using hq), zero_at n], by simp [notinId]⟩
  · refine in53 (SH.Sem.of_wpA hm ?_)
    simp only [hlen, padA]
    simp only [Try.f53, Option.getD, w_skip, w_reg, w_regd, w_seq, w_cond, w_block, w_loop, w_rf, w_exit, w_ret, f_ok, f_call, f_yield, yK_cons, a_normal, r_normal, r_ret, r_exit, rg_cons, putL, frz, beq_self_eq_true, Nat.reduceBEq, updG_same, f_bad, cK_nil, cK_cons, v_nil, v_cons, gK_tt, gK_ff, gK_tf, gK_ft, dK_go, d_nil, d_cons, gD_tt, gD_ff, gD_tf, gD_ft, eC_one, eC_tup, eC_own, eE_ok, eE_bad, eD, eff, eBin, eEq, eUn, eConv, eLen, eMin, eMax, eField, eFieldAddr, eIndex, eIndexAddr, eSlice, eLoad, eStore, eAlloc, eBox, eBuild, eBuildSlice, eMake, eAppend, eCopy, eMakeMap, eMapUpdate, eLookup, lookV, optN, eNil, ePick, eExtract, E.pure, Eff.only, Eff.notB, evalA, AV.ofV, AV.ofC, sget, sput, putA, applyU, hset, hget, hlen, alen, takeA, dropA, spliceA, mapA, allA, lget, oget, pget, tget, cellsA, AV.one, AV.goneB, partA, partC, TK.isAgg, nilish, natA, natC, loN, hiN, optC, roCut, loadP, loadC, aggOr, fillA, fillC, allPos, partsC, partsCells, partsAll, kills, killIds, liveAll, gnd, srcOf, inBlk, mapO, mapP, Go.SH.IntKind.uns, TK.flat, eqSc, eqScC, eqFs, eqFsC, seqK, blockK, condK, l_exit, l_ret, retK, retS, rsV, rsC, allT, padA, mapT, glook, bsel, gsplit_true, gsplit_false, resOf, resIds, resAll, nodupN, notin, like, like1, likeL, likeAll, AV.np, AV.gb, idsR, idsM, retI, retR, reify, AR.v, AR.u, AR.nv, nvec, impV, impU, isAlloc, callOf, countA, upIds, Option.map_none, Option.map_some, Option.isSome_some, Option.isSome_none, List.map_cons, List.map_nil, true_and, and_true, List.cons_append, List.nil_append, List.append_nil, List.length_cons, List.length_nil, List.nodup_nil, List.not_mem_nil, not_false_eq_true, ne_eq, reduceCtorEq, Bool.and_true, Bool.true_and, Bool.not_true, Bool.not_false, if_true, if_false, reduceIte, en_byte, en_byte', en_int, en_int', en_bool, en_bool', en_str, en_str', en_row, en_row', sh_at, sh_at', and_assoc, Nat.zero_add, Nat.add_zero, Nat.reduceAdd, appF_zero, Option.isNone_none, Option.isNone_some, en_byteL, en_intL, en_rowL, Int.reduceToNat, Nat.mul_one, Nat.one_mul, Nat.zero_mul, Nat.reduceMul, Nat.reduceSub, Nat.sub_zero, bne_self_eq_false, ti1, ti2, ti3, ti4, ti5, ti6, ti7, ti8, ti9, ti10, ti11, ti12, ti13, ti14, ti15, ti16, ti17, ti18, ti19, ti21, ti22, ti23, ti24, ti25, ti26, ti27, ti28, ti30, ti31, ti33, ti34, ti35, ti36, ti37, ti38, ti39, ti40, ti41, ti42, ti43, ti45, ti46, ti47, ti48, ti49, ti50, ti51, ti52, ti53, ti54, ti55, ti57, ti58, ti59, ti60, ti61, ti62, ti63, ti64, ti65, ti66, ti67, ti68, ti69, ti70, ti71, ti72, ti73, ti74, ti75, ti76, ti77, ti78, ti79, ti80, ti81, ti82, ti83, ti85, ti86, ti87, ti88, ti89, ti90, ti91, ti92, ti93, ti94, ti95, ti96, ti97, ti98, ti99, ti100, ti101, ti102, ti103, ti104, ti105, ti106, ti107, ti108, ti109]
    simp only [v3, hn]
    simp only [Int.toNat_natCast]
    repeat (((with_reducible refine And.intro ?_ ?_)); (focus (first | omega | (simp only [inR]; omega) | rfl | (simp [notinId, notin]; done) | exact Or.inr rfl | (intro i hi; (repeat' (with_reducible first | apply len_cut | apply len_shift | apply len_app | apply len_copy | intro j)) <;> first | rfl | (exact len_lit _ _ (by simp) rfl _) | (simp; done)))))
    refine EffC.use a65 ?_ (.inl rfl) ?_
    · ((refine evL ?_; (try (with_reducible exact True.intro))) <;> (repeat' (with_reducible refine And.intro ?_ ?_)) <;> first | trivial | (exact fun _ _ => trivial) | (simp; done) | (exact fun q hq => cut_at0 q (by simpa using hq)) | (exact fun q hq => cut_at0 q (by omega)) | omega)
    (refine ev ?_; (try (with_reducible exact True.intro)))
    repeat (((with_reducible refine And.intro ?_ ?_)); (focus (first | omega | (simp only [inR]; omega) | rfl | (simp [notinId, notin]; done) | exact Or.inr rfl | (intro i hi; (repeat' (with_reducible first | apply len_cut | apply len_shift | apply len_app | apply len_copy | intro j)) <;> first | rfl | (exact len_lit _ _ (by simp) rfl _) | (simp; done)))))
    exact ⟨2, rfl, by rw [← zero_at]; rfl⟩


theorem wk_ro (ow pr : List Int) (su : List (List Int)) (s tg : List Bool) (ls p : Int) (hv : validB ow pr su = true) (n : Nat) (hn : ow.length = n) (hsl : s.length = n) (hany : (s.any fun b => b) = true) (hls : lsL pr s n = ls) (hp : p = 0 ∨ p = 1) (hmod : ls.tmod 2 = p) (htg : tgL pr s ls n = tg)
    (near rest r0 lost : List Bool) (a67 : Contract Try.prog 67 [game ow pr su, boolRow s, .int .i64 p, boolRow tg] (.one (.vec 1 n (encL cBool false near)))) (a66 : Contract Try.prog 66 [boolRow s, boolRow near] (.one (.vec 1 n (encL cBool false rest)))) (a53 : Contract Try.prog 53 [game ow pr su, boolRow rest] (.one (.val (boolRow r0)))) (hrl : rest.length = n) (hnl : near.length = n) (htl : tg.length = n) (hr0 : r0.length = n) (hol : lost.length = n)
    (b66 : p = 0 → Contract Try.prog 66 [boolRow rest, boolRow r0] (.one (.vec 1 n (encL cBool false lost)))) (hlo : p = 1 → lost = r0) (sm : Bool) (b65 : Contract Try.prog 65 [boolRow lost] (.one (.val (.bool sm)))) (Z rest' w' w : List Bool) (hzl : Z.length = n) (hrl' : rest'.length = n) (hwl' : w'.length = n)
    (c67' : ∀ q : Int, q = 1 - p → sm = true → Contract Try.prog 67 [game ow pr su, boolRow s, .int .i64 q, boolRow lost] (.one (.vec 1 n (encL cBool false Z)))) (c66' : sm = true → Contract Try.prog 66 [boolRow s, boolRow Z] (.one (.vec 1 n (encL cBool false rest')))) (own' : sm = true → OwnR ow pr su n rest' w')
    (hw : w = if sm = true then (if p = 1 then orL w' Z n else w') else if p = 0 then s else (List.range n).map fun _ => false) : Contract Try.prog 53 [game ow pr su, boolRow s] (.one (.val (boolRow w))) := by
  obtain ⟨v1, v2, v3, v4⟩ := validB_spec hv
  have a65 := c65 s (by omega)
  rw [hany] at a65
  refine ct53 ?_
  simp only [padA]
  simp only [Try.f53, Option.getD]
  refine SH.Sem.step hm ?_
  (refine ev ?_; (try (with_reducible exact True.intro)))
  (repeat ((with_reducible refine And.intro ?_ ?_); (focus (first | omega | (simp only [inR]; omega) | rfl | (simp [notinId, notin]; done) | exact Or.inr rfl))))
  refine SH.Sem.step hm ?_
  (refine ev ?_; (try (with_reducible exact True.intro)))
  (repeat ((with_reducible refine And.intro ?_ ?_); (focus (first | omega | (simp only [inR]; omega) | rfl | (simp [notinId, notin]; done) | exact Or.inr rfl))))
  simp only [v3, hn]
  refine SH.Sem.step hm ?_
  (refine ev ?_; (try (with_reducible exact True.intro)))
  simp only [Int.toNat_natCast]
  (repeat ((with_reducible refine And.intro ?_ ?_); (focus (first | omega | (simp only [inR]; omega) | rfl | (simp [notinId, notin]; done) | exact Or.inr rfl))))
  refine SH.Sem.step hm ?_
  (refine ev ?_; (try (with_reducible exact True.intro)))
  (repeat ((with_reducible refine And.intro ?_ ?_); (focus (first | omega | (simp only [inR]; omega) | rfl | (simp [notinId, notin]; done) | exact Or.inr rfl))))
  refine EffC.use a65 ?_ (.inl rfl) ?_
  · ((refine evL ?_; (try (with_reducible exact True.intro))) <;> (repeat' (with_reducible refine And.intro ?_ ?_)) <;> first | trivial | (exact fun _ _ => trivial) | (simp; done) | (exact fun q hq => cut_at0 q (by simpa using hq)) | (exact fun q hq => cut_at0 q (by omega)) | omega)
  (refine ev ?_; (try (with_reducible exact True.intro)))
  (repeat ((with_reducible refine And.intro ?_ ?_); (focus (first | omega | (simp only [inR]; omega) | rfl | (simp [notinId, notin]; done) | exact Or.inr rfl))))
  refine SH.Sem.step hm ?_
  (refine ev ?_; (try (with_reducible exact True.intro)))
  (repeat ((with_reducible refine And.intro ?_ ?_); (focus (first | omega | (simp only [inR]; omega) | rfl | (simp [notinId, notin]; done) | exact Or.inr rfl))))
  refine SH.Sem.step hm ?_
  (refine ev ?_; (try (with_reducible exact True.intro)))
  (repeat ((with_reducible refine And.intro ?_ ?_); (focus (first | omega | (simp only [inR]; omega) | rfl | (simp [notinId, notin]; done) | exact Or.inr rfl))))
  refine SH.Sem.loop hm (fun i : Nat => ⟨padA [.undef, boolRow s, .ptr 0 0 0, .undef, .undef, .int .i64 n, .sl 1 0 n, .int .i64 (lsL pr s i), .int .i64 i] 123, [.box [intRow ow, intRow pr, intRows su], .vec 1 n (encL cBool false ((List.range n).map fun _ => false))]⟩) (fun i => i ≤ n) (fun i => n - i) [0, 1] 0 (by omega) ?_ fun i hi0 => ?_
  · simp only [padA, St.le, slotsLe, heapLe, blkLe, rowLe, live, injOn, loLe, nget, nlook, ren, okA, allP, mapA, hget, ABlk.used, notin, List.map_cons, List.map_nil, true_or, or_true, false_or, or_false, true_and, and_true, and_self, AV.int.injEq, AV.bool.injEq, AV.str.injEq, AV.sl.injEq, AV.ro.injEq, AV.agg.injEq, List.cons.injEq, reduceCtorEq, ne_eq, not_false_eq_true, not_true_eq_false]
    (repeat' (with_reducible refine And.intro ?_ ?_)) <;> first | exact (fun q hq => by rw [zero_at n]) | rfl | trivial | (intros; trivial; done) | (intros; rfl; done) | (simp; done)
  simp only [padA]
  (refine ev ?_; (try (with_reducible exact True.intro)))
  refine gsd (fun hd => ?_) (fun hd => ?_)
  · have hi : i < n := by omega
    have nx : lsL pr s (i + 1) = if s.getD i false = true then min (lsL pr s i) (pr.getD i 0) else lsL pr s i := rfl
    (refine ev ?_; (try (with_reducible exact True.intro)))
    simp only [Int.toNat_natCast]
    (repeat ((with_reducible refine And.intro ?_ ?_); (focus (first | omega | (simp only [inR]; omega) | rfl | (simp [notinId, notin]; done) | exact Or.inr rfl))))
    refine gs (fun h => ?_) (fun h => ?_)
    · rw [if_pos h] at nx
      (refine ev ?_; (try (with_reducible exact True.intro)))
      simp only [Int.toNat_natCast]
      (repeat ((with_reducible refine And.intro ?_ ?_); (focus (first | omega | (simp only [inR]; omega) | rfl | (simp [notinId, notin]; done) | exact Or.inr rfl))))
      refine ⟨i + 1, [0, 1], by omega, by show n - (i + 1) < n - i; omega, ?_⟩
      simp only [padA, St.le, slotsLe, heapLe, blkLe, rowLe, live, injOn, loLe, nget, nlook, ren, okA, allP, mapA, hget, ABlk.used, notin, List.map_cons, List.map_nil, true_or, or_true, false_or, or_false, true_and, and_true, and_self, AV.int.injEq, AV.bool.injEq, AV.str.injEq, AV.sl.injEq, AV.ro.injEq, AV.agg.injEq, List.cons.injEq, reduceCtorEq, ne_eq, not_false_eq_true, not_true_eq_false, nx]; simp
    · rw [if_neg (by rw [h]; simp)] at nx
      (refine ev ?_; (try (with_reducible exact True.intro)))
      (repeat ((with_reducible refine And.intro ?_ ?_); (focus (first | omega | (simp only [inR]; omega) | rfl | (simp [notinId, notin]; done) | exact Or.inr rfl))))
      refine ⟨i + 1, [0, 1], by omega, by show n - (i + 1) < n - i; omega, ?_⟩
      simp only [padA, St.le, slotsLe, heapLe, blkLe, rowLe, live, injOn, loLe, nget, nlook, ren, okA, allP, mapA, hget, ABlk.used, notin, List.map_cons, List.map_nil, true_or, or_true, false_or, or_false, true_and, and_true, and_self, AV.int.injEq, AV.bool.injEq, AV.str.injEq, AV.sl.injEq, AV.ro.injEq, AV.agg.injEq, List.cons.injEq, reduceCtorEq, ne_eq, not_false_eq_true, not_true_eq_false, nx]; simp
  obtain rfl : n = i := by omega
  (refine ev ?_; (try (with_reducible exact True.intro)))
  clear hi0 hd
  refine SH.Sem.step hm ?_
  (refine ev ?_; (try (with_reducible exact True.intro)))
  simp only [hls, hmod]
  (repeat ((with_reducible refine And.intro ?_ ?_); (focus (first | omega | (simp only [inR]; omega) | rfl | (simp [notinId, notin]; done) | exact Or.inr rfl))))
  refine SH.Sem.step hm ?_
  (refine ev ?_; (try (with_reducible exact True.intro)))
  simp only [Int.toNat_natCast]
  (repeat ((with_reducible refine And.intro ?_ ?_); (focus (first | omega | (simp only [inR]; omega) | rfl | (simp [notinId, notin]; done) | exact Or.inr rfl))))
  refine SH.Sem.step hm ?_
  (refine ev ?_; (try (with_reducible exact True.intro)))
  (repeat ((with_reducible refine And.intro ?_ ?_); (focus (first | omega | (simp only [inR]; omega) | rfl | (simp [notinId, notin]; done) | exact Or.inr rfl))))
  refine SH.Sem.loop hm (fun i : Nat => ⟨padA [.undef, boolRow s, .ptr 0 0 0, .undef, .undef, .int .i64 n, .sl 1 0 n, .int .i64 ls, .undef, .int .i64 p, .sl 2 0 n, .int .i64 i] 123, [.box [intRow ow, intRow pr, intRows su], .vec 1 n (encL cBool false ((List.range n).map fun _ => false)), .vec 1 n (encL cBool false (partL n (fun i => s.getD i false && (pr.getD i 0 == ls)) (fun _ => false) i))]⟩) (fun i => i ≤ n) (fun i => n - i) [0, 1, 2] 0 (by omega) ?_ fun i hi0 => ?_
  · simp only [padA, St.le, slotsLe, heapLe, blkLe, rowLe, live, injOn, loLe, nget, nlook, ren, okA, allP, mapA, hget, ABlk.used, notin, List.map_cons, List.map_nil, true_or, or_true, false_or, or_false, true_and, and_true, and_self, AV.int.injEq, AV.bool.injEq, AV.str.injEq, AV.sl.injEq, AV.ro.injEq, AV.agg.injEq, List.cons.injEq, reduceCtorEq, ne_eq, not_false_eq_true, not_true_eq_false]
    (repeat' (with_reducible refine And.intro ?_ ?_)) <;> first | exact (fun q hq => encb0 q hq) | rfl | trivial | (intros; trivial; done) | (intros; rfl; done) | (simp; done)
  simp only [padA]
  (refine ev ?_; (try (with_reducible exact True.intro)))
  refine gsd (fun hd => ?_) (fun hd => ?_)
  · have hi : i < n := by omega
    have e1 := encb_upd1 (f := fun i => s.getD i false && (pr.getD i 0 == ls)) (g := fun _ => false) hi _ rfl
    cases hsi : s.getD i false
    all_goals simp only [hsi, Bool.false_and, Bool.true_and] at e1
    all_goals (refine ev ?_; (try (with_reducible exact True.intro)))
    all_goals simp only [Int.toNat_natCast, hsi]
    all_goals (repeat ((with_reducible refine And.intro ?_ ?_); (focus (first | omega | (simp only [inR]; omega) | rfl | (simp [notinId, notin]; done) | exact Or.inr rfl))))
    all_goals (refine ev ?_; (try (with_reducible exact True.intro)))
    all_goals simp only [Int.toNat_natCast, e1]
    all_goals (repeat ((with_reducible refine And.intro ?_ ?_); (focus (first | omega | (simp only [inR]; omega) | rfl | (simp [notinId, notin]; done) | exact Or.inr rfl))))
    all_goals refine ⟨i + 1, [0, 1, 2], by omega, by show n - (i + 1) < n - i; omega, ?_⟩
    all_goals simp only [padA, St.le, slotsLe, heapLe, blkLe, rowLe, live, injOn, loLe, nget, nlook, ren, okA, allP, mapA, hget, ABlk.used, notin, List.map_cons, List.map_nil, true_or, or_true, false_or, or_false, true_and, and_true, and_self, AV.int.injEq, AV.bool.injEq, AV.str.injEq, AV.sl.injEq, AV.ro.injEq, AV.agg.injEq, List.cons.injEq, reduceCtorEq, ne_eq, not_false_eq_true, not_true_eq_false]
    all_goals simp
  obtain rfl : n = i := by omega
  (refine ev ?_; (try (with_reducible exact True.intro)))
  clear hi0 hd
  simp only [partL_full, show (List.range n).map (fun i => s.getD i false && (pr.getD i 0 == ls)) = tgL pr s ls n from rfl, htg]
  refine SH.Sem.step hm ?_
  (refine ev ?_; (try (with_reducible exact True.intro)))
  (repeat ((with_reducible refine And.intro ?_ ?_); (focus (first | omega | (simp only [inR]; omega) | rfl | (simp [notinId, notin]; done) | exact Or.inr rfl))))
  refine EffC.use a67 ?_ (.inl (memless_b _ _)) ?_
  · ((refine evL ?_; (try (with_reducible exact True.intro))) <;> (repeat' (with_reducible refine And.intro ?_ ?_)) <;> first | trivial | (exact fun _ _ => trivial) | (simp; done) | (exact fun q hq => cut_at0 q (by simpa using hq)) | (exact fun q hq => cut_at0 q (by omega)) | omega)
  (refine ev ?_; (try (with_reducible exact True.intro)))
  (repeat ((with_reducible refine And.intro ?_ ?_); (focus (first | omega | (simp only [inR]; omega) | rfl | (simp [notinId, notin]; done) | exact Or.inr rfl))))
  refine EffC.use a66 ?_ (.inl (memless_b _ _)) ?_
  · ((refine evL ?_; (try (with_reducible exact True.intro))) <;> (repeat' (with_reducible refine And.intro ?_ ?_)) <;> first | trivial | (exact fun _ _ => trivial) | (simp; done) | (exact fun q hq => cut_at0 q (by simpa using hq)) | (exact fun q hq => cut_at0 q (by omega)) | omega)
  (refine ev ?_; (try (with_reducible exact True.intro)))
  (repeat ((with_reducible refine And.intro ?_ ?_); (focus (first | omega | (simp only [inR]; omega) | rfl | (simp [notinId, notin]; done) | exact Or.inr rfl))))
  refine SH.Sem.freeze 4 rfl ?_
  simp only [mapA, frz, hset]
  refine SH.Sem.step hm ?_
  (refine ev ?_; (try (with_reducible exact True.intro)))
  (repeat ((with_reducible refine And.intro ?_ ?_); (focus (first | omega | (simp only [inR]; omega) | rfl | (simp [notinId, notin]; done) | exact Or.inr rfl))))
  refine EffC.use a53 ?_ (.inr rfl) ?_
  · ((refine evL ?_; (try (with_reducible exact True.intro))) <;> (repeat' (with_reducible refine And.intro ?_ ?_)) <;> first | trivial | (exact fun _ _ => trivial) | (simp; done) | (exact fun q hq => cut_at0 q (by simpa using hq)) | (exact fun q hq => cut_at0 q (by omega)) | omega)
  (refine ev ?_; (try (with_reducible exact True.intro)))
  (repeat ((with_reducible refine And.intro ?_ ?_); (focus (first | omega | (simp only [inR]; omega) | rfl | (simp [notinId, notin]; done) | exact Or.inr rfl))))
  refine SH.Sem.step hm ?_
  (refine ev ?_; (try (with_reducible exact True.intro)))
  (repeat ((with_reducible refine And.intro ?_ ?_); (focus (first | omega | (simp only [inR]; omega) | rfl | (simp [notinId, notin]; done) | exact Or.inr rfl))))
  refine SH.Sem.step hm ?_
  (refine ev ?_; (try (with_reducible exact True.intro)))
  (repeat ((with_reducible refine And.intro ?_ ?_); (focus (first | omega | (simp only [inR]; omega) | rfl | (simp [notinId, notin]; done) | exact Or.inr rfl))))
  rcases hp with rfl | rfl
  · have c67' := c67' 1 rfl
    simp only [show ((0 : Int) == 0) = true from rfl]
    (refine ev ?_; (try (with_reducible exact True.intro)))
    (repeat ((with_reducible refine And.intro ?_ ?_); (focus (first | omega | (simp only [inR]; omega) | rfl | (simp [notinId, notin]; done) | exact Or.inr rfl))))
    have b66 := b66 rfl
    refine EffC.use b66 ?_ (.inl (memless_b _ _)) ?_
    · ((refine evL ?_; (try (with_reducible exact True.intro))) <;> (repeat' (with_reducible refine And.intro ?_ ?_)) <;> first | trivial | (exact fun _ _ => trivial) | (simp; done) | (exact fun q hq => cut_at0 q (by simpa using hq)) | (exact fun q hq => cut_at0 q (by omega)) | omega)
    (refine ev ?_; (try (with_reducible exact True.intro)))
    (repeat ((with_reducible refine And.intro ?_ ?_); (focus (first | omega | (simp only [inR]; omega) | rfl | (simp [notinId, notin]; done) | exact Or.inr rfl))))
    refine SH.Sem.step hm ?_
    (refine ev ?_; (try (with_reducible exact True.intro)))
    (repeat ((with_reducible refine And.intro ?_ ?_); (focus (first | omega | (simp only [inR]; omega) | rfl | (simp [notinId, notin]; done) | exact Or.inr rfl))))
    refine EffC.use b65 ?_ (.inl rfl) ?_
    · ((refine evL ?_; (try (with_reducible exact True.intro))) <;> (repeat' (with_reducible refine And.intro ?_ ?_)) <;> first | trivial | (exact fun _ _ => trivial) | (simp; done) | (exact fun q hq => cut_at0 q (by simpa using hq)) | (exact fun q hq => cut_at0 q (by omega)) | omega)
    (refine ev ?_; (try (with_reducible exact True.intro)))
    (repeat ((with_reducible refine And.intro ?_ ?_); (focus (first | omega | (simp only [inR]; omega) | rfl | (simp [notinId, notin]; done) | exact Or.inr rfl))))
    cases sm
    · (refine ev ?_; (try (with_reducible exact True.intro)))
      try simp only [show ((0 : Int) == 0) = true from rfl]
      try (refine ev ?_; (try (with_reducible exact True.intro)))
      (repeat ((with_reducible refine And.intro ?_ ?_); (focus (first | omega | (simp only [inR]; omega) | rfl | (simp [notinId, notin]; done) | exact Or.inr rfl))))
      rw [if_neg (by simp), if_pos rfl] at hw
      subst hw
      ((repeat' (with_reducible refine And.intro ?_ ?_)) <;> first | omega | (simp [notinId]; done) | (exact fun q hq => cut_at0 q (by simpa using hq)) | (exact fun q hq => cut_at0 q (by omega)) | (exact fun _ _ => rfl))
    · have c66' := c66' rfl
      have own' := own' rfl
      simp only [if_true, show ((0 : Int) = 1) = False from by simp, if_false] at hw
      (refine ev ?_; (try (with_reducible exact True.intro)))
      (repeat ((with_reducible refine And.intro ?_ ?_); (focus (first | omega | (simp only [inR]; omega) | rfl | (simp [notinId, notin]; done) | exact Or.inr rfl))))
      refine SH.Sem.step hm ?_
      (refine ev ?_; (try (with_reducible exact True.intro)))
      (repeat ((with_reducible refine And.intro ?_ ?_); (focus (first | omega | (simp only [inR]; omega) | rfl | (simp [notinId, notin]; done) | exact Or.inr rfl))))
      refine EffC.use (c67' rfl) ?_ (.inl (memless_b _ _)) ?_
      · ((refine evL ?_; (try (with_reducible exact True.intro))) <;> (repeat' (with_reducible refine And.intro ?_ ?_)) <;> first | trivial | (exact fun _ _ => trivial) | (simp; done) | (exact fun q hq => cut_at0 q (by simpa using hq)) | (exact fun q hq => cut_at0 q (by omega)) | omega)
      (refine ev ?_; (try (with_reducible exact True.intro)))
      (repeat ((with_reducible refine And.intro ?_ ?_); (focus (first | omega | (simp only [inR]; omega) | rfl | (simp [notinId, notin]; done) | exact Or.inr rfl))))
      refine SH.Sem.step hm ?_
      (refine ev ?_; (try (with_reducible exact True.intro)))
      (repeat ((with_reducible refine And.intro ?_ ?_); (focus (first | omega | (simp only [inR]; omega) | rfl | (simp [notinId, notin]; done) | exact Or.inr rfl))))
      refine ExCall.use c66' ?_ (.inl (memless_b _ _)) ?_
      · ((refine evL ?_; (try (with_reducible exact True.intro))) <;> (repeat' (with_reducible refine And.intro ?_ ?_)) <;> first | trivial | (exact fun _ _ => trivial) | (simp; done) | (exact fun q hq => cut_at0 q (by simpa using hq)) | (exact fun q hq => cut_at0 q (by omega)) | omega)
      (refine ev ?_; (try (with_reducible exact True.intro)))
      (repeat ((with_reducible refine And.intro ?_ ?_); (focus (first | omega | (simp only [inR]; omega) | rfl | (simp [notinId, notin]; done) | exact Or.inr rfl))))
      refine ExCall.mk (.own 7 1 n (encL cBool false w')) (.inr ⟨n, encL cBool false rest', 1, rfl, rfl, game_ro, own'⟩) (by simp [AR.nv]) ?_
      (refine ev ?_; (try (with_reducible exact True.intro)))
      (repeat ((with_reducible refine And.intro ?_ ?_); (focus (first | omega | (simp only [inR]; omega) | rfl | (simp [notinId, notin]; done) | exact Or.inr rfl))))
      refine SH.Sem.step hm ?_
      (refine ev ?_; (try (with_reducible exact True.intro)))
      (repeat ((with_reducible refine And.intro ?_ ?_); (focus (first | omega | (simp only [inR]; omega) | rfl | (simp [notinId, notin]; done) | exact Or.inr rfl))))
      try simp only [show ((0 : Int) == 1) = false from rfl]
      try (refine ev ?_; (try (with_reducible exact True.intro)))
      (repeat ((with_reducible refine And.intro ?_ ?_); (focus (first | omega | (simp only [inR]; omega) | rfl | (simp [notinId, notin]; done) | exact Or.inr rfl))))
      refine SH.Sem.step hm ?_
      (refine ev ?_; (try (with_reducible exact True.intro)))
      (repeat ((with_reducible refine And.intro ?_ ?_); (focus (first | omega | (simp only [inR]; omega) | rfl | (simp [notinId, notin]; done) | exact Or.inr rfl))))
      refine SH.Sem.of_wpA hm ?_
      (refine ev ?_; (try (with_reducible exact True.intro)))
      (repeat ((with_reducible refine And.intro ?_ ?_); (focus (first | omega | (simp only [inR]; omega) | rfl | (simp [notinId, notin]; done) | exact Or.inr rfl))))
      subst hw
      ((repeat' (with_reducible refine And.intro ?_ ?_)) <;> first | omega | (simp [notinId]; done) | (exact fun q hq => cut_at0 q (by simpa using hq)) | (exact fun q hq => cut_at0 q (by omega)) | (exact fun _ _ => rfl))
  · have c67' := c67' 0 rfl
    simp only [show ((1 : Int) == 0) = false from rfl]
    (refine ev ?_; (try (with_reducible exact True.intro)))
    (repeat ((with_reducible refine And.intro ?_ ?_); (focus (first | omega | (simp only [inR]; omega) | rfl | (simp [notinId, notin]; done) | exact Or.inr rfl))))
    obtain rfl := hlo rfl
    refine SH.Sem.step hm ?_
    (refine ev ?_; (try (with_reducible exact True.intro)))
    (repeat ((with_reducible refine And.intro ?_ ?_); (focus (first | omega | (simp only [inR]; omega) | rfl | (simp [notinId, notin]; done) | exact Or.inr rfl))))
    refine EffC.use b65 ?_ (.inl rfl) ?_
    · ((refine evL ?_; (try (with_reducible exact True.intro))) <;> (repeat' (with_reducible refine And.intro ?_ ?_)) <;> first | trivial | (exact fun _ _ => trivial) | (simp; done) | (exact fun q hq => cut_at0 q (by simpa using hq)) | (exact fun q hq => cut_at0 q (by omega)) | omega)
    (refine ev ?_; (try (with_reducible exact True.intro)))
    (repeat ((with_reducible refine And.intro ?_ ?_); (focus (first | omega | (simp only [inR]; omega) | rfl | (simp [notinId, notin]; done) | exact Or.inr rfl))))
    cases sm
    · (refine ev ?_; (try (with_reducible exact True.intro)))
      try simp only [show ((1 : Int) == 0) = false from rfl]
      try (refine ev ?_; (try (with_reducible exact True.intro)))
      (repeat ((with_reducible refine And.intro ?_ ?_); (focus (first | omega | (simp only [inR]; omega) | rfl | (simp [notinId, notin]; done) | exact Or.inr rfl))))
      rw [if_neg (by simp), if_neg (by decide)] at hw
      subst hw
      ((repeat' (with_reducible refine And.intro ?_ ?_)) <;> first | omega | (simp [notinId]; done) | (exact fun q hq => cut_at0 q (by simpa using hq)) | (exact fun q hq => cut_at0 q (by omega)) | (exact fun _ _ => rfl))
    · have c66' := c66' rfl
      have own' := own' rfl
      simp only [if_true, show ((1 : Int) = 1) = True from by simp, if_true] at hw
      (refine ev ?_; (try (with_reducible exact True.intro)))
      (repeat ((with_reducible refine And.intro ?_ ?_); (focus (first | omega | (simp only [inR]; omega) | rfl | (simp [notinId, notin]; done) | exact Or.inr rfl))))
      refine SH.Sem.step hm ?_
      (refine ev ?_; (try (with_reducible exact True.intro)))
      (repeat ((with_reducible refine And.intro ?_ ?_); (focus (first | omega | (simp only [inR]; omega) | rfl | (simp [notinId, notin]; done) | exact Or.inr rfl))))
      refine EffC.use (c67' rfl) ?_ (.inl (memless_b _ _)) ?_
      · ((refine evL ?_; (try (with_reducible exact True.intro))) <;> (repeat' (with_reducible refine And.intro ?_ ?_)) <;> first | trivial | (exact fun _ _ => trivial) | (simp; done) | (exact fun q hq => cut_at0 q (by simpa using hq)) | (exact fun q hq => cut_at0 q (by omega)) | omega)
      (refine ev ?_; (try (with_reducible exact True.intro)))
      (repeat ((with_reducible refine And.intro ?_ ?_); (focus (first | omega | (simp only [inR]; omega) | rfl | (simp [notinId, notin]; done) | exact Or.inr rfl))))
      refine SH.Sem.step hm ?_
      (refine ev ?_; (try (with_reducible exact True.intro)))
      (repeat ((with_reducible refine And.intro ?_ ?_); (focus (first | omega | (simp only [inR]; omega) | rfl | (simp [notinId, notin]; done) | exact Or.inr rfl))))
      refine ExCall.use c66' ?_ (.inl (memless_b _ _)) ?_
      · ((refine evL ?_; (try (with_reducible exact True.intro))) <;> (repeat' (with_reducible refine And.intro ?_ ?_)) <;> first | trivial | (exact fun _ _ => trivial) | (simp; done) | (exact fun q hq => cut_at0 q (by simpa using hq)) | (exact fun q hq => cut_at0 q (by omega)) | omega)
      (refine ev ?_; (try (with_reducible exact True.intro)))
      (repeat ((with_reducible refine And.intro ?_ ?_); (focus (first | omega | (simp only [inR]; omega) | rfl | (simp [notinId, notin]; done) | exact Or.inr rfl))))
      refine ExCall.mk (.own 6 1 n (encL cBool false w')) (.inr ⟨n, encL cBool false rest', 1, rfl, rfl, game_ro, own'⟩) (by simp [AR.nv]) ?_
      (refine ev ?_; (try (with_reducible exact True.intro)))
      (repeat ((with_reducible refine And.intro ?_ ?_); (focus (first | omega | (simp only [inR]; omega) | rfl | (simp [notinId, notin]; done) | exact Or.inr rfl))))
      refine SH.Sem.step hm ?_
      (refine ev ?_; (try (with_reducible exact True.intro)))
      (repeat ((with_reducible refine And.intro ?_ ?_); (focus (first | omega | (simp only [inR]; omega) | rfl | (simp [notinId, notin]; done) | exact Or.inr rfl))))
      try simp only [show ((1 : Int) == 1) = true from rfl]
      try (refine ev ?_; (try (with_reducible exact True.intro)))
      (repeat ((with_reducible refine And.intro ?_ ?_); (focus (first | omega | (simp only [inR]; omega) | rfl | (simp [notinId, notin]; done) | exact Or.inr rfl))))
      refine SH.Sem.loop hm (fun i : Nat => ⟨padA [.undef, .undef, .undef, .undef, .undef, .int .i64 n, .undef, .undef, .undef, .undef, .undef, .undef, .undef, .undef, .undef, .sl 0 0 n, .sl 1 0 n, .int .i64 i] 123, [.vec 1 n (encL cBool false Z), .vec 1 n (encL cBool false (partL n (fun i => w'.getD i false || Z.getD i false) (fun i => w'.getD i false) i))]⟩) (fun i => i ≤ n) (fun i => n - i) [5, 8] 0 (by omega) ?_ fun i hi0 => ?_
      · simp only [padA, St.le, slotsLe, heapLe, blkLe, rowLe, live, injOn, loLe, nget, nlook, ren, okA, allP, mapA, hget, ABlk.used, notin, List.map_cons, List.map_nil, true_or, or_true, false_or, or_false, true_and, and_true, and_self, AV.int.injEq, AV.bool.injEq, AV.str.injEq, AV.sl.injEq, AV.ro.injEq, AV.agg.injEq, List.cons.injEq, reduceCtorEq, ne_eq, not_false_eq_true, not_true_eq_false]
        (repeat' (with_reducible refine And.intro ?_ ?_)) <;> first | exact (fun q hq => by rw [partL_zero]; simp only [encL]; rw [range_map_getD _ _ _ _ hq]) | rfl | trivial | (intros; trivial; done) | (intros; rfl; done) | (simp; done)
      simp only [padA]
      (refine ev ?_; (try (with_reducible exact True.intro)))
      refine gsd (fun hd => ?_) (fun hd => ?_)
      · have hi : i < n := by omega
        have e1 := encb_upd1 (f := fun i => w'.getD i false || Z.getD i false) (g := fun i => w'.getD i false) hi _ rfl
        have e2 : (partL n (fun i => w'.getD i false || Z.getD i false) (fun i => w'.getD i false) i).getD i false = w'.getD i false := by rw [partL_getD _ hi, if_neg (by omega)]
        cases hwi : w'.getD i false
        all_goals simp only [hwi, Bool.false_or, Bool.true_or] at e1 e2
        all_goals (refine ev ?_; (try (with_reducible exact True.intro)))
        all_goals simp only [Int.toNat_natCast, e2]
        all_goals (repeat ((with_reducible refine And.intro ?_ ?_); (focus (first | omega | (simp only [inR]; omega) | rfl | (simp [notinId, notin]; done) | exact Or.inr rfl))))
        all_goals (refine ev ?_; (try (with_reducible exact True.intro)))
        all_goals simp only [Int.toNat_natCast, e1]
        all_goals (repeat ((with_reducible refine And.intro ?_ ?_); (focus (first | omega | (simp only [inR]; omega) | rfl | (simp [notinId, notin]; done) | exact Or.inr rfl))))
        all_goals refine ⟨i + 1, [0, 1], by omega, by show n - (i + 1) < n - i; omega, ?_⟩
        all_goals simp only [padA, St.le, slotsLe, heapLe, blkLe, rowLe, live, injOn, loLe, nget, nlook, ren, okA, allP, mapA, hget, ABlk.used, notin, List.map_cons, List.map_nil, true_or, or_true, false_or, or_false, true_and, and_true, and_self, AV.int.injEq, AV.bool.injEq, AV.str.injEq, AV.sl.injEq, AV.ro.injEq, AV.agg.injEq, List.cons.injEq, reduceCtorEq, ne_eq, not_false_eq_true, not_true_eq_false]
        all_goals simp
      obtain rfl : n = i := by omega
      (refine ev ?_; (try (with_reducible exact True.intro)))
      clear hi0 hd
      rw [partL_full, show (List.range n).map (fun i => w'.getD i false || Z.getD i false) = orL w' Z n from rfl, ← hw]
      have hwl : w.length = n := by rw [hw, orL]; simp
      refine SH.Sem.of_wpA hm ?_
      (refine ev ?_; (try (with_reducible exact True.intro)))
      (repeat ((with_reducible refine And.intro ?_ ?_); (focus (first | omega | (simp only [inR]; omega) | rfl | (simp [notinId, notin]; done) | exact Or.inr rfl))))
      ((repeat' (with_reducible refine And.intro ?_ ?_)) <;> first | omega | (simp [notinId]; done) | (exact fun q hq => cut_at0 q (by simpa using hq)) | (exact fun q hq => cut_at0 q (by omega)) | (exact fun _ _ => rfl))

end Go.Proofs.Ythkgnnndlocbbaa
