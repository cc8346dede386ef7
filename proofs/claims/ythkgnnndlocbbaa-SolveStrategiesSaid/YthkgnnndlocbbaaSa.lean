/-
  The arena's Part: what it returns. No condition but sizes.
-/
import Derived.Test.YthkgnnndlocbbaaKm
namespace Go.Proofs.Ythkgnnndlocbbaa
set_option linter.unusedVariables false
set_option linter.unusedSimpArgs false
open Go Go.SH
set_option maxRecDepth 100000
set_option maxHeartbeats 4000000
/-- A map from numbers to their places, from k on. -/
def mapFrom : Nat → List Nat → List (Int × AV)
  | _, [] => []
  | k, x :: l => ((x : Int), .int .i64 (k : Int)) :: mapFrom (k + 1) l
def idxN : List Nat → Nat → Nat
  | [], _ => 0
  | y :: l, x => if y = x then 0 else idxN l x + 1
theorem mapFrom_put : ∀ (l : List Nat) (k x : Nat), x ∉ l → mput (mapFrom k l) (x : Int) (.int .i64 ((k + l.length : Nat) : Int)) = mapFrom k (l ++ [x])
  | [], k, x, _ => by simp [mapFrom, mput]
  | y :: l, k, x, h => by
    have h0 : y ≠ x := fun e => h (by simp [e])
    have h1 : ¬ ((y : Int) = (x : Int)) := by omega
    have ih := mapFrom_put l (k + 1) x (fun hm => h (by simp [hm]))
    simp only [mapFrom, mput, if_neg h1, List.cons_append, List.length_cons]
    rw [show k + (l.length + 1) = k + 1 + l.length by omega, ih]
theorem mapFrom_get : ∀ (l : List Nat) (k x : Nat), x ∈ l → mget (mapFrom k l) (x : Int) = some (.int .i64 ((k + idxN l x : Nat) : Int))
  | [], k, x, h => by simp at h
  | y :: l, k, x, h => by
    by_cases hy : y = x
    · subst hy; simp [mapFrom, mget, idxN]
    · have h1 : ¬ ((y : Int) = (x : Int)) := by omega
      have ih := mapFrom_get l (k + 1) x (by rcases List.mem_cons.1 h with h | h; exact absurd h.symm hy; exact h)
      simp only [mapFrom, mget, if_neg h1, idxN, if_neg hy]
      rw [ih, show k + (idxN l x + 1) = k + 1 + idxN l x by omega]
theorem idxN_lt : ∀ (l : List Nat) (x : Nat), x ∈ l → idxN l x < l.length
  | [], x, h => by simp at h
  | y :: l, x, h => by
    by_cases hy : y = x
    · subst hy; simp [idxN]
    · have ih := idxN_lt l x (by rcases List.mem_cons.1 h with h | h; exact absurd h.symm hy; exact h)
      simp only [idxN, if_neg hy, List.length_cons]; omega
theorem idxN_at : ∀ (l : List Nat) (x : Nat), x ∈ l → l.getD (idxN l x) 0 = x
  | [], x, h => by simp at h
  | y :: l, x, h => by
    by_cases hy : y = x
    · subst hy; simp [idxN]
    · have ih := idxN_at l x (by rcases List.mem_cons.1 h with h | h; exact absurd h.symm hy; exact h)
      simp only [idxN, if_neg hy, List.getD_cons_succ]; exact ih
theorem map_getD_nat (l : List Nat) (j : Nat) : (List.map (fun q : Nat => (q : Int)) l).getD j 0 = ((l.getD j 0 : Nat) : Int) := by
  rw [List.getD_eq_getElem?_getD, List.getD_eq_getElem?_getD, List.getElem?_map]
  cases l[j]? <;> rfl
def numsOf (s : List Bool) : List Nat := (List.range s.length).filter fun i => s.getD i false
def numsTo (s : List Bool) (k : Nat) : List Nat := (List.range k).filter fun i => s.getD i false
theorem numsTo_next (s : List Bool) (k : Nat) : numsTo s (k + 1) = numsTo s k ++ if s.getD k false then [k] else [] := by
  unfold numsTo
  rw [List.range_succ, List.filter_append, List.filter_cons]; simp
theorem numsTo_not (s : List Bool) (k : Nat) : k ∉ numsTo s k := by simp [numsTo]
theorem numsTo_len (s : List Bool) (k : Nat) : (numsTo s k).length ≤ k := by
  have := List.length_filter_le (fun i => s.getD i false) (List.range k)
  rw [List.length_range] at this; exact this
theorem mem_numsOf {s : List Bool} {x : Nat} : x ∈ numsOf s ↔ x < s.length ∧ s.getD x false = true := by simp [numsOf]
def idxI (s : List Bool) (y : Int) : Int := (idxN (numsOf s) y.toNat : Nat)
def succOf (su : List (List Int)) (s : List Bool) (x : Nat) : List Int := ((su.getD x []).filter (inAt s)).map (idxI s)
def partOK (ow pr : List Int) (su : List (List Int)) (s : List Bool) : Bool := validB ow pr su && decide (s.length = ow.length) && (numsOf s).all fun x => decide (succOf su s x ≠ [])
def partOw (ow : List Int) (s : List Bool) : List Int := (numsOf s).map fun x => ow.getD x 0
def partSu (su : List (List Int)) (s : List Bool) : List (List Int) := (numsOf s).map fun x => succOf su s x
def natI (l : List Nat) : List Int := l.map fun (q : Nat) => (q : Int)
def partR (ow pr : List Int) (su : List (List Int)) (s : List Bool) : AR :=
  if partOK ow pr su s then .tup [.val (game (partOw ow s) (partOw pr s) (partSu su s)), .val (intRow (natI (numsOf s)))] else .tup [.val (game [] [] []), .val (intRow [])]
theorem i_push (xs : List Int) (x : Int) (n q : Nat) (hn : n = xs.length) (hq : q < n + 1) : appF n (cutF n 0 n (encL (cInt .i64) 0 xs)) (cutF 1 0 1 (litF [[.int .i64 x]] [.int .i64 0])) q = encL (cInt .i64) 0 (xs ++ [x]) q :=
  app_enc (n := n) (m := 1) hn (fun j h => cut_at0 j h) (fun j h => lit1 x (by simp [cInt]) j h) q hq
theorem r_push (xs : List (List Int)) (x : List Int) (n q : Nat) (hn : n = xs.length) (hq : q < n + 1) : appF n (cutF n 0 n (encL (cRow (cInt .i64) 0) [] xs)) (cutF 1 0 1 (litF [[.ro x.length (cutF x.length 0 x.length (encL (cInt .i64) 0 x))]] [.raw (.slice none 0 0)])) q = encL (cRow (cInt .i64) 0) [] (xs ++ [x]) q := by
  rw [cutF_all (n := x.length) rfl]
  refine app_enc (n := n) (m := 1) hn (fun j h => cut_at0 j h) (fun j h => ?_) q hq
  have hj : j = 0 := by omega
  subst hj
  rfl
theorem partR_yes {ow pr : List Int} {su : List (List Int)} {s : List Bool} (hv : validB ow pr su = true) (hl : s.length = ow.length) (h : ∀ x ∈ numsOf s, succOf su s x ≠ []) : partR ow pr su s = .tup [.val (game (partOw ow s) (partOw pr s) (partSu su s)), .val (intRow (natI (numsOf s)))] := by
  have : partOK ow pr su s = true := by
    rw [partOK, hv, decide_eq_true hl, Bool.true_and, Bool.true_and, List.all_eq_true]
    intro x hx; exact decide_eq_true (h x hx)
  rw [partR, if_pos this]
theorem partR_no {ow pr : List Int} {su : List (List Int)} {s : List Bool} {x : Nat} (hx : x ∈ numsOf s) (h : succOf su s x = []) : partR ow pr su s = .tup [.val (game [] [] []), .val (intRow [])] := by
  have : (numsOf s).all (fun x => decide (succOf su s x ≠ [])) = false := by
    rw [← Bool.not_eq_true, List.all_eq_true]; intro g; have := g x hx; simp [h] at this
  rw [partR, partOK, this, Bool.and_false]; rfl
theorem p15 (ow pr : List Int) (su : List (List Int)) (s : List Bool) (ho : ow.length < 2 ^ 40) (hp : pr.length < 2 ^ 40) (hs : su.length < 2 ^ 40) (hsu : ∀ r ∈ su, r.length < 2 ^ 40) (hsl : s.length < 2 ^ 40) :
    Contract Try.prog 15 [game ow pr su, boolRow s] (partR ow pr su s) := by
  refine ct15 (SH.Sem.of_wpA hm ?_)
  simp only [padA]
  simp only [Try.f15, Option.getD, w_skip, w_reg, w_regd, w_seq, w_cond, w_block, w_loop, w_rf, w_exit, w_ret, f_ok, f_call, f_yield, yK_cons, a_normal, r_normal, r_ret, r_exit, rg_cons, putL, frz, beq_self_eq_true, Nat.reduceBEq, updG_same, f_bad, cK_nil, cK_cons, v_nil, v_cons, gK_tt, gK_ff, gK_tf, gK_ft, dK_go, d_nil, d_cons, gD_tt, gD_ff, gD_tf, gD_ft, eC_one, eC_tup, eC_own, eE_ok, eE_bad, eD, eff, eBin, eEq, eUn, eConv, eLen, eMin, eMax, eField, eFieldAddr, eIndex, eIndexAddr, eSlice, eLoad, eStore, eAlloc, eBox, eBuild, eBuildSlice, eMake, eAppend, eCopy, eMakeMap, eMapUpdate, eLookup, lookV, optN, eNil, ePick, eExtract, E.pure, Eff.only, Eff.notB, evalA, AV.ofV, AV.ofC, sget, sput, putA, applyU, hset, hget, hlen, alen, takeA, dropA, spliceA, mapA, allA, lget, oget, pget, tget, cellsA, AV.one, AV.goneB, partA, partC, TK.isAgg, nilish, natA, natC, loN, hiN, optC, roCut, loadP, loadC, aggOr, fillA, fillC, allPos, partsC, partsCells, partsAll, kills, killIds, liveAll, gnd, srcOf, inBlk, mapO, mapP, Go.SH.IntKind.uns, TK.flat, eqSc, eqScC, eqFs, eqFsC, seqK, blockK, condK, l_exit, l_ret, retK, retS, rsV, rsC, allT, padA, mapT, glook, bsel, gsplit_true, gsplit_false, resOf, resIds, resAll, nodupN, notin, like, like1, likeL, likeAll, AV.np, AV.gb, idsR, idsM, retI, retR, reify, AR.v, AR.u, AR.nv, nvec, impV, impU, isAlloc, callOf, countA, upIds, Option.map_none, Option.map_some, Option.isSome_some, Option.isSome_none, List.map_cons, List.map_nil, true_and, and_true, List.cons_append, List.nil_append, List.append_nil, List.length_cons, List.length_nil, List.nodup_nil, List.not_mem_nil, not_false_eq_true, ne_eq, reduceCtorEq, Bool.and_true, Bool.true_and, Bool.not_true, Bool.not_false, if_true, if_false, reduceIte, en_byte, en_byte', en_int, en_int', en_bool, en_bool', en_str, en_str', en_row, en_row', sh_at, sh_at', and_assoc, Nat.zero_add, Nat.add_zero, Nat.reduceAdd, appF_zero, Option.isNone_none, Option.isNone_some, en_byteL, en_intL, en_rowL, Int.reduceToNat, Nat.mul_one, Nat.one_mul, Nat.zero_mul, Nat.reduceMul, Nat.reduceSub, Nat.sub_zero, bne_self_eq_false, ti1, ti2, ti3, ti4, ti5, ti6, ti7, ti8, ti9, ti10, ti11, ti12, ti13, ti14, ti15, ti16, ti17, ti18, ti19, ti21, ti22, ti23, ti24, ti25, ti26, ti27, ti28, ti30, ti31, ti33, ti34, ti35, ti36, ti37, ti38, ti39, ti40, ti41, ti42, ti43, ti45, ti46, ti47, ti48, ti49, ti50, ti51, ti52, ti53, ti54, ti55, ti57, ti58, ti59, ti60, ti61, ti62, ti63, ti64, ti65, ti66, ti67, ti68, ti69, ti70, ti71, ti72, ti73, ti74, ti75, ti76, ti77, ti78, ti79, ti80, ti81, ti82, ti83, ti85, ti86, ti87, ti88, ti89, ti90, ti91, ti92, ti93, ti94, ti95, ti96, ti97, ti98, ti99, ti100, ti101, ti102, ti103, ti104, ti105, ti106, ti107, ti108, ti109]
  repeat (((with_reducible refine And.intro ?_ ?_)); (focus (first | omega | (simp only [inR]; omega) | rfl | (simp [notinId, notin]; done) | exact Or.inr rfl | (intro i hi; (repeat' (with_reducible first | apply len_cut | apply len_shift | apply len_app | apply len_copy | intro j)) <;> first | rfl | (exact len_lit _ _ (by simp) rfl _) | (simp; done)))))
  have a16 := k23 ow pr su ho hp hs hsu
  cases hv : validB ow pr su
  · have e : partR ow pr su s = .tup [.val (game [] [] []), .val (intRow [])] := by rw [partR, partOK, hv]; rfl
    rw [hv] at a16
    refine EffC.use a16 ?_ (.inl rfl) ?_
    · ((refine evL ?_; (try (with_reducible exact True.intro))) <;> (try simp (disch := (first | omega | (simp only [List.length_append, List.length_cons, List.length_nil, List.length_take, List.length_drop, List.length_map, List.length_nil] <;> omega) | fail)) only [cutF_all, strOf_enc, appF_zero, appF_enc, lit_byte, shiftF_enc, shiftF_0, cutF_enc, List.nil_append, List.drop_zero, List.take_of_length_le]) <;> (repeat' (with_reducible refine And.intro ?_ ?_)) <;> first | trivial | rfl | (intros; first | rfl | trivial; done) | (first | omega | (simp only [List.length_append, List.length_cons, List.length_nil, List.length_take, List.length_drop, List.length_map, List.length_nil] <;> omega) | fail))
    rw [e]
    (refine ev ?_; (try (with_reducible exact True.intro)))
    repeat (((with_reducible refine And.intro ?_ ?_)); (focus (first | omega | (simp only [inR]; omega) | rfl | (simp [notinId, notin]; done) | exact Or.inr rfl | (intro i hi; (repeat' (with_reducible first | apply len_cut | apply len_shift | apply len_app | apply len_copy | intro j)) <;> first | rfl | (exact len_lit _ _ (by simp) rfl _) | (simp; done)))))
    ((repeat' (with_reducible refine And.intro ?_ ?_)) <;> first | omega | (simp [notinId]; done) | (exact fun q hq => cut_at0 q (by simpa using hq)) | (exact fun q hq => cut_at0 q (by omega)) | (exact fun _ _ => rfl))
  rw [hv] at a16
  refine EffC.use a16 ?_ (.inl rfl) ?_
  · ((refine evL ?_; (try (with_reducible exact True.intro))) <;> (try simp (disch := (first | omega | (simp only [List.length_append, List.length_cons, List.length_nil, List.length_take, List.length_drop, List.length_map, List.length_nil] <;> omega) | fail)) only [cutF_all, strOf_enc, appF_zero, appF_enc, lit_byte, shiftF_enc, shiftF_0, cutF_enc, List.nil_append, List.drop_zero, List.take_of_length_le]) <;> (repeat' (with_reducible refine And.intro ?_ ?_)) <;> first | trivial | rfl | (intros; first | rfl | trivial; done) | (first | omega | (simp only [List.length_append, List.length_cons, List.length_nil, List.length_take, List.length_drop, List.length_map, List.length_nil] <;> omega) | fail))
  (refine ev ?_; (try (with_reducible exact True.intro)))
  repeat (((with_reducible refine And.intro ?_ ?_)); (focus (first | omega | (simp only [inR]; omega) | rfl | (simp [notinId, notin]; done) | exact Or.inr rfl | (intro i hi; (repeat' (with_reducible first | apply len_cut | apply len_shift | apply len_app | apply len_copy | intro j)) <;> first | rfl | (exact len_lit _ _ (by simp) rfl _) | (simp; done)))))
  refine gs (fun hd => ?_) (fun hd => ?_)
  · have e : partR ow pr su s = .tup [.val (game [] [] []), .val (intRow [])] := by
      have : ¬ s.length = ow.length := by simp at hd; omega
      rw [partR, partOK, hv, decide_eq_false this]; rfl
    rw [e]
    (refine ev ?_; (try (with_reducible exact True.intro)))
    repeat (((with_reducible refine And.intro ?_ ?_)); (focus (first | omega | (simp only [inR]; omega) | rfl | (simp [notinId, notin]; done) | exact Or.inr rfl | (intro i hi; (repeat' (with_reducible first | apply len_cut | apply len_shift | apply len_app | apply len_copy | intro j)) <;> first | rfl | (exact len_lit _ _ (by simp) rfl _) | (simp; done)))))
    ((repeat' (with_reducible refine And.intro ?_ ?_)) <;> first | omega | (simp [notinId]; done) | (exact fun q hq => cut_at0 q (by simpa using hq)) | (exact fun q hq => cut_at0 q (by omega)) | (exact fun _ _ => rfl))
  have hl : s.length = ow.length := by simp at hd; omega
  obtain ⟨v1, v2, v3, v4⟩ := validB_spec hv
  (refine ev ?_; (try (with_reducible exact True.intro)))
  repeat (((with_reducible refine And.intro ?_ ?_)); (focus (first | omega | (simp only [inR]; omega) | rfl | (simp [notinId, notin]; done) | exact Or.inr rfl | (intro i hi; (repeat' (with_reducible first | apply len_cut | apply len_shift | apply len_app | apply len_copy | intro j)) <;> first | rfl | (exact len_lit _ _ (by simp) rfl _) | (simp; done)))))
  refine SH.Sem.adopt 6 1 (natRow []) (by decide) rfl ?_
  simp only [hset, hlen, sput]
  refine SH.Sem.loop hm (fun i : Nat => ⟨padA [.undef, boolRow s, .ptr 0 0 0, .undef, .ptr 1 0 0, .undef, .sl 3 0 (numsTo s i).length, .mp 2, .undef, .undef, .undef, .undef, .undef, .undef, .undef, .undef, .undef, .undef, .undef, .undef, .undef, .undef, .undef, .undef, .undef, .undef, .undef, .undef, .undef, boolRow s, .int .i64 s.length, .int .i64 i] 106, [.box [intRow ow, intRow pr, intRows su], .box [.raw (.slice none 0 0), .raw (.slice none 0 0), .raw (.slice none 0 0)], .map (mapFrom 0 (numsTo s i)), .vec 1 (numsTo s i).length (natRow (numsTo s i))]⟩) (fun i => i ≤ s.length) (fun i => s.length - i) [0, 1, 2, 3] 0 (by omega) ?_ fun i hi0 => ?_
  · simp only [padA, St.le, slotsLe, heapLe, blkLe, rowLe, live, injOn, loLe, nget, nlook, ren, okA, allP, mapA, hget, ABlk.used, notin, List.map_cons, List.map_nil, true_or, or_true, false_or, or_false, true_and, and_true, and_self, AV.int.injEq, AV.bool.injEq, AV.str.injEq, AV.sl.injEq, AV.ro.injEq, AV.agg.injEq, List.cons.injEq, reduceCtorEq, ne_eq, not_false_eq_true, not_true_eq_false]
    refine ⟨⟨rfl, rfl⟩, ⟨rfl, rfl, fun q hq => by simp [numsTo] at hq⟩, by simp⟩
  simp only [padA]
  (refine ev ?_; (try (with_reducible exact True.intro)))
  refine gsd (fun hd => ?_) (fun hd => ?_)
  · have hi : i < s.length := by omega
    have nx := numsTo_next s i
    have nl := numsTo_len s i
    (refine ev ?_; (try (with_reducible exact True.intro)))
    simp only [Int.toNat_natCast]
    repeat (((with_reducible refine And.intro ?_ ?_)); (focus (first | omega | (simp only [inR]; omega) | rfl | (simp [notinId, notin]; done) | exact Or.inr rfl | (intro i hi; (repeat' (with_reducible first | apply len_cut | apply len_shift | apply len_app | apply len_copy | intro j)) <;> first | rfl | (exact len_lit _ _ (by simp) rfl _) | (simp; done)))))
    refine gs (fun h1 => ?_) (fun h1 => ?_)
    · rw [h1, if_pos rfl] at nx
      have mp := mapFrom_put (numsTo s i) 0 i (numsTo_not s i)
      rw [Nat.zero_add, ← nx] at mp
      (refine ev ?_; (try (with_reducible exact True.intro)))
      repeat (((with_reducible refine And.intro ?_ ?_)); (focus (first | omega | (simp only [inR]; omega) | rfl | (simp [notinId, notin]; done) | exact Or.inr rfl | (intro i hi; (repeat' (with_reducible first | apply len_cut | apply len_shift | apply len_app | apply len_copy | intro j)) <;> first | rfl | (exact len_lit _ _ (by simp) rfl _) | (simp; done)))))
      refine ⟨i + 1, [0, 1, 2, 5], by omega, by show s.length - (i + 1) < s.length - i; omega, ?_⟩
      have e1 : (numsTo s (i + 1)).length = (numsTo s i).length + 1 := by rw [nx]; simp
      simp only [padA, St.le, slotsLe, heapLe, blkLe, rowLe, live, injOn, loLe, nget, nlook, ren, okA, allP, mapA, hget, ABlk.used, notin, List.map_cons, List.map_nil, true_or, or_true, false_or, or_false, true_and, and_true, and_self, AV.int.injEq, AV.bool.injEq, AV.str.injEq, AV.sl.injEq, AV.ro.injEq, AV.agg.injEq, List.cons.injEq, reduceCtorEq, ne_eq, not_false_eq_true, not_true_eq_false, mp, e1]
      refine ⟨by omega, fun q hq => ?_, by simp⟩
      rw [nx]; exact nat_push _ i q hq
    · rw [h1, if_neg (by simp), List.append_nil] at nx
      (refine ev ?_; (try (with_reducible exact True.intro)))
      repeat (((with_reducible refine And.intro ?_ ?_)); (focus (first | omega | (simp only [inR]; omega) | rfl | (simp [notinId, notin]; done) | exact Or.inr rfl | (intro i hi; (repeat' (with_reducible first | apply len_cut | apply len_shift | apply len_app | apply len_copy | intro j)) <;> first | rfl | (exact len_lit _ _ (by simp) rfl _) | (simp; done)))))
      refine ⟨i + 1, [0, 1, 2, 3], by omega, by show s.length - (i + 1) < s.length - i; omega, ?_⟩
      simp only [padA, St.le, slotsLe, heapLe, blkLe, rowLe, live, injOn, loLe, nget, nlook, ren, okA, allP, mapA, hget, ABlk.used, notin, List.map_cons, List.map_nil, true_or, or_true, false_or, or_false, true_and, and_true, and_self, AV.int.injEq, AV.bool.injEq, AV.str.injEq, AV.sl.injEq, AV.ro.injEq, AV.agg.injEq, List.cons.injEq, reduceCtorEq, ne_eq, not_false_eq_true, not_true_eq_false, nx]
      simp
  · have hi : i = s.length := by omega
    subst hi
    have en : numsTo s s.length = numsOf s := rfl
    simp -implicitDefEqProofs only [Option.getD, w_skip, w_reg, w_regd, w_seq, w_cond, w_block, w_loop, w_rf, w_exit, w_ret, f_ok, f_call, f_yield, yK_cons, a_normal, r_normal, r_ret, r_exit, rg_cons, putL, frz, beq_self_eq_true, Nat.reduceBEq, updG_same, f_bad, cK_nil, cK_cons, v_nil, v_cons, gK_tt, gK_ff, gK_tf, gK_ft, dK_go, d_nil, d_cons, gD_tt, gD_ff, gD_tf, gD_ft, eC_one, eC_tup, eC_own, eE_ok, eE_bad, eD, eff, eBin, eEq, eUn, eConv, eLen, eMin, eMax, eField, eFieldAddr, eIndex, eIndexAddr, eSlice, eLoad, eStore, eAlloc, eBox, eBuild, eBuildSlice, eMake, eAppend, eCopy, eMakeMap, eMapUpdate, eLookup, lookV, optN, eNil, ePick, eExtract, E.pure, Eff.only, Eff.notB, evalA, AV.ofV, AV.ofC, sget, sput, putA, applyU, hset, hget, hlen, alen, takeA, dropA, spliceA, mapA, allA, lget, oget, pget, tget, cellsA, AV.one, AV.goneB, partA, partC, TK.isAgg, nilish, natA, natC, loN, hiN, optC, roCut, loadP, loadC, aggOr, fillA, fillC, allPos, partsC, partsCells, partsAll, kills, killIds, liveAll, gnd, srcOf, inBlk, mapO, mapP, Go.SH.IntKind.uns, TK.flat, eqSc, eqScC, eqFs, eqFsC, seqK, blockK, condK, l_exit, l_ret, retK, retS, rsV, rsC, allT, padA, mapT, glook, bsel, gsplit_true, gsplit_false, resOf, resIds, resAll, nodupN, notin, like, like1, likeL, likeAll, AV.np, AV.gb, idsR, idsM, retI, retR, reify, AR.v, AR.u, AR.nv, nvec, impV, impU, isAlloc, callOf, countA, upIds, Option.map_none, Option.map_some, Option.isSome_some, Option.isSome_none, List.map_cons, List.map_nil, true_and, and_true, List.cons_append, List.nil_append, List.append_nil, List.length_cons, List.length_nil, List.nodup_nil, List.not_mem_nil, not_false_eq_true, ne_eq, reduceCtorEq, Bool.and_true, Bool.true_and, Bool.not_true, Bool.not_false, if_true, if_false, reduceIte, en_byte, en_byte', en_int, en_int', en_bool, en_bool', en_str, en_str', en_row, en_row', sh_at, sh_at', and_assoc, Nat.zero_add, Nat.add_zero, Nat.reduceAdd, appF_zero, Option.isNone_none, Option.isNone_some, en_byteL, en_intL, en_rowL, Int.reduceToNat, Nat.mul_one, Nat.one_mul, Nat.zero_mul, Nat.reduceMul, Nat.reduceSub, Nat.sub_zero, bne_self_eq_false, ti1, ti2, ti3, ti4, ti5, ti6, ti7, ti8, ti9, ti10, ti11, ti12, ti13, ti14, ti15, ti16, ti17, ti18, ti19, ti21, ti22, ti23, ti24, ti25, ti26, ti27, ti28, ti30, ti31, ti33, ti34, ti35, ti36, ti37, ti38, ti39, ti40, ti41, ti42, ti43, ti45, ti46, ti47, ti48, ti49, ti50, ti51, ti52, ti53, ti54, ti55, ti57, ti58, ti59, ti60, ti61, ti62, ti63, ti64, ti65, ti66, ti67, ti68, ti69, ti70, ti71, ti72, ti73, ti74, ti75, ti76, ti77, ti78, ti79, ti80, ti81, ti82, ti83, ti85, ti86, ti87, ti88, ti89, ti90, ti91, ti92, ti93, ti94, ti95, ti96, ti97, ti98, ti99, ti100, ti101, ti102, ti103, ti104, ti105, ti106, ti107, ti108, ti109, en]
    repeat (((with_reducible refine And.intro ?_ ?_)); (focus (first | omega | (simp only [inR]; omega) | rfl | (simp [notinId, notin]; done) | exact Or.inr rfl | (intro i hi; (repeat' (with_reducible first | apply len_cut | apply len_shift | apply len_app | apply len_copy | intro j)) <;> first | rfl | (exact len_lit _ _ (by simp) rfl _) | (simp; done)))))
    obtain ⟨nums, hn⟩ : ∃ nums, numsOf s = nums := ⟨_, rfl⟩
    have nl := numsTo_len s s.length
    rw [en, hn] at nl
    simp only [hn]
    refine SH.Sem.adoptB 4 0 1 (encL (cInt .i64) 0 []) (by decide) rfl rfl ?_
    simp only [hset, hlen, sput]
    refine SH.Sem.adoptB 4 1 1 (encL (cInt .i64) 0 []) (by decide) rfl rfl ?_
    simp only [hset, hlen, sput]
    refine SH.Sem.adoptB 4 2 1 (encL (cRow (cInt .i64) 0) [] []) (by decide) rfl rfl ?_
    simp only [hset, hlen, sput]
    refine SH.Sem.loop hm (fun j : Nat => ⟨padA [.undef, boolRow s, .ptr 0 0 0, .undef, .ptr 1 0 0, .undef, .sl 3 0 nums.length, .mp 2, .undef, .undef, .ptr 4 0 0, .undef, .undef, .undef, .undef, .undef, .undef, .undef, .undef, .undef, .undef, .undef, .undef, .undef, .undef, .undef, .undef, .undef, .undef, .undef, .undef, .undef, .undef, .undef, .undef, .undef, .undef, .undef, .undef, .undef, .undef, .undef, .undef, .undef, .undef, .undef, .sl 3 0 nums.length, .int .i64 nums.length, .int .i64 j] 106, [.box [intRow ow, intRow pr, intRows su], .box [.raw (.slice none 0 0), .raw (.slice none 0 0), .raw (.slice none 0 0)], .map (mapFrom 0 nums), .vec 1 nums.length (natRow nums), .box [.sl 5 0 j, .sl 6 0 j, .sl 7 0 j], .vec 1 j (encL (cInt .i64) 0 ((nums.take j).map fun x => ow.getD x 0)), .vec 1 j (encL (cInt .i64) 0 ((nums.take j).map fun x => pr.getD x 0)), .vec 1 j (encL (cRow (cInt .i64) 0) [] ((nums.take j).map fun x => succOf su s x))]⟩) (fun j => j ≤ nums.length ∧ ∀ x ∈ nums.take j, succOf su s x ≠ []) (fun j => nums.length - j) [0, 1, 2, 3, 4, 5, 6, 7] 0 ⟨by omega, by simp⟩ ?_ fun j ⟨hj0, hj1⟩ => ?_
    · simp only [padA, St.le, slotsLe, heapLe, blkLe, rowLe, live, injOn, loLe, nget, nlook, ren, okA, allP, mapA, hget, ABlk.used, notin, List.map_cons, List.map_nil, true_or, or_true, false_or, or_false, true_and, and_true, and_self, AV.int.injEq, AV.bool.injEq, AV.str.injEq, AV.sl.injEq, AV.ro.injEq, AV.agg.injEq, List.cons.injEq, reduceCtorEq, ne_eq, not_false_eq_true, not_true_eq_false]
      simp
    simp only [padA]
    (refine ev ?_; (try (with_reducible exact True.intro)))
    refine gsd (fun hd2 => ?_) (fun hd2 => ?_)
    · have hj : j < nums.length := by omega
      obtain ⟨x, hx⟩ : ∃ x, nums.getD j 0 = x := ⟨_, rfl⟩
      have hxm : x ∈ nums := by rw [← hx]; exact getD_mem hj 0
      have hxm' := hxm
      rw [← hn, mem_numsOf] at hxm'
      obtain ⟨hxs, _⟩ := hxm'
      have nxt := take_next nums 0 j hj
      rw [hx] at nxt
      obtain ⟨row, hrow⟩ : ∃ row, su.getD x [] = row := ⟨_, rfl⟩
      have w3 := (v4 x (by omega)).2.2
      have hrl := hsu _ (getD_mem (show x < su.length by omega) [])
      rw [hrow] at w3 hrl
      (refine ev ?_; (try (with_reducible exact True.intro)))
      simp only [Int.toNat_natCast, map_getD_nat, hx, hrow]
      repeat (((with_reducible refine And.intro ?_ ?_)); (focus (first | omega | (simp only [inR]; omega) | rfl | (simp [notinId, notin]; done) | exact Or.inr rfl | (intro i hi; (repeat' (with_reducible first | apply len_cut | apply len_shift | apply len_app | apply len_copy | intro j)) <;> first | rfl | (exact len_lit _ _ (by simp) rfl _) | (simp; done)))))
      refine SH.Sem.adopt 13 1 (encL (cInt .i64) 0 []) (by decide) rfl ?_
      simp only [hset, hlen, sput]
      obtain ⟨f, hf⟩ : ∃ f : Nat → List Int, f = fun k => ((row.take k).filter (inAt s)).map (idxI s) := ⟨_, rfl⟩
      have hfs : f row.length = succOf su s x := by rw [hf, succOf, hrow]; simp only [List.take_length]
      have hfl : ∀ k, (f k).length ≤ row.length := fun k => by
        rw [hf]
        have h1 := List.length_filter_le (inAt s) (row.take k)
        rw [List.length_take] at h1
        simp only [List.length_map]; omega
      refine SH.Sem.loop hm (fun k : Nat => ⟨padA [.undef, boolRow s, .ptr 0 0 0, .undef, .ptr 1 0 0, .undef, .sl 3 0 nums.length, .mp 2, .undef, .undef, .ptr 4 0 0, .undef, .int .i64 x, .sl 8 0 (f k).length, .undef, .undef, .undef, .undef, .undef, .undef, .undef, .undef, .undef, .undef, .undef, .undef, .undef, .undef, .undef, .undef, .undef, .undef, .undef, .undef, .undef, .undef, .undef, .undef, .undef, .undef, .undef, .undef, .undef, .undef, .undef, .undef, .sl 3 0 nums.length, .int .i64 nums.length, .int .i64 j, .undef, .undef, .undef, .undef, .undef, .undef, .undef, intRow row, .int .i64 row.length, .int .i64 k] 106, [.box [intRow ow, intRow pr, intRows su], .box [.raw (.slice none 0 0), .raw (.slice none 0 0), .raw (.slice none 0 0)], .map (mapFrom 0 nums), .vec 1 nums.length (natRow nums), .box [.sl 5 0 j, .sl 6 0 j, .sl 7 0 j], .vec 1 j (encL (cInt .i64) 0 ((nums.take j).map fun x => ow.getD x 0)), .vec 1 j (encL (cInt .i64) 0 ((nums.take j).map fun x => pr.getD x 0)), .vec 1 j (encL (cRow (cInt .i64) 0) [] ((nums.take j).map fun x => succOf su s x)), .vec 1 (f k).length (encL (cInt .i64) 0 (f k))]⟩) (fun k => k ≤ row.length) (fun k => row.length - k) [0, 1, 2, 3, 4, 5, 6, 7, 8] 0 (by omega) ?_ fun k hk0 => ?_
      · have : f 0 = [] := by rw [hf]; rfl
        simp only [padA, St.le, slotsLe, heapLe, blkLe, rowLe, live, injOn, loLe, nget, nlook, ren, okA, allP, mapA, hget, ABlk.used, notin, List.map_cons, List.map_nil, true_or, or_true, false_or, or_false, true_and, and_true, and_self, AV.int.injEq, AV.bool.injEq, AV.str.injEq, AV.sl.injEq, AV.ro.injEq, AV.agg.injEq, List.cons.injEq, reduceCtorEq, ne_eq, not_false_eq_true, not_true_eq_false, this]
        simp
      simp only [padA]
      (refine ev ?_; (try (with_reducible exact True.intro)))
      refine gsd (fun hd3 => ?_) (fun hd3 => ?_)
      · have hk : k < row.length := by omega
        obtain ⟨y, hy⟩ : ∃ y, row.getD k 0 = y := ⟨_, rfl⟩
        have w3 := w3 _ (getD_mem hk 0)
        have nxk := take_next row 0 k hk
        rw [hy] at w3 nxk
        obtain ⟨yn, rfl⟩ : ∃ yn : Nat, y = yn := ⟨y.toNat, by omega⟩
        have fk := hfl k
        (refine ev ?_; (try (with_reducible exact True.intro)))
        simp only [Int.toNat_natCast, hy]
        repeat (((with_reducible refine And.intro ?_ ?_)); (focus (first | omega | (simp only [inR]; omega) | rfl | (simp [notinId, notin]; done) | exact Or.inr rfl | (intro i hi; (repeat' (with_reducible first | apply len_cut | apply len_shift | apply len_app | apply len_copy | intro j)) <;> first | rfl | (exact len_lit _ _ (by simp) rfl _) | (simp; done)))))
        refine gs (fun h1 => ?_) (fun h1 => ?_)
        · have hym : yn ∈ nums := by rw [← hn, mem_numsOf]; exact ⟨by omega, h1⟩
          have nf : f (k + 1) = f k ++ [((idxN nums yn : Nat) : Int)] := by
            rw [hf]; simp only
            rw [nxk, List.filter_append, List.map_append, List.filter_cons_of_pos (by exact h1), List.filter_nil, List.map_cons, List.map_nil, idxI, hn]; rfl
          have mg := mapFrom_get nums 0 yn hym
          rw [Nat.zero_add] at mg
          (refine ev ?_; (try (with_reducible exact True.intro)))
          simp only [mg, Option.getD_some]
          (refine ev ?_; (try (with_reducible exact True.intro)))
          repeat (((with_reducible refine And.intro ?_ ?_)); (focus (first | omega | (simp only [inR]; omega) | rfl | (simp [notinId, notin]; done) | exact Or.inr rfl | (intro i hi; (repeat' (with_reducible first | apply len_cut | apply len_shift | apply len_app | apply len_copy | intro j)) <;> first | rfl | (exact len_lit _ _ (by simp) rfl _) | (simp; done)))))
          refine ⟨k + 1, [0, 1, 2, 3, 4, 5, 6, 7, 10], by omega, by show row.length - (k + 1) < row.length - k; omega, ?_⟩
          simp only [padA, St.le, slotsLe, heapLe, blkLe, rowLe, live, injOn, loLe, nget, nlook, ren, okA, allP, mapA, hget, ABlk.used, notin, List.map_cons, List.map_nil, true_or, or_true, false_or, or_false, true_and, and_true, and_self, AV.int.injEq, AV.bool.injEq, AV.str.injEq, AV.sl.injEq, AV.ro.injEq, AV.agg.injEq, List.cons.injEq, reduceCtorEq, ne_eq, not_false_eq_true, not_true_eq_false, nf, List.length_append, List.length_singleton]
          refine ⟨by omega, ?_, by simp⟩
          simp only [implies_true, true_and]
          exact fun q hq => i_push _ _ _ q rfl hq
        · have nf : f (k + 1) = f k := by
            rw [hf]; simp only
            rw [nxk, List.filter_append, List.filter_cons_of_neg (by intro h; rw [inAt] at h; simp only [Int.toNat_natCast] at h; rw [h] at h1; cases h1)]; simp
          (refine ev ?_; (try (with_reducible exact True.intro)))
          repeat (((with_reducible refine And.intro ?_ ?_)); (focus (first | omega | (simp only [inR]; omega) | rfl | (simp [notinId, notin]; done) | exact Or.inr rfl | (intro i hi; (repeat' (with_reducible first | apply len_cut | apply len_shift | apply len_app | apply len_copy | intro j)) <;> first | rfl | (exact len_lit _ _ (by simp) rfl _) | (simp; done)))))
          refine ⟨k + 1, [0, 1, 2, 3, 4, 5, 6, 7, 8], by omega, by show row.length - (k + 1) < row.length - k; omega, ?_⟩
          simp only [padA, St.le, slotsLe, heapLe, blkLe, rowLe, live, injOn, loLe, nget, nlook, ren, okA, allP, mapA, hget, ABlk.used, notin, List.map_cons, List.map_nil, true_or, or_true, false_or, or_false, true_and, and_true, and_self, AV.int.injEq, AV.bool.injEq, AV.str.injEq, AV.sl.injEq, AV.ro.injEq, AV.agg.injEq, List.cons.injEq, reduceCtorEq, ne_eq, not_false_eq_true, not_true_eq_false, nf]
          simp
      · have hk : k = row.length := by omega
        subst hk
        (refine ev ?_; (try (with_reducible exact True.intro)))
        repeat (((with_reducible refine And.intro ?_ ?_)); (focus (first | omega | (simp only [inR]; omega) | rfl | (simp [notinId, notin]; done) | exact Or.inr rfl | (intro i hi; (repeat' (with_reducible first | apply len_cut | apply len_shift | apply len_app | apply len_copy | intro j)) <;> first | rfl | (exact len_lit _ _ (by simp) rfl _) | (simp; done)))))
        simp only [hfs]
        have hsl2 := hfl row.length
        rw [hfs] at hsl2
        refine gs (fun h1 => ?_) (fun h1 => ?_)
        · have h0 : succOf su s x = [] := List.eq_nil_of_length_eq_zero (by have := eq_of_beq h1; omega)
          rw [partR_no (by rw [hn]; exact hxm) h0]
          (refine ev ?_; (try (with_reducible exact True.intro)))
          repeat (((with_reducible refine And.intro ?_ ?_)); (focus (first | omega | (simp only [inR]; omega) | rfl | (simp [notinId, notin]; done) | exact Or.inr rfl | (intro i hi; (repeat' (with_reducible first | apply len_cut | apply len_shift | apply len_app | apply len_copy | intro j)) <;> first | rfl | (exact len_lit _ _ (by simp) rfl _) | (simp; done)))))
          ((repeat' (with_reducible refine And.intro ?_ ?_)) <;> first | omega | (simp [notinId]; done) | (exact fun q hq => cut_at0 q (by simpa using hq)) | (exact fun q hq => cut_at0 q (by omega)) | (exact fun _ _ => rfl))
        · have h0 : succOf su s x ≠ [] := fun h => by rw [h] at h1; simp at h1
          (refine ev ?_; (try (with_reducible exact True.intro)))
          simp only [Int.toNat_natCast]
          repeat (((with_reducible refine And.intro ?_ ?_)); (focus (first | omega | (simp only [inR]; omega) | rfl | (simp [notinId, notin]; done) | exact Or.inr rfl | (intro i hi; (repeat' (with_reducible first | apply len_cut | apply len_shift | apply len_app | apply len_copy | intro j)) <;> first | rfl | (exact len_lit _ _ (by simp) rfl _) | (simp; done)))))
          refine ⟨j + 1, [0, 1, 2, 3, 4, 11, 15, 19], ⟨by omega, fun y hy => ?_⟩, by show nums.length - (j + 1) < nums.length - j; omega, ?_⟩
          · rw [nxt] at hy
            rcases List.mem_append.1 hy with hy | hy
            · exact hj1 y hy
            · rw [List.mem_singleton] at hy; subst hy; exact h0
          simp only [padA, St.le, slotsLe, heapLe, blkLe, rowLe, live, injOn, loLe, nget, nlook, ren, okA, allP, mapA, hget, ABlk.used, notin, List.map_cons, List.map_nil, true_or, or_true, false_or, or_false, true_and, and_true, and_self, AV.int.injEq, AV.bool.injEq, AV.str.injEq, AV.sl.injEq, AV.ro.injEq, AV.agg.injEq, List.cons.injEq, reduceCtorEq, ne_eq, not_false_eq_true, not_true_eq_false, nxt, List.map_append, List.map_cons, List.map_nil]
          have tl : (nums.take j).length = j := by rw [List.length_take]; omega
          refine ⟨by omega, ?_, by simp⟩
          simp only [implies_true, true_and]
          exact ⟨fun q hq => i_push _ _ _ q (by rw [List.length_map, tl]) hq, fun q hq => i_push _ _ _ q (by rw [List.length_map, tl]) hq, fun q hq => r_push _ _ _ q (by rw [List.length_map, tl]) hq⟩
    · have hj : j = nums.length := by omega
      subst hj
      rw [List.take_length] at hj1
      have e := partR_yes (pr := pr) hv hl (fun x hx => hj1 x (by rw [← hn]; exact hx))
      rw [e, partOw, partOw, partSu, natI, hn]
      simp -implicitDefEqProofs only [Option.getD, w_skip, w_reg, w_regd, w_seq, w_cond, w_block, w_loop, w_rf, w_exit, w_ret, f_ok, f_call, f_yield, yK_cons, a_normal, r_normal, r_ret, r_exit, rg_cons, putL, frz, beq_self_eq_true, Nat.reduceBEq, updG_same, f_bad, cK_nil, cK_cons, v_nil, v_cons, gK_tt, gK_ff, gK_tf, gK_ft, dK_go, d_nil, d_cons, gD_tt, gD_ff, gD_tf, gD_ft, eC_one, eC_tup, eC_own, eE_ok, eE_bad, eD, eff, eBin, eEq, eUn, eConv, eLen, eMin, eMax, eField, eFieldAddr, eIndex, eIndexAddr, eSlice, eLoad, eStore, eAlloc, eBox, eBuild, eBuildSlice, eMake, eAppend, eCopy, eMakeMap, eMapUpdate, eLookup, lookV, optN, eNil, ePick, eExtract, E.pure, Eff.only, Eff.notB, evalA, AV.ofV, AV.ofC, sget, sput, putA, applyU, hset, hget, hlen, alen, takeA, dropA, spliceA, mapA, allA, lget, oget, pget, tget, cellsA, AV.one, AV.goneB, partA, partC, TK.isAgg, nilish, natA, natC, loN, hiN, optC, roCut, loadP, loadC, aggOr, fillA, fillC, allPos, partsC, partsCells, partsAll, kills, killIds, liveAll, gnd, srcOf, inBlk, mapO, mapP, Go.SH.IntKind.uns, TK.flat, eqSc, eqScC, eqFs, eqFsC, seqK, blockK, condK, l_exit, l_ret, retK, retS, rsV, rsC, allT, padA, mapT, glook, bsel, gsplit_true, gsplit_false, resOf, resIds, resAll, nodupN, notin, like, like1, likeL, likeAll, AV.np, AV.gb, idsR, idsM, retI, retR, reify, AR.v, AR.u, AR.nv, nvec, impV, impU, isAlloc, callOf, countA, upIds, Option.map_none, Option.map_some, Option.isSome_some, Option.isSome_none, List.map_cons, List.map_nil, true_and, and_true, List.cons_append, List.nil_append, List.append_nil, List.length_cons, List.length_nil, List.nodup_nil, List.not_mem_nil, not_false_eq_true, ne_eq, reduceCtorEq, Bool.and_true, Bool.true_and, Bool.not_true, Bool.not_false, if_true, if_false, reduceIte, en_byte, en_byte', en_int, en_int', en_bool, en_bool', en_str, en_str', en_row, en_row', sh_at, sh_at', and_assoc, Nat.zero_add, Nat.add_zero, Nat.reduceAdd, appF_zero, Option.isNone_none, Option.isNone_some, en_byteL, en_intL, en_rowL, Int.reduceToNat, Nat.mul_one, Nat.one_mul, Nat.zero_mul, Nat.reduceMul, Nat.reduceSub, Nat.sub_zero, bne_self_eq_false, ti1, ti2, ti3, ti4, ti5, ti6, ti7, ti8, ti9, ti10, ti11, ti12, ti13, ti14, ti15, ti16, ti17, ti18, ti19, ti21, ti22, ti23, ti24, ti25, ti26, ti27, ti28, ti30, ti31, ti33, ti34, ti35, ti36, ti37, ti38, ti39, ti40, ti41, ti42, ti43, ti45, ti46, ti47, ti48, ti49, ti50, ti51, ti52, ti53, ti54, ti55, ti57, ti58, ti59, ti60, ti61, ti62, ti63, ti64, ti65, ti66, ti67, ti68, ti69, ti70, ti71, ti72, ti73, ti74, ti75, ti76, ti77, ti78, ti79, ti80, ti81, ti82, ti83, ti85, ti86, ti87, ti88, ti89, ti90, ti91, ti92, ti93, ti94, ti95, ti96, ti97, ti98, ti99, ti100, ti101, ti102, ti103, ti104, ti105, ti106, ti107, ti108, ti109, List.take_length]
      repeat (((with_reducible refine And.intro ?_ ?_)); (focus (first | omega | (simp only [inR]; omega) | rfl | (simp [notinId, notin]; done) | exact Or.inr rfl | (intro i hi; (repeat' (with_reducible first | apply len_cut | apply len_shift | apply len_app | apply len_copy | intro j)) <;> first | rfl | (exact len_lit _ _ (by simp) rfl _) | (simp; done)))))
      simp only [List.length_map]
      ((repeat' (with_reducible refine And.intro ?_ ?_)) <;> first | omega | (simp [notinId]; done) | (exact fun q hq => cut_at0 q (by simpa using hq)) | (exact fun q hq => cut_at0 q (by omega)) | (exact fun _ _ => rfl))
end Go.Proofs.Ythkgnnndlocbbaa
