/-
  The law AttractMoves' function: it returns true. No condition.
-/
import Derived.Test.YtnbpjccacmpnoaaKr
namespace Go.Proofs.Ytnbpjccacmpnoaa
set_option linter.unusedVariables false
set_option linter.unusedSimpArgs false
open Go Go.SH
set_option maxRecDepth 100000
set_option maxHeartbeats 4000000
set_option pp.maxSteps 8000
def leastL (f : Int → Int) (l : List Int) : Int := l.foldl (fun a t => if f t < 0 then a else min a (f t)) 1000000
def mostL (f : Int → Int) (l : List Int) : Int := l.foldl (fun a t => if f t < 0 then a else max a (f t)) 0
def outL (f : Int → Int) (l : List Int) : Nat := (l.filter fun t => decide (f t < 0)).length
theorem least_next (f : Int → Int) (l : List Int) (t : Int) : leastL f (l ++ [t]) = if f t < 0 then leastL f l else min (leastL f l) (f t) := by simp [leastL, List.foldl_append]
theorem most_next (f : Int → Int) (l : List Int) (t : Int) : mostL f (l ++ [t]) = if f t < 0 then mostL f l else max (mostL f l) (f t) := by simp [mostL, List.foldl_append]
theorem out_next (f : Int → Int) (l : List Int) (t : Int) : outL f (l ++ [t]) = outL f l + if f t < 0 then 1 else 0 := by
  simp only [outL, List.filter_append, List.length_append, List.filter_cons, List.filter_nil]
  by_cases h : f t < 0 <;> simp [h]
theorem least_spec (f : Int → Int) (l : List Int) : leastL f l ≤ 1000000 ∧ (∀ t ∈ l, 0 ≤ f t → leastL f l ≤ f t) ∧ (leastL f l = 1000000 ∨ ∃ t ∈ l, 0 ≤ f t ∧ leastL f l = f t) := by
  have key : ∀ (l : List Int) (a : Int), (l.foldl (fun a t => if f t < 0 then a else min a (f t)) a) ≤ a ∧ (∀ t ∈ l, 0 ≤ f t → (l.foldl (fun a t => if f t < 0 then a else min a (f t)) a) ≤ f t) ∧ ((l.foldl (fun a t => if f t < 0 then a else min a (f t)) a) = a ∨ ∃ t ∈ l, 0 ≤ f t ∧ (l.foldl (fun a t => if f t < 0 then a else min a (f t)) a) = f t) := by
    intro l
    induction l with
    | nil => intro a; simp
    | cons x l ih =>
      intro a
      simp only [List.foldl_cons]
      obtain ⟨h1, h2, h3⟩ := ih (if f x < 0 then a else min a (f x))
      generalize l.foldl (fun a t => if f t < 0 then a else min a (f t)) (if f x < 0 then a else min a (f x)) = r at *
      refine ⟨?_, fun t ht h0 => ?_, ?_⟩
      · split at h1 <;> omega
      · rcases List.mem_cons.1 ht with rfl | ht
        · rw [if_neg (by omega)] at h1; omega
        · exact h2 t ht h0
      · rcases h3 with h3 | ⟨t, h4, h5, h6⟩
        · split at h3
          · exact .inl h3
          · rcases Int.le_total a (f x) with h | h
            · left; rw [h3]; omega
            · right; exact ⟨x, by simp, by omega, by rw [h3]; omega⟩
        · exact .inr ⟨t, List.mem_cons_of_mem _ h4, h5, h6⟩
  exact key l 1000000
theorem most_spec (f : Int → Int) (l : List Int) : 0 ≤ mostL f l ∧ (∀ t ∈ l, 0 ≤ f t → f t ≤ mostL f l) ∧ (mostL f l = 0 ∨ ∃ t ∈ l, 0 ≤ f t ∧ mostL f l = f t) := by
  have key : ∀ (l : List Int) (a : Int), a ≤ (l.foldl (fun a t => if f t < 0 then a else max a (f t)) a) ∧ (∀ t ∈ l, 0 ≤ f t → f t ≤ (l.foldl (fun a t => if f t < 0 then a else max a (f t)) a)) ∧ ((l.foldl (fun a t => if f t < 0 then a else max a (f t)) a) = a ∨ ∃ t ∈ l, 0 ≤ f t ∧ (l.foldl (fun a t => if f t < 0 then a else max a (f t)) a) = f t) := by
    intro l
    induction l with
    | nil => intro a; simp
    | cons x l ih =>
      intro a
      simp only [List.foldl_cons]
      obtain ⟨h1, h2, h3⟩ := ih (if f x < 0 then a else max a (f x))
      generalize l.foldl (fun a t => if f t < 0 then a else max a (f t)) (if f x < 0 then a else max a (f x)) = r at *
      refine ⟨?_, fun t ht h0 => ?_, ?_⟩
      · split at h1 <;> omega
      · rcases List.mem_cons.1 ht with rfl | ht
        · rw [if_neg (by omega)] at h1; omega
        · exact h2 t ht h0
      · rcases h3 with h3 | ⟨t, h4, h5, h6⟩
        · split at h3
          · exact .inl h3
          · rcases Int.le_total a (f x) with h | h
            · right; exact ⟨x, by simp, by omega, by rw [h3]; omega⟩
            · left; rw [h3]; omega
        · exact .inr ⟨t, List.mem_cons_of_mem _ h4, h5, h6⟩
  exact key l 0
theorem out_spec (f : Int → Int) (l : List Int) : outL f l ≤ l.length ∧ (outL f l = 0 ↔ ∀ t ∈ l, 0 ≤ f t) ∧ (outL f l = l.length ↔ ∀ t ∈ l, f t < 0) := by
  refine ⟨List.length_filter_le _ _, ?_, ?_⟩
  · rw [outL]
    constructor
    · intro h t ht
      have := List.eq_nil_of_length_eq_zero h
      rw [List.filter_eq_nil_iff] at this
      have := this t ht
      simp at this; omega
    · intro h
      rw [List.filter_eq_nil_iff.2 (fun t ht => by have := h t ht; simp; omega)]; rfl
  · rw [outL, List.length_filter_eq_length_iff]
    simp
section
variable {ow pr : List Int} {su : List (List Int)} {pl : Int} {s : List Bool}
/-- P22.3 -/
theorem moves_at (hr : rightB ow pr su pl s = true) {i : Nat} (hi : i < s.length) (f : Int → Int) (hf : ∀ t : Int, f t = mvR ow su pl s s.length t.toNat) (hn : s.length ≤ 24) :
    -1 ≤ mvR ow su pl s s.length i ∧ mvR ow su pl s s.length i ≤ s.length ∧
    (0 < mvR ow su pl s s.length i → (ow.getD i 0 = pl → leastL f (su.getD i []) = mvR ow su pl s s.length i - 1) ∧ (ow.getD i 0 ≠ pl → outL f (su.getD i []) = 0 ∧ mostL f (su.getD i []) = mvR ow su pl s s.length i - 1)) ∧
    (mvR ow su pl s s.length i < 0 → (ow.getD i 0 = pl → outL f (su.getD i []) = (su.getD i []).length) ∧ (ow.getD i 0 ≠ pl → outL f (su.getD i []) ≠ 0)) := by
  obtain ⟨hv, hp, hl⟩ := rightB_spec hr
  obtain ⟨ho, hs, _, _⟩ := valid_ow hv hl
  have hs := hs i hi
  obtain ⟨L1, L2, L3⟩ := least_spec f (su.getD i [])
  obtain ⟨M1, M2, M3⟩ := most_spec f (su.getD i [])
  obtain ⟨O1, O2, O3⟩ := out_spec f (su.getD i [])
  have hcan : ∀ g, canF ow su pl g i = if ow.getD i 0 = pl then (su.getD i []).any (fun t => g t.toNat) else (su.getD i []).all (fun t => g t.toNat) := fun g => rfl
  have hcl := @rin_closed ow su pl s i hi
  have hsucc := fun k => @rin_succ ow su pl s k i hi
  generalize su.getD i [] = row at *
  -- what a successor's number says
  have up : ∀ t ∈ row, ∀ k : Nat, rin ow su pl s k t.toNat = true → 0 ≤ f t ∧ f t ≤ k := by
    intro t ht k hk
    rcases mv_cases (ow := ow) (su := su) (pl := pl) (hs t ht) with ⟨h1, h2⟩ | ⟨j, h1, h2, h3, h4, h5⟩
    · rw [rin_all hk] at h1; cases h1
    · rw [hf, h3]
      have : j ≤ k := by
        apply Classical.byContradiction
        intro hjk
        rw [h5 k (by omega)] at hk; cases hk
      omega
  have dn : ∀ t ∈ row, ∀ k : Nat, 0 ≤ f t → f t ≤ k → rin ow su pl s k t.toNat = true := by
    intro t ht k h0 hk
    rcases mv_cases (ow := ow) (su := su) (pl := pl) (hs t ht) with ⟨h1, h2⟩ | ⟨j, h1, h2, h3, h4, h5⟩
    · rw [hf, h2] at h0; omega
    · rw [hf, h3] at hk
      exact rin_le (by omega) h4
  have at' : ∀ t ∈ row, 0 ≤ f t ↔ rin ow su pl s s.length t.toNat = true := by
    intro t ht
    rw [hf, rin_mv (hs t ht), decide_eq_true_eq]
  rcases mv_cases (ow := ow) (su := su) (pl := pl) hi with ⟨h1, h2⟩ | ⟨j, h1, h2, h3, h4, h5⟩
  · rw [h2]
    refine ⟨by omega, by omega, fun h => by omega, fun _ => ⟨fun hown => ?_, fun hown => ?_⟩⟩
    · rw [O3]
      intro t ht
      apply Classical.byContradiction
      intro h0
      have h6 := (at' t ht).1 (by omega)
      rw [hcl (by rw [hcan, if_pos hown, List.any_eq_true]; exact ⟨t, ht, h6⟩)] at h1; cases h1
    · intro h0
      rw [O2] at h0
      rw [hcl (by rw [hcan, if_neg hown, List.all_eq_true]; exact fun t ht => (at' t ht).1 (h0 t ht))] at h1; cases h1
  · rw [h3]
    refine ⟨by omega, by omega, fun h0 => ?_, fun h => by omega⟩
    obtain ⟨q, rfl⟩ : ∃ q, j = q + 1 := ⟨j - 1, by omega⟩
    have hq := h5 q (by omega)
    have hc : canF ow su pl (rin ow su pl s q) i = true := by
      rw [hsucc, hq, Bool.false_or] at h4; exact h4
    have hc' : ∀ k : Nat, k < q → canF ow su pl (rin ow su pl s k) i = false := by
      intro k hk
      rw [← Bool.not_eq_true]; intro h6
      have := h5 (k + 1) (by omega)
      rw [hsucc, h6, Bool.or_true] at this; cases this
    refine ⟨fun hown => ?_, fun hown => ?_⟩
    · rw [hcan, if_pos hown, List.any_eq_true] at hc
      obtain ⟨t, ht, h6⟩ := hc
      obtain ⟨h7, h8⟩ := up t ht q h6
      have h9 := L2 t ht h7
      have h10 : ∀ t ∈ row, 0 ≤ f t → (q : Int) ≤ f t := by
        intro t ht h0
        apply Classical.byContradiction
        intro hlt
        have := hc' (q - 1) (by omega)
        rw [hcan, if_pos hown, ← Bool.not_eq_true, List.any_eq_true] at this
        exact this ⟨t, ht, dn t ht _ h0 (by omega)⟩
      rcases L3 with h | ⟨t', ht', h11, h12⟩
      · omega
      · have := h10 t' ht' h11
        omega
    · rw [hcan, if_neg hown, List.all_eq_true] at hc
      have hall : ∀ t ∈ row, 0 ≤ f t ∧ f t ≤ q := fun t ht => up t ht q (hc t ht)
      refine ⟨O2.2 fun t ht => (hall t ht).1, ?_⟩
      have hM : mostL f row ≤ q := by
        rcases M3 with h | ⟨t, ht, _, h⟩
        · omega
        · have := (hall t ht).2; omega
      rcases Nat.eq_zero_or_pos q with h | hpos
      · omega
      · apply Classical.byContradiction
        intro hne
        have := hc' (q - 1) (by omega)
        rw [hcan, if_neg hown, ← Bool.not_eq_true, List.all_eq_true] at this
        exact this fun t ht => dn t ht _ (hall t ht).1 (by have := M2 t ht (hall t ht).1; omega)
end
theorem k5 (ow pr : List Int) (su : List (List Int)) (b2 : Bool) (s : List Bool) : Contract Try.prog 5 [game ow pr su, .bool b2, boolRow s] (.one (.val (.bool true))) := by
  refine ct5 (SH.Sem.of_wpA hm ?_)
  simp only [padA]
  simp only [Try.f5, Option.getD, w_skip, w_reg, w_regd, w_seq, w_cond, w_block, w_loop, w_rf, w_exit, w_ret, f_ok, f_call, f_yield, yK_cons, a_normal, r_normal, r_ret, r_exit, rg_cons, putL, frz, beq_self_eq_true, Nat.reduceBEq, updG_same, f_bad, cK_nil, cK_cons, v_nil, v_cons, gK_tt, gK_ff, gK_tf, gK_ft, dK_go, d_nil, d_cons, gD_tt, gD_ff, gD_tf, gD_ft, eC_one, eC_tup, eC_own, eE_ok, eE_bad, eD, eff, eBin, eEq, eUn, eConv, eLen, eMin, eMax, eField, eFieldAddr, eIndex, eIndexAddr, eSlice, eLoad, eStore, eAlloc, eBox, eBuild, eBuildSlice, eMake, eAppend, eCopy, eNil, ePick, eExtract, E.pure, Eff.only, Eff.notB, evalA, AV.ofV, AV.ofC, sget, sput, putA, applyU, hset, hget, hlen, alen, takeA, dropA, spliceA, mapA, allA, lget, oget, pget, tget, cellsA, AV.one, AV.goneB, partA, partC, TK.isAgg, nilish, natA, natC, loN, hiN, optC, roCut, loadP, loadC, aggOr, fillA, fillC, allPos, partsC, partsCells, partsAll, kills, killIds, liveAll, gnd, srcOf, inBlk, mapO, mapP, Go.SH.IntKind.uns, TK.flat, eqSc, eqScC, eqFs, eqFsC, seqK, blockK, condK, l_exit, l_ret, retK, retS, rsV, rsC, allT, padA, mapT, glook, bsel, gsplit_true, gsplit_false, resOf, resIds, resAll, nodupN, notin, like, like1, likeL, likeAll, AV.np, AV.gb, idsR, idsM, retI, retR, reify, AR.v, AR.u, AR.nv, nvec, impV, impU, isAlloc, callOf, countA, upIds, Option.map_none, Option.map_some, Option.isSome_some, Option.isSome_none, List.map_cons, List.map_nil, true_and, and_true, List.cons_append, List.nil_append, List.append_nil, List.length_cons, List.length_nil, List.nodup_nil, List.not_mem_nil, not_false_eq_true, ne_eq, reduceCtorEq, Bool.and_true, Bool.true_and, Bool.not_true, Bool.not_false, if_true, if_false, reduceIte, en_byte, en_byte', en_int, en_int', en_bool, en_bool', en_str, en_str', en_row, en_row', sh_at, sh_at', and_assoc, Nat.zero_add, Nat.add_zero, Nat.reduceAdd, appF_zero, Option.isNone_none, Option.isNone_some, en_byteL, en_intL, en_rowL, Int.reduceToNat, Nat.mul_one, Nat.one_mul, Nat.zero_mul, Nat.reduceMul, Nat.reduceSub, Nat.sub_zero, bne_self_eq_false, ti1, ti2, ti3, ti4, ti5, ti6, ti7, ti8, ti9, ti10, ti11, ti12, ti13, ti14, ti15, ti16, ti17, ti18, ti19, ti21, ti22, ti23, ti24, ti25, ti26, ti27, ti28, ti30, ti31, ti32, ti33, ti34, ti35, ti36, ti37, ti38, ti40, ti41, ti42, ti43, ti44, ti46, ti47, ti48, ti49, ti50, ti51, ti52, ti53, ti54, ti55, ti56, ti57, ti58, ti60, ti61, ti62, ti63, ti64, ti65, ti66, ti67, ti68, ti69, ti70, ti71, ti72, ti73, ti74, ti75, ti76, ti77, ti78, ti79, ti80, ti81]
  repeat (((with_reducible refine And.intro ?_ ?_)); (focus (first | omega | (simp only [inR]; omega) | rfl | (simp [notinId, notin]; done) | exact Or.inr rfl | (intro i hi; (repeat' (with_reducible first | apply len_cut | apply len_shift | apply len_app | apply len_copy | intro j)) <;> first | rfl | (exact len_lit _ _ (by simp) rfl _) | (simp; done)))))
  refine EffC.use k9 ?_ (.inl rfl) ?_
  · trivial
  (refine ev ?_; (try (with_reducible exact True.intro)))
  repeat (((with_reducible refine And.intro ?_ ?_)); (focus (first | omega | (simp only [inR]; omega) | rfl | (simp [notinId, notin]; done) | exact Or.inr rfl | (intro i hi; (repeat' (with_reducible first | apply len_cut | apply len_shift | apply len_app | apply len_copy | intro j)) <;> first | rfl | (exact len_lit _ _ (by simp) rfl _) | (simp; done)))))
  have a19 := k19 ow pr su s
  cases hlw : lawB ow pr su s
  · rw [hlw] at a19
    refine EffC.use a19 ?_ (.inl rfl) ?_
    · ((refine evL ?_; (try (with_reducible exact True.intro))) <;> (try simp (disch := (first | omega | (simp only [List.length_append, List.length_cons, List.length_nil, List.length_take, List.length_drop, List.length_map, List.length_nil] <;> omega) | fail)) only [cutF_all, strOf_enc, appF_zero, appF_enc, lit_byte, shiftF_enc, shiftF_0, cutF_enc, List.nil_append, List.drop_zero, List.take_of_length_le]) <;> (repeat' (with_reducible refine And.intro ?_ ?_)) <;> first | trivial | rfl | (intros; first | rfl | trivial; done) | (first | omega | (simp only [List.length_append, List.length_cons, List.length_nil, List.length_take, List.length_drop, List.length_map, List.length_nil] <;> omega) | fail))
    (refine ev ?_; (try (with_reducible exact True.intro)))
    ((repeat' (with_reducible refine And.intro ?_ ?_)) <;> first | omega | (simp [notinId]; done) | (exact fun q hq => cut_at0 q (by simpa using hq)) | (exact fun q hq => cut_at0 q (by omega)) | (exact fun _ _ => rfl))
  rw [hlw] at a19
  refine EffC.use a19 ?_ (.inl rfl) ?_
  · ((refine evL ?_; (try (with_reducible exact True.intro))) <;> (try simp (disch := (first | omega | (simp only [List.length_append, List.length_cons, List.length_nil, List.length_take, List.length_drop, List.length_map, List.length_nil] <;> omega) | fail)) only [cutF_all, strOf_enc, appF_zero, appF_enc, lit_byte, shiftF_enc, shiftF_0, cutF_enc, List.nil_append, List.drop_zero, List.take_of_length_le]) <;> (repeat' (with_reducible refine And.intro ?_ ?_)) <;> first | trivial | rfl | (intros; first | rfl | trivial; done) | (first | omega | (simp only [List.length_append, List.length_cons, List.length_nil, List.length_take, List.length_drop, List.length_map, List.length_nil] <;> omega) | fail))
  obtain ⟨⟨l1, l2, l3, l4⟩, hv, hsl⟩ := lawB_spec hlw
  have hs20 : ∀ r ∈ su, r.length ≤ 2 ^ 20 := fun r hr => by have := l4 r hr; omega
  (refine ev ?_; (try (with_reducible exact True.intro)))
  repeat (((with_reducible refine And.intro ?_ ?_)); (focus (first | omega | (simp only [inR]; omega) | rfl | (simp [notinId, notin]; done) | exact Or.inr rfl | (intro i hi; (repeat' (with_reducible first | apply len_cut | apply len_shift | apply len_app | apply len_copy | intro j)) <;> first | rfl | (exact len_lit _ _ (by simp) rfl _) | (simp; done)))))
  obtain ⟨pl, hpl, ep⟩ : ∃ pl, (pl = 0 ∨ pl = 1) ∧ pl = plOf b2 := ⟨_, plOf_or b2, rfl⟩
  have hr : rightB ow pr su pl s = true := right_of hv hpl hsl
  obtain ⟨v1, v2, v3, v4⟩ := validB_spec hv
  have a11 := k11 ow pr su pl s (by omega) (by omega) (by omega) hs20
  have q1 := (refA_len hr).1
  have q2 := (refA_len hr).2
  have mvs := fun i hi => moves_at hr (i := i) hi (fun t => (refAttract ow pr su pl s).2.getD t.toNat 0) (fun t => refM_at hr _) (by omega)
  simp only [← refM_at hr] at mvs
  generalize (refAttract ow pr su pl s).1 = a at *
  generalize (refAttract ow pr su pl s).2 = m at *
  clear hr hpl
  cases b2
  case' false => have ep : pl = 0 := ep
  case' true => have ep : pl = 1 := ep
  all_goals
    have a11' := a11
    rw [ep] at a11'
    (refine ev ?_; (try (with_reducible exact True.intro)))
    repeat (((with_reducible refine And.intro ?_ ?_)); (focus (first | omega | (simp only [inR]; omega) | rfl | (simp [notinId, notin]; done) | exact Or.inr rfl | (intro i hi; (repeat' (with_reducible first | apply len_cut | apply len_shift | apply len_app | apply len_copy | intro j)) <;> first | rfl | (exact len_lit _ _ (by simp) rfl _) | (simp; done)))))
    refine EffC.use a11' ?_ (.inr rfl) ?_
    · ((refine evL ?_; (try (with_reducible exact True.intro))) <;> (try simp (disch := (first | omega | (simp only [List.length_append, List.length_cons, List.length_nil, List.length_take, List.length_drop, List.length_map, List.length_nil] <;> omega) | fail)) only [cutF_all, strOf_enc, appF_zero, appF_enc, lit_byte, shiftF_enc, shiftF_0, cutF_enc, List.nil_append, List.drop_zero, List.take_of_length_le]) <;> (repeat' (with_reducible refine And.intro ?_ ?_)) <;> first | trivial | rfl | (intros; first | rfl | trivial; done) | (first | omega | (simp only [List.length_append, List.length_cons, List.length_nil, List.length_take, List.length_drop, List.length_map, List.length_nil] <;> omega) | fail))
    (refine ev ?_; (try (with_reducible exact True.intro)))
    repeat (((with_reducible refine And.intro ?_ ?_)); (focus (first | omega | (simp only [inR]; omega) | rfl | (simp [notinId, notin]; done) | exact Or.inr rfl | (intro i hi; (repeat' (with_reducible first | apply len_cut | apply len_shift | apply len_app | apply len_copy | intro j)) <;> first | rfl | (exact len_lit _ _ (by simp) rfl _) | (simp; done)))))
    simp only [q1, q2]
    (refine ev ?_; (try (with_reducible exact True.intro)))
    repeat (((with_reducible refine And.intro ?_ ?_)); (focus (first | omega | (simp only [inR]; omega) | rfl | (simp [notinId, notin]; done) | exact Or.inr rfl | (intro i hi; (repeat' (with_reducible first | apply len_cut | apply len_shift | apply len_app | apply len_copy | intro j)) <;> first | rfl | (exact len_lit _ _ (by simp) rfl _) | (simp; done)))))
    simp only [q1, q2]
    (refine ev ?_; (try (with_reducible exact True.intro)))
    repeat (((with_reducible refine And.intro ?_ ?_)); (focus (first | omega | (simp only [inR]; omega) | rfl | (simp [notinId, notin]; done) | exact Or.inr rfl | (intro i hi; (repeat' (with_reducible first | apply len_cut | apply len_shift | apply len_app | apply len_copy | intro j)) <;> first | rfl | (exact len_lit _ _ (by simp) rfl _) | (simp; done)))))
    refine SH.Sem.loop hm (fun i : Nat => ⟨padA [.undef, .undef, .undef, .ptr 0 0 0, .undef, .undef, .undef, .bool true, .int .i64 pl, .undef, intRow m, .int .i64 i] 154, [.box [intRow ow, intRow pr, intRows su]]⟩) (fun i => i ≤ s.length) (fun i => s.length - i) [0] 0 (by omega) ?_ fun i hi0 => ?_
    · simp only [padA, St.le, slotsLe, heapLe, blkLe, rowLe, live, injOn, loLe, nget, nlook, ren, okA, allP, mapA, hget, ABlk.used, notin, List.map_cons, List.map_nil, true_or, or_true, false_or, or_false, true_and, and_true, and_self, AV.int.injEq, AV.bool.injEq, AV.str.injEq, AV.sl.injEq, AV.ro.injEq, AV.agg.injEq, List.cons.injEq, reduceCtorEq, ne_eq, not_false_eq_true, not_true_eq_false]; simp [ep]
    simp only [padA]
    (refine ev ?_; (try (with_reducible exact True.intro)))
    simp only [q2]
    refine gsd (fun hd => ?_) (fun hd => ?_)
    · have hi : i < s.length := by omega
      (refine ev ?_; (try (with_reducible exact True.intro)))
      repeat (((with_reducible refine And.intro ?_ ?_)); (focus (first | omega | (simp only [inR]; omega) | rfl | (simp [notinId, notin]; done) | exact Or.inr rfl | (intro i hi; (repeat' (with_reducible first | apply len_cut | apply len_shift | apply len_app | apply len_copy | intro j)) <;> first | rfl | (exact len_lit _ _ (by simp) rfl _) | (simp; done)))))
      obtain ⟨row, hrow⟩ : ∃ row, su.getD i [] = row := ⟨_, rfl⟩
      obtain ⟨f, hf⟩ : ∃ f : Int → Int, f = fun t => m.getD t.toNat 0 := ⟨_, rfl⟩
      have w3 := (v4 i (by omega)).2.2
      have hrl := l4 _ (getD_mem (show i < su.length by omega) [])
      have mvi := mvs i hi
      rw [hrow] at w3 hrl mvi
      rw [← hf] at mvi
      refine SH.Sem.loop hm (fun k : Nat => ⟨padA [.undef, .undef, .undef, .ptr 0 0 0, .undef, .undef, .undef, .bool true, .int .i64 pl, .undef, intRow m, .int .i64 i, .int .i64 (leastL f (row.take k)), .int .i64 (mostL f (row.take k)), .int .i64 (outL f (row.take k)), .int .i64 k] 154, [.box [intRow ow, intRow pr, intRows su]]⟩) (fun k => k ≤ row.length) (fun k => row.length - k) [0] 0 (by omega) ?_ fun k hk0 => ?_
      · simp only [padA, St.le, slotsLe, heapLe, blkLe, rowLe, live, injOn, loLe, nget, nlook, ren, okA, allP, mapA, hget, ABlk.used, notin, List.map_cons, List.map_nil, true_or, or_true, false_or, or_false, true_and, and_true, and_self, AV.int.injEq, AV.bool.injEq, AV.str.injEq, AV.sl.injEq, AV.ro.injEq, AV.agg.injEq, List.cons.injEq, reduceCtorEq, ne_eq, not_false_eq_true, not_true_eq_false]; simp [leastL, mostL, outL]
      simp only [padA]
      (refine ev ?_; (try (with_reducible exact True.intro)))
      simp only [Int.toNat_natCast, hrow]
      repeat (((with_reducible refine And.intro ?_ ?_)); (focus (first | omega | (simp only [inR]; omega) | rfl | (simp [notinId, notin]; done) | exact Or.inr rfl | (intro i hi; (repeat' (with_reducible first | apply len_cut | apply len_shift | apply len_app | apply len_copy | intro j)) <;> first | rfl | (exact len_lit _ _ (by simp) rfl _) | (simp; done)))))
      refine gsd (fun hd2 => ?_) (fun hd2 => ?_)
      · have hk : k < row.length := by omega
        have nx := take_next row 0 k hk
        obtain ⟨t, et⟩ : ∃ t, row.getD k 0 = t := ⟨_, rfl⟩
        have w3 := w3 _ (getD_mem hk 0)
        rw [et] at nx w3
        have e1 := least_next f (row.take k) t
        have e2 := most_next f (row.take k) t
        have e3 := out_next f (row.take k) t
        rw [← nx] at e1 e2 e3
        have o1 := (out_spec f (row.take k)).1
        rw [List.length_take] at o1
        have hft : f t = m.getD t.toNat 0 := by rw [hf]
        (refine ev ?_; (try (with_reducible exact True.intro)))
        simp only [Int.toNat_natCast, hrow, et, ← hft]
        repeat (((with_reducible refine And.intro ?_ ?_)); (focus (first | omega | (simp only [inR]; omega) | rfl | (simp [notinId, notin]; done) | exact Or.inr rfl | (intro i hi; (repeat' (with_reducible first | apply len_cut | apply len_shift | apply len_app | apply len_copy | intro j)) <;> first | rfl | (exact len_lit _ _ (by simp) rfl _) | (simp; done)))))
        refine gsd (fun h1 => ?_) (fun h1 => ?_)
        · rw [if_pos h1] at e1 e2 e3
          (refine ev ?_; (try (with_reducible exact True.intro)))
          repeat (((with_reducible refine And.intro ?_ ?_)); (focus (first | omega | (simp only [inR]; omega) | rfl | (simp [notinId, notin]; done) | exact Or.inr rfl | (intro i hi; (repeat' (with_reducible first | apply len_cut | apply len_shift | apply len_app | apply len_copy | intro j)) <;> first | rfl | (exact len_lit _ _ (by simp) rfl _) | (simp; done)))))
          refine ⟨k + 1, [0], by omega, by show row.length - (k + 1) < row.length - k; omega, ?_⟩
          simp only [padA, St.le, slotsLe, heapLe, blkLe, rowLe, live, injOn, loLe, nget, nlook, ren, okA, allP, mapA, hget, ABlk.used, notin, List.map_cons, List.map_nil, true_or, or_true, false_or, or_false, true_and, and_true, and_self, AV.int.injEq, AV.bool.injEq, AV.str.injEq, AV.sl.injEq, AV.ro.injEq, AV.agg.injEq, List.cons.injEq, reduceCtorEq, ne_eq, not_false_eq_true, not_true_eq_false, e1, e2, e3]; simp
        · rw [if_neg h1] at e1 e2 e3
          (refine ev ?_; (try (with_reducible exact True.intro)))
          repeat (((with_reducible refine And.intro ?_ ?_)); (focus (first | omega | (simp only [inR]; omega) | rfl | (simp [notinId, notin]; done) | exact Or.inr rfl | (intro i hi; (repeat' (with_reducible first | apply len_cut | apply len_shift | apply len_app | apply len_copy | intro j)) <;> first | rfl | (exact len_lit _ _ (by simp) rfl _) | (simp; done)))))
          refine ⟨k + 1, [0], by omega, by show row.length - (k + 1) < row.length - k; omega, ?_⟩
          simp only [padA, St.le, slotsLe, heapLe, blkLe, rowLe, live, injOn, loLe, nget, nlook, ren, okA, allP, mapA, hget, ABlk.used, notin, List.map_cons, List.map_nil, true_or, or_true, false_or, or_false, true_and, and_true, and_self, AV.int.injEq, AV.bool.injEq, AV.str.injEq, AV.sl.injEq, AV.ro.injEq, AV.agg.injEq, List.cons.injEq, reduceCtorEq, ne_eq, not_false_eq_true, not_true_eq_false, e1, e2, e3]; simp
      · have hk : k = row.length := by omega
        subst hk
        rw [List.take_length]
        obtain ⟨o1, o2, o3⟩ := out_spec f row
        generalize leastL f row = L at *
        generalize mostL f row = M at *
        generalize outL f row = O at *
        by_cases hown : ow.getD i 0 = pl
        · have hb : (ow.getD i 0 == pl) = true := by rw [hown]; simp
          obtain ⟨g1, g2, g3, g4⟩ := mvi
          have g3 := fun h => (g3 h).1 hown
          have g4 := fun h => (g4 h).1 hown
          (refine ev ?_; (try (with_reducible exact True.intro)))
          simp only [Int.toNat_natCast, hrow, hb]
          repeat (((with_reducible refine And.intro ?_ ?_)); (focus (first | omega | (simp only [inR]; omega) | rfl | (simp [notinId, notin]; done) | exact Or.inr rfl | (intro i hi; (repeat' (with_reducible first | apply len_cut | apply len_shift | apply len_app | apply len_copy | intro j)) <;> first | rfl | (exact len_lit _ _ (by simp) rfl _) | (simp; done)))))
          (repeat' ((with_reducible first | refine gsd (fun hg => ?_) (fun hg => ?_) | refine gs (fun hg => ?_) (fun hg => ?_)) <;> ((refine ev ?_; (try (with_reducible exact True.intro)))) <;> (try simp only [Int.toNat_natCast]) <;> (repeat (((with_reducible refine And.intro ?_ ?_)); (focus (first | omega | (simp only [inR]; omega) | rfl | (simp [notinId, notin]; done) | exact Or.inr rfl | (intro i hi; (repeat' (with_reducible first | apply len_cut | apply len_shift | apply len_app | apply len_copy | intro j)) <;> first | rfl | (exact len_lit _ _ (by simp) rfl _) | (simp; done))))))))
          all_goals first
            | (refine ⟨i + 1, [0], by omega, by show s.length - (i + 1) < s.length - i; omega, ?_⟩; simp only [padA, St.le, slotsLe, heapLe, blkLe, rowLe, live, injOn, loLe, nget, nlook, ren, okA, allP, mapA, hget, ABlk.used, notin, List.map_cons, List.map_nil, true_or, or_true, false_or, or_false, true_and, and_true, and_self, AV.int.injEq, AV.bool.injEq, AV.str.injEq, AV.sl.injEq, AV.ro.injEq, AV.agg.injEq, List.cons.injEq, reduceCtorEq, ne_eq, not_false_eq_true, not_true_eq_false]; simp; done)
            | (exfalso; simp only [decide_eq_true_eq, decide_eq_false_iff_not, bne_iff_ne, ne_eq, bne_eq_false_iff_eq, beq_iff_eq, Int.toNat_natCast] at *; omega)
            | trace_state
        · have hb : (ow.getD i 0 == pl) = false := by simpa using hown
          obtain ⟨g1, g2, g3, g4⟩ := mvi
          have g3 := fun h => (g3 h).2 hown
          have g4 := fun h => (g4 h).2 hown
          (refine ev ?_; (try (with_reducible exact True.intro)))
          simp only [Int.toNat_natCast, hrow, hb]
          repeat (((with_reducible refine And.intro ?_ ?_)); (focus (first | omega | (simp only [inR]; omega) | rfl | (simp [notinId, notin]; done) | exact Or.inr rfl | (intro i hi; (repeat' (with_reducible first | apply len_cut | apply len_shift | apply len_app | apply len_copy | intro j)) <;> first | rfl | (exact len_lit _ _ (by simp) rfl _) | (simp; done)))))
          (repeat' ((with_reducible first | refine gsd (fun hg => ?_) (fun hg => ?_) | refine gs (fun hg => ?_) (fun hg => ?_)) <;> ((refine ev ?_; (try (with_reducible exact True.intro)))) <;> (try simp only [Int.toNat_natCast]) <;> (repeat (((with_reducible refine And.intro ?_ ?_)); (focus (first | omega | (simp only [inR]; omega) | rfl | (simp [notinId, notin]; done) | exact Or.inr rfl | (intro i hi; (repeat' (with_reducible first | apply len_cut | apply len_shift | apply len_app | apply len_copy | intro j)) <;> first | rfl | (exact len_lit _ _ (by simp) rfl _) | (simp; done))))))))
          all_goals first
            | (refine ⟨i + 1, [0], by omega, by show s.length - (i + 1) < s.length - i; omega, ?_⟩; simp only [padA, St.le, slotsLe, heapLe, blkLe, rowLe, live, injOn, loLe, nget, nlook, ren, okA, allP, mapA, hget, ABlk.used, notin, List.map_cons, List.map_nil, true_or, or_true, false_or, or_false, true_and, and_true, and_self, AV.int.injEq, AV.bool.injEq, AV.str.injEq, AV.sl.injEq, AV.ro.injEq, AV.agg.injEq, List.cons.injEq, reduceCtorEq, ne_eq, not_false_eq_true, not_true_eq_false]; simp; done)
            | (exfalso; simp only [decide_eq_true_eq, decide_eq_false_iff_not, bne_iff_ne, ne_eq, bne_eq_false_iff_eq, beq_iff_eq, Int.toNat_natCast] at *; omega)
            | trace_state
    · (refine ev ?_; (try (with_reducible exact True.intro)))
      repeat (((with_reducible refine And.intro ?_ ?_)); (focus (first | omega | (simp only [inR]; omega) | rfl | (simp [notinId, notin]; done) | exact Or.inr rfl | (intro i hi; (repeat' (with_reducible first | apply len_cut | apply len_shift | apply len_app | apply len_copy | intro j)) <;> first | rfl | (exact len_lit _ _ (by simp) rfl _) | (simp; done)))))
      ((repeat' (with_reducible refine And.intro ?_ ?_)) <;> first | omega | (simp [notinId]; done) | (exact fun q hq => cut_at0 q (by simpa using hq)) | (exact fun q hq => cut_at0 q (by omega)) | (exact fun _ _ => rfl))
end Go.Proofs.Ytnbpjccacmpnoaa
