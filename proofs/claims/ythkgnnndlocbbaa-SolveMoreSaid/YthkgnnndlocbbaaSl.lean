/-
  The law SolveMore's function: it returns true. No condition.
-/
import Derived.Test.YthkgnnndlocbbaaSk
namespace Go.Proofs.Ythkgnnndlocbbaa
set_option linter.unusedVariables false
set_option linter.unusedSimpArgs false
open Go Go.SH Go.Parity
set_option maxRecDepth 100000
set_option maxHeartbeats 4000000
/-- The game that is better for the controller. -/
def moreG (ow pr : List Int) (su : List (List Int)) (q : Int) (i : Nat) (t : Int) : List Int × List Int × List (List Int) :=
  if q = 0 then (ow.set i 0, pr, su) else if q = 1 then (ow, pr.set i 0, su) else if ow.getD i 0 = 0 then (ow, pr, su.set i (su.getD i [] ++ [t])) else (ow, pr, su)
section
variable {ow pr : List Int} {su : List (List Int)} {i : Nat} {t : Int}
theorem valid_iff : validB ow pr su = true ↔ ow.length ≤ 3000 ∧ pr.length = ow.length ∧ su.length = ow.length ∧ ∀ i, i < ow.length → (ow.getD i 0 = 0 ∨ ow.getD i 0 = 1) ∧ 0 ≤ pr.getD i 0 ∧ pr.getD i 0 ≤ 30000 ∧ 0 < (su.getD i []).length ∧ ∀ t ∈ su.getD i [], 0 ≤ t ∧ t < (ow.length : Int) := by
  simp only [validB, posB, Bool.and_eq_true, Bool.or_eq_true, beq_iff_eq, decide_eq_true_eq, List.all_eq_true, List.mem_range]
  constructor
  · rintro ⟨⟨⟨h1, h2⟩, h3⟩, h4⟩
    refine ⟨h1, h2, h3, fun i hi => ?_⟩
    obtain ⟨⟨⟨⟨a, b⟩, c⟩, d⟩, e⟩ := h4 i hi
    exact ⟨a, b, c, d, e⟩
  · rintro ⟨h1, h2, h3, h4⟩
    refine ⟨⟨⟨h1, h2⟩, h3⟩, fun i hi => ?_⟩
    obtain ⟨a, b, c, d, e⟩ := h4 i hi
    exact ⟨⟨⟨⟨a, b⟩, c⟩, d⟩, e⟩
theorem more_valid (hv : validB ow pr su = true) (q : Int) (hi : i < ow.length) (ht : 0 ≤ t ∧ t < (ow.length : Int)) : validB (moreG ow pr su q i t).1 (moreG ow pr su q i t).2.1 (moreG ow pr su q i t).2.2 = true ∧ (moreG ow pr su q i t).1.length = ow.length := by
  have hv' := valid_iff.1 hv
  obtain ⟨h1, h2, h3, h4⟩ := hv'
  unfold moreG
  split
  · refine ⟨valid_iff.2 ⟨by simpa using h1, by simpa using h2, by simpa using h3, fun k hk => ?_⟩, by simp⟩
    simp only [List.length_set] at hk ⊢
    have := h4 k hk
    rw [getD_set _ _ _ _ _ hi]
    split
    · exact ⟨.inl rfl, this.2⟩
    · exact this
  · split
    · refine ⟨valid_iff.2 ⟨h1, by simpa using h2, h3, fun k hk => ?_⟩, rfl⟩
      have := h4 k hk
      simp only
      rw [getD_set _ _ _ _ _ (by omega)]
      split
      · exact ⟨this.1, by omega, by omega, this.2.2.2⟩
      · exact this
    · split
      · refine ⟨valid_iff.2 ⟨h1, h2, by simpa using h3, fun k hk => ?_⟩, rfl⟩
        have := h4 k hk
        simp only
        rw [getD_set _ _ _ _ _ (by omega)]
        split
        · rename_i he
          subst he
          refine ⟨this.1, this.2.1, this.2.2.1, by simp, fun x hx => ?_⟩
          rcases List.mem_append.1 hx with hx | hx
          · exact this.2.2.2.2 x hx
          · rw [List.mem_singleton] at hx; subst hx; exact ht
        · exact this
      · exact ⟨hv, rfl⟩
theorem Para.mono {G G' : PG} {S X : Nat → Prop} {p : Int} {σ σ' : Nat → Nat} (h2 : ∀ v, X v → S v) (h : G.fine p X σ) (hst : ∀ v, X v → G'.own v = p → σ' v ∈ G'.sc v ∧ X (σ' v)) (hop : ∀ v, X v → G'.own v ≠ p → ∀ t ∈ G'.sc v, S t → X t)
    (hmv : ∀ a b, X a → X b → G'.mv p σ' a b → G.mv p σ a b) (hpr : ∀ v, X v → ∀ q : Int, q % 2 ≠ p → q ≤ G'.pr v → q ≤ G.pr v ∧ (G'.pr v = q → G.pr v = q)) : Para G' S p X := by
  refine ⟨σ', h2, hst, hop, fun q hq => ?_⟩
  obtain ⟨ρ, hρ⟩ := h q hq
  refine ⟨ρ, fun a b ha hb hm qa qb => ?_⟩
  have := hρ a b ha hb (hmv a b ha hb hm) (hpr a ha q hq qa).1 (hpr b hb q hq qb).1
  exact ⟨this.1, fun e => this.2 ((hpr a ha q hq qa).2 e)⟩
theorem more_para {X : Nat → Prop} (hv : validB ow pr su = true) (q : Int) (hi : i < ow.length) (ht : 0 ≤ t ∧ t < (ow.length : Int)) (h : Para (pg ow pr su) (fun v => v < ow.length) 0 X) :
    Para (pg (moreG ow pr su q i t).1 (moreG ow pr su q i t).2.1 (moreG ow pr su q i t).2.2) (fun v => v < ow.length) 0 X := by
  obtain ⟨h1, h2, h3, h4⟩ := valid_iff.1 hv
  obtain ⟨σ, a1, a2, a3, a4⟩ := h
  have same : ∀ v, X v → ∀ q : Int, q % 2 ≠ 0 → q ≤ (pg ow pr su).pr v → q ≤ (pg ow pr su).pr v ∧ ((pg ow pr su).pr v = q → (pg ow pr su).pr v = q) := fun v _ q _ h => ⟨h, fun h => h⟩
  unfold moreG
  split
  · have eo : ∀ v, (pg (ow.set i 0) pr su).own v = if v = i then 0 else ow.getD v 0 := fun v => getD_set _ _ _ _ _ hi
    obtain ⟨y, hy⟩ := List.exists_mem_of_length_pos (h4 i hi).2.2.2.1
    have hyr := (h4 i hi).2.2.2.2 y hy
    refine Para.mono (σ' := fun v => if v = i ∧ ow.getD i 0 ≠ 0 then y.toNat else σ v) a1 a4 (fun v hX ho => ?_) (fun v hX ho t ht hS => ?_) (fun a b ha hb hm => ⟨hm.1, fun ho => ?_⟩) same
    · simp only
      split
      · rename_i hc
        obtain ⟨rfl, hc⟩ := hc
        exact ⟨sc_mem.2 ⟨y, hy, rfl⟩, a3 v hX hc y.toNat (sc_mem.2 ⟨y, hy, rfl⟩) (by show y.toNat < ow.length; omega)⟩
      · rename_i hc
        refine a2 v hX ?_
        rw [eo] at ho
        split at ho
        · rename_i he; subst he; exact Classical.byContradiction fun h => hc ⟨rfl, h⟩
        · exact ho
    · rw [eo] at ho
      split at ho
      · exact absurd rfl ho
      · exact a3 v hX ho t ht hS
    · have ho : ow.getD a 0 = 0 := ho
      have := hm.2 (by
        show (pg (ow.set i 0) pr su).own a = 0
        rw [eo]
        split
        · rfl
        · exact ho)
      simp only at this
      rw [if_neg] at this
      · exact this
      · rintro ⟨rfl, hc⟩; exact hc ho
  · split
    · have ep : ∀ v, (pg ow (pr.set i 0) su).pr v = if v = i then 0 else pr.getD v 0 := fun v => getD_set _ _ _ _ _ (by omega)
      refine Para.mono (σ' := σ) a1 a4 a2 a3 (fun a b ha hb hm => hm) fun v hX q hq hle => ?_
      rw [ep] at hle ⊢
      have hp := (h4 v (a1 v hX)).2.1
      show q ≤ pr.getD v 0 ∧ (_ → pr.getD v 0 = q)
      split at hle
      · rename_i he
        rw [if_pos he]
        exact ⟨by omega, fun e => by subst e; exact absurd rfl hq⟩
      · rename_i he
        rw [if_neg he]; exact ⟨hle, fun h => h⟩
    · split
      · rename_i ho0
        have es : ∀ v, (pg ow pr (su.set i (su.getD i [] ++ [t]))).sc v = if v = i then (su.getD i [] ++ [t]).map Int.toNat else (su.getD v []).map Int.toNat := fun v => by
          show ((su.set i (su.getD i [] ++ [t])).getD v []).map Int.toNat = _
          rw [getD_set _ _ _ _ _ (by omega)]; split <;> rfl
        refine Para.mono (σ' := σ) a1 a4 (fun v hX ho => ?_) (fun v hX ho t ht hS => ?_) (fun a b ha hb hm => ?_) same
        · obtain ⟨b1, b2⟩ := a2 v hX ho
          refine ⟨?_, b2⟩
          rw [es]
          split
          · rename_i he; subst he
            rw [List.map_append]; exact List.mem_append_left _ b1
          · exact b1
        · rw [es, if_neg (fun he => ho (by rw [he]; exact ho0))] at ht
          exact a3 v hX ho t ht hS
        · obtain ⟨m1, m2⟩ := hm
          refine ⟨?_, m2⟩
          by_cases ho : ow.getD a 0 = 0
          · rw [m2 ho]; exact (a2 a ha ho).1
          · rw [es, if_neg (fun he => ho (by rw [he]; exact ho0))] at m1; exact m1
      · exact ⟨σ, a1, a2, a3, a4⟩
theorem more_wins {ws ws' : List Int} (hv : validB ow pr su = true) (q : Int) (hi : i < ow.length) (ht : 0 ≤ t ∧ t < (ow.length : Int)) (hw : Wins ow pr su ws) (hw' : Wins (moreG ow pr su q i t).1 (moreG ow pr su q i t).2.1 (moreG ow pr su q i t).2.2 ws')
    (v : Nat) (h : v < ow.length) (h0 : ws.getD v 0 = 0) : ws'.getD v 0 = 0 := by
  obtain ⟨m1, m2⟩ := more_valid hv q hi ht
  have hP := more_para hv q hi ht hw.good.p0
  have T := two_pg m1
  have g := hw'.good.p1
  rw [m2] at T g
  rcases hw'.two v (by omega) with h1 | h1
  · exact h1
  · exact (apart (fun v h => h) T hP g v ⟨h, h0⟩ ⟨h, h1⟩).elim
end
theorem c25 (ow pr : List Int) (su : List (List Int)) (kd at' to : UInt8) (hn : 0 < su.length) (hv : validB ow pr su = true) (hr : ∀ r ∈ su, r.length ≤ 20) (i : Nat) (hi : ((at'.toNat : Nat) : Int).tmod su.length = i) (hil : i < su.length) (t : Int) (ht : ((to.toNat : Nat) : Int).tmod su.length = t) :
    Contract Try.prog 25 [game ow pr su, .int .u8 (kd.toNat : Nat), .int .u8 (at'.toNat : Nat), .int .u8 (to.toNat : Nat)] (.one (.val (game (moreG ow pr su (((kd.toNat : Nat) : Int).tmod 3) i t).1 (moreG ow pr su (((kd.toNat : Nat) : Int).tmod 3) i t).2.1 (moreG ow pr su (((kd.toNat : Nat) : Int).tmod 3) i t).2.2))) := by
  obtain ⟨v1, v2, v3, v4⟩ := validB_spec hv
  have b1 := kd.toNat_lt
  have b2 := at'.toNat_lt
  have b3 := to.toNat_lt
  obtain ⟨q, hq, hq3⟩ : ∃ q : Int, ((kd.toNat : Nat) : Int).tmod 3 = q ∧ (q = 0 ∨ q = 1 ∨ q = 2) := ⟨_, rfl, by rw [Int.tmod_eq_emod_of_nonneg (by omega)]; omega⟩
  rw [hq]
  refine ct25 (SH.Sem.of_wpA hm ?_)
  simp only [padA]
  simp only [Try.f25, Option.getD, w_skip, w_reg, w_regd, w_seq, w_cond, w_block, w_loop, w_rf, w_exit, w_ret, f_ok, f_call, f_yield, yK_cons, a_normal, r_normal, r_ret, r_exit, rg_cons, putL, frz, beq_self_eq_true, Nat.reduceBEq, updG_same, f_bad, cK_nil, cK_cons, v_nil, v_cons, gK_tt, gK_ff, gK_tf, gK_ft, dK_go, d_nil, d_cons, gD_tt, gD_ff, gD_tf, gD_ft, eC_one, eC_tup, eC_own, eE_ok, eE_bad, eD, eff, eBin, eEq, eUn, eConv, eLen, eMin, eMax, eField, eFieldAddr, eIndex, eIndexAddr, eSlice, eLoad, eStore, eAlloc, eBox, eBuild, eBuildSlice, eMake, eAppend, eCopy, eMakeMap, eMapUpdate, eLookup, lookV, optN, eNil, ePick, eExtract, E.pure, Eff.only, Eff.notB, evalA, AV.ofV, AV.ofC, sget, sput, putA, applyU, hset, hget, hlen, alen, takeA, dropA, spliceA, mapA, allA, lget, oget, pget, tget, cellsA, AV.one, AV.goneB, partA, partC, TK.isAgg, nilish, natA, natC, loN, hiN, optC, roCut, loadP, loadC, aggOr, fillA, fillC, allPos, partsC, partsCells, partsAll, kills, killIds, liveAll, gnd, srcOf, inBlk, mapO, mapP, Go.SH.IntKind.uns, TK.flat, eqSc, eqScC, eqFs, eqFsC, seqK, blockK, condK, l_exit, l_ret, retK, retS, rsV, rsC, allT, padA, mapT, glook, bsel, gsplit_true, gsplit_false, resOf, resIds, resAll, nodupN, notin, like, like1, likeL, likeAll, AV.np, AV.gb, idsR, idsM, retI, retR, reify, AR.v, AR.u, AR.nv, nvec, impV, impU, isAlloc, callOf, countA, upIds, Option.map_none, Option.map_some, Option.isSome_some, Option.isSome_none, List.map_cons, List.map_nil, true_and, and_true, List.cons_append, List.nil_append, List.append_nil, List.length_cons, List.length_nil, List.nodup_nil, List.not_mem_nil, not_false_eq_true, ne_eq, reduceCtorEq, Bool.and_true, Bool.true_and, Bool.not_true, Bool.not_false, if_true, if_false, reduceIte, en_byte, en_byte', en_int, en_int', en_bool, en_bool', en_str, en_str', en_row, en_row', sh_at, sh_at', and_assoc, Nat.zero_add, Nat.add_zero, Nat.reduceAdd, appF_zero, Option.isNone_none, Option.isNone_some, en_byteL, en_intL, en_rowL, Int.reduceToNat, Nat.mul_one, Nat.one_mul, Nat.zero_mul, Nat.reduceMul, Nat.reduceSub, Nat.sub_zero, bne_self_eq_false, ti1, ti2, ti3, ti4, ti5, ti6, ti7, ti8, ti9, ti10, ti11, ti12, ti13, ti14, ti15, ti16, ti17, ti18, ti19, ti21, ti22, ti23, ti24, ti25, ti26, ti27, ti28, ti30, ti31, ti33, ti34, ti35, ti36, ti37, ti38, ti39, ti40, ti41, ti42, ti43, ti45, ti46, ti47, ti48, ti49, ti50, ti51, ti52, ti53, ti54, ti55, ti57, ti58, ti59, ti60, ti61, ti62, ti63, ti64, ti65, ti66, ti67, ti68, ti69, ti70, ti71, ti72, ti73, ti74, ti75, ti76, ti77, ti78, ti79, ti80, ti81, ti82, ti83, ti85, ti86, ti87, ti88, ti89, ti90, ti91, ti92, ti93, ti94, ti95, ti96, ti97, ti98, ti99, ti100, ti101, ti102, ti103, ti104, ti105, ti106, ti107, ti108, ti109]
  simp only [hi, hq]
  repeat (((with_reducible refine And.intro ?_ ?_)); (focus (first | omega | (simp only [inR]; omega) | rfl | (simp [notinId, notin]; done) | exact Or.inr rfl | (intro i hi; (repeat' (with_reducible first | apply len_cut | apply len_shift | apply len_app | apply len_copy | intro j)) <;> first | rfl | (exact len_lit _ _ (by simp) rfl _) | (simp; done)))))
  rcases hq3 with rfl | rfl | rfl
  · simp only [show ((0 : Int) == 0) = true from rfl]
    (refine ev ?_; (try (with_reducible exact True.intro)))
    simp only [Int.toNat_natCast]
    repeat (((with_reducible refine And.intro ?_ ?_)); (focus (first | omega | (simp only [inR]; omega) | rfl | (simp [notinId, notin]; done) | exact Or.inr rfl | (intro i hi; (repeat' (with_reducible first | apply len_cut | apply len_shift | apply len_app | apply len_copy | intro j)) <;> first | rfl | (exact len_lit _ _ (by simp) rfl _) | (simp; done)))))
    have e : moreG ow pr su 0 i t = (ow.set i 0, pr, su) := by rw [moreG, if_pos rfl]
    have u := updF_enc (e := cInt .i64) (d := 0) (xs := ow) (k := i) 0 (by omega)
    have u : updF (encL (cInt .i64) 0 ow) i [.int .i64 0] = encL (cInt .i64) 0 (ow.set i 0) := u
    rw [e, u]
    refine ⟨by simp, fun q hq => cut_at0 q (by simpa using hq), rfl, fun _ _ => rfl, rfl, fun _ _ => rfl, by simp [notinId]⟩
  · simp only [show ((1 : Int) == 0) = false from rfl, show ((1 : Int) == 1) = true from rfl]
    (refine ev ?_; (try (with_reducible exact True.intro)))
    try simp only [Int.toNat_natCast]
    repeat (((with_reducible refine And.intro ?_ ?_)); (focus (first | omega | (simp only [inR]; omega) | rfl | (simp [notinId, notin]; done) | exact Or.inr rfl | (intro i hi; (repeat' (with_reducible first | apply len_cut | apply len_shift | apply len_app | apply len_copy | intro j)) <;> first | rfl | (exact len_lit _ _ (by simp) rfl _) | (simp; done)))))
    have e : moreG ow pr su 1 i t = (ow, pr.set i 0, su) := by rw [moreG, if_neg (by decide), if_pos rfl]
    have u := updF_enc (e := cInt .i64) (d := 0) (xs := pr) (k := i) 0 (by omega)
    have u : updF (encL (cInt .i64) 0 pr) i [.int .i64 0] = encL (cInt .i64) 0 (pr.set i 0) := u
    rw [e, u]
    refine ⟨by simp, fun q hq => cut_at0 q (by simpa using hq), rfl, fun _ _ => rfl, by simp [notinId]⟩
  · simp only [show ((2 : Int) == 0) = false from rfl, show ((2 : Int) == 1) = false from rfl]
    (refine ev ?_; (try (with_reducible exact True.intro)))
    try simp only [Int.toNat_natCast]
    repeat (((with_reducible refine And.intro ?_ ?_)); (focus (first | omega | (simp only [inR]; omega) | rfl | (simp [notinId, notin]; done) | exact Or.inr rfl | (intro i hi; (repeat' (with_reducible first | apply len_cut | apply len_shift | apply len_app | apply len_copy | intro j)) <;> first | rfl | (exact len_lit _ _ (by simp) rfl _) | (simp; done)))))
    simp only [show ((2 : Int) == 1) = false from rfl]
    (refine ev ?_; (try (with_reducible exact True.intro)))
    try simp only [Int.toNat_natCast]
    repeat (((with_reducible refine And.intro ?_ ?_)); (focus (first | omega | (simp only [inR]; omega) | rfl | (simp [notinId, notin]; done) | exact Or.inr rfl | (intro i hi; (repeat' (with_reducible first | apply len_cut | apply len_shift | apply len_app | apply len_copy | intro j)) <;> first | rfl | (exact len_lit _ _ (by simp) rfl _) | (simp; done)))))
    refine gs (fun h0 => ?_) (fun h0 => ?_)
    · (refine ev ?_; (try (with_reducible exact True.intro)))
      try simp only [Int.toNat_natCast]
      repeat (((with_reducible refine And.intro ?_ ?_)); (focus (first | omega | (simp only [inR]; omega) | rfl | (simp [notinId, notin]; done) | exact Or.inr rfl | (intro i hi; (repeat' (with_reducible first | apply len_cut | apply len_shift | apply len_app | apply len_copy | intro j)) <;> first | rfl | (exact len_lit _ _ (by simp) rfl _) | (simp; done)))))
      have h0 : ow.getD i 0 = 0 := by simpa using h0
      have e : moreG ow pr su 2 i t = (ow, pr, su.set i (su.getD i [] ++ [t])) := by rw [moreG, if_neg (by decide), if_neg (by decide), if_pos h0]
      have hrow : (su.getD i []).length ≤ 20 := hr _ (getD_mem hil [])
      have e1 : cutF (su.getD i []).length 0 (su.getD i []).length (encL (cInt .i64) 0 (su.getD i [])) = encL (cInt .i64) 0 (su.getD i []) := cutF_all rfl
      have e2 : cutF 1 0 1 (litF [[.int .i64 t]] [.int .i64 0]) = encL (cInt .i64) 0 [t] := litI 1 _ [t] rfl rfl
      have e3 : appF (su.getD i []).length (encL (cInt .i64) 0 (su.getD i [])) (encL (cInt .i64) 0 [t]) = encL (cInt .i64) 0 (su.getD i [] ++ [t]) := appF_enc rfl
      have e4 : cutF ((su.getD i []).length + 1) 0 ((su.getD i []).length + 1) (encL (cInt .i64) 0 (su.getD i [] ++ [t])) = encL (cInt .i64) 0 (su.getD i [] ++ [t]) := cutF_all (by simp)
      have e5 := updF_enc (e := cRow (cInt .i64) 0) (d := []) (xs := su) (k := i) (su.getD i [] ++ [t]) (by omega)
      have e5 : updF (encL (cRow (cInt .i64) 0) [] su) i [.ro ((su.getD i []).length + 1) (encL (cInt .i64) 0 (su.getD i [] ++ [t]))] = encL (cRow (cInt .i64) 0) [] (su.set i (su.getD i [] ++ [t])) := by
        rw [← e5]
        simp only [cRow, List.length_append, List.length_cons, List.length_nil]
      have hb0 : (0 : Int) ≤ t := by rw [← ht]; exact Int.tmod_nonneg _ (by omega)
      have hb1 : t < su.length := by rw [← ht]; exact Int.tmod_lt_of_pos _ (by omega)
      rw [e]
      simp only [ht, e1, e2, e3, e4, e5]
      (repeat' (with_reducible refine And.intro ?_ ?_)) <;> first | omega | (simp only [inR]; omega) | rfl | trivial | (exact fun _ _ => trivial) | (exact fun _ _ => rfl) | (exact ⟨_, _, _, rfl⟩) | (simp [notinId]; done) | (simp; done) | (exact fun q hq => cut_at0 q (by simpa using hq)) | (exact fun q hq => cut_at0 q (by omega))
    · (refine ev ?_; (try (with_reducible exact True.intro)))
      repeat (((with_reducible refine And.intro ?_ ?_)); (focus (first | omega | (simp only [inR]; omega) | rfl | (simp [notinId, notin]; done) | exact Or.inr rfl | (intro i hi; (repeat' (with_reducible first | apply len_cut | apply len_shift | apply len_app | apply len_copy | intro j)) <;> first | rfl | (exact len_lit _ _ (by simp) rfl _) | (simp; done)))))
      have h0 : ¬ ow.getD i 0 = 0 := by simpa using h0
      have e : moreG ow pr su 2 i t = (ow, pr, su) := by rw [moreG, if_neg (by decide), if_neg (by decide), if_neg h0]
      rw [e]
      ((repeat' (with_reducible refine And.intro ?_ ?_)) <;> first | omega | (simp [notinId]; done) | (exact fun q hq => cut_at0 q (by simpa using hq)) | (exact fun q hq => cut_at0 q (by omega)) | (exact fun _ _ => rfl))
theorem s6 (ow pr : List Int) (su : List (List Int)) (kd at' to : UInt8) : Contract Try.prog 6 [game ow pr su, .int .u8 (kd.toNat : Nat), .int .u8 (at'.toNat : Nat), .int .u8 (to.toNat : Nat)] (.one (.val (.bool true))) := by
  refine ct6 (SH.Sem.of_wpA hm ?_)
  simp only [padA]
  simp only [Try.f6, Option.getD, w_skip, w_reg, w_regd, w_seq, w_cond, w_block, w_loop, w_rf, w_exit, w_ret, f_ok, f_call, f_yield, yK_cons, a_normal, r_normal, r_ret, r_exit, rg_cons, putL, frz, beq_self_eq_true, Nat.reduceBEq, updG_same, f_bad, cK_nil, cK_cons, v_nil, v_cons, gK_tt, gK_ff, gK_tf, gK_ft, dK_go, d_nil, d_cons, gD_tt, gD_ff, gD_tf, gD_ft, eC_one, eC_tup, eC_own, eE_ok, eE_bad, eD, eff, eBin, eEq, eUn, eConv, eLen, eMin, eMax, eField, eFieldAddr, eIndex, eIndexAddr, eSlice, eLoad, eStore, eAlloc, eBox, eBuild, eBuildSlice, eMake, eAppend, eCopy, eMakeMap, eMapUpdate, eLookup, lookV, optN, eNil, ePick, eExtract, E.pure, Eff.only, Eff.notB, evalA, AV.ofV, AV.ofC, sget, sput, putA, applyU, hset, hget, hlen, alen, takeA, dropA, spliceA, mapA, allA, lget, oget, pget, tget, cellsA, AV.one, AV.goneB, partA, partC, TK.isAgg, nilish, natA, natC, loN, hiN, optC, roCut, loadP, loadC, aggOr, fillA, fillC, allPos, partsC, partsCells, partsAll, kills, killIds, liveAll, gnd, srcOf, inBlk, mapO, mapP, Go.SH.IntKind.uns, TK.flat, eqSc, eqScC, eqFs, eqFsC, seqK, blockK, condK, l_exit, l_ret, retK, retS, rsV, rsC, allT, padA, mapT, glook, bsel, gsplit_true, gsplit_false, resOf, resIds, resAll, nodupN, notin, like, like1, likeL, likeAll, AV.np, AV.gb, idsR, idsM, retI, retR, reify, AR.v, AR.u, AR.nv, nvec, impV, impU, isAlloc, callOf, countA, upIds, Option.map_none, Option.map_some, Option.isSome_some, Option.isSome_none, List.map_cons, List.map_nil, true_and, and_true, List.cons_append, List.nil_append, List.append_nil, List.length_cons, List.length_nil, List.nodup_nil, List.not_mem_nil, not_false_eq_true, ne_eq, reduceCtorEq, Bool.and_true, Bool.true_and, Bool.not_true, Bool.not_false, if_true, if_false, reduceIte, en_byte, en_byte', en_int, en_int', en_bool, en_bool', en_str, en_str', en_row, en_row', sh_at, sh_at', and_assoc, Nat.zero_add, Nat.add_zero, Nat.reduceAdd, appF_zero, Option.isNone_none, Option.isNone_some, en_byteL, en_intL, en_rowL, Int.reduceToNat, Nat.mul_one, Nat.one_mul, Nat.zero_mul, Nat.reduceMul, Nat.reduceSub, Nat.sub_zero, bne_self_eq_false, ti1, ti2, ti3, ti4, ti5, ti6, ti7, ti8, ti9, ti10, ti11, ti12, ti13, ti14, ti15, ti16, ti17, ti18, ti19, ti21, ti22, ti23, ti24, ti25, ti26, ti27, ti28, ti30, ti31, ti33, ti34, ti35, ti36, ti37, ti38, ti39, ti40, ti41, ti42, ti43, ti45, ti46, ti47, ti48, ti49, ti50, ti51, ti52, ti53, ti54, ti55, ti57, ti58, ti59, ti60, ti61, ti62, ti63, ti64, ti65, ti66, ti67, ti68, ti69, ti70, ti71, ti72, ti73, ti74, ti75, ti76, ti77, ti78, ti79, ti80, ti81, ti82, ti83, ti85, ti86, ti87, ti88, ti89, ti90, ti91, ti92, ti93, ti94, ti95, ti96, ti97, ti98, ti99, ti100, ti101, ti102, ti103, ti104, ti105, ti106, ti107, ti108, ti109]
  repeat (((with_reducible refine And.intro ?_ ?_)); (focus (first | omega | (simp only [inR]; omega) | rfl | (simp [notinId, notin]; done) | exact Or.inr rfl | (intro i hi; (repeat' (with_reducible first | apply len_cut | apply len_shift | apply len_app | apply len_copy | intro j)) <;> first | rfl | (exact len_lit _ _ (by simp) rfl _) | (simp; done)))))
  refine EffC.use c17 ?_ (.inl rfl) ?_
  · trivial
  (refine ev ?_; (try (with_reducible exact True.intro)))
  repeat (((with_reducible refine And.intro ?_ ?_)); (focus (first | omega | (simp only [inR]; omega) | rfl | (simp [notinId, notin]; done) | exact Or.inr rfl | (intro i hi; (repeat' (with_reducible first | apply len_cut | apply len_shift | apply len_app | apply len_copy | intro j)) <;> first | rfl | (exact len_lit _ _ (by simp) rfl _) | (simp; done)))))
  have a22 := c22 ow pr su 30 (by omega)
  cases hsm : smallB 30 ow pr su && validB ow pr su
  · rw [hsm] at a22
    refine EffC.use a22 ?_ (.inl rfl) ?_
    · ((refine evL ?_; (try (with_reducible exact True.intro))) <;> (repeat' (with_reducible refine And.intro ?_ ?_)) <;> first | trivial | (exact fun _ _ => trivial) | (simp; done) | (exact fun q hq => cut_at0 q (by simpa using hq)) | (exact fun q hq => cut_at0 q (by omega)) | omega)
    (refine ev ?_; (try (with_reducible exact True.intro)))
    ((repeat' (with_reducible refine And.intro ?_ ?_)) <;> first | omega | (simp [notinId]; done) | (exact fun q hq => cut_at0 q (by simpa using hq)) | (exact fun q hq => cut_at0 q (by omega)) | (exact fun _ _ => rfl))
  rw [hsm] at a22
  refine EffC.use a22 ?_ (.inl rfl) ?_
  · ((refine evL ?_; (try (with_reducible exact True.intro))) <;> (repeat' (with_reducible refine And.intro ?_ ?_)) <;> first | trivial | (exact fun _ _ => trivial) | (simp; done) | (exact fun q hq => cut_at0 q (by simpa using hq)) | (exact fun q hq => cut_at0 q (by omega)) | omega)
  obtain ⟨l1, l4, hv⟩ := small_spec hsm
  obtain ⟨v1, v2, v3, v4⟩ := validB_spec hv
  have hr20 : ∀ r ∈ su, r.length ≤ 2 ^ 20 := fun r hr => by have := l4 r hr; omega
  obtain ⟨ws, w1, _, a20⟩ := c20 ow pr su (by omega) (by omega) (by omega) hr20
  have hw := w1 hv
  have wl := hw.len
  have b1 := kd.toNat_lt
  have b2 := at'.toNat_lt
  have b3 := to.toNat_lt
  (refine ev ?_; (try (with_reducible exact True.intro)))
  repeat (((with_reducible refine And.intro ?_ ?_)); (focus (first | omega | (simp only [inR]; omega) | rfl | (simp [notinId, notin]; done) | exact Or.inr rfl | (intro i hi; (repeat' (with_reducible first | apply len_cut | apply len_shift | apply len_app | apply len_copy | intro j)) <;> first | rfl | (exact len_lit _ _ (by simp) rfl _) | (simp; done)))))
  refine gsd (fun h0 => ?_) (fun h0 => ?_)
  · (refine ev ?_; (try (with_reducible exact True.intro)))
    ((repeat' (with_reducible refine And.intro ?_ ?_)) <;> first | omega | (simp [notinId]; done) | (exact fun q hq => cut_at0 q (by simpa using hq)) | (exact fun q hq => cut_at0 q (by omega)) | (exact fun _ _ => rfl))
  have hn : 0 < su.length := by omega
  obtain ⟨i, hi, hil⟩ : ∃ i : Nat, ((at'.toNat : Nat) : Int).tmod su.length = i ∧ i < su.length := ⟨at'.toNat % su.length, Int.ofNat_tmod _ _ |>.symm, Nat.mod_lt _ hn⟩
  obtain ⟨t, ht, ht0, ht1⟩ : ∃ t : Int, ((to.toNat : Nat) : Int).tmod su.length = t ∧ 0 ≤ t ∧ t < su.length := ⟨_, rfl, Int.tmod_nonneg _ (by omega), Int.tmod_lt_of_pos _ (by omega)⟩
  have a25 := c25 ow pr su kd at' to hn hv l4 i hi hil t ht
  generalize ((kd.toNat : Nat) : Int).tmod 3 = q at a25
  obtain ⟨hv', hl'⟩ := more_valid (i := i) (t := t) hv q (by omega) (by omega)
  have l4' : ∀ r ∈ (moreG ow pr su q i t).2.2, r.length ≤ 2 ^ 20 := by
    intro r hr
    unfold moreG at hr
    split at hr
    · exact hr20 r hr
    · split at hr
      · exact hr20 r hr
      · split at hr
        · rcases List.mem_or_eq_of_mem_set hr with h | h
          · exact hr20 r h
          · subst h
            have := l4 _ (getD_mem hil [])
            simp only [List.length_append, List.length_cons, List.length_nil]; omega
        · exact hr20 r hr
  have hmw := fun ws' (hw' : Wins (moreG ow pr su q i t).1 (moreG ow pr su q i t).2.1 (moreG ow pr su q i t).2.2 ws') => more_wins (i := i) (t := t) hv q (by omega) (by omega) hw hw'
  generalize moreG ow pr su q i t = g' at *
  obtain ⟨ow', pr', su'⟩ := g'
  simp only at hv' hl' l4' hmw a25
  obtain ⟨u1, u2, u3, u4⟩ := validB_spec hv'
  obtain ⟨ws', w1', _, b20⟩ := c20 ow' pr' su' (by omega) (by omega) (by omega) l4'
  have hw' := w1' hv'
  have wl' := hw'.len
  have hmw := hmw ws' hw'
  clear hw' w1' hw w1 hv' u4 v4
  (refine ev ?_; (try (with_reducible exact True.intro)))
  repeat (((with_reducible refine And.intro ?_ ?_)); (focus (first | omega | (simp only [inR]; omega) | rfl | (simp [notinId, notin]; done) | exact Or.inr rfl | (intro i hi; (repeat' (with_reducible first | apply len_cut | apply len_shift | apply len_app | apply len_copy | intro j)) <;> first | rfl | (exact len_lit _ _ (by simp) rfl _) | (simp; done)))))
  refine EffC.use a20 ?_ (.inr rfl) ?_
  · ((refine evL ?_; (try (with_reducible exact True.intro))) <;> (repeat' (with_reducible refine And.intro ?_ ?_)) <;> first | trivial | (exact fun _ _ => trivial) | (simp; done) | (exact fun q hq => cut_at0 q (by simpa using hq)) | (exact fun q hq => cut_at0 q (by omega)) | omega)
  (refine ev ?_; (try (with_reducible exact True.intro)))
  repeat (((with_reducible refine And.intro ?_ ?_)); (focus (first | omega | (simp only [inR]; omega) | rfl | (simp [notinId, notin]; done) | exact Or.inr rfl | (intro i hi; (repeat' (with_reducible first | apply len_cut | apply len_shift | apply len_app | apply len_copy | intro j)) <;> first | rfl | (exact len_lit _ _ (by simp) rfl _) | (simp; done)))))
  refine EffC.use a25 ?_ (.inr rfl) ?_
  · ((refine evL ?_; (try (with_reducible exact True.intro))) <;> (repeat' (with_reducible refine And.intro ?_ ?_)) <;> first | trivial | (exact fun _ _ => trivial) | (simp; done) | (exact fun q hq => cut_at0 q (by simpa using hq)) | (exact fun q hq => cut_at0 q (by omega)) | omega)
  (refine ev ?_; (try (with_reducible exact True.intro)))
  repeat (((with_reducible refine And.intro ?_ ?_)); (focus (first | omega | (simp only [inR]; omega) | rfl | (simp [notinId, notin]; done) | exact Or.inr rfl | (intro i hi; (repeat' (with_reducible first | apply len_cut | apply len_shift | apply len_app | apply len_copy | intro j)) <;> first | rfl | (exact len_lit _ _ (by simp) rfl _) | (simp; done)))))
  refine EffC.use b20 ?_ (.inr rfl) ?_
  · ((refine evL ?_; (try (with_reducible exact True.intro))) <;> (repeat' (with_reducible refine And.intro ?_ ?_)) <;> first | trivial | (exact fun _ _ => trivial) | (simp; done) | (exact fun q hq => cut_at0 q (by simpa using hq)) | (exact fun q hq => cut_at0 q (by omega)) | omega)
  (refine ev ?_; (try (with_reducible exact True.intro)))
  repeat (((with_reducible refine And.intro ?_ ?_)); (focus (first | omega | (simp only [inR]; omega) | rfl | (simp [notinId, notin]; done) | exact Or.inr rfl | (intro i hi; (repeat' (with_reducible first | apply len_cut | apply len_shift | apply len_app | apply len_copy | intro j)) <;> first | rfl | (exact len_lit _ _ (by simp) rfl _) | (simp; done)))))
  have z1 : ((ws.length : Int) != su.length) = false := by rw [bne_eq_false_iff_eq]; omega
  have z2 : ((ws'.length : Int) != ws.length) = false := by rw [bne_eq_false_iff_eq]; omega
  simp only [z1]
  (refine ev ?_; (try (with_reducible exact True.intro)))
  simp only [z2]
  (refine ev ?_; (try (with_reducible exact True.intro)))
  repeat (((with_reducible refine And.intro ?_ ?_)); (focus (first | omega | (simp only [inR]; omega) | rfl | (simp [notinId, notin]; done) | exact Or.inr rfl | (intro i hi; (repeat' (with_reducible first | apply len_cut | apply len_shift | apply len_app | apply len_copy | intro j)) <;> first | rfl | (exact len_lit _ _ (by simp) rfl _) | (simp; done)))))
  refine SH.Sem.loop hm (fun i : Nat => ⟨padA [.undef, .undef, .undef, .undef, .undef, .undef, .undef, .undef, .undef, .bool true, intRow ws, intRow ws', .int .i64 i] 64, [.box [intRow ow, intRow pr, intRows su]]⟩) (fun i => i ≤ ow.length) (fun i => ow.length - i) [0] 0 (by omega) ?_ fun i hi0 => ?_
  · simp only [padA, St.le, slotsLe, heapLe, blkLe, rowLe, live, injOn, loLe, nget, nlook, ren, okA, allP, mapA, hget, ABlk.used, notin, List.map_cons, List.map_nil, true_or, or_true, false_or, or_false, true_and, and_true, and_self, AV.int.injEq, AV.bool.injEq, AV.str.injEq, AV.sl.injEq, AV.ro.injEq, AV.agg.injEq, List.cons.injEq, reduceCtorEq, ne_eq, not_false_eq_true, not_true_eq_false]; simp
  simp only [padA]
  (refine ev ?_; (try (with_reducible exact True.intro)))
  refine gsd (fun hd => ?_) (fun hd => ?_)
  · have hi : i < ow.length := by omega
    have e := hmw i hi
    (refine ev ?_; (try (with_reducible exact True.intro)))
    simp only [Int.toNat_natCast]
    repeat (((with_reducible refine And.intro ?_ ?_)); (focus (first | omega | (simp only [inR]; omega) | rfl | (simp [notinId, notin]; done) | exact Or.inr rfl | (intro i hi; (repeat' (with_reducible first | apply len_cut | apply len_shift | apply len_app | apply len_copy | intro j)) <;> first | rfl | (exact len_lit _ _ (by simp) rfl _) | (simp; done)))))
    cases hz : (ws.getD i 0 == 0)
    · (refine ev ?_; (try (with_reducible exact True.intro)))
      repeat (((with_reducible refine And.intro ?_ ?_)); (focus (first | omega | (simp only [inR]; omega) | rfl | (simp [notinId, notin]; done) | exact Or.inr rfl | (intro i hi; (repeat' (with_reducible first | apply len_cut | apply len_shift | apply len_app | apply len_copy | intro j)) <;> first | rfl | (exact len_lit _ _ (by simp) rfl _) | (simp; done)))))
      refine ⟨i + 1, [0], by omega, by show ow.length - (i + 1) < ow.length - i; omega, ?_⟩
      simp only [padA, St.le, slotsLe, heapLe, blkLe, rowLe, live, injOn, loLe, nget, nlook, ren, okA, allP, mapA, hget, ABlk.used, notin, List.map_cons, List.map_nil, true_or, or_true, false_or, or_false, true_and, and_true, and_self, AV.int.injEq, AV.bool.injEq, AV.str.injEq, AV.sl.injEq, AV.ro.injEq, AV.agg.injEq, List.cons.injEq, reduceCtorEq, ne_eq, not_false_eq_true, not_true_eq_false]; simp
    · have e := e (by simpa using hz)
      have z3 : (ws'.getD i 0 != 0) = false := by rw [e]; rfl
      (refine ev ?_; (try (with_reducible exact True.intro)))
      simp only [Int.toNat_natCast, z3]
      repeat (((with_reducible refine And.intro ?_ ?_)); (focus (first | omega | (simp only [inR]; omega) | rfl | (simp [notinId, notin]; done) | exact Or.inr rfl | (intro i hi; (repeat' (with_reducible first | apply len_cut | apply len_shift | apply len_app | apply len_copy | intro j)) <;> first | rfl | (exact len_lit _ _ (by simp) rfl _) | (simp; done)))))
      (refine ev ?_; (try (with_reducible exact True.intro)))
      repeat (((with_reducible refine And.intro ?_ ?_)); (focus (first | omega | (simp only [inR]; omega) | rfl | (simp [notinId, notin]; done) | exact Or.inr rfl | (intro i hi; (repeat' (with_reducible first | apply len_cut | apply len_shift | apply len_app | apply len_copy | intro j)) <;> first | rfl | (exact len_lit _ _ (by simp) rfl _) | (simp; done)))))
      refine ⟨i + 1, [0], by omega, by show ow.length - (i + 1) < ow.length - i; omega, ?_⟩
      simp only [padA, St.le, slotsLe, heapLe, blkLe, rowLe, live, injOn, loLe, nget, nlook, ren, okA, allP, mapA, hget, ABlk.used, notin, List.map_cons, List.map_nil, true_or, or_true, false_or, or_false, true_and, and_true, and_self, AV.int.injEq, AV.bool.injEq, AV.str.injEq, AV.sl.injEq, AV.ro.injEq, AV.agg.injEq, List.cons.injEq, reduceCtorEq, ne_eq, not_false_eq_true, not_true_eq_false]; simp
  · (refine ev ?_; (try (with_reducible exact True.intro)))
    ((repeat' (with_reducible refine And.intro ?_ ?_)) <;> first | omega | (simp [notinId]; done) | (exact fun q hq => cut_at0 q (by simpa using hq)) | (exact fun q hq => cut_at0 q (by omega)) | (exact fun _ _ => rfl))
end Go.Proofs.Ythkgnnndlocbbaa
