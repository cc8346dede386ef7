/-
  The solver on a part of a game: what it returns, if it does so on smaller games. No condition but sizes.
-/
import Derived.Test.YthkgnnndlocbbaaSc
namespace Go.Proofs.Ythkgnnndlocbbaa
set_option linter.unusedVariables false
set_option linter.unusedSimpArgs false
open Go Go.SH Go.Parity
set_option maxRecDepth 100000
set_option maxHeartbeats 4000000
/-- The pointer to the variable that holds the solver of parts, as far as games of k positions reach. -/
def ptrP : Nat → AV
  | 0 => .undef
  | k + 1 => .rop [.fn (.func 43) [.rop [.fn (.func 48) [ptrP k]]]]
abbrev inL (l : List Bool) : Nat → Prop := fun v => l.getD v false = true
structure Won (ow pr : List Int) (su : List (List Int)) (S : Nat → Prop) (w0 w1 : List Bool) : Prop where
  l0 : w0.length = ow.length
  l1 : w1.length = ow.length
  good : Parity.Good (pg ow pr su) S (inL w0) (inL w1)
def regs (w0 w1 : List Bool) : AR := .one (.val (.agg [boolRow w0, boolRow w1]))
def SolveC (k : Nat) : Prop := ∀ (ow pr : List Int) (su : List (List Int)), validB ow pr su = true → ow.length ≤ k → (∀ r ∈ su, r.length ≤ 2 ^ 20) →
  ∃ w0 w1, Won ow pr su (fun v => v < ow.length) w0 w1 ∧ Contract Try.prog 48 [game ow pr su, ptrP k] (regs w0 w1)
theorem liftL_at {s : List Bool} {nums : List Nat} {n v : Nat} : inL (liftL s nums n) v ↔ v < n ∧ v ∈ nums ∧ inL s (idxN nums v) := by
  show (liftL s nums n).getD v false = true ↔ _
  rcases Nat.lt_or_ge v n with h | h
  · rw [liftL, range_map_getD _ _ _ _ h]; simp [h]
  · rw [getD_ge _ _ _ (by simpa [liftL] using h)]; simp; omega
theorem _root_.Go.Parity.Good.congr {G : PG} {S S' A B A' B' : Nat → Prop} (h : Parity.Good G S A B) (hs : ∀ v, S v ↔ S' v) (ha : ∀ v, A v ↔ A' v) (hb : ∀ v, B v ↔ B' v) : Parity.Good G S' A' B' := by
  have : S = S' := funext fun v => propext (hs v)
  have : A = A' := funext fun v => propext (ha v)
  have : B = B' := funext fun v => propext (hb v)
  subst_vars; exact h
theorem partC (k : Nat) (hS : SolveC k) (ow pr : List Int) (su : List (List Int)) (near : List Bool) (hv : validB ow pr su = true) (hnl : near.length = ow.length) (hx : ∀ x ∈ numsOf (near.map not), succOf su (near.map not) x ≠ []) (hk : (numsOf (near.map not)).length ≤ k) (hr20 : ∀ r ∈ su, r.length ≤ 2 ^ 20) :
    ∃ w0 w1, Won ow pr su (fun v => v < ow.length ∧ ¬ inL near v) w0 w1 ∧ Contract Try.prog 43 [game ow pr su, boolRow near, .rop [.fn (.func 48) [ptrP k]]] (regs w0 w1) := by
  obtain ⟨v1, v2, v3, v4⟩ := validB_spec hv
  obtain ⟨n, hn⟩ : ∃ n, ow.length = n := ⟨_, rfl⟩
  obtain ⟨ins, hins⟩ : ∃ ins, near.map not = ins := ⟨_, rfl⟩
  have hil : ins.length = n := by rw [← hins, List.length_map]; omega
  have hia : ∀ v, v < n → ins.getD v false = !near.getD v false := fun v h => by rw [← hins, getD_map_not _ _ (by omega)]
  have hpk : (List.range n).map (fun i => !near.getD i false) = ins := list_eq_of (by simp [hil]) fun i hi => by
    have hi : i < n := by simpa using hi
    rw [range_map_getD _ _ _ _ hi, hia i hi]
  have a44 := pick1 45 [boolRow near] n (fun i => !near.getD i false) (by omega) (fun i hi => c45 near i (by omega))
  rw [hpk] at a44
  rw [hins] at hx hk
  have a46 := c46 ins (by omega)
  have hany : (ins.any fun b => b) = true ↔ numsOf ins ≠ [] := by
    rw [List.any_eq_true]
    constructor
    · rintro ⟨b, hb, rfl⟩ h0
      obtain ⟨i, hi, e⟩ := List.mem_iff_getElem.1 hb
      have : i ∈ numsOf ins := mem_numsOf.2 ⟨hi, by rw [List.getD_eq_getElem?_getD, List.getElem?_eq_getElem hi, e]; rfl⟩
      rw [h0] at this; simp at this
    · intro h0
      obtain ⟨x, hxm⟩ := List.exists_mem_of_ne_nil _ h0
      obtain ⟨h1, h2⟩ := mem_numsOf.1 hxm
      refine ⟨_, List.getElem_mem h1, ?_⟩
      rw [List.getD_eq_getElem?_getD, List.getElem?_eq_getElem h1] at h2
      exact h2
  have hsw : ∀ v, (v < ow.length ∧ ins.getD v false = true) ↔ (v < ow.length ∧ ¬ inL near v) := fun v => by
    constructor
    · rintro ⟨h1, h2⟩; rw [hia v (by omega)] at h2; exact ⟨h1, by show ¬ near.getD v false = true; simpa using h2⟩
    · rintro ⟨h1, h2⟩
      have h2 : ¬ near.getD v false = true := h2
      rw [hia v (by omega)]; exact ⟨h1, by simpa using h2⟩
  cases hc : ins.any fun b => b
  · -- nothing is left
    have h0 : numsOf ins = [] := by
      apply Classical.byContradiction
      intro h; rw [hany.2 h] at hc; cases hc
    have hno : ∀ v, ¬ (v < ow.length ∧ ¬ inL near v) := fun v h => by
      have h := (hsw v).2 h
      have : v ∈ numsOf ins := mem_numsOf.2 ⟨by omega, h.2⟩
      rw [h0] at this; simp at this
    have hf : ∀ v, False ↔ inL ((List.range n).map fun _ => false) v := fun v => by
      refine ⟨fun h => h.elim, fun h => ?_⟩
      have h : ((List.range n).map fun _ => false).getD v false = true := h
      rcases Nat.lt_or_ge v n with h1 | h1
      · rw [range_map_getD _ _ _ _ h1] at h; cases h
      · rw [getD_ge _ _ _ (by simpa using h1)] at h; cases h
    refine ⟨(List.range n).map fun _ => false, (List.range n).map fun _ => false, ⟨by simp [hn], by simp [hn], ⟨Para.empty.congr hf fun v => Iff.rfl, Para.empty.congr hf fun v => Iff.rfl, fun v h => absurd h (hno v)⟩⟩, ?_⟩
    rw [hc] at a46
    refine ct43 (SH.Sem.of_wpA hm ?_)
    simp only [padA, regs]
    simp only [Try.f43, Option.getD, w_skip, w_reg, w_regd, w_seq, w_cond, w_block, w_loop, w_rf, w_exit, w_ret, f_ok, f_call, f_yield, yK_cons, a_normal, r_normal, r_ret, r_exit, rg_cons, putL, frz, beq_self_eq_true, Nat.reduceBEq, updG_same, f_bad, cK_nil, cK_cons, v_nil, v_cons, gK_tt, gK_ff, gK_tf, gK_ft, dK_go, d_nil, d_cons, gD_tt, gD_ff, gD_tf, gD_ft, eC_one, eC_tup, eC_own, eE_ok, eE_bad, eD, eff, eBin, eEq, eUn, eConv, eLen, eMin, eMax, eField, eFieldAddr, eIndex, eIndexAddr, eSlice, eLoad, eStore, eAlloc, eBox, eBuild, eBuildSlice, eMake, eAppend, eCopy, eMakeMap, eMapUpdate, eLookup, lookV, optN, eNil, ePick, eExtract, E.pure, Eff.only, Eff.notB, evalA, AV.ofV, AV.ofC, sget, sput, putA, applyU, hset, hget, hlen, alen, takeA, dropA, spliceA, mapA, allA, lget, oget, pget, tget, cellsA, AV.one, AV.goneB, partA, partC, TK.isAgg, nilish, natA, natC, loN, hiN, optC, roCut, loadP, loadC, aggOr, fillA, fillC, allPos, partsC, partsCells, partsAll, kills, killIds, liveAll, gnd, srcOf, inBlk, mapO, mapP, Go.SH.IntKind.uns, TK.flat, eqSc, eqScC, eqFs, eqFsC, seqK, blockK, condK, l_exit, l_ret, retK, retS, rsV, rsC, allT, padA, mapT, glook, bsel, gsplit_true, gsplit_false, resOf, resIds, resAll, nodupN, notin, like, like1, likeL, likeAll, AV.np, AV.gb, idsR, idsM, retI, retR, reify, AR.v, AR.u, AR.nv, nvec, impV, impU, isAlloc, callOf, countA, upIds, Option.map_none, Option.map_some, Option.isSome_some, Option.isSome_none, List.map_cons, List.map_nil, true_and, and_true, List.cons_append, List.nil_append, List.append_nil, List.length_cons, List.length_nil, List.nodup_nil, List.not_mem_nil, not_false_eq_true, ne_eq, reduceCtorEq, Bool.and_true, Bool.true_and, Bool.not_true, Bool.not_false, if_true, if_false, reduceIte, en_byte, en_byte', en_int, en_int', en_bool, en_bool', en_str, en_str', en_row, en_row', sh_at, sh_at', and_assoc, Nat.zero_add, Nat.add_zero, Nat.reduceAdd, appF_zero, Option.isNone_none, Option.isNone_some, en_byteL, en_intL, en_rowL, Int.reduceToNat, Nat.mul_one, Nat.one_mul, Nat.zero_mul, Nat.reduceMul, Nat.reduceSub, Nat.sub_zero, bne_self_eq_false, ti1, ti2, ti3, ti4, ti5, ti6, ti7, ti8, ti9, ti10, ti11, ti12, ti13, ti14, ti15, ti16, ti17, ti18, ti19, ti21, ti22, ti23, ti24, ti25, ti26, ti27, ti28, ti30, ti31, ti33, ti34, ti35, ti36, ti37, ti38, ti39, ti40, ti41, ti42, ti43, ti45, ti46, ti47, ti48, ti49, ti50, ti51, ti52, ti53, ti54, ti55, ti57, ti58, ti59, ti60, ti61, ti62, ti63, ti64, ti65, ti66, ti67, ti68, ti69, ti70, ti71, ti72, ti73, ti74, ti75, ti76, ti77, ti78, ti79, ti80, ti81, ti82, ti83, ti85, ti86, ti87, ti88, ti89, ti90, ti91, ti92, ti93, ti94, ti95, ti96, ti97, ti98, ti99, ti100, ti101, ti102, ti103, ti104, ti105, ti106, ti107, ti108, ti109]
    repeat (((with_reducible refine And.intro ?_ ?_)); (focus (first | omega | (simp only [inR]; omega) | rfl | (simp [notinId, notin]; done) | exact Or.inr rfl | (intro i hi; (repeat' (with_reducible first | apply len_cut | apply len_shift | apply len_app | apply len_copy | intro j)) <;> first | rfl | (exact len_lit _ _ (by simp) rfl _) | (simp; done)))))
    simp only [v3, hn]
    refine EffC.use a44 ?_ (.inl (memless_vec (sz := 1) _ rfl (fun x a ha => by simp [cBool] at ha; subst ha; rfl))) ?_
    · ((refine evL ?_; (try (with_reducible exact True.intro))) <;> (repeat' (with_reducible refine And.intro ?_ ?_)) <;> first | trivial | (exact fun _ _ => trivial) | (simp; done) | (exact fun q hq => cut_at0 q (by simpa using hq)) | (exact fun q hq => cut_at0 q (by omega)) | omega)
    (refine ev ?_; (try (with_reducible exact True.intro)))
    repeat (((with_reducible refine And.intro ?_ ?_)); (focus (first | omega | (simp only [inR]; omega) | rfl | (simp [notinId, notin]; done) | exact Or.inr rfl | (intro i hi; (repeat' (with_reducible first | apply len_cut | apply len_shift | apply len_app | apply len_copy | intro j)) <;> first | rfl | (exact len_lit _ _ (by simp) rfl _) | (simp; done)))))
    refine EffC.use a46 ?_ (.inl rfl) ?_
    · ((refine evL ?_; (try (with_reducible exact True.intro))) <;> (repeat' (with_reducible refine And.intro ?_ ?_)) <;> first | trivial | (exact fun _ _ => trivial) | (simp; done) | (exact fun q hq => cut_at0 q (by simpa using hq)) | (exact fun q hq => cut_at0 q (by omega)) | omega)
    (refine ev ?_; (try (with_reducible exact True.intro)))
    repeat (((with_reducible refine And.intro ?_ ?_)); (focus (first | omega | (simp only [inR]; omega) | rfl | (simp [notinId, notin]; done) | exact Or.inr rfl | (intro i hi; (repeat' (with_reducible first | apply len_cut | apply len_shift | apply len_app | apply len_copy | intro j)) <;> first | rfl | (exact len_lit _ _ (by simp) rfl _) | (simp; done)))))
    simp only [Int.toNat_natCast]
    have hz : ∀ q, q < n → cutF n 0 n (constF [AV.bool false]) q = encL cBool false ((List.range n).map fun _ => false) q := fun q hq => by
      rw [cut_at0 q hq, encL, range_map_getD _ _ _ _ hq]; rfl
    (repeat' (with_reducible refine And.intro ?_ ?_)) <;> first | (simp [notinId]; done) | exact fun q hq => hz q (by simpa using hq)
  · -- a part is solved
    have hne := hany.1 hc
    rw [hc] at a46
    have hpv := part_valid (pr := pr) hv (by omega) hx
    have hpl : (partOw ow ins).length = (numsOf ins).length := by simp [partOw]
    obtain ⟨w0, w1, ⟨q0, q1, hg⟩, a48⟩ := hS _ _ _ hpv (by omega) (fun r hr => by
      obtain ⟨x, _, rfl⟩ := List.mem_map.1 hr
      have h1 := List.length_filter_le (inAt ins) (su.getD x [])
      have h2 : (su.getD x []).length ≤ 2 ^ 20 := by
        rcases Nat.lt_or_ge x su.length with h | h
        · exact hr20 _ (getD_mem h [])
        · rw [getD_ge _ _ _ h]; simp
      simp only [succOf, List.length_map]; omega)
    have a15 := p15 ow pr su ins (by omega) (by omega) (by omega) (fun r hr => by have := hr20 r hr; omega) (by omega)
    rw [partR_yes hv (by omega) hx] at a15
    have hlt : ∀ x ∈ numsOf ins, x < n := fun x h => by have := (mem_numsOf.1 h).1; omega
    have a47 := c47 w0 (numsOf ins) n (by omega) hlt (nums_nodup ins) (by omega)
    have b47 := c47 w1 (numsOf ins) n (by omega) hlt (nums_nodup ins) (by omega)
    have hg' := (part_good (pl := 0) (s := ins) hv (by omega) (by rw [hpl] at hg; exact hg.to0)).of0
    have hm' : ∀ v, (v < ow.length ∧ ins.getD v false = true) ↔ v ∈ numsOf ins := fun v => by rw [mem_numsOf, hil, hn]
    refine ⟨liftL w0 (numsOf ins) n, liftL w1 (numsOf ins) n, ⟨by simp [liftL, hn], by simp [liftL, hn], hg'.congr hsw (fun v => ?_) (fun v => ?_)⟩, ?_⟩
    · rw [liftL_at, hm' v]
      exact ⟨fun h => ⟨hlt v h.1, h.1, h.2⟩, fun h => ⟨h.2.1, h.2.2⟩⟩
    · rw [liftL_at, hm' v]
      exact ⟨fun h => ⟨hlt v h.1, h.1, h.2⟩, fun h => ⟨h.2.1, h.2.2⟩⟩
    obtain ⟨j, rfl⟩ : ∃ j, k = j + 1 := by
      have := List.length_pos_iff.2 hne
      exact ⟨k - 1, by omega⟩
    refine ct43 (SH.Sem.of_wpA hm ?_)
    simp only [padA, ptrP, regs]
    simp only [Try.f43, Option.getD, w_skip, w_reg, w_regd, w_seq, w_cond, w_block, w_loop, w_rf, w_exit, w_ret, f_ok, f_call, f_yield, yK_cons, a_normal, r_normal, r_ret, r_exit, rg_cons, putL, frz, beq_self_eq_true, Nat.reduceBEq, updG_same, f_bad, cK_nil, cK_cons, v_nil, v_cons, gK_tt, gK_ff, gK_tf, gK_ft, dK_go, d_nil, d_cons, gD_tt, gD_ff, gD_tf, gD_ft, eC_one, eC_tup, eC_own, eE_ok, eE_bad, eD, eff, eBin, eEq, eUn, eConv, eLen, eMin, eMax, eField, eFieldAddr, eIndex, eIndexAddr, eSlice, eLoad, eStore, eAlloc, eBox, eBuild, eBuildSlice, eMake, eAppend, eCopy, eMakeMap, eMapUpdate, eLookup, lookV, optN, eNil, ePick, eExtract, E.pure, Eff.only, Eff.notB, evalA, AV.ofV, AV.ofC, sget, sput, putA, applyU, hset, hget, hlen, alen, takeA, dropA, spliceA, mapA, allA, lget, oget, pget, tget, cellsA, AV.one, AV.goneB, partA, partC, TK.isAgg, nilish, natA, natC, loN, hiN, optC, roCut, loadP, loadC, aggOr, fillA, fillC, allPos, partsC, partsCells, partsAll, kills, killIds, liveAll, gnd, srcOf, inBlk, mapO, mapP, Go.SH.IntKind.uns, TK.flat, eqSc, eqScC, eqFs, eqFsC, seqK, blockK, condK, l_exit, l_ret, retK, retS, rsV, rsC, allT, padA, mapT, glook, bsel, gsplit_true, gsplit_false, resOf, resIds, resAll, nodupN, notin, like, like1, likeL, likeAll, AV.np, AV.gb, idsR, idsM, retI, retR, reify, AR.v, AR.u, AR.nv, nvec, impV, impU, isAlloc, callOf, countA, upIds, Option.map_none, Option.map_some, Option.isSome_some, Option.isSome_none, List.map_cons, List.map_nil, true_and, and_true, List.cons_append, List.nil_append, List.append_nil, List.length_cons, List.length_nil, List.nodup_nil, List.not_mem_nil, not_false_eq_true, ne_eq, reduceCtorEq, Bool.and_true, Bool.true_and, Bool.not_true, Bool.not_false, if_true, if_false, reduceIte, en_byte, en_byte', en_int, en_int', en_bool, en_bool', en_str, en_str', en_row, en_row', sh_at, sh_at', and_assoc, Nat.zero_add, Nat.add_zero, Nat.reduceAdd, appF_zero, Option.isNone_none, Option.isNone_some, en_byteL, en_intL, en_rowL, Int.reduceToNat, Nat.mul_one, Nat.one_mul, Nat.zero_mul, Nat.reduceMul, Nat.reduceSub, Nat.sub_zero, bne_self_eq_false, ti1, ti2, ti3, ti4, ti5, ti6, ti7, ti8, ti9, ti10, ti11, ti12, ti13, ti14, ti15, ti16, ti17, ti18, ti19, ti21, ti22, ti23, ti24, ti25, ti26, ti27, ti28, ti30, ti31, ti33, ti34, ti35, ti36, ti37, ti38, ti39, ti40, ti41, ti42, ti43, ti45, ti46, ti47, ti48, ti49, ti50, ti51, ti52, ti53, ti54, ti55, ti57, ti58, ti59, ti60, ti61, ti62, ti63, ti64, ti65, ti66, ti67, ti68, ti69, ti70, ti71, ti72, ti73, ti74, ti75, ti76, ti77, ti78, ti79, ti80, ti81, ti82, ti83, ti85, ti86, ti87, ti88, ti89, ti90, ti91, ti92, ti93, ti94, ti95, ti96, ti97, ti98, ti99, ti100, ti101, ti102, ti103, ti104, ti105, ti106, ti107, ti108, ti109]
    repeat (((with_reducible refine And.intro ?_ ?_)); (focus (first | omega | (simp only [inR]; omega) | rfl | (simp [notinId, notin]; done) | exact Or.inr rfl | (intro i hi; (repeat' (with_reducible first | apply len_cut | apply len_shift | apply len_app | apply len_copy | intro j)) <;> first | rfl | (exact len_lit _ _ (by simp) rfl _) | (simp; done)))))
    simp only [v3, hn]
    refine EffC.use a44 ?_ (.inl (memless_vec (sz := 1) _ rfl (fun x a ha => by simp [cBool] at ha; subst ha; rfl))) ?_
    · ((refine evL ?_; (try (with_reducible exact True.intro))) <;> (repeat' (with_reducible refine And.intro ?_ ?_)) <;> first | trivial | (exact fun _ _ => trivial) | (simp; done) | (exact fun q hq => cut_at0 q (by simpa using hq)) | (exact fun q hq => cut_at0 q (by omega)) | omega)
    (refine ev ?_; (try (with_reducible exact True.intro)))
    repeat (((with_reducible refine And.intro ?_ ?_)); (focus (first | omega | (simp only [inR]; omega) | rfl | (simp [notinId, notin]; done) | exact Or.inr rfl | (intro i hi; (repeat' (with_reducible first | apply len_cut | apply len_shift | apply len_app | apply len_copy | intro j)) <;> first | rfl | (exact len_lit _ _ (by simp) rfl _) | (simp; done)))))
    refine EffC.use a46 ?_ (.inl rfl) ?_
    · ((refine evL ?_; (try (with_reducible exact True.intro))) <;> (repeat' (with_reducible refine And.intro ?_ ?_)) <;> first | trivial | (exact fun _ _ => trivial) | (simp; done) | (exact fun q hq => cut_at0 q (by simpa using hq)) | (exact fun q hq => cut_at0 q (by omega)) | omega)
    (refine ev ?_; (try (with_reducible exact True.intro)))
    repeat (((with_reducible refine And.intro ?_ ?_)); (focus (first | omega | (simp only [inR]; omega) | rfl | (simp [notinId, notin]; done) | exact Or.inr rfl | (intro i hi; (repeat' (with_reducible first | apply len_cut | apply len_shift | apply len_app | apply len_copy | intro j)) <;> first | rfl | (exact len_lit _ _ (by simp) rfl _) | (simp; done)))))
    refine EffC.freeze 3 rfl ?_
    (refine evL ?_; (try (with_reducible exact True.intro)))
    refine EffC.use a15 ?_ (.inr rfl) ?_
    · ((refine evL ?_; (try (with_reducible exact True.intro))) <;> (repeat' (with_reducible refine And.intro ?_ ?_)) <;> first | trivial | (exact fun _ _ => trivial) | (simp; done) | (exact fun q hq => cut_at0 q (by simpa using hq)) | (exact fun q hq => cut_at0 q (by omega)) | omega)
    (refine ev ?_; (try (with_reducible exact True.intro)))
    repeat (((with_reducible refine And.intro ?_ ?_)); (focus (first | omega | (simp only [inR]; omega) | rfl | (simp [notinId, notin]; done) | exact Or.inr rfl | (intro i hi; (repeat' (with_reducible first | apply len_cut | apply len_shift | apply len_app | apply len_copy | intro j)) <;> first | rfl | (exact len_lit _ _ (by simp) rfl _) | (simp; done)))))
    refine EffC.use a48 ?_ (.inr rfl) ?_
    · simp only [ptrP]
      ((refine evL ?_; (try (with_reducible exact True.intro))) <;> (repeat' (with_reducible refine And.intro ?_ ?_)) <;> first | trivial | (exact fun _ _ => trivial) | (simp; done) | (exact fun q hq => cut_at0 q (by simpa using hq)) | (exact fun q hq => cut_at0 q (by omega)) | omega)
    simp only [regs]
    (refine ev ?_; (try (with_reducible exact True.intro)))
    repeat (((with_reducible refine And.intro ?_ ?_)); (focus (first | omega | (simp only [inR]; omega) | rfl | (simp [notinId, notin]; done) | exact Or.inr rfl | (intro i hi; (repeat' (with_reducible first | apply len_cut | apply len_shift | apply len_app | apply len_copy | intro j)) <;> first | rfl | (exact len_lit _ _ (by simp) rfl _) | (simp; done)))))
    refine ExCall.use a47 ?_ (.inr rfl) ?_
    · ((refine evL ?_; (try (with_reducible exact True.intro))) <;> (repeat' (with_reducible refine And.intro ?_ ?_)) <;> first | trivial | (exact fun _ _ => trivial) | (simp; done) | (exact fun q hq => cut_at0 q (by simpa using hq)) | (exact fun q hq => cut_at0 q (by omega)) | omega)
    (refine ev ?_; (try (with_reducible exact True.intro)))
    repeat (((with_reducible refine And.intro ?_ ?_)); (focus (first | omega | (simp only [inR]; omega) | rfl | (simp [notinId, notin]; done) | exact Or.inr rfl | (intro i hi; (repeat' (with_reducible first | apply len_cut | apply len_shift | apply len_app | apply len_copy | intro j)) <;> first | rfl | (exact len_lit _ _ (by simp) rfl _) | (simp; done)))))
    refine ExCall.use b47 ?_ (.inr rfl) ?_
    · ((refine evL ?_; (try (with_reducible exact True.intro))) <;> (repeat' (with_reducible refine And.intro ?_ ?_)) <;> first | trivial | (exact fun _ _ => trivial) | (simp; done) | (exact fun q hq => cut_at0 q (by simpa using hq)) | (exact fun q hq => cut_at0 q (by omega)) | omega)
    (refine ev ?_; (try (with_reducible exact True.intro)))
    repeat (((with_reducible refine And.intro ?_ ?_)); (focus (first | omega | (simp only [inR]; omega) | rfl | (simp [notinId, notin]; done) | exact Or.inr rfl | (intro i hi; (repeat' (with_reducible first | apply len_cut | apply len_shift | apply len_app | apply len_copy | intro j)) <;> first | rfl | (exact len_lit _ _ (by simp) rfl _) | (simp; done)))))
    ((repeat' (with_reducible refine And.intro ?_ ?_)) <;> first | omega | (simp [notinId]; done) | (exact fun q hq => cut_at0 q (by simpa using hq)) | (exact fun q hq => cut_at0 q (by omega)) | (exact fun _ _ => rfl))
end Go.Proofs.Ythkgnnndlocbbaa
