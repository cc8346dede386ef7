/-
  Attracting within a set, in place, round by round: plain law. No condition.
-/
import Derived.Test.YthkgnnndlocbbaaSe
namespace Go.Proofs.Ythkgnnndlocbbaa
set_option linter.unusedVariables false
set_option linter.unusedSimpArgs false
open Go Go.SH Go.Parity
/-- Whether a position may be attracted, within a set. -/
def canS (ow : List Int) (su : List (List Int)) (pl : Int) (s a : List Bool) (v : Nat) : Bool :=
  if ow.getD v 0 = pl then (su.getD v []).any fun t => s.getD t.toNat false && a.getD t.toNat false else (su.getD v []).all fun t => !s.getD t.toNat false || a.getD t.toNat false
def stS (ow : List Int) (su : List (List Int)) (pl : Int) (s a : List Bool) (v : Nat) : List Bool :=
  if (s.getD v false && !a.getD v false) = true then a.set v (canS ow su pl s a v) else a
def atS (ow : List Int) (su : List (List Int)) (pl : Int) (s T : List Bool) (n : Nat) : Nat → List Bool
  | 0 => T
  | k + 1 => stS ow su pl s (atS ow su pl s T n k) (k % n)
/-- When a position is in, if it is at a time. -/
def ftS (f : Nat → Bool) : Nat → Nat
  | 0 => 0
  | k + 1 => if f k then ftS f k else k + 1
section
variable {ow pr : List Int} {su : List (List Int)} {pl : Int} {s T a b : List Bool} {n v u k j : Nat}
theorem stS_len : (stS ow su pl s a v).length = a.length := by unfold stS; split <;> simp
theorem atS_len : ∀ k, (atS ow su pl s T n k).length = T.length
  | 0 => rfl
  | k + 1 => by rw [atS, stS_len]; exact atS_len k
theorem stS_iff (hv : v < a.length) : inL (stS ow su pl s a v) u ↔ inL a u ∨ (u = v ∧ inL s v ∧ canS ow su pl s a v = true) := by
  show (stS ow su pl s a v).getD u false = true ↔ a.getD u false = true ∨ (u = v ∧ s.getD v false = true ∧ _)
  rw [stS]
  split
  · rename_i h
    rw [Bool.and_eq_true, Bool.not_eq_true'] at h
    rw [getD_set _ _ _ _ _ hv]
    split
    · rename_i e; subst e; rw [h.1, h.2]; simp
    · rename_i e; simp [e]
  · rename_i h
    rw [Bool.and_eq_true, Bool.not_eq_true'] at h
    constructor
    · exact .inl
    · rintro (h1 | ⟨rfl, h1, _⟩)
      · exact h1
      · cases h2 : a.getD u false
        · exact absurd ⟨h1, h2⟩ h
        · rfl
theorem canS_own (ho : ow.getD v 0 = pl) : canS ow su pl s a v = true ↔ ∃ t ∈ (pg ow pr su).sc v, inL s t ∧ inL a t := by
  rw [canS, if_pos ho, List.any_eq_true]
  constructor
  · rintro ⟨t, h1, h2⟩; rw [Bool.and_eq_true] at h2; exact ⟨t.toNat, sc_mem.2 ⟨t, h1, rfl⟩, h2⟩
  · rintro ⟨t, h1, h2⟩
    obtain ⟨y, h3, rfl⟩ := sc_mem.1 h1
    exact ⟨y, h3, by rw [Bool.and_eq_true]; exact h2⟩
theorem canS_oth (ho : ow.getD v 0 ≠ pl) : canS ow su pl s a v = true ↔ ∀ t ∈ (pg ow pr su).sc v, inL s t → inL a t := by
  rw [canS, if_neg ho, List.all_eq_true]
  constructor
  · intro h t ht hs
    obtain ⟨y, h3, rfl⟩ := sc_mem.1 ht
    have := h y h3
    have hs : s.getD y.toNat false = true := hs
    rw [hs, Bool.not_true, Bool.false_or] at this
    exact this
  · intro h t ht
    cases h1 : s.getD t.toNat false
    · rfl
    · have : a.getD t.toNat false = true := h t.toNat (sc_mem.2 ⟨t, ht, rfl⟩) h1
      rw [this]; rfl
theorem canS_mono (hab : ∀ t, inL a t → inL b t) (h : canS ow su pl s a v = true) : canS ow su pl s b v = true := by
  by_cases ho : ow.getD v 0 = pl
  · obtain ⟨t, h1, h2, h3⟩ := (canS_own (pr := []) ho).1 h
    exact (canS_own (pr := []) ho).2 ⟨t, h1, h2, hab t h3⟩
  · exact (canS_oth (pr := []) ho).2 fun t ht hs => hab t ((canS_oth (pr := []) ho).1 h t ht hs)
theorem ftS_spec (f : Nat → Bool) (hm : ∀ k, f k = true → f (k + 1) = true) : ∀ N, f N = true → f (ftS f N) = true ∧ ftS f N ≤ N ∧ ∀ t, f t = true → ftS f N ≤ t
  | 0, h => ⟨h, Nat.le_refl _, fun t _ => Nat.zero_le _⟩
  | N + 1, h => by
    rw [ftS]
    cases h1 : f N
    · refine ⟨h, Nat.le_refl _, fun t ht => ?_⟩
      have mono : ∀ d, f (t + d) = true := by
        intro d
        induction d with
        | zero => exact ht
        | succ d ih => exact hm _ ih
      rcases Nat.lt_or_ge N t with h2 | h2
      · exact h2
      · have := mono (N - t)
        rw [show t + (N - t) = N by omega, h1] at this; cases this
    · have := ftS_spec f hm N h1
      exact ⟨this.1, Nat.le_succ_of_le this.2.1, this.2.2⟩
section
variable (hsl : s.length = n) (hTl : T.length = n) (h0 : 0 < n) (hs : ∀ v, inL T v → inL s v)
include hTl h0
theorem atS_iff (k : Nat) : inL (atS ow su pl s T n (k + 1)) u ↔ inL (atS ow su pl s T n k) u ∨ (u = k % n ∧ inL s u ∧ canS ow su pl s (atS ow su pl s T n k) u = true) := by
  rw [atS, stS_iff (by rw [atS_len, hTl]; exact Nat.mod_lt _ h0)]
  constructor
  · rintro (h | ⟨rfl, h⟩)
    · exact .inl h
    · exact .inr ⟨rfl, h⟩
  · rintro (h | ⟨rfl, h⟩)
    · exact .inl h
    · exact .inr ⟨rfl, h⟩
theorem atS_mono (k : Nat) : ∀ j, inL (atS ow su pl s T n k) u → inL (atS ow su pl s T n (k + j)) u
  | 0, h => h
  | j + 1, h => (atS_iff hTl h0 (k + j)).2 (.inl (atS_mono k j h))
theorem atS_le {k m : Nat} (hk : k ≤ m) (h : inL (atS ow su pl s T n k) u) : inL (atS ow su pl s T n m) u := by
  have := atS_mono hTl h0 k (m - k) h
  rwa [show k + (m - k) = m by omega] at this
include hs in
theorem atS_sub : ∀ k, inL (atS ow su pl s T n k) u → inL s u
  | 0, h => hs u h
  | k + 1, h => by
    rcases (atS_iff hTl h0 k).1 h with h | h
    · exact atS_sub k h
    · exact h.2.1
/-- After a round in which nothing is new, nothing may be attracted any more. -/
theorem atS_round (r : Nat) : (∀ v, inL s v → v < n → ¬ inL (atS ow su pl s T n (r * n)) v → canS ow su pl s (atS ow su pl s T n (r * n)) v = false) ∨ r ≤ (numsOf (atS ow su pl s T n (r * n))).length := by
  induction r with
  | zero => exact .inr (Nat.zero_le _)
  | succ r ih =>
    by_cases hst : ∀ v, inL s v → v < n → ¬ inL (atS ow su pl s T n (r * n)) v → canS ow su pl s (atS ow su pl s T n (r * n)) v = false
    · left
      have same : ∀ i, i ≤ n → atS ow su pl s T n (r * n + i) = atS ow su pl s T n (r * n) := by
        intro i
        induction i with
        | zero => intro _; rfl
        | succ i ih =>
          intro hi
          have ih := ih (by omega)
          have em : (r * n + i) % n = i := by rw [Nat.mul_comm, Nat.mul_add_mod, Nat.mod_eq_of_lt (by omega)]
          rw [← Nat.add_assoc, atS, ih, em, stS]
          split
          · rename_i h
            rw [Bool.and_eq_true, Bool.not_eq_true'] at h
            rw [hst i h.1 (by omega) (by show ¬ _ = true; rw [h.2]; simp)]
            have hl : i < (atS ow su pl s T n (r * n)).length := by rw [atS_len, hTl]; omega
            refine list_eq_of (by simp) fun q hq => ?_
            rw [getD_set _ _ _ _ _ hl]
            split
            · rename_i e; subst e; exact h.2.symm
            · rfl
          · rfl
      have e := same n (Nat.le_refl _)
      rw [show (r + 1) * n = r * n + n by rw [Nat.add_mul, Nat.one_mul], e]
      exact hst
    · right
      have ih := ih.resolve_left hst
      have e1 : (r + 1) * n = r * n + n := by rw [Nat.add_mul, Nat.one_mul]
      obtain ⟨v, hv⟩ := Classical.not_forall.1 hst
      simp only [Classical.not_imp] at hv
      obtain ⟨h1, h2, h3, h4⟩ := hv
      have h4 : canS ow su pl s (atS ow su pl s T n (r * n)) v = true := by simpa using h4
      have em : v = (r * n + v) % n := by rw [Nat.mul_comm, Nat.mul_add_mod, Nat.mod_eq_of_lt h2]
      have hin : inL (atS ow su pl s T n ((r + 1) * n)) v := by
        refine atS_le hTl h0 (k := r * n + v + 1) (by omega) ((atS_iff hTl h0 (r * n + v)).2 (.inr ⟨em, h1, ?_⟩))
        exact canS_mono (fun t ht => atS_mono hTl h0 (r * n) v ht) h4
      have nd : (v :: numsOf (atS ow su pl s T n (r * n))).Nodup := List.nodup_cons.2 ⟨fun hm => h3 (mem_numsOf.1 hm).2, nums_nodup _⟩
      have := nd.length_le_of_subset (l₂ := numsOf (atS ow su pl s T n ((r + 1) * n))) (fun i hi => by
        rcases List.mem_cons.1 hi with rfl | hi
        · exact mem_numsOf.2 ⟨by rw [atS_len, hTl]; exact h2, hin⟩
        · obtain ⟨q1, q2⟩ := mem_numsOf.1 hi
          exact mem_numsOf.2 ⟨by rw [atS_len] at q1 ⊢; exact q1, atS_le hTl h0 (by omega) q2⟩)
      simp only [List.length_cons] at this
      omega
theorem atS_closed (h1 : inL s v) (h2 : v < n) (h3 : ¬ inL (atS ow su pl s T n (n * n)) v) : canS ow su pl s (atS ow su pl s T n (n * n)) v = false := by
  rcases atS_round (ow := ow) (su := su) (pl := pl) (s := s) hTl h0 n with h | h
  · exact h v h1 h2 h3
  · have nd : (v :: numsOf (atS ow su pl s T n (n * n))).Nodup := List.nodup_cons.2 ⟨fun hm => h3 (mem_numsOf.1 hm).2, nums_nodup _⟩
    have := nd.length_le_of_subset (l₂ := List.range n) (fun i hi => by
      rcases List.mem_cons.1 hi with rfl | hi
      · exact List.mem_range.2 h2
      · have := (mem_numsOf.1 hi).1; rw [atS_len, hTl] at this; exact List.mem_range.2 this)
    simp at this; omega
include hs hsl in
theorem attrS : Attr (pg ow pr su) (inL s) pl (inL T) (inL (atS ow su pl s T n (n * n))) := by
  have lt : ∀ v, inL s v → v < n := fun v h => by
    rcases Nat.lt_or_ge v n with h1 | h1
    · exact h1
    · have h : s.getD v false = true := h
      rw [getD_ge _ _ _ (by omega)] at h; cases h
  let f : Nat → Nat → Bool := fun v k => (atS ow su pl s T n k).getD v false
  have fm : ∀ v k, f v k = true → f v (k + 1) = true := fun v k h => atS_le hTl h0 (Nat.le_succ k) h
  refine ⟨fun v h => atS_sub hTl h0 hs _ h, fun v h => atS_le hTl h0 (k := 0) (Nat.zero_le _) h, ⟨fun v => ftS (f v) (n * n), fun v hY hT => ?_⟩, fun v hS hY ho t ht hSt hYt => ?_, fun v hS hY ho => ?_⟩
  · obtain ⟨g1, g2, g3⟩ := ftS_spec (f v) (fm v) (n * n) hY
    obtain ⟨k, hk⟩ : ∃ k, ftS (f v) (n * n) = k := ⟨_, rfl⟩
    simp only
    rw [hk] at g1 g2 g3 ⊢
    cases k with
    | zero => exact absurd g1 hT
    | succ k =>
      have hno : ¬ inL (atS ow su pl s T n k) v := fun h => by have := g3 k h; omega
      obtain ⟨_, c2, c3⟩ := ((atS_iff hTl h0 k).1 g1).resolve_left hno
      have low : ∀ t, inL (atS ow su pl s T n k) t → inL (atS ow su pl s T n (n * n)) t ∧ ftS (f t) (n * n) < k + 1 := fun t ht => by
        have hY' : inL (atS ow su pl s T n (n * n)) t := atS_le hTl h0 (by omega) ht
        have := (ftS_spec (f t) (fm t) (n * n) hY').2.2 k ht
        exact ⟨hY', by omega⟩
      by_cases ho : ow.getD v 0 = pl
      · obtain ⟨t, t1, t2, t3⟩ := (canS_own (pr := pr) ho).1 c3
        exact .inl ⟨ho, t, t1, low t t3⟩
      · exact .inr ⟨ho, fun t ht hSt => low t ((canS_oth (pr := pr) ho).1 c3 t ht hSt)⟩
  · have := atS_closed hTl h0 (ow := ow) (su := su) (pl := pl) (s := s) hS (lt v hS) hY
    rw [(canS_own (pr := pr) ho).2 ⟨t, ht, hSt, hYt⟩] at this; cases this
  · have := atS_closed hTl h0 (ow := ow) (su := su) (pl := pl) (s := s) hS (lt v hS) hY
    apply Classical.byContradiction
    intro hno
    rw [(canS_oth (pr := pr) ho).2 fun t ht hSt => Classical.byContradiction fun h => hno ⟨t, ht, hSt, h⟩] at this; cases this
end
end
section
open Go Go.SH Go.Parity
set_option maxRecDepth 100000
set_option maxHeartbeats 4000000
theorem c65 (s : List Bool) (hs : s.length < 2 ^ 40) : Contract Try.prog 65 [boolRow s] (.one (.val (.bool (s.any fun b => b)))) := by
  refine ct65 (SH.Sem.of_wpA hm ?_)
  simp only [padA]
  simp only [Try.f65, Option.getD, w_skip, w_reg, w_regd, w_seq, w_cond, w_block, w_loop, w_rf, w_exit, w_ret, f_ok, f_call, f_yield, yK_cons, a_normal, r_normal, r_ret, r_exit, rg_cons, putL, frz, beq_self_eq_true, Nat.reduceBEq, updG_same, f_bad, cK_nil, cK_cons, v_nil, v_cons, gK_tt, gK_ff, gK_tf, gK_ft, dK_go, d_nil, d_cons, gD_tt, gD_ff, gD_tf, gD_ft, eC_one, eC_tup, eC_own, eE_ok, eE_bad, eD, eff, eBin, eEq, eUn, eConv, eLen, eMin, eMax, eField, eFieldAddr, eIndex, eIndexAddr, eSlice, eLoad, eStore, eAlloc, eBox, eBuild, eBuildSlice, eMake, eAppend, eCopy, eMakeMap, eMapUpdate, eLookup, lookV, optN, eNil, ePick, eExtract, E.pure, Eff.only, Eff.notB, evalA, AV.ofV, AV.ofC, sget, sput, putA, applyU, hset, hget, hlen, alen, takeA, dropA, spliceA, mapA, allA, lget, oget, pget, tget, cellsA, AV.one, AV.goneB, partA, partC, TK.isAgg, nilish, natA, natC, loN, hiN, optC, roCut, loadP, loadC, aggOr, fillA, fillC, allPos, partsC, partsCells, partsAll, kills, killIds, liveAll, gnd, srcOf, inBlk, mapO, mapP, Go.SH.IntKind.uns, TK.flat, eqSc, eqScC, eqFs, eqFsC, seqK, blockK, condK, l_exit, l_ret, retK, retS, rsV, rsC, allT, padA, mapT, glook, bsel, gsplit_true, gsplit_false, resOf, resIds, resAll, nodupN, notin, like, like1, likeL, likeAll, AV.np, AV.gb, idsR, idsM, retI, retR, reify, AR.v, AR.u, AR.nv, nvec, impV, impU, isAlloc, callOf, countA, upIds, Option.map_none, Option.map_some, Option.isSome_some, Option.isSome_none, List.map_cons, List.map_nil, true_and, and_true, List.cons_append, List.nil_append, List.append_nil, List.length_cons, List.length_nil, List.nodup_nil, List.not_mem_nil, not_false_eq_true, ne_eq, reduceCtorEq, Bool.and_true, Bool.true_and, Bool.not_true, Bool.not_false, if_true, if_false, reduceIte, en_byte, en_byte', en_int, en_int', en_bool, en_bool', en_str, en_str', en_row, en_row', sh_at, sh_at', and_assoc, Nat.zero_add, Nat.add_zero, Nat.reduceAdd, appF_zero, Option.isNone_none, Option.isNone_some, en_byteL, en_intL, en_rowL, Int.reduceToNat, Nat.mul_one, Nat.one_mul, Nat.zero_mul, Nat.reduceMul, Nat.reduceSub, Nat.sub_zero, bne_self_eq_false, ti1, ti2, ti3, ti4, ti5, ti6, ti7, ti8, ti9, ti10, ti11, ti12, ti13, ti14, ti15, ti16, ti17, ti18, ti19, ti21, ti22, ti23, ti24, ti25, ti26, ti27, ti28, ti30, ti31, ti33, ti34, ti35, ti36, ti37, ti38, ti39, ti40, ti41, ti42, ti43, ti45, ti46, ti47, ti48, ti49, ti50, ti51, ti52, ti53, ti54, ti55, ti57, ti58, ti59, ti60, ti61, ti62, ti63, ti64, ti65, ti66, ti67, ti68, ti69, ti70, ti71, ti72, ti73, ti74, ti75, ti76, ti77, ti78, ti79, ti80, ti81, ti82, ti83, ti85, ti86, ti87, ti88, ti89, ti90, ti91, ti92, ti93, ti94, ti95, ti96, ti97, ti98, ti99, ti100, ti101, ti102, ti103, ti104, ti105, ti106, ti107, ti108, ti109]
  refine SH.Sem.loop hm (fun i : Nat => ⟨padA [boolRow s, .undef, .undef, .int .i64 i] 14, []⟩) (fun i => i ≤ s.length ∧ ∀ j, j < i → s.getD j false = false) (fun i => s.length - i) [] 0 ⟨by omega, fun j hj => by omega⟩ ?_ fun i ⟨h1, h2⟩ => ?_
  · simp only [padA, St.le, slotsLe, heapLe, blkLe, rowLe, live, injOn, loLe, nget, nlook, ren, okA, allP, mapA, hget, ABlk.used, notin, List.map_cons, List.map_nil, true_or, or_true, false_or, or_false, true_and, and_true, and_self, AV.int.injEq, AV.bool.injEq, AV.str.injEq, AV.sl.injEq, AV.ro.injEq, AV.agg.injEq, List.cons.injEq, reduceCtorEq, ne_eq, not_false_eq_true, not_true_eq_false]; simp
  simp only [padA]
  (refine ev ?_; (try (with_reducible exact True.intro)))
  refine gsd (fun hd => ?_) (fun hd => ?_)
  · have hi : i < s.length := by omega
    (refine ev ?_; (try (with_reducible exact True.intro)))
    simp only [Int.toNat_natCast]
    repeat (((with_reducible refine And.intro ?_ ?_)); (focus (first | omega | (simp only [inR]; omega) | rfl | (simp [notinId, notin]; done) | exact Or.inr rfl | (intro i hi; (repeat' (with_reducible first | apply len_cut | apply len_shift | apply len_app | apply len_copy | intro j)) <;> first | rfl | (exact len_lit _ _ (by simp) rfl _) | (simp; done)))))
    refine gs (fun h => ?_) (fun h => ?_)
    · have e : (s.any fun b => b) = true := (any_iff s).2 ⟨i, h⟩
      (refine ev ?_; (try (with_reducible exact True.intro)))
      rw [e]
      ((repeat' (with_reducible refine And.intro ?_ ?_)) <;> first | omega | (simp [notinId]; done) | (exact fun q hq => cut_at0 q (by simpa using hq)) | (exact fun q hq => cut_at0 q (by omega)) | (exact fun _ _ => rfl))
    · (refine ev ?_; (try (with_reducible exact True.intro)))
      repeat (((with_reducible refine And.intro ?_ ?_)); (focus (first | omega | (simp only [inR]; omega) | rfl | (simp [notinId, notin]; done) | exact Or.inr rfl | (intro i hi; (repeat' (with_reducible first | apply len_cut | apply len_shift | apply len_app | apply len_copy | intro j)) <;> first | rfl | (exact len_lit _ _ (by simp) rfl _) | (simp; done)))))
      refine ⟨i + 1, [], ⟨by omega, fun j hj => ?_⟩, by show s.length - (i + 1) < s.length - i; omega, ?_⟩
      · rcases Nat.lt_or_ge j i with h3 | h3
        · exact h2 j h3
        · obtain rfl : j = i := by omega
          exact h
      simp only [padA, St.le, slotsLe, heapLe, blkLe, rowLe, live, injOn, loLe, nget, nlook, ren, okA, allP, mapA, hget, ABlk.used, notin, List.map_cons, List.map_nil, true_or, or_true, false_or, or_false, true_and, and_true, and_self, AV.int.injEq, AV.bool.injEq, AV.str.injEq, AV.sl.injEq, AV.ro.injEq, AV.agg.injEq, List.cons.injEq, reduceCtorEq, ne_eq, not_false_eq_true, not_true_eq_false]; simp
  · have e : (s.any fun b => b) = false := by
      cases h3 : s.any fun b => b
      · rfl
      · obtain ⟨v, hv⟩ := (any_iff s).1 h3
        have hv : s.getD v false = true := hv
        rcases Nat.lt_or_ge v s.length with h4 | h4
        · rw [h2 v (by omega)] at hv; cases hv
        · rw [getD_ge _ _ _ h4] at hv; cases hv
    (refine ev ?_; (try (with_reducible exact True.intro)))
    rw [e]
    ((repeat' (with_reducible refine And.intro ?_ ?_)) <;> first | omega | (simp [notinId]; done) | (exact fun q hq => cut_at0 q (by simpa using hq)) | (exact fun q hq => cut_at0 q (by omega)) | (exact fun _ _ => rfl))
def withL (a b : List Bool) : List Bool := (List.range a.length).map fun i => a.getD i false && !b.getD i false
theorem withL_len (a b : List Bool) : (withL a b).length = a.length := by simp [withL]
theorem withL_iff {a b : List Bool} {v : Nat} : inL (withL a b) v ↔ inL a v ∧ ¬ inL b v := by
  show (withL a b).getD v false = true ↔ a.getD v false = true ∧ ¬ b.getD v false = true
  rcases Nat.lt_or_ge v a.length with h | h
  · rw [withL, range_map_getD _ _ _ _ h]; simp
  · rw [getD_ge _ _ _ (by rw [withL_len]; exact h), getD_ge a _ _ h]; simp
theorem c66 (a b : List Bool) (ha : a.length < 2 ^ 40) (hb : a.length ≤ b.length) : ∀ r : AR1, (r = .val (boolRow (withL a b)) ∨ r = .vec 1 a.length (encL cBool false (withL a b))) → Contract Try.prog 66 [boolRow a, boolRow b] (.one r) := by
  intro r hr
  refine ct66 (SH.Sem.of_wpA hm ?_)
  simp only [padA]
  simp only [Try.f66, Option.getD, w_skip, w_reg, w_regd, w_seq, w_cond, w_block, w_loop, w_rf, w_exit, w_ret, f_ok, f_call, f_yield, yK_cons, a_normal, r_normal, r_ret, r_exit, rg_cons, putL, frz, beq_self_eq_true, Nat.reduceBEq, updG_same, f_bad, cK_nil, cK_cons, v_nil, v_cons, gK_tt, gK_ff, gK_tf, gK_ft, dK_go, d_nil, d_cons, gD_tt, gD_ff, gD_tf, gD_ft, eC_one, eC_tup, eC_own, eE_ok, eE_bad, eD, eff, eBin, eEq, eUn, eConv, eLen, eMin, eMax, eField, eFieldAddr, eIndex, eIndexAddr, eSlice, eLoad, eStore, eAlloc, eBox, eBuild, eBuildSlice, eMake, eAppend, eCopy, eMakeMap, eMapUpdate, eLookup, lookV, optN, eNil, ePick, eExtract, E.pure, Eff.only, Eff.notB, evalA, AV.ofV, AV.ofC, sget, sput, putA, applyU, hset, hget, hlen, alen, takeA, dropA, spliceA, mapA, allA, lget, oget, pget, tget, cellsA, AV.one, AV.goneB, partA, partC, TK.isAgg, nilish, natA, natC, loN, hiN, optC, roCut, loadP, loadC, aggOr, fillA, fillC, allPos, partsC, partsCells, partsAll, kills, killIds, liveAll, gnd, srcOf, inBlk, mapO, mapP, Go.SH.IntKind.uns, TK.flat, eqSc, eqScC, eqFs, eqFsC, seqK, blockK, condK, l_exit, l_ret, retK, retS, rsV, rsC, allT, padA, mapT, glook, bsel, gsplit_true, gsplit_false, resOf, resIds, resAll, nodupN, notin, like, like1, likeL, likeAll, AV.np, AV.gb, idsR, idsM, retI, retR, reify, AR.v, AR.u, AR.nv, nvec, impV, impU, isAlloc, callOf, countA, upIds, Option.map_none, Option.map_some, Option.isSome_some, Option.isSome_none, List.map_cons, List.map_nil, true_and, and_true, List.cons_append, List.nil_append, List.append_nil, List.length_cons, List.length_nil, List.nodup_nil, List.not_mem_nil, not_false_eq_true, ne_eq, reduceCtorEq, Bool.and_true, Bool.true_and, Bool.not_true, Bool.not_false, if_true, if_false, reduceIte, en_byte, en_byte', en_int, en_int', en_bool, en_bool', en_str, en_str', en_row, en_row', sh_at, sh_at', and_assoc, Nat.zero_add, Nat.add_zero, Nat.reduceAdd, appF_zero, Option.isNone_none, Option.isNone_some, en_byteL, en_intL, en_rowL, Int.reduceToNat, Nat.mul_one, Nat.one_mul, Nat.zero_mul, Nat.reduceMul, Nat.reduceSub, Nat.sub_zero, bne_self_eq_false, ti1, ti2, ti3, ti4, ti5, ti6, ti7, ti8, ti9, ti10, ti11, ti12, ti13, ti14, ti15, ti16, ti17, ti18, ti19, ti21, ti22, ti23, ti24, ti25, ti26, ti27, ti28, ti30, ti31, ti33, ti34, ti35, ti36, ti37, ti38, ti39, ti40, ti41, ti42, ti43, ti45, ti46, ti47, ti48, ti49, ti50, ti51, ti52, ti53, ti54, ti55, ti57, ti58, ti59, ti60, ti61, ti62, ti63, ti64, ti65, ti66, ti67, ti68, ti69, ti70, ti71, ti72, ti73, ti74, ti75, ti76, ti77, ti78, ti79, ti80, ti81, ti82, ti83, ti85, ti86, ti87, ti88, ti89, ti90, ti91, ti92, ti93, ti94, ti95, ti96, ti97, ti98, ti99, ti100, ti101, ti102, ti103, ti104, ti105, ti106, ti107, ti108, ti109]
  repeat (((with_reducible refine And.intro ?_ ?_)); (focus (first | omega | (simp only [inR]; omega) | rfl | (simp [notinId, notin]; done) | exact Or.inr rfl | (intro i hi; (repeat' (with_reducible first | apply len_cut | apply len_shift | apply len_app | apply len_copy | intro j)) <;> first | rfl | (exact len_lit _ _ (by simp) rfl _) | (simp; done)))))
  refine SH.Sem.adopt 5 1 (encL cBool false []) (by decide) rfl ?_
  simp only [hset, hlen, sput]
  refine SH.Sem.loop hm (fun i : Nat => ⟨padA [boolRow a, boolRow b, .undef, .undef, .undef, .sl 0 0 i, .int .i64 i] 28, [.vec 1 i (encL cBool false ((withL a b).take i))]⟩) (fun i => i ≤ a.length) (fun i => a.length - i) [0] 0 (by omega) ?_ fun i hi0 => ?_
  · simp only [padA, St.le, slotsLe, heapLe, blkLe, rowLe, live, injOn, loLe, nget, nlook, ren, okA, allP, mapA, hget, ABlk.used, notin, List.map_cons, List.map_nil, true_or, or_true, false_or, or_false, true_and, and_true, and_self, AV.int.injEq, AV.bool.injEq, AV.str.injEq, AV.sl.injEq, AV.ro.injEq, AV.agg.injEq, List.cons.injEq, reduceCtorEq, ne_eq, not_false_eq_true, not_true_eq_false]; simp
  simp only [padA]
  (refine ev ?_; (try (with_reducible exact True.intro)))
  refine gsd (fun hd => ?_) (fun hd => ?_)
  · have hi : i < a.length := by omega
    have nx := take_next (withL a b) false i (by rw [withL_len]; exact hi)
    have e : (withL a b).getD i false = (a.getD i false && !b.getD i false) := by rw [withL, range_map_getD _ _ _ _ hi]
    rw [e] at nx
    have tl : i = ((withL a b).take i).length := by rw [List.length_take, withL_len]; omega
    cases h : a.getD i false
    · rw [h, Bool.false_and] at nx
      (refine ev ?_; (try (with_reducible exact True.intro)))
      simp only [Int.toNat_natCast, h]
      repeat (((with_reducible refine And.intro ?_ ?_)); (focus (first | omega | (simp only [inR]; omega) | rfl | (simp [notinId, notin]; done) | exact Or.inr rfl | (intro i hi; (repeat' (with_reducible first | apply len_cut | apply len_shift | apply len_app | apply len_copy | intro j)) <;> first | rfl | (exact len_lit _ _ (by simp) rfl _) | (simp; done)))))
      try (refine ev ?_; (try (with_reducible exact True.intro)))
      repeat (((with_reducible refine And.intro ?_ ?_)); (focus (first | omega | (simp only [inR]; omega) | rfl | (simp [notinId, notin]; done) | exact Or.inr rfl | (intro i hi; (repeat' (with_reducible first | apply len_cut | apply len_shift | apply len_app | apply len_copy | intro j)) <;> first | rfl | (exact len_lit _ _ (by simp) rfl _) | (simp; done)))))
      refine ⟨i + 1, [2], by omega, by show a.length - (i + 1) < a.length - i; omega, ?_⟩
      simp only [padA, St.le, slotsLe, heapLe, blkLe, rowLe, live, injOn, loLe, nget, nlook, ren, okA, allP, mapA, hget, ABlk.used, notin, List.map_cons, List.map_nil, true_or, or_true, false_or, or_false, true_and, and_true, and_self, AV.int.injEq, AV.bool.injEq, AV.str.injEq, AV.sl.injEq, AV.ro.injEq, AV.agg.injEq, List.cons.injEq, reduceCtorEq, ne_eq, not_false_eq_true, not_true_eq_false, nx]
      exact ⟨by omega, fun q hq => app_enc (n := i) (m := 1) tl (fun j h => cut_at0 j h) (fun j h => lit1 (false) rfl j h) q hq⟩
    · rw [h, Bool.true_and] at nx
      (refine ev ?_; (try (with_reducible exact True.intro)))
      simp only [Int.toNat_natCast, h]
      repeat (((with_reducible refine And.intro ?_ ?_)); (focus (first | omega | (simp only [inR]; omega) | rfl | (simp [notinId, notin]; done) | exact Or.inr rfl | (intro i hi; (repeat' (with_reducible first | apply len_cut | apply len_shift | apply len_app | apply len_copy | intro j)) <;> first | rfl | (exact len_lit _ _ (by simp) rfl _) | (simp; done)))))
      try (refine ev ?_; (try (with_reducible exact True.intro)))
      try simp only [Int.toNat_natCast]
      repeat (((with_reducible refine And.intro ?_ ?_)); (focus (first | omega | (simp only [inR]; omega) | rfl | (simp [notinId, notin]; done) | exact Or.inr rfl | (intro i hi; (repeat' (with_reducible first | apply len_cut | apply len_shift | apply len_app | apply len_copy | intro j)) <;> first | rfl | (exact len_lit _ _ (by simp) rfl _) | (simp; done)))))
      refine ⟨i + 1, [2], by omega, by show a.length - (i + 1) < a.length - i; omega, ?_⟩
      simp only [padA, St.le, slotsLe, heapLe, blkLe, rowLe, live, injOn, loLe, nget, nlook, ren, okA, allP, mapA, hget, ABlk.used, notin, List.map_cons, List.map_nil, true_or, or_true, false_or, or_false, true_and, and_true, and_self, AV.int.injEq, AV.bool.injEq, AV.str.injEq, AV.sl.injEq, AV.ro.injEq, AV.agg.injEq, List.cons.injEq, reduceCtorEq, ne_eq, not_false_eq_true, not_true_eq_false, nx]
      exact ⟨by omega, fun q hq => app_enc (n := i) (m := 1) tl (fun j h => cut_at0 j h) (fun j h => lit1 (!b.getD i false) rfl j h) q hq⟩
  · have hi : i = a.length := by omega
    subst hi
    have e : (withL a b).take a.length = withL a b := List.take_of_length_le (by rw [withL_len]; exact Nat.le_refl _)
    rcases hr with rfl | rfl
    · simp -implicitDefEqProofs only [Option.getD, w_skip, w_reg, w_regd, w_seq, w_cond, w_block, w_loop, w_rf, w_exit, w_ret, f_ok, f_call, f_yield, yK_cons, a_normal, r_normal, r_ret, r_exit, rg_cons, putL, frz, beq_self_eq_true, Nat.reduceBEq, updG_same, f_bad, cK_nil, cK_cons, v_nil, v_cons, gK_tt, gK_ff, gK_tf, gK_ft, dK_go, d_nil, d_cons, gD_tt, gD_ff, gD_tf, gD_ft, eC_one, eC_tup, eC_own, eE_ok, eE_bad, eD, eff, eBin, eEq, eUn, eConv, eLen, eMin, eMax, eField, eFieldAddr, eIndex, eIndexAddr, eSlice, eLoad, eStore, eAlloc, eBox, eBuild, eBuildSlice, eMake, eAppend, eCopy, eMakeMap, eMapUpdate, eLookup, lookV, optN, eNil, ePick, eExtract, E.pure, Eff.only, Eff.notB, evalA, AV.ofV, AV.ofC, sget, sput, putA, applyU, hset, hget, hlen, alen, takeA, dropA, spliceA, mapA, allA, lget, oget, pget, tget, cellsA, AV.one, AV.goneB, partA, partC, TK.isAgg, nilish, natA, natC, loN, hiN, optC, roCut, loadP, loadC, aggOr, fillA, fillC, allPos, partsC, partsCells, partsAll, kills, killIds, liveAll, gnd, srcOf, inBlk, mapO, mapP, Go.SH.IntKind.uns, TK.flat, eqSc, eqScC, eqFs, eqFsC, seqK, blockK, condK, l_exit, l_ret, retK, retS, rsV, rsC, allT, padA, mapT, glook, bsel, gsplit_true, gsplit_false, resOf, resIds, resAll, nodupN, notin, like, like1, likeL, likeAll, AV.np, AV.gb, idsR, idsM, retI, retR, reify, AR.v, AR.u, AR.nv, nvec, impV, impU, isAlloc, callOf, countA, upIds, Option.map_none, Option.map_some, Option.isSome_some, Option.isSome_none, List.map_cons, List.map_nil, true_and, and_true, List.cons_append, List.nil_append, List.append_nil, List.length_cons, List.length_nil, List.nodup_nil, List.not_mem_nil, not_false_eq_true, ne_eq, reduceCtorEq, Bool.and_true, Bool.true_and, Bool.not_true, Bool.not_false, if_true, if_false, reduceIte, en_byte, en_byte', en_int, en_int', en_bool, en_bool', en_str, en_str', en_row, en_row', sh_at, sh_at', and_assoc, Nat.zero_add, Nat.add_zero, Nat.reduceAdd, appF_zero, Option.isNone_none, Option.isNone_some, en_byteL, en_intL, en_rowL, Int.reduceToNat, Nat.mul_one, Nat.one_mul, Nat.zero_mul, Nat.reduceMul, Nat.reduceSub, Nat.sub_zero, bne_self_eq_false, ti1, ti2, ti3, ti4, ti5, ti6, ti7, ti8, ti9, ti10, ti11, ti12, ti13, ti14, ti15, ti16, ti17, ti18, ti19, ti21, ti22, ti23, ti24, ti25, ti26, ti27, ti28, ti30, ti31, ti33, ti34, ti35, ti36, ti37, ti38, ti39, ti40, ti41, ti42, ti43, ti45, ti46, ti47, ti48, ti49, ti50, ti51, ti52, ti53, ti54, ti55, ti57, ti58, ti59, ti60, ti61, ti62, ti63, ti64, ti65, ti66, ti67, ti68, ti69, ti70, ti71, ti72, ti73, ti74, ti75, ti76, ti77, ti78, ti79, ti80, ti81, ti82, ti83, ti85, ti86, ti87, ti88, ti89, ti90, ti91, ti92, ti93, ti94, ti95, ti96, ti97, ti98, ti99, ti100, ti101, ti102, ti103, ti104, ti105, ti106, ti107, ti108, ti109, e]
      repeat (((with_reducible refine And.intro ?_ ?_)); (focus (first | omega | (simp only [inR]; omega) | rfl | (simp [notinId, notin]; done) | exact Or.inr rfl | (intro i hi; (repeat' (with_reducible first | apply len_cut | apply len_shift | apply len_app | apply len_copy | intro j)) <;> first | rfl | (exact len_lit _ _ (by simp) rfl _) | (simp; done)))))
      simp only [withL_len]
      ((repeat' (with_reducible refine And.intro ?_ ?_)) <;> first | omega | (simp [notinId]; done) | (exact fun q hq => cut_at0 q (by simpa using hq)) | (exact fun q hq => cut_at0 q (by omega)) | (exact fun _ _ => rfl))
    · simp -implicitDefEqProofs only [Option.getD, w_skip, w_reg, w_regd, w_seq, w_cond, w_block, w_loop, w_rf, w_exit, w_ret, f_ok, f_call, f_yield, yK_cons, a_normal, r_normal, r_ret, r_exit, rg_cons, putL, frz, beq_self_eq_true, Nat.reduceBEq, updG_same, f_bad, cK_nil, cK_cons, v_nil, v_cons, gK_tt, gK_ff, gK_tf, gK_ft, dK_go, d_nil, d_cons, gD_tt, gD_ff, gD_tf, gD_ft, eC_one, eC_tup, eC_own, eE_ok, eE_bad, eD, eff, eBin, eEq, eUn, eConv, eLen, eMin, eMax, eField, eFieldAddr, eIndex, eIndexAddr, eSlice, eLoad, eStore, eAlloc, eBox, eBuild, eBuildSlice, eMake, eAppend, eCopy, eMakeMap, eMapUpdate, eLookup, lookV, optN, eNil, ePick, eExtract, E.pure, Eff.only, Eff.notB, evalA, AV.ofV, AV.ofC, sget, sput, putA, applyU, hset, hget, hlen, alen, takeA, dropA, spliceA, mapA, allA, lget, oget, pget, tget, cellsA, AV.one, AV.goneB, partA, partC, TK.isAgg, nilish, natA, natC, loN, hiN, optC, roCut, loadP, loadC, aggOr, fillA, fillC, allPos, partsC, partsCells, partsAll, kills, killIds, liveAll, gnd, srcOf, inBlk, mapO, mapP, Go.SH.IntKind.uns, TK.flat, eqSc, eqScC, eqFs, eqFsC, seqK, blockK, condK, l_exit, l_ret, retK, retS, rsV, rsC, allT, padA, mapT, glook, bsel, gsplit_true, gsplit_false, resOf, resIds, resAll, nodupN, notin, like, like1, likeL, likeAll, AV.np, AV.gb, idsR, idsM, retI, retR, reify, AR.v, AR.u, AR.nv, nvec, impV, impU, isAlloc, callOf, countA, upIds, Option.map_none, Option.map_some, Option.isSome_some, Option.isSome_none, List.map_cons, List.map_nil, true_and, and_true, List.cons_append, List.nil_append, List.append_nil, List.length_cons, List.length_nil, List.nodup_nil, List.not_mem_nil, not_false_eq_true, ne_eq, reduceCtorEq, Bool.and_true, Bool.true_and, Bool.not_true, Bool.not_false, if_true, if_false, reduceIte, en_byte, en_byte', en_int, en_int', en_bool, en_bool', en_str, en_str', en_row, en_row', sh_at, sh_at', and_assoc, Nat.zero_add, Nat.add_zero, Nat.reduceAdd, appF_zero, Option.isNone_none, Option.isNone_some, en_byteL, en_intL, en_rowL, Int.reduceToNat, Nat.mul_one, Nat.one_mul, Nat.zero_mul, Nat.reduceMul, Nat.reduceSub, Nat.sub_zero, bne_self_eq_false, ti1, ti2, ti3, ti4, ti5, ti6, ti7, ti8, ti9, ti10, ti11, ti12, ti13, ti14, ti15, ti16, ti17, ti18, ti19, ti21, ti22, ti23, ti24, ti25, ti26, ti27, ti28, ti30, ti31, ti33, ti34, ti35, ti36, ti37, ti38, ti39, ti40, ti41, ti42, ti43, ti45, ti46, ti47, ti48, ti49, ti50, ti51, ti52, ti53, ti54, ti55, ti57, ti58, ti59, ti60, ti61, ti62, ti63, ti64, ti65, ti66, ti67, ti68, ti69, ti70, ti71, ti72, ti73, ti74, ti75, ti76, ti77, ti78, ti79, ti80, ti81, ti82, ti83, ti85, ti86, ti87, ti88, ti89, ti90, ti91, ti92, ti93, ti94, ti95, ti96, ti97, ti98, ti99, ti100, ti101, ti102, ti103, ti104, ti105, ti106, ti107, ti108, ti109, e]
      repeat (((with_reducible refine And.intro ?_ ?_)); (focus (first | omega | (simp only [inR]; omega) | rfl | (simp [notinId, notin]; done) | exact Or.inr rfl | (intro i hi; (repeat' (with_reducible first | apply len_cut | apply len_shift | apply len_app | apply len_copy | intro j)) <;> first | rfl | (exact len_lit _ _ (by simp) rfl _) | (simp; done)))))
      exact fun _ _ => trivial
/-- To hold what follows out of sight. -/
theorem semCont {P : Program} {lo : Cx} {c : Code} {st : St} {K : Exit → St → Prop} (h : ∀ K' : Exit → St → Prop, (∀ e s, K e s → K' e s) → SH.Sem P lo c K' st) : SH.Sem P lo c K st := h K fun _ _ h => h
def anyK (s a : List Bool) (l : List Int) : Bool := l.any fun t => s.getD t.toNat false && a.getD t.toNat false
def allK (s a : List Bool) (l : List Int) : Bool := l.all fun t => !s.getD t.toNat false || a.getD t.toNat false
theorem anyK_next (s a : List Bool) (l : List Int) (x : Int) : anyK s a (l ++ [x]) = (anyK s a l || (s.getD x.toNat false && a.getD x.toNat false)) := by simp [anyK]
theorem allK_next (s a : List Bool) (l : List Int) (x : Int) : allK s a (l ++ [x]) = (allK s a l && (!s.getD x.toNat false || a.getD x.toNat false)) := by simp [allK]
theorem c67 (ow pr : List Int) (su : List (List Int)) (pl : Int) (s T : List Bool) (hv : validB ow pr su = true) (hr20 : ∀ r ∈ su, r.length ≤ 2 ^ 20) (n : Nat) (hn : ow.length = n) (h0 : 0 < n) (hsl : s.length = n) (hTl : T.length = n) : ∀ r : AR1, (r = .val (boolRow (atS ow su pl s T n (n * n))) ∨ r = .vec 1 n (encL cBool false (atS ow su pl s T n (n * n)))) →
    Contract Try.prog 67 [game ow pr su, boolRow s, .int .i64 pl, boolRow T] (.one r) := by
  intro r hr
  obtain ⟨v1, v2, v3, v4⟩ := validB_spec hv
  refine ct67 (SH.Sem.of_wpA hm ?_)
  simp only [padA]
  simp only [Try.f67, Option.getD, w_skip, w_reg, w_regd, w_seq, w_cond, w_block, w_loop, w_rf, w_exit, w_ret, f_ok, f_call, f_yield, yK_cons, a_normal, r_normal, r_ret, r_exit, rg_cons, putL, frz, beq_self_eq_true, Nat.reduceBEq, updG_same, f_bad, cK_nil, cK_cons, v_nil, v_cons, gK_tt, gK_ff, gK_tf, gK_ft, dK_go, d_nil, d_cons, gD_tt, gD_ff, gD_tf, gD_ft, eC_one, eC_tup, eC_own, eE_ok, eE_bad, eD, eff, eBin, eEq, eUn, eConv, eLen, eMin, eMax, eField, eFieldAddr, eIndex, eIndexAddr, eSlice, eLoad, eStore, eAlloc, eBox, eBuild, eBuildSlice, eMake, eAppend, eCopy, eMakeMap, eMapUpdate, eLookup, lookV, optN, eNil, ePick, eExtract, E.pure, Eff.only, Eff.notB, evalA, AV.ofV, AV.ofC, sget, sput, putA, applyU, hset, hget, hlen, alen, takeA, dropA, spliceA, mapA, allA, lget, oget, pget, tget, cellsA, AV.one, AV.goneB, partA, partC, TK.isAgg, nilish, natA, natC, loN, hiN, optC, roCut, loadP, loadC, aggOr, fillA, fillC, allPos, partsC, partsCells, partsAll, kills, killIds, liveAll, gnd, srcOf, inBlk, mapO, mapP, Go.SH.IntKind.uns, TK.flat, eqSc, eqScC, eqFs, eqFsC, seqK, blockK, condK, l_exit, l_ret, retK, retS, rsV, rsC, allT, padA, mapT, glook, bsel, gsplit_true, gsplit_false, resOf, resIds, resAll, nodupN, notin, like, like1, likeL, likeAll, AV.np, AV.gb, idsR, idsM, retI, retR, reify, AR.v, AR.u, AR.nv, nvec, impV, impU, isAlloc, callOf, countA, upIds, Option.map_none, Option.map_some, Option.isSome_some, Option.isSome_none, List.map_cons, List.map_nil, true_and, and_true, List.cons_append, List.nil_append, List.append_nil, List.length_cons, List.length_nil, List.nodup_nil, List.not_mem_nil, not_false_eq_true, ne_eq, reduceCtorEq, Bool.and_true, Bool.true_and, Bool.not_true, Bool.not_false, if_true, if_false, reduceIte, en_byte, en_byte', en_int, en_int', en_bool, en_bool', en_str, en_str', en_row, en_row', sh_at, sh_at', and_assoc, Nat.zero_add, Nat.add_zero, Nat.reduceAdd, appF_zero, Option.isNone_none, Option.isNone_some, en_byteL, en_intL, en_rowL, Int.reduceToNat, Nat.mul_one, Nat.one_mul, Nat.zero_mul, Nat.reduceMul, Nat.reduceSub, Nat.sub_zero, bne_self_eq_false, ti1, ti2, ti3, ti4, ti5, ti6, ti7, ti8, ti9, ti10, ti11, ti12, ti13, ti14, ti15, ti16, ti17, ti18, ti19, ti21, ti22, ti23, ti24, ti25, ti26, ti27, ti28, ti30, ti31, ti33, ti34, ti35, ti36, ti37, ti38, ti39, ti40, ti41, ti42, ti43, ti45, ti46, ti47, ti48, ti49, ti50, ti51, ti52, ti53, ti54, ti55, ti57, ti58, ti59, ti60, ti61, ti62, ti63, ti64, ti65, ti66, ti67, ti68, ti69, ti70, ti71, ti72, ti73, ti74, ti75, ti76, ti77, ti78, ti79, ti80, ti81, ti82, ti83, ti85, ti86, ti87, ti88, ti89, ti90, ti91, ti92, ti93, ti94, ti95, ti96, ti97, ti98, ti99, ti100, ti101, ti102, ti103, ti104, ti105, ti106, ti107, ti108, ti109]
  repeat (((with_reducible refine And.intro ?_ ?_)); (focus (first | omega | (simp only [inR]; omega) | rfl | (simp [notinId, notin]; done) | exact Or.inr rfl | (intro i hi; (repeat' (with_reducible first | apply len_cut | apply len_shift | apply len_app | apply len_copy | intro j)) <;> first | rfl | (exact len_lit _ _ (by simp) rfl _) | (simp; done)))))
  simp only [hTl]
  have al : ∀ k, (atS ow su pl s T n k).length = n := fun k => by rw [atS_len, hTl]
  refine SH.Sem.loop hm (fun q : Nat => ⟨padA [.undef, boolRow s, .int .i64 pl, .undef, .ptr 0 0 0, .undef, .undef, .undef, .undef, .sl 1 0 n, .int .i64 q] 106, [.box [intRow ow, intRow pr, intRows su], .vec 1 n (encL cBool false (atS ow su pl s T n (q * n)))]⟩) (fun q => q ≤ n) (fun q => n - q) [0, 2] 0 (by omega) ?_ fun q hq0 => ?_
  · simp only [padA, St.le, slotsLe, heapLe, blkLe, rowLe, live, injOn, loLe, nget, nlook, ren, okA, allP, mapA, hget, ABlk.used, notin, List.map_cons, List.map_nil, true_or, or_true, false_or, or_false, true_and, and_true, and_self, AV.int.injEq, AV.bool.injEq, AV.str.injEq, AV.sl.injEq, AV.ro.injEq, AV.agg.injEq, List.cons.injEq, reduceCtorEq, ne_eq, not_false_eq_true, not_true_eq_false]
    exact ⟨rfl, fun i hi => by rw [Nat.zero_mul]; rfl⟩
  simp only [padA]
  (refine ev ?_; (try (with_reducible exact True.intro)))
  repeat (((with_reducible refine And.intro ?_ ?_)); (focus (first | omega | (simp only [inR]; omega) | rfl | (simp [notinId, notin]; done) | exact Or.inr rfl | (intro i hi; (repeat' (with_reducible first | apply len_cut | apply len_shift | apply len_app | apply len_copy | intro j)) <;> first | rfl | (exact len_lit _ _ (by simp) rfl _) | (simp; done)))))
  refine gsd (fun hd => ?_) (fun hd => ?_)
  · have hq : q < n := by omega
    (refine ev ?_; (try (with_reducible exact True.intro)))
    repeat (((with_reducible refine And.intro ?_ ?_)); (focus (first | omega | (simp only [inR]; omega) | rfl | (simp [notinId, notin]; done) | exact Or.inr rfl | (intro i hi; (repeat' (with_reducible first | apply len_cut | apply len_shift | apply len_app | apply len_copy | intro j)) <;> first | rfl | (exact len_lit _ _ (by simp) rfl _) | (simp; done)))))
    refine semCont (fun K2 hK2 => ?_)
    refine SH.Sem.loop hm (fun i : Nat => ⟨padA [.undef, boolRow s, .int .i64 pl, .undef, .ptr 0 0 0, .undef, .undef, .undef, .undef, .sl 1 0 n, .int .i64 q, .int .i64 i] 106, [.box [intRow ow, intRow pr, intRows su], .vec 1 n (encL cBool false (atS ow su pl s T n (q * n + i)))]⟩) (fun i => i ≤ n) (fun i => n - i) [0, 1] 0 (by omega) ?_ fun i hi0 => ?_
    · simp only [padA, St.le, slotsLe, heapLe, blkLe, rowLe, live, injOn, loLe, nget, nlook, ren, okA, allP, mapA, hget, ABlk.used, notin, List.map_cons, List.map_nil, true_or, or_true, false_or, or_false, true_and, and_true, and_self, AV.int.injEq, AV.bool.injEq, AV.str.injEq, AV.sl.injEq, AV.ro.injEq, AV.agg.injEq, List.cons.injEq, reduceCtorEq, ne_eq, not_false_eq_true, not_true_eq_false]; simp
    simp only [padA]
    (refine ev ?_; (try (with_reducible exact True.intro)))
    repeat (((with_reducible refine And.intro ?_ ?_)); (focus (first | omega | (simp only [inR]; omega) | rfl | (simp [notinId, notin]; done) | exact Or.inr rfl | (intro i hi; (repeat' (with_reducible first | apply len_cut | apply len_shift | apply len_app | apply len_copy | intro j)) <;> first | rfl | (exact len_lit _ _ (by simp) rfl _) | (simp; done)))))
    refine gsd (fun hd2 => ?_) (fun hd2 => ?_)
    · have hi : i < n := by omega
      have em : (q * n + i) % n = i := by rw [Nat.mul_comm, Nat.mul_add_mod, Nat.mod_eq_of_lt hi]
      have nx : atS ow su pl s T n (q * n + (i + 1)) = stS ow su pl s (atS ow su pl s T n (q * n + i)) i := by rw [← Nat.add_assoc, atS, em]
      have al' := al (q * n + i)
      generalize atS ow su pl s T n (q * n + i) = A at *
      cases hsi : s.getD i false
      · have nx : atS ow su pl s T n (q * n + (i + 1)) = A := by rw [nx, stS, hsi]; rfl
        (refine ev ?_; (try (with_reducible exact True.intro)))
        simp only [Int.toNat_natCast, hsi, Bool.not_false]
        repeat (((with_reducible refine And.intro ?_ ?_)); (focus (first | omega | (simp only [inR]; omega) | rfl | (simp [notinId, notin]; done) | exact Or.inr rfl | (intro i hi; (repeat' (with_reducible first | apply len_cut | apply len_shift | apply len_app | apply len_copy | intro j)) <;> first | rfl | (exact len_lit _ _ (by simp) rfl _) | (simp; done)))))
        try (refine ev ?_; (try (with_reducible exact True.intro)))
        repeat (((with_reducible refine And.intro ?_ ?_)); (focus (first | omega | (simp only [inR]; omega) | rfl | (simp [notinId, notin]; done) | exact Or.inr rfl | (intro i hi; (repeat' (with_reducible first | apply len_cut | apply len_shift | apply len_app | apply len_copy | intro j)) <;> first | rfl | (exact len_lit _ _ (by simp) rfl _) | (simp; done)))))
        refine ⟨i + 1, [0, 1], by omega, by show n - (i + 1) < n - i; omega, ?_⟩
        simp only [padA, St.le, slotsLe, heapLe, blkLe, rowLe, live, injOn, loLe, nget, nlook, ren, okA, allP, mapA, hget, ABlk.used, notin, List.map_cons, List.map_nil, true_or, or_true, false_or, or_false, true_and, and_true, and_self, AV.int.injEq, AV.bool.injEq, AV.str.injEq, AV.sl.injEq, AV.ro.injEq, AV.agg.injEq, List.cons.injEq, reduceCtorEq, ne_eq, not_false_eq_true, not_true_eq_false, nx]; simp
      cases hAi : A.getD i false
      rotate_left
      · have nx : atS ow su pl s T n (q * n + (i + 1)) = A := by rw [nx, stS, hsi, hAi]; rfl
        (refine ev ?_; (try (with_reducible exact True.intro)))
        simp only [Int.toNat_natCast, hsi, hAi, Bool.not_true]
        repeat (((with_reducible refine And.intro ?_ ?_)); (focus (first | omega | (simp only [inR]; omega) | rfl | (simp [notinId, notin]; done) | exact Or.inr rfl | (intro i hi; (repeat' (with_reducible first | apply len_cut | apply len_shift | apply len_app | apply len_copy | intro j)) <;> first | rfl | (exact len_lit _ _ (by simp) rfl _) | (simp; done)))))
        try (refine ev ?_; (try (with_reducible exact True.intro)))
        try simp only [Int.toNat_natCast, hAi]
        repeat (((with_reducible refine And.intro ?_ ?_)); (focus (first | omega | (simp only [inR]; omega) | rfl | (simp [notinId, notin]; done) | exact Or.inr rfl | (intro i hi; (repeat' (with_reducible first | apply len_cut | apply len_shift | apply len_app | apply len_copy | intro j)) <;> first | rfl | (exact len_lit _ _ (by simp) rfl _) | (simp; done)))))
        try (refine ev ?_; (try (with_reducible exact True.intro)))
        repeat (((with_reducible refine And.intro ?_ ?_)); (focus (first | omega | (simp only [inR]; omega) | rfl | (simp [notinId, notin]; done) | exact Or.inr rfl | (intro i hi; (repeat' (with_reducible first | apply len_cut | apply len_shift | apply len_app | apply len_copy | intro j)) <;> first | rfl | (exact len_lit _ _ (by simp) rfl _) | (simp; done)))))
        refine ⟨i + 1, [0, 1], by omega, by show n - (i + 1) < n - i; omega, ?_⟩
        simp only [padA, St.le, slotsLe, heapLe, blkLe, rowLe, live, injOn, loLe, nget, nlook, ren, okA, allP, mapA, hget, ABlk.used, notin, List.map_cons, List.map_nil, true_or, or_true, false_or, or_false, true_and, and_true, and_self, AV.int.injEq, AV.bool.injEq, AV.str.injEq, AV.sl.injEq, AV.ro.injEq, AV.agg.injEq, List.cons.injEq, reduceCtorEq, ne_eq, not_false_eq_true, not_true_eq_false, nx]; simp
      have nx : atS ow su pl s T n (q * n + (i + 1)) = A.set i (canS ow su pl s A i) := by rw [nx, stS, hsi, hAi]; rfl
      (refine ev ?_; (try (with_reducible exact True.intro)))
      simp only [Int.toNat_natCast, hsi, hAi, Bool.not_true]
      repeat (((with_reducible refine And.intro ?_ ?_)); (focus (first | omega | (simp only [inR]; omega) | rfl | (simp [notinId, notin]; done) | exact Or.inr rfl | (intro i hi; (repeat' (with_reducible first | apply len_cut | apply len_shift | apply len_app | apply len_copy | intro j)) <;> first | rfl | (exact len_lit _ _ (by simp) rfl _) | (simp; done)))))
      try (refine ev ?_; (try (with_reducible exact True.intro)))
      try simp only [Int.toNat_natCast, hAi]
      repeat (((with_reducible refine And.intro ?_ ?_)); (focus (first | omega | (simp only [inR]; omega) | rfl | (simp [notinId, notin]; done) | exact Or.inr rfl | (intro i hi; (repeat' (with_reducible first | apply len_cut | apply len_shift | apply len_app | apply len_copy | intro j)) <;> first | rfl | (exact len_lit _ _ (by simp) rfl _) | (simp; done)))))
      try (refine ev ?_; (try (with_reducible exact True.intro)))
      repeat (((with_reducible refine And.intro ?_ ?_)); (focus (first | omega | (simp only [inR]; omega) | rfl | (simp [notinId, notin]; done) | exact Or.inr rfl | (intro i hi; (repeat' (with_reducible first | apply len_cut | apply len_shift | apply len_app | apply len_copy | intro j)) <;> first | rfl | (exact len_lit _ _ (by simp) rfl _) | (simp; done)))))
      obtain ⟨row, hrow⟩ : ∃ row, su.getD i [] = row := ⟨_, rfl⟩
      have w3 := (v4 i (by omega)).2.2
      have hrl := hr20 _ (getD_mem (show i < su.length by omega) [])
      rw [hrow] at w3 hrl
      refine semCont (fun K3 hK3 => ?_)
      refine SH.Sem.loop hm (fun k : Nat => ⟨padA [.undef, boolRow s, .int .i64 pl, .undef, .ptr 0 0 0, .undef, .undef, .undef, .undef, .sl 1 0 n, .int .i64 q, .int .i64 i, .bool (anyK s A (row.take k)), .bool (allK s A (row.take k)), .int .i64 k] 106, [.box [intRow ow, intRow pr, intRows su], .vec 1 n (encL cBool false A)]⟩) (fun k => k ≤ row.length) (fun k => row.length - k) [0, 1] 0 (by omega) ?_ fun k hk0 => ?_
      · simp only [padA, St.le, slotsLe, heapLe, blkLe, rowLe, live, injOn, loLe, nget, nlook, ren, okA, allP, mapA, hget, ABlk.used, notin, List.map_cons, List.map_nil, true_or, or_true, false_or, or_false, true_and, and_true, and_self, AV.int.injEq, AV.bool.injEq, AV.str.injEq, AV.sl.injEq, AV.ro.injEq, AV.agg.injEq, List.cons.injEq, reduceCtorEq, ne_eq, not_false_eq_true, not_true_eq_false]; simp [anyK, allK]
      simp only [padA]
      (refine ev ?_; (try (with_reducible exact True.intro)))
      simp only [Int.toNat_natCast, hrow]
      repeat (((with_reducible refine And.intro ?_ ?_)); (focus (first | omega | (simp only [inR]; omega) | rfl | (simp [notinId, notin]; done) | exact Or.inr rfl | (intro i hi; (repeat' (with_reducible first | apply len_cut | apply len_shift | apply len_app | apply len_copy | intro j)) <;> first | rfl | (exact len_lit _ _ (by simp) rfl _) | (simp; done)))))
      refine gsd (fun hd3 => ?_) (fun hd3 => ?_)
      · have hk : k < row.length := by omega
        obtain ⟨y, hy⟩ : ∃ y, row.getD k 0 = y := ⟨_, rfl⟩
        have w3 := w3 _ (getD_mem hk 0)
        have nk := take_next row 0 k hk
        rw [hy] at w3 nk
        obtain ⟨yn, rfl⟩ : ∃ yn : Nat, y = yn := ⟨y.toNat, by omega⟩
        have an := anyK_next s A (row.take k) yn
        have al2 := allK_next s A (row.take k) yn
        rw [← nk, Int.toNat_natCast] at an al2
        generalize anyK s A (row.take k) = an0 at *
        generalize allK s A (row.take k) = al0 at *
        (refine ev ?_; (try (with_reducible exact True.intro)))
        simp only [Int.toNat_natCast, hrow, hy]
        repeat (((with_reducible refine And.intro ?_ ?_)); (focus (first | omega | (simp only [inR]; omega) | rfl | (simp [notinId, notin]; done) | exact Or.inr rfl | (intro i hi; (repeat' (with_reducible first | apply len_cut | apply len_shift | apply len_app | apply len_copy | intro j)) <;> first | rfl | (exact len_lit _ _ (by simp) rfl _) | (simp; done)))))
        cases hsy : s.getD yn false
        · rw [hsy, Bool.false_and, Bool.or_false] at an
          rw [hsy, Bool.not_false, Bool.true_or, Bool.and_true] at al2
          try (refine ev ?_; (try (with_reducible exact True.intro)))
          repeat (((with_reducible refine And.intro ?_ ?_)); (focus (first | omega | (simp only [inR]; omega) | rfl | (simp [notinId, notin]; done) | exact Or.inr rfl | (intro i hi; (repeat' (with_reducible first | apply len_cut | apply len_shift | apply len_app | apply len_copy | intro j)) <;> first | rfl | (exact len_lit _ _ (by simp) rfl _) | (simp; done)))))
          refine ⟨k + 1, [0, 1], by omega, by show row.length - (k + 1) < row.length - k; omega, ?_⟩
          simp only [padA, St.le, slotsLe, heapLe, blkLe, rowLe, live, injOn, loLe, nget, nlook, ren, okA, allP, mapA, hget, ABlk.used, notin, List.map_cons, List.map_nil, true_or, or_true, false_or, or_false, true_and, and_true, and_self, AV.int.injEq, AV.bool.injEq, AV.str.injEq, AV.sl.injEq, AV.ro.injEq, AV.agg.injEq, List.cons.injEq, reduceCtorEq, ne_eq, not_false_eq_true, not_true_eq_false, an, al2]; simp
        · rw [hsy, Bool.true_and] at an
          rw [hsy, Bool.not_true, Bool.false_or] at al2
          cases an0 <;> cases al0
          all_goals (refine ev ?_; (try (with_reducible exact True.intro)))
          all_goals try simp only [Int.toNat_natCast]
          all_goals repeat (((with_reducible refine And.intro ?_ ?_)); (focus (first | omega | (simp only [inR]; omega) | rfl | (simp [notinId, notin]; done) | exact Or.inr rfl | (intro i hi; (repeat' (with_reducible first | apply len_cut | apply len_shift | apply len_app | apply len_copy | intro j)) <;> first | rfl | (exact len_lit _ _ (by simp) rfl _) | (simp; done)))))
          all_goals refine ⟨k + 1, [0, 1], by omega, by show row.length - (k + 1) < row.length - k; omega, ?_⟩
          all_goals simp only [padA, St.le, slotsLe, heapLe, blkLe, rowLe, live, injOn, loLe, nget, nlook, ren, okA, allP, mapA, hget, ABlk.used, notin, List.map_cons, List.map_nil, true_or, or_true, false_or, or_false, true_and, and_true, and_self, AV.int.injEq, AV.bool.injEq, AV.str.injEq, AV.sl.injEq, AV.ro.injEq, AV.agg.injEq, List.cons.injEq, reduceCtorEq, ne_eq, not_false_eq_true, not_true_eq_false, an, al2]
          all_goals simp
      · have hk : k = row.length := by omega
        subst hk
        simp -implicitDefEqProofs only [Option.getD, w_skip, w_reg, w_regd, w_seq, w_cond, w_block, w_loop, w_rf, w_exit, w_ret, f_ok, f_call, f_yield, yK_cons, a_normal, r_normal, r_ret, r_exit, rg_cons, putL, frz, beq_self_eq_true, Nat.reduceBEq, updG_same, f_bad, cK_nil, cK_cons, v_nil, v_cons, gK_tt, gK_ff, gK_tf, gK_ft, dK_go, d_nil, d_cons, gD_tt, gD_ff, gD_tf, gD_ft, eC_one, eC_tup, eC_own, eE_ok, eE_bad, eD, eff, eBin, eEq, eUn, eConv, eLen, eMin, eMax, eField, eFieldAddr, eIndex, eIndexAddr, eSlice, eLoad, eStore, eAlloc, eBox, eBuild, eBuildSlice, eMake, eAppend, eCopy, eMakeMap, eMapUpdate, eLookup, lookV, optN, eNil, ePick, eExtract, E.pure, Eff.only, Eff.notB, evalA, AV.ofV, AV.ofC, sget, sput, putA, applyU, hset, hget, hlen, alen, takeA, dropA, spliceA, mapA, allA, lget, oget, pget, tget, cellsA, AV.one, AV.goneB, partA, partC, TK.isAgg, nilish, natA, natC, loN, hiN, optC, roCut, loadP, loadC, aggOr, fillA, fillC, allPos, partsC, partsCells, partsAll, kills, killIds, liveAll, gnd, srcOf, inBlk, mapO, mapP, Go.SH.IntKind.uns, TK.flat, eqSc, eqScC, eqFs, eqFsC, seqK, blockK, condK, l_exit, l_ret, retK, retS, rsV, rsC, allT, padA, mapT, glook, bsel, gsplit_true, gsplit_false, resOf, resIds, resAll, nodupN, notin, like, like1, likeL, likeAll, AV.np, AV.gb, idsR, idsM, retI, retR, reify, AR.v, AR.u, AR.nv, nvec, impV, impU, isAlloc, callOf, countA, upIds, Option.map_none, Option.map_some, Option.isSome_some, Option.isSome_none, List.map_cons, List.map_nil, true_and, and_true, List.cons_append, List.nil_append, List.append_nil, List.length_cons, List.length_nil, List.nodup_nil, List.not_mem_nil, not_false_eq_true, ne_eq, reduceCtorEq, Bool.and_true, Bool.true_and, Bool.not_true, Bool.not_false, if_true, if_false, reduceIte, en_byte, en_byte', en_int, en_int', en_bool, en_bool', en_str, en_str', en_row, en_row', sh_at, sh_at', and_assoc, Nat.zero_add, Nat.add_zero, Nat.reduceAdd, appF_zero, Option.isNone_none, Option.isNone_some, en_byteL, en_intL, en_rowL, Int.reduceToNat, Nat.mul_one, Nat.one_mul, Nat.zero_mul, Nat.reduceMul, Nat.reduceSub, Nat.sub_zero, bne_self_eq_false, ti1, ti2, ti3, ti4, ti5, ti6, ti7, ti8, ti9, ti10, ti11, ti12, ti13, ti14, ti15, ti16, ti17, ti18, ti19, ti21, ti22, ti23, ti24, ti25, ti26, ti27, ti28, ti30, ti31, ti33, ti34, ti35, ti36, ti37, ti38, ti39, ti40, ti41, ti42, ti43, ti45, ti46, ti47, ti48, ti49, ti50, ti51, ti52, ti53, ti54, ti55, ti57, ti58, ti59, ti60, ti61, ti62, ti63, ti64, ti65, ti66, ti67, ti68, ti69, ti70, ti71, ti72, ti73, ti74, ti75, ti76, ti77, ti78, ti79, ti80, ti81, ti82, ti83, ti85, ti86, ti87, ti88, ti89, ti90, ti91, ti92, ti93, ti94, ti95, ti96, ti97, ti98, ti99, ti100, ti101, ti102, ti103, ti104, ti105, ti106, ti107, ti108, ti109, List.take_length]
        refine hK3 _ _ ?_
        (refine ev ?_; (try (with_reducible exact True.intro)))
        simp only [Int.toNat_natCast]
        repeat (((with_reducible refine And.intro ?_ ?_)); (focus (first | omega | (simp only [inR]; omega) | rfl | (simp [notinId, notin]; done) | exact Or.inr rfl | (intro i hi; (repeat' (with_reducible first | apply len_cut | apply len_shift | apply len_app | apply len_copy | intro j)) <;> first | rfl | (exact len_lit _ _ (by simp) rfl _) | (simp; done)))))
        have ce : canS ow su pl s A i = if ow.getD i 0 = pl then anyK s A row else allK s A row := by rw [canS, hrow]; rfl
        generalize anyK s A row = an0 at *
        generalize allK s A row = al0 at *
        have u := updF_enc (e := cBool) (d := false) (xs := A) (k := i) (canS ow su pl s A i) (by omega)
        rw [← nx] at u
        cases ho : (ow.getD i 0 == pl)
        · have ho2 : (ow.getD i 0 != pl) = true := by rw [bne, ho]; rfl
          rw [if_neg (by simpa using ho)] at ce
          rw [ce] at u
          have u : updF (encL cBool false A) i [.bool al0] = encL cBool false (atS ow su pl s T n (q * n + (i + 1))) := u
          (refine ev ?_; (try (with_reducible exact True.intro)))
          try simp only [Int.toNat_natCast, ho2]
          try (refine ev ?_; (try (with_reducible exact True.intro)))
          repeat (((with_reducible refine And.intro ?_ ?_)); (focus (first | omega | (simp only [inR]; omega) | rfl | (simp [notinId, notin]; done) | exact Or.inr rfl | (intro i hi; (repeat' (with_reducible first | apply len_cut | apply len_shift | apply len_app | apply len_copy | intro j)) <;> first | rfl | (exact len_lit _ _ (by simp) rfl _) | (simp; done)))))
          try simp only [Int.toNat_natCast]
          simp only [u]
          refine ⟨i + 1, [0, 1], by omega, by show n - (i + 1) < n - i; omega, ?_⟩
          simp only [padA, St.le, slotsLe, heapLe, blkLe, rowLe, live, injOn, loLe, nget, nlook, ren, okA, allP, mapA, hget, ABlk.used, notin, List.map_cons, List.map_nil, true_or, or_true, false_or, or_false, true_and, and_true, and_self, AV.int.injEq, AV.bool.injEq, AV.str.injEq, AV.sl.injEq, AV.ro.injEq, AV.agg.injEq, List.cons.injEq, reduceCtorEq, ne_eq, not_false_eq_true, not_true_eq_false]
          simp
        · have ho2 : (ow.getD i 0 != pl) = false := by rw [bne, ho]; rfl
          rw [if_pos (by simpa using ho)] at ce
          rw [ce] at u
          have u : updF (encL cBool false A) i [.bool an0] = encL cBool false (atS ow su pl s T n (q * n + (i + 1))) := u
          cases an0
          all_goals (refine ev ?_; (try (with_reducible exact True.intro)))
          all_goals try simp only [Int.toNat_natCast, ho2]
          all_goals try (refine ev ?_; (try (with_reducible exact True.intro)))
          all_goals repeat (((with_reducible refine And.intro ?_ ?_)); (focus (first | omega | (simp only [inR]; omega) | rfl | (simp [notinId, notin]; done) | exact Or.inr rfl | (intro i hi; (repeat' (with_reducible first | apply len_cut | apply len_shift | apply len_app | apply len_copy | intro j)) <;> first | rfl | (exact len_lit _ _ (by simp) rfl _) | (simp; done)))))
          all_goals try simp only [Int.toNat_natCast]
          all_goals simp only [u]
          all_goals refine ⟨i + 1, [0, 1], by omega, by show n - (i + 1) < n - i; omega, ?_⟩
          all_goals simp only [padA, St.le, slotsLe, heapLe, blkLe, rowLe, live, injOn, loLe, nget, nlook, ren, okA, allP, mapA, hget, ABlk.used, notin, List.map_cons, List.map_nil, true_or, or_true, false_or, or_false, true_and, and_true, and_self, AV.int.injEq, AV.bool.injEq, AV.str.injEq, AV.sl.injEq, AV.ro.injEq, AV.agg.injEq, List.cons.injEq, reduceCtorEq, ne_eq, not_false_eq_true, not_true_eq_false]
          all_goals simp
    · have hi : i = n := by omega
      subst hi
      (refine ev ?_; (try (with_reducible exact True.intro)))
      refine hK2 _ _ ?_
      (refine ev ?_; (try (with_reducible exact True.intro)))
      repeat (((with_reducible refine And.intro ?_ ?_)); (focus (first | omega | (simp only [inR]; omega) | rfl | (simp [notinId, notin]; done) | exact Or.inr rfl | (intro i hi; (repeat' (with_reducible first | apply len_cut | apply len_shift | apply len_app | apply len_copy | intro j)) <;> first | rfl | (exact len_lit _ _ (by simp) rfl _) | (simp; done)))))
      refine ⟨q + 1, [0, 1], by omega, by show i - (q + 1) < i - q; omega, ?_⟩
      have e : (q + 1) * i = q * i + i := by rw [Nat.add_mul, Nat.one_mul]
      simp only [padA, St.le, slotsLe, heapLe, blkLe, rowLe, live, injOn, loLe, nget, nlook, ren, okA, allP, mapA, hget, ABlk.used, notin, List.map_cons, List.map_nil, true_or, or_true, false_or, or_false, true_and, and_true, and_self, AV.int.injEq, AV.bool.injEq, AV.str.injEq, AV.sl.injEq, AV.ro.injEq, AV.agg.injEq, List.cons.injEq, reduceCtorEq, ne_eq, not_false_eq_true, not_true_eq_false, e]; simp
  · have hq : q = n := by omega
    subst hq
    rcases hr with rfl | rfl
    · (refine ev ?_; (try (with_reducible exact True.intro)))
      repeat (((with_reducible refine And.intro ?_ ?_)); (focus (first | omega | (simp only [inR]; omega) | rfl | (simp [notinId, notin]; done) | exact Or.inr rfl | (intro i hi; (repeat' (with_reducible first | apply len_cut | apply len_shift | apply len_app | apply len_copy | intro j)) <;> first | rfl | (exact len_lit _ _ (by simp) rfl _) | (simp; done)))))
      simp only [al]
      ((repeat' (with_reducible refine And.intro ?_ ?_)) <;> first | omega | (simp [notinId]; done) | (exact fun q hq => cut_at0 q (by simpa using hq)) | (exact fun q hq => cut_at0 q (by omega)) | (exact fun _ _ => rfl))
    · (refine ev ?_; (try (with_reducible exact True.intro)))
      repeat (((with_reducible refine And.intro ?_ ?_)); (focus (first | omega | (simp only [inR]; omega) | rfl | (simp [notinId, notin]; done) | exact Or.inr rfl | (intro i hi; (repeat' (with_reducible first | apply len_cut | apply len_shift | apply len_app | apply len_copy | intro j)) <;> first | rfl | (exact len_lit _ _ (by simp) rfl _) | (simp; done)))))
      exact fun _ _ => trivial
end
section
open Go Go.SH Go.Parity
/-- The least priority in a set, up to a position. -/
def lsL (pr : List Int) (s : List Bool) : Nat → Int
  | 0 => 30001
  | i + 1 => if s.getD i false = true then min (lsL pr s i) (pr.getD i 0) else lsL pr s i
def tgL (pr : List Int) (s : List Bool) (ls : Int) (n : Nat) : List Bool := (List.range n).map fun i => s.getD i false && (pr.getD i 0 == ls)
def orL (a b : List Bool) (n : Nat) : List Bool := (List.range n).map fun i => a.getD i false || b.getD i false
section
variable {ow pr : List Int} {su : List (List Int)} {p : Int} {s a b near other w r0 : List Bool} {n : Nat}
theorem lsL_spec : ∀ i, (∀ v, v < i → inL s v → lsL pr s i ≤ pr.getD v 0) ∧ (lsL pr s i = 30001 ∨ ∃ v, v < i ∧ inL s v ∧ pr.getD v 0 = lsL pr s i)
  | 0 => ⟨fun v h => by omega, .inl rfl⟩
  | i + 1 => by
    obtain ⟨h1, h2⟩ := lsL_spec i
    rw [lsL]
    split
    · rename_i h
      refine ⟨fun v hv hs => ?_, ?_⟩
      · rcases Nat.lt_or_ge v i with h3 | h3
        · have := h1 v h3 hs; omega
        · obtain rfl : v = i := by omega
          omega
      · rcases Int.le_total (lsL pr s i) (pr.getD i 0) with h3 | h3
        · rw [Int.min_eq_left h3]
          rcases h2 with h2 | ⟨v, c1, c2, c3⟩
          · exact .inl h2
          · exact .inr ⟨v, by omega, c2, c3⟩
        · rw [Int.min_eq_right h3]
          exact .inr ⟨i, by omega, h, rfl⟩
    · rename_i h
      refine ⟨fun v hv hs => ?_, ?_⟩
      · rcases Nat.lt_or_ge v i with h3 | h3
        · exact h1 v h3 hs
        · obtain rfl : v = i := by omega
          exact absurd hs h
      · rcases h2 with h2 | ⟨v, c1, c2, c3⟩
        · exact .inl h2
        · exact .inr ⟨v, by omega, c2, c3⟩
theorem inL_lt {l : List Bool} {v : Nat} (h : inL l v) : v < l.length := by
  rcases Nat.lt_or_ge v l.length with h1 | h1
  · exact h1
  · have h : l.getD v false = true := h
    rw [getD_ge _ _ _ h1] at h; cases h
theorem tgL_iff (hsl : s.length = n) {ls : Int} {v : Nat} : inL (tgL pr s ls n) v ↔ inL s v ∧ pr.getD v 0 = ls := by
  show (tgL pr s ls n).getD v false = true ↔ s.getD v false = true ∧ _
  rcases Nat.lt_or_ge v n with h | h
  · rw [tgL, range_map_getD _ _ _ _ h]; simp
  · rw [getD_ge _ _ _ (by simpa [tgL] using h), getD_ge s _ _ (by omega)]; simp
theorem orL_iff (ha : a.length = n) (hb : b.length = n) {v : Nat} : inL (orL a b n) v ↔ inL a v ∨ inL b v := by
  show (orL a b n).getD v false = true ↔ a.getD v false = true ∨ b.getD v false = true
  rcases Nat.lt_or_ge v n with h | h
  · rw [orL, range_map_getD _ _ _ _ h]; simp
  · rw [getD_ge _ _ _ (by simpa [orL] using h), getD_ge a _ _ (by omega), getD_ge b _ _ (by omega)]; simp
/-- Every position of a set has a move within it. -/
def TotS (ow pr : List Int) (su : List (List Int)) (s : List Bool) : Prop := ∀ v, inL s v → ∃ t ∈ (pg ow pr su).sc v, inL s t
theorem rest_tot {T : Nat → Prop} (h : TotS ow pr su s) (hA : Attr (pg ow pr su) (inL s) p T (inL near)) : TotS ow pr su (withL s near) := by
  intro v hv
  obtain ⟨h1, h2⟩ := withL_iff.1 hv
  by_cases ho : (pg ow pr su).own v = p
  · obtain ⟨t, t1, t2⟩ := h v h1
    exact ⟨t, t1, withL_iff.2 ⟨t2, hA.own v h1 h2 ho t t1 t2⟩⟩
  · obtain ⟨t, t1, t2, t3⟩ := hA.oth v h1 h2 ho
    exact ⟨t, t1, withL_iff.2 ⟨t2, t3⟩⟩
theorem rest_less {v : Nat} (hs : inL s v) (hn : inL near v) : (numsOf (withL s near)).length < (numsOf s).length := by
  have nd : (v :: numsOf (withL s near)).Nodup := List.nodup_cons.2 ⟨fun hm => (withL_iff.1 (mem_numsOf.1 hm).2).2 hn, nums_nodup _⟩
  have := nd.length_le_of_subset (l₂ := numsOf s) (fun i hi => by
    rcases List.mem_cons.1 hi with rfl | hi
    · exact mem_numsOf.2 ⟨inL_lt hs, hs⟩
    · obtain ⟨h1, h2⟩ := mem_numsOf.1 hi
      rw [withL_len] at h1
      exact mem_numsOf.2 ⟨h1, (withL_iff.1 h2).1⟩)
  simp only [List.length_cons] at this; omega
/-- What the reference gives for a set: whom the controller wins. -/
def RegG (ow pr : List Int) (su : List (List Int)) (s w : List Bool) : Prop := Parity.Good (pg ow pr su) (inL s) (inL w) (fun v => inL s v ∧ ¬ inL w v)
theorem RegG.sub (h : RegG ow pr su s w) (v : Nat) (hv : inL w v) : inL s v := by obtain ⟨_, h1, _⟩ := h.p0; exact h1 v hv
theorem reg_none (hs : ∀ v, ¬ inL s v) (hw : ∀ v, ¬ inL w v) : RegG ow pr su s w := by
  refine ⟨Para.empty.congr (fun v => ⟨fun h => h.elim, fun h => hw v h⟩) (fun v => Iff.rfl), Para.empty.congr (fun v => ⟨fun h => h.elim, fun h => hs v h.1⟩) (fun v => Iff.rfl), fun v h => absurd h (hs v)⟩
theorem gp_congr {S S' A A' B B' : Nat → Prop} (h : GoodP (pg ow pr su) S p A B) (hs : ∀ v, S v ↔ S' v) (ha : ∀ v, A v ↔ A' v) (hb : ∀ v, B v ↔ B' v) : GoodP (pg ow pr su) S' p A' B' := by
  have : S = S' := funext fun v => propext (hs v)
  have : A = A' := funext fun v => propext (ha v)
  have : B = B' := funext fun v => propext (hb v)
  subst_vars; exact h
theorem reg_gp0 (h : RegG ow pr su (withL s near) r0) : GoodP (pg ow pr su) (fun v => inL s v ∧ ¬ inL near v) 0 (inL r0) (inL (withL (withL s near) r0)) :=
  gp_congr (Good.to0 h) (fun v => withL_iff) (fun v => Iff.rfl) fun v => withL_iff.symm
theorem reg_gp1 (h : RegG ow pr su (withL s near) r0) : GoodP (pg ow pr su) (fun v => inL s v ∧ ¬ inL near v) 1 (inL (withL (withL s near) r0)) (inL r0) :=
  gp_congr (Good.to1 h) (fun v => withL_iff) (fun v => withL_iff.symm) fun v => Iff.rfl
theorem reg_whole0 (h : GoodP (pg ow pr su) (inL s) 0 (inL s) fun _ => False) : RegG ow pr su s s := (h.of0).congr (fun v => Iff.rfl) (fun v => Iff.rfl) fun v => ⟨fun h => h.elim, fun h => h.2 h.1⟩
theorem reg_whole1 (h : GoodP (pg ow pr su) (inL s) 1 (inL s) fun _ => False) (hw : ∀ v, ¬ inL w v) : RegG ow pr su s w := (h.of1).congr (fun v => Iff.rfl) (fun v => ⟨fun h => h.elim, fun h => hw v h⟩) fun v => ⟨fun h => ⟨h, hw v⟩, fun h => h.1⟩
theorem reg_part0 {Z : List Bool} (hz : ∀ v, inL Z v → inL s v) (hr : RegG ow pr su (withL s Z) w) (h : GoodP (pg ow pr su) (inL s) 0 (inL w) fun v => (inL (withL s Z) v ∧ ¬ inL w v) ∨ inL Z v) : RegG ow pr su s w := by
  refine (h.of0).congr (fun v => Iff.rfl) (fun v => Iff.rfl) fun v => ⟨fun h => ?_, fun h => ?_⟩
  · rcases h with ⟨h1, h2⟩ | h1
    · exact ⟨(withL_iff.1 h1).1, h2⟩
    · exact ⟨hz v h1, fun hw => (withL_iff.1 (hr.sub v hw)).2 h1⟩
  · by_cases hzv : inL Z v
    · exact .inr hzv
    · exact .inl ⟨withL_iff.2 ⟨h.1, hzv⟩, h.2⟩
theorem reg_part1 {Z : List Bool} (ha : w.length = n) (hb : Z.length = n) (h : GoodP (pg ow pr su) (inL s) 1 (fun v => inL (withL s Z) v ∧ ¬ inL w v) fun v => inL w v ∨ inL Z v) : RegG ow pr su s (orL w Z n) := by
  refine (h.of1).congr (fun v => Iff.rfl) (fun v => (orL_iff ha hb).symm) fun v => ⟨fun h => ?_, fun h => ?_⟩
  · obtain ⟨h1, h2⟩ := h
    obtain ⟨h3, h4⟩ := withL_iff.1 h1
    exact ⟨h3, fun h => by rcases (orL_iff ha hb).1 h with h | h; exact h2 h; exact h4 h⟩
  · exact ⟨withL_iff.2 ⟨h.1, fun hz => h.2 ((orL_iff ha hb).2 (.inr hz))⟩, fun hw => h.2 ((orL_iff ha hb).2 (.inl hw))⟩
end
end
end Go.Proofs.Ythkgnnndlocbbaa
