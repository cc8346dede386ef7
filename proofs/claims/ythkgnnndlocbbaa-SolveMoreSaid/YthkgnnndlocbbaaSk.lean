/-
  The law SolveParts' function: it returns true. No condition.
-/
import Derived.Test.YthkgnnndlocbbaaSj
namespace Go.Proofs.Ythkgnnndlocbbaa
set_option linter.unusedVariables false
set_option linter.unusedSimpArgs false
open Go Go.SH Go.Parity
set_option maxRecDepth 100000
set_option maxHeartbeats 4000000
set_option pp.maxSteps 8000
section
variable {ow pr : List Int} {su : List (List Int)} {ws : List Int} {pl : Int}
theorem Para.down {G : PG} {S S' X : Nat → Prop} {p : Int} (h : Para G S p X) (hs : ∀ v, S' v → S v) (hx : ∀ v, X v → S' v) : Para G S' p X := by
  obtain ⟨σ, a1, a2, a3, a4⟩ := h
  exact ⟨σ, hx, a2, fun v hv ho t ht hS => a3 v hv ho t ht (hs t hS), a4⟩
theorem wins_succ (hv : validB ow pr su = true) (hp : pl = 0 ∨ pl = 1) (hw : Wins ow pr su ws) : ∀ x ∈ numsOf (wonL ow.length ws pl), succOf su (wonL ow.length ws pl) x ≠ [] := by
  intro x hx
  obtain ⟨h1, h2⟩ := mem_numsOf.1 hx
  have hl : (wonL ow.length ws pl).length = ow.length := by simp [wonL]
  obtain ⟨σ, a1, a2, a3, _⟩ := (wins_p hp hw).a
  have h2 : inL (wonL ow.length ws pl) x := h2
  refine succ_some ?_
  by_cases ho : ow.getD x 0 = pl
  · obtain ⟨b1, b2⟩ := a2 x h2 ho
    obtain ⟨y, y1, y2⟩ := sc_mem.1 b1
    exact ⟨y, y1, by rw [inAt, y2]; exact b2⟩
  · obtain ⟨y, hy⟩ := List.exists_mem_of_length_pos ((validB_spec hv).2.2.2 x (by omega)).2.1
    have := ((validB_spec hv).2.2.2 x (by omega)).2.2 y hy
    exact ⟨y, hy, a3 x h2 ho y.toNat (sc_mem.2 ⟨y, hy, rfl⟩) (by show y.toNat < ow.length; omega)⟩
/-- In the part that a player wins, it wins everywhere. -/
theorem wins_part {ws' : List Int} (hv : validB ow pr su = true) (hp : pl = 0 ∨ pl = 1) (hw : Wins ow pr su ws) (hv' : validB (partOw ow (wonL ow.length ws pl)) (partOw pr (wonL ow.length ws pl)) (partSu su (wonL ow.length ws pl)) = true)
    (hw' : Wins (partOw ow (wonL ow.length ws pl)) (partOw pr (wonL ow.length ws pl)) (partSu su (wonL ow.length ws pl)) ws') (v : Nat) (h : v < (numsOf (wonL ow.length ws pl)).length) : ws'.getD v 0 = pl := by
  have hl : (wonL ow.length ws pl).length = ow.length := by simp [wonL]
  have hpl : (partOw ow (wonL ow.length ws pl)).length = (numsOf (wonL ow.length ws pl)).length := by simp [partOw]
  have hX : Para (pg ow pr su) (fun v => v < ow.length ∧ (wonL ow.length ws pl).getD v false = true) pl (inL (wonL ow.length ws pl)) :=
    Para.down (wins_p hp hw).a (fun v h => h.1) (fun v h => ⟨((wonL_at hw.len).1 h).1, h⟩)
  have hP := part_para hv hl hX
  have g := wins_p hp hw'
  rw [hpl] at g
  have hvm : (fun v => v < (numsOf (wonL ow.length ws pl)).length ∧ inL (wonL ow.length ws pl) ((numsOf (wonL ow.length ws pl)).getD v 0)) v := ⟨h, (mem_numsOf.1 (getD_mem h 0)).2⟩
  have T := two_pg hv'
  rw [hpl] at T
  rcases hw'.two v (by omega) with h0 | h0 <;> rcases hp with rfl | rfl
  · exact h0
  · exact (apart (fun v h => h) T g.b hP v ⟨h, h0⟩ hvm).elim
  · exact (apart (fun v h => h) T hP g.b v hvm ⟨h, h0⟩).elim
  · exact h0
end
theorem s5 (ow pr : List Int) (su : List (List Int)) (b : UInt8) : Contract Try.prog 5 [game ow pr su, .int .u8 (b.toNat : Nat)] (.one (.val (.bool true))) := by
  refine ct5 (SH.Sem.of_wpA hm ?_)
  simp only [padA]
  simp only [Try.f5, Option.getD, w_skip, w_reg, w_regd, w_seq, w_cond, w_block, w_loop, w_rf, w_exit, w_ret, f_ok, f_call, f_yield, yK_cons, a_normal, r_normal, r_ret, r_exit, rg_cons, putL, frz, beq_self_eq_true, Nat.reduceBEq, updG_same, f_bad, cK_nil, cK_cons, v_nil, v_cons, gK_tt, gK_ff, gK_tf, gK_ft, dK_go, d_nil, d_cons, gD_tt, gD_ff, gD_tf, gD_ft, eC_one, eC_tup, eC_own, eE_ok, eE_bad, eD, eff, eBin, eEq, eUn, eConv, eLen, eMin, eMax, eField, eFieldAddr, eIndex, eIndexAddr, eSlice, eLoad, eStore, eAlloc, eBox, eBuild, eBuildSlice, eMake, eAppend, eCopy, eMakeMap, eMapUpdate, eLookup, lookV, optN, eNil, ePick, eExtract, E.pure, Eff.only, Eff.notB, evalA, AV.ofV, AV.ofC, sget, sput, putA, applyU, hset, hget, hlen, alen, takeA, dropA, spliceA, mapA, allA, lget, oget, pget, tget, cellsA, AV.one, AV.goneB, partA, partC, TK.isAgg, nilish, natA, natC, loN, hiN, optC, roCut, loadP, loadC, aggOr, fillA, fillC, allPos, partsC, partsCells, partsAll, kills, killIds, liveAll, gnd, srcOf, inBlk, mapO, mapP, Go.SH.IntKind.uns, TK.flat, eqSc, eqScC, eqFs, eqFsC, seqK, blockK, condK, l_exit, l_ret, retK, retS, rsV, rsC, allT, padA, mapT, glook, bsel, gsplit_true, gsplit_false, resOf, resIds, resAll, nodupN, notin, like, like1, likeL, likeAll, AV.np, AV.gb, idsR, idsM, retI, retR, reify, AR.v, AR.u, AR.nv, nvec, impV, impU, isAlloc, callOf, countA, upIds, Option.map_none, Option.map_some, Option.isSome_some, Option.isSome_none, List.map_cons, List.map_nil, true_and, and_true, List.cons_append, List.nil_append, List.append_nil, List.length_cons, List.length_nil, List.nodup_nil, List.not_mem_nil, not_false_eq_true, ne_eq, reduceCtorEq, Bool.and_true, Bool.true_and, Bool.not_true, Bool.not_false, if_true, if_false, reduceIte, en_byte, en_byte', en_int, en_int', en_bool, en_bool', en_str, en_str', en_row, en_row', sh_at, sh_at', and_assoc, Nat.zero_add, Nat.add_zero, Nat.reduceAdd, appF_zero, Option.isNone_none, Option.isNone_some, en_byteL, en_intL, en_rowL, Int.reduceToNat, Nat.mul_one, Nat.one_mul, Nat.zero_mul, Nat.reduceMul, Nat.reduceSub, Nat.sub_zero, bne_self_eq_false, ti1, ti2, ti3, ti4, ti5, ti6, ti7, ti8, ti9, ti10, ti11, ti12, ti13, ti14, ti15, ti16, ti17, ti18, ti19, ti21, ti22, ti23, ti24, ti25, ti26, ti27, ti28, ti30, ti31, ti33, ti34, ti35, ti36, ti37, ti38, ti39, ti40, ti41, ti42, ti43, ti45, ti46, ti47, ti48, ti49, ti50, ti51, ti52, ti53, ti54, ti55, ti57, ti58, ti59, ti60, ti61, ti62, ti63, ti64, ti65, ti66, ti67, ti68, ti69, ti70, ti71, ti72, ti73, ti74, ti75, ti76, ti77, ti78, ti79, ti80, ti81, ti82, ti83, ti85, ti86, ti87, ti88, ti89, ti90, ti91, ti92, ti93, ti94, ti95, ti96, ti97, ti98, ti99, ti100, ti101, ti102, ti103, ti104, ti105, ti106, ti107, ti108, ti109]
  repeat (((with_reducible refine And.intro ?_ ?_)); (focus (first | omega | (simp only [inR]; omega) | rfl | (simp [notinId, notin]; done) | exact Or.inr rfl | (intro i hi; (repeat' (with_reducible first | apply len_cut | apply len_shift | apply len_app | apply len_copy | intro j)) <;> first | rfl | (exact len_lit _ _ (by simp) rfl _) | (simp; done)))))
  refine EffC.use c17 ?_ (.inl rfl) ?_
  · trivial
  (refine ev ?_; (try (with_reducible exact True.intro)))
  repeat (((with_reducible refine And.intro ?_ ?_)); (focus (first | omega | (simp only [inR]; omega) | rfl | (simp [notinId, notin]; done) | exact Or.inr rfl | (intro i hi; (repeat' (with_reducible first | apply len_cut | apply len_shift | apply len_app | apply len_copy | intro j)) <;> first | rfl | (exact len_lit _ _ (by simp) rfl _) | (simp; done)))))
  have a22 := c22 ow pr su 30 (by omega)
  cases hsm : smallB 30 ow pr su && validB ow pr su
  · rw [hsm] at a22
    refine EffC.use a22 ?_ (.inl rfl) ?_
    · ((refine evL ?_; (try (with_reducible exact True.intro))) <;> (repeat' (with_reducible refine And.intro ?_ ?_)) <;> first | trivial | (exact fun _ _ => trivial) | (simp; done) | (exact fun q hq => cut_at0 q (by simpa using hq)) | (exact fun q hq => cut_at0 q (by omega)) | omega)
    (refine ev ?_; (try (with_reducible exact True.intro)))
    ((repeat' (with_reducible refine And.intro ?_ ?_)) <;> first | omega | (simp [notinId]; done) | (exact fun q hq => cut_at0 q (by simpa using hq)) | (exact fun q hq => cut_at0 q (by omega)) | (exact fun _ _ => rfl))
  rw [hsm] at a22
  refine EffC.use a22 ?_ (.inl rfl) ?_
  · ((refine evL ?_; (try (with_reducible exact True.intro))) <;> (repeat' (with_reducible refine And.intro ?_ ?_)) <;> first | trivial | (exact fun _ _ => trivial) | (simp; done) | (exact fun q hq => cut_at0 q (by simpa using hq)) | (exact fun q hq => cut_at0 q (by omega)) | omega)
  obtain ⟨l1, l4, hv⟩ := small_spec hsm
  obtain ⟨v1, v2, v3, v4⟩ := validB_spec hv
  have hr20 : ∀ r ∈ su, r.length ≤ 2 ^ 20 := fun r hr => by have := l4 r hr; omega
  obtain ⟨ws, w1, _, a20⟩ := c20 ow pr su (by omega) (by omega) (by omega) hr20
  have hw := w1 hv
  have wl := hw.len
  obtain ⟨pl, hp, hpl⟩ := who_mod b
  have hb := b.toNat_lt
  have a23 := c23 ow pr su ws pl (by omega) (by omega) _ (.inl rfl)
  have sl : (wonL ow.length ws pl).length = ow.length := by simp [wonL]
  have a24 := c24 (wonL ow.length ws pl) (by omega)
  have hsc := wins_succ hv hp hw
  have hv' := part_valid (pr := pr) hv sl hsc
  have a15 := p15 ow pr su (wonL ow.length ws pl) (by omega) (by omega) (by omega) (fun r hr => by have := l4 r hr; omega) (by omega)
  rw [partR_yes hv sl hsc] at a15
  have nl := numsTo_len (wonL ow.length ws pl) (wonL ow.length ws pl).length
  have en : numsTo (wonL ow.length ws pl) (wonL ow.length ws pl).length = numsOf (wonL ow.length ws pl) := rfl
  rw [en] at nl
  obtain ⟨ws', w1', _, b20⟩ := c20 (partOw ow (wonL ow.length ws pl)) (partOw pr (wonL ow.length ws pl)) (partSu su (wonL ow.length ws pl)) (by simp [partOw]; omega) (by simp [partOw]; omega) (by simp [partSu]; omega) (fun r hr => by
    obtain ⟨x, _, rfl⟩ := List.mem_map.1 hr
    have h1 := List.length_filter_le (inAt (wonL ow.length ws pl)) (su.getD x [])
    have h2 : (su.getD x []).length ≤ 20 := by
      rcases Nat.lt_or_ge x su.length with h | h
      · exact l4 _ (getD_mem h [])
      · rw [getD_ge _ _ _ h]; simp
    simp only [succOf, List.length_map]; omega)
  have hw' := w1' hv'
  have wl' : ws'.length = (numsOf (wonL ow.length ws pl)).length := by rw [hw'.len]; simp [partOw]
  have hall := fun v h => wins_part hv hp hw hv' hw' v h
  have hne : ((wonL ow.length ws pl).any fun b => b) = true → 0 < (numsOf (wonL ow.length ws pl)).length := by
    rw [any_iff]
    rintro ⟨v, hv⟩
    have : v ∈ numsOf (wonL ow.length ws pl) := mem_numsOf.2 ⟨by rw [sl]; exact ((wonL_at wl).1 hv).1, hv⟩
    exact List.length_pos_of_mem this
  have nil1 : (natI (numsOf (wonL ow.length ws pl))).length = (numsOf (wonL ow.length ws pl)).length := by simp [natI]
  rw [v3] at a23
  clear hsc hv' en hw' w1' w1 hw
  generalize wonL ow.length ws pl = set at *
  generalize numsOf set = nums at *
  generalize partOw ow set = ow' at *
  generalize partOw pr set = pr' at *
  generalize partSu su set = su' at *
  (refine ev ?_; (try (with_reducible exact True.intro)))
  simp only [hpl]
  repeat (((with_reducible refine And.intro ?_ ?_)); (focus (first | omega | (simp only [inR]; omega) | rfl | (simp [notinId, notin]; done) | exact Or.inr rfl | (intro i hi; (repeat' (with_reducible first | apply len_cut | apply len_shift | apply len_app | apply len_copy | intro j)) <;> first | rfl | (exact len_lit _ _ (by simp) rfl _) | (simp; done)))))
  refine ExCall.use a20 ?_ (.inr rfl) ?_
  · ((refine evL ?_; (try (with_reducible exact True.intro))) <;> (repeat' (with_reducible refine And.intro ?_ ?_)) <;> first | trivial | (exact fun _ _ => trivial) | (simp; done) | (exact fun q hq => cut_at0 q (by simpa using hq)) | (exact fun q hq => cut_at0 q (by omega)) | omega)
  (refine ev ?_; (try (with_reducible exact True.intro)))
  repeat (((with_reducible refine And.intro ?_ ?_)); (focus (first | omega | (simp only [inR]; omega) | rfl | (simp [notinId, notin]; done) | exact Or.inr rfl | (intro i hi; (repeat' (with_reducible first | apply len_cut | apply len_shift | apply len_app | apply len_copy | intro j)) <;> first | rfl | (exact len_lit _ _ (by simp) rfl _) | (simp; done)))))
  refine ExCall.use a23 ?_ (.inr rfl) ?_
  · ((refine evL ?_; (try (with_reducible exact True.intro))) <;> (repeat' (with_reducible refine And.intro ?_ ?_)) <;> first | trivial | (exact fun _ _ => trivial) | (simp; done) | (exact fun q hq => cut_at0 q (by simpa using hq)) | (exact fun q hq => cut_at0 q (by omega)) | omega)
  (refine ev ?_; (try (with_reducible exact True.intro)))
  repeat (((with_reducible refine And.intro ?_ ?_)); (focus (first | omega | (simp only [inR]; omega) | rfl | (simp [notinId, notin]; done) | exact Or.inr rfl | (intro i hi; (repeat' (with_reducible first | apply len_cut | apply len_shift | apply len_app | apply len_copy | intro j)) <;> first | rfl | (exact len_lit _ _ (by simp) rfl _) | (simp; done)))))
  refine EffC.use a24 ?_ (.inl rfl) ?_
  · ((refine evL ?_; (try (with_reducible exact True.intro))) <;> (repeat' (with_reducible refine And.intro ?_ ?_)) <;> first | trivial | (exact fun _ _ => trivial) | (simp; done) | (exact fun q hq => cut_at0 q (by simpa using hq)) | (exact fun q hq => cut_at0 q (by omega)) | omega)
  cases hs : set.any fun b => b
  · (refine ev ?_; (try (with_reducible exact True.intro)))
    repeat (((with_reducible refine And.intro ?_ ?_)); (focus (first | omega | (simp only [inR]; omega) | rfl | (simp [notinId, notin]; done) | exact Or.inr rfl | (intro i hi; (repeat' (with_reducible first | apply len_cut | apply len_shift | apply len_app | apply len_copy | intro j)) <;> first | rfl | (exact len_lit _ _ (by simp) rfl _) | (simp; done)))))
    ((repeat' (with_reducible refine And.intro ?_ ?_)) <;> first | omega | (simp [notinId]; done) | (exact fun q hq => cut_at0 q (by simpa using hq)) | (exact fun q hq => cut_at0 q (by omega)) | (exact fun _ _ => rfl))
  have hne := hne hs
  (refine ev ?_; (try (with_reducible exact True.intro)))
  repeat (((with_reducible refine And.intro ?_ ?_)); (focus (first | omega | (simp only [inR]; omega) | rfl | (simp [notinId, notin]; done) | exact Or.inr rfl | (intro i hi; (repeat' (with_reducible first | apply len_cut | apply len_shift | apply len_app | apply len_copy | intro j)) <;> first | rfl | (exact len_lit _ _ (by simp) rfl _) | (simp; done)))))
  refine EffC.use a15 ?_ (.inr rfl) ?_
  · ((refine evL ?_; (try (with_reducible exact True.intro))) <;> (repeat' (with_reducible refine And.intro ?_ ?_)) <;> first | trivial | (exact fun _ _ => trivial) | (simp; done) | (exact fun q hq => cut_at0 q (by simpa using hq)) | (exact fun q hq => cut_at0 q (by omega)) | omega)
  (refine ev ?_; (try (with_reducible exact True.intro)))
  repeat (((with_reducible refine And.intro ?_ ?_)); (focus (first | omega | (simp only [inR]; omega) | rfl | (simp [notinId, notin]; done) | exact Or.inr rfl | (intro i hi; (repeat' (with_reducible first | apply len_cut | apply len_shift | apply len_app | apply len_copy | intro j)) <;> first | rfl | (exact len_lit _ _ (by simp) rfl _) | (simp; done)))))
  refine EffC.use b20 ?_ (.inr rfl) ?_
  · ((refine evL ?_; (try (with_reducible exact True.intro))) <;> (repeat' (with_reducible refine And.intro ?_ ?_)) <;> first | trivial | (exact fun _ _ => trivial) | (simp; done) | (exact fun q hq => cut_at0 q (by simpa using hq)) | (exact fun q hq => cut_at0 q (by omega)) | omega)
  (refine ev ?_; (try (with_reducible exact True.intro)))
  repeat (((with_reducible refine And.intro ?_ ?_)); (focus (first | omega | (simp only [inR]; omega) | rfl | (simp [notinId, notin]; done) | exact Or.inr rfl | (intro i hi; (repeat' (with_reducible first | apply len_cut | apply len_shift | apply len_app | apply len_copy | intro j)) <;> first | rfl | (exact len_lit _ _ (by simp) rfl _) | (simp; done)))))
  have z0 : ((nums.length : Int) == 0) = false := by rw [beq_eq_false_iff_ne]; omega
  simp only [nil1, wl', z0]
  (refine ev ?_; (try (with_reducible exact True.intro)))
  repeat (((with_reducible refine And.intro ?_ ?_)); (focus (first | omega | (simp only [inR]; omega) | rfl | (simp [notinId, notin]; done) | exact Or.inr rfl | (intro i hi; (repeat' (with_reducible first | apply len_cut | apply len_shift | apply len_app | apply len_copy | intro j)) <;> first | rfl | (exact len_lit _ _ (by simp) rfl _) | (simp; done)))))
  simp only [nil1, wl']
  (refine ev ?_; (try (with_reducible exact True.intro)))
  repeat (((with_reducible refine And.intro ?_ ?_)); (focus (first | omega | (simp only [inR]; omega) | rfl | (simp [notinId, notin]; done) | exact Or.inr rfl | (intro i hi; (repeat' (with_reducible first | apply len_cut | apply len_shift | apply len_app | apply len_copy | intro j)) <;> first | rfl | (exact len_lit _ _ (by simp) rfl _) | (simp; done)))))
  refine SH.Sem.loop hm (fun i : Nat => ⟨padA [.undef, .undef, .undef, .undef, .undef, .bool true, .int .i64 pl, .undef, .undef, .undef, intRow ws', .int .i64 i] 60, [.box [intRow ow, intRow pr, intRows su]]⟩) (fun i => i ≤ nums.length) (fun i => nums.length - i) [0] 0 (by omega) ?_ fun i hi0 => ?_
  · simp only [padA, St.le, slotsLe, heapLe, blkLe, rowLe, live, injOn, loLe, nget, nlook, ren, okA, allP, mapA, hget, ABlk.used, notin, List.map_cons, List.map_nil, true_or, or_true, false_or, or_false, true_and, and_true, and_self, AV.int.injEq, AV.bool.injEq, AV.str.injEq, AV.sl.injEq, AV.ro.injEq, AV.agg.injEq, List.cons.injEq, reduceCtorEq, ne_eq, not_false_eq_true, not_true_eq_false]; simp
  simp only [padA]
  (refine ev ?_; (try (with_reducible exact True.intro)))
  simp only [wl']
  refine gsd (fun hd => ?_) (fun hd => ?_)
  · have hi : i < nums.length := by omega
    have e := hall i hi
    (refine ev ?_; (try (with_reducible exact True.intro)))
    simp only [Int.toNat_natCast, e]
    repeat (((with_reducible refine And.intro ?_ ?_)); (focus (first | omega | (simp only [inR]; omega) | rfl | (simp [notinId, notin]; done) | exact Or.inr rfl | (intro i hi; (repeat' (with_reducible first | apply len_cut | apply len_shift | apply len_app | apply len_copy | intro j)) <;> first | rfl | (exact len_lit _ _ (by simp) rfl _) | (simp; done)))))
    (refine ev ?_; (try (with_reducible exact True.intro)))
    repeat (((with_reducible refine And.intro ?_ ?_)); (focus (first | omega | (simp only [inR]; omega) | rfl | (simp [notinId, notin]; done) | exact Or.inr rfl | (intro i hi; (repeat' (with_reducible first | apply len_cut | apply len_shift | apply len_app | apply len_copy | intro j)) <;> first | rfl | (exact len_lit _ _ (by simp) rfl _) | (simp; done)))))
    refine ⟨i + 1, [0], by omega, by show nums.length - (i + 1) < nums.length - i; omega, ?_⟩
    simp only [padA, St.le, slotsLe, heapLe, blkLe, rowLe, live, injOn, loLe, nget, nlook, ren, okA, allP, mapA, hget, ABlk.used, notin, List.map_cons, List.map_nil, true_or, or_true, false_or, or_false, true_and, and_true, and_self, AV.int.injEq, AV.bool.injEq, AV.str.injEq, AV.sl.injEq, AV.ro.injEq, AV.agg.injEq, List.cons.injEq, reduceCtorEq, ne_eq, not_false_eq_true, not_true_eq_false]; simp
  · (refine ev ?_; (try (with_reducible exact True.intro)))
    trace_state
    ((repeat' (with_reducible refine And.intro ?_ ?_)) <;> first | omega | (simp [notinId]; done) | (exact fun q hq => cut_at0 q (by simpa using hq)) | (exact fun q hq => cut_at0 q (by omega)) | (exact fun _ _ => rfl))
end Go.Proofs.Ythkgnnndlocbbaa
