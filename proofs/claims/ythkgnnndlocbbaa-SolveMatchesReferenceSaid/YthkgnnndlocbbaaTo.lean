/-
  ref23's region: for every set in which all positions have moves, it gives whom the controller wins. No condition but sizes.
-/
import Derived.Test.YthkgnnndlocbbaaTd
import Derived.Test.YthkgnnndlocbbaaSh
namespace Go.Proofs.Ythkgnnndlocbbaa
set_option linter.unusedVariables false
set_option linter.unusedSimpArgs false
open Go Go.SH Go.Parity
set_option maxRecDepth 10000
set_option maxHeartbeats 1000000
theorem prB {ow pr : List Int} {su : List (List Int)} (h : validB ow pr su = true) (i : Nat) (hi : i < ow.length) : 0 ≤ pr.getD i 0 ∧ pr.getD i 0 ≤ 30000 := by
  simp only [validB, Bool.and_eq_true, decide_eq_true_eq, List.all_eq_true] at h
  have := h.2 i (List.mem_range.2 hi)
  simp only [posB, Bool.and_eq_true, Bool.or_eq_true, beq_iff_eq, decide_eq_true_eq, List.all_eq_true] at this
  exact ⟨this.1.1.1.2, this.1.1.2⟩
theorem region_all (ow pr : List Int) (su : List (List Int)) (hv : validB ow pr su = true) (hr20 : ∀ r ∈ su, r.length ≤ 2 ^ 20) (n : Nat) (hn : ow.length = n) : ∀ k, RegC ow pr su n k
  | 0, s, hsl, _, hk => by
    refine region_none ow pr su s hv n hn hsl ?_
    cases hs : s.any fun b => b
    · rfl
    · obtain ⟨v, h⟩ := (any_iff s).1 hs
      have := List.length_pos_of_mem (mem_numsOf.2 ⟨inL_lt h, h⟩)
      omega
  | k + 1, s, hsl, htot, hk => by
    cases hany : s.any fun b => b
    · exact region_none ow pr su s hv n hn hsl hany
    obtain ⟨v1, v2, v3, v4⟩ := validB_spec hv
    obtain ⟨v0, hv0⟩ := (any_iff s).1 hany
    have hN : ∀ v, inL s v → v < n := fun v h => by rw [← hsl]; exact inL_lt h
    have h0 : 0 < n := by have := hN v0 hv0; omega
    have h2 : Two (pg ow pr su) (inL s) := fun v h => two_pg hv v (by rw [hn]; exact hN v h)
    obtain ⟨l1, l2⟩ := lsL_spec (pr := pr) (s := s) n
    obtain ⟨ls, hls⟩ : ∃ ls, lsL pr s n = ls := ⟨_, rfl⟩
    rw [hls] at l1 l2
    have q0 := l1 v0 (hN v0 hv0) hv0
    have q1 := prB hv v0 (by rw [hn]; exact hN v0 hv0)
    obtain ⟨t0, t1, t2, t3⟩ := l2.resolve_left (by omega)
    have q2 := prB hv t0 (by omega)
    obtain ⟨p, hmod⟩ : ∃ p, ls.tmod 2 = p := ⟨_, rfl⟩
    have hmod' : ls % 2 = p := by rw [← hmod, Int.tmod_eq_emod_of_nonneg (by omega)]
    have hp : p = 0 ∨ p = 1 := by omega
    obtain ⟨tg, htg⟩ : ∃ tg, tgL pr s ls n = tg := ⟨_, rfl⟩
    have htl : tg.length = n := by rw [← htg, tgL]; simp
    have hT : ∀ v, inL tg v ↔ inL s v ∧ pr.getD v 0 = ls := fun v => by rw [← htg]; exact tgL_iff hsl
    obtain ⟨near, hnear⟩ : ∃ near, atS ow su p s tg n (n * n) = near := ⟨_, rfl⟩
    have hnl : near.length = n := by rw [← hnear, atS_len, htl]
    have hA : Attr (pg ow pr su) (inL s) p (inL tg) (inL near) := by rw [← hnear]; exact attrS hsl htl h0 fun v h => ((hT v).1 h).1
    have a67 := c67 ow pr su p s tg hv hr20 n hn h0 hsl htl _ (.inr rfl)
    rw [hnear] at a67
    obtain ⟨rest, hrest⟩ : ∃ rest, withL s near = rest := ⟨_, rfl⟩
    have hrl : rest.length = n := by rw [← hrest, withL_len, hsl]
    have a66 := c66 s near (by omega) (by omega) _ (.inr rfl)
    rw [hsl, hrest] at a66
    have less := rest_less (s := s) (near := near) t2 (hA.tgt _ ((hT t0).2 ⟨t2, t3⟩))
    have tot := rest_tot htot hA
    rw [hrest] at less tot
    obtain ⟨r0, hr0, g0, a53, _⟩ := region_all ow pr su hv hr20 n hn k rest hrl tot (by omega)
    have g0' : RegG ow pr su (withL s near) r0 := by rw [hrest]; exact g0
    obtain ⟨A, lost, hol, b66, hlo, gp⟩ : ∃ (A : Nat → Prop) (lost : List Bool), lost.length = n ∧ (p = 0 → Contract Try.prog 66 [boolRow rest, boolRow r0] (.one (.vec 1 n (encL cBool false lost)))) ∧ (p = 1 → lost = r0) ∧ GoodP (pg ow pr su) (fun v => inL s v ∧ ¬ inL near v) p A (inL lost) := by
      rcases hp with rfl | rfl
      · refine ⟨inL r0, withL rest r0, by rw [withL_len, hrl], fun _ => ?_, by simp, ?_⟩
        · have := c66 rest r0 (by omega) (by omega) _ (.inr rfl)
          rwa [hrl] at this
        · rw [← hrest]; exact reg_gp0 g0'
      · exact ⟨inL (withL (withL s near) r0), r0, hr0, by simp, fun _ => rfl, reg_gp1 g0'⟩
    have b65 := c65 lost (by omega)
    have lsub : ∀ v, inL lost v → inL s v := fun v h => by obtain ⟨_, hs, _⟩ := gp.b; exact (hs v h).1
    cases hsm : lost.any fun b => b
    · rw [hsm] at b65
      have hB : ∀ v, ¬ inL lost v := fun v h => by rw [(any_iff lost).2 ⟨v, h⟩] at hsm; cases hsm
      have hg := step_whole hN htot hA hT (fun v h => l1 v (hN v h) h) hmod' gp hB
      obtain ⟨w, hw⟩ : ∃ w, w = if false = true then (if p = 1 then orL s s n else s) else if p = 0 then s else (List.range n).map fun _ => false := ⟨_, rfl⟩
      have hw2 : w.length = n ∧ RegG ow pr su s w := by
        rcases hp with rfl | rfl
        · rw [if_neg (by simp), if_pos rfl] at hw
          subst hw
          exact ⟨hsl, reg_whole0 hg⟩
        · rw [if_neg (by simp), if_neg (by decide)] at hw
          subst hw
          exact ⟨by simp, reg_whole1 hg (zero_no n)⟩
      refine ⟨w, hw2.1, hw2.2, ?_, ?_⟩
      · exact wk_ro ow pr su s tg ls p hv n hn hsl hany hls hp hmod htg near rest r0 lost a67 a66 a53 hrl hnl htl hr0 hol b66 hlo false b65 s s s w hsl hsl hsl (fun _ _ h => by cases h) (fun h => by cases h) (fun h => by cases h) hw
      · exact wk_own ow pr su s tg ls p hv n hn hsl hany hls hp hmod htg near rest r0 lost a67 a66 a53 hrl hnl htl hr0 hol b66 hlo false b65 s s s w hsl hsl hsl (fun _ _ h => by cases h) (fun h => by cases h) (fun h => by cases h) hw
    · rw [hsm] at b65
      obtain ⟨u0, hu0⟩ := (any_iff lost).1 hsm
      obtain ⟨Z, hZ⟩ : ∃ Z, atS ow su (1 - p) s lost n (n * n) = Z := ⟨_, rfl⟩
      have hzl : Z.length = n := by rw [← hZ, atS_len, hol]
      have hz : Attr (pg ow pr su) (inL s) (1 - p) (inL lost) (inL Z) := by rw [← hZ]; exact attrS hsl hol h0 lsub
      have c67' := c67 ow pr su (1 - p) s lost hv hr20 n hn h0 hsl hol _ (.inr rfl)
      rw [hZ] at c67'
      have hrl' : (withL s Z).length = n := by rw [withL_len, hsl]
      have c66' := c66 s Z (by omega) (by omega) _ (.inr rfl)
      rw [hsl] at c66'
      have less' := rest_less (s := s) (near := Z) (lsub u0 hu0) (hz.tgt _ hu0)
      obtain ⟨w', hwl', g1, _, own'⟩ := region_all ow pr su hv hr20 n hn k (withL s Z) hrl' (rest_tot htot hz) (by omega)
      obtain ⟨w, hw⟩ : ∃ w, w = if true = true then (if p = 1 then orL w' Z n else w') else if p = 0 then s else (List.range n).map fun _ => false := ⟨_, rfl⟩
      have hw2 : w.length = n ∧ RegG ow pr su s w := by
        rcases hp with rfl | rfl
        · rw [if_pos rfl, if_neg (by decide)] at hw
          subst hw
          exact ⟨hwl', reg_part0 hz.sub g1 (step_part hN h2 (.inl rfl) hA gp hz (gp_congr (Good.to0 g1) (fun v => withL_iff) (fun v => Iff.rfl) fun v => Iff.rfl))⟩
        · rw [if_pos rfl, if_pos rfl] at hw
          subst hw
          exact ⟨by simp [orL], reg_part1 hwl' hzl (step_part hN h2 (.inr rfl) hA gp hz (gp_congr (Good.to1 g1) (fun v => withL_iff) (fun v => Iff.rfl) fun v => Iff.rfl))⟩
      refine ⟨w, hw2.1, hw2.2, ?_, ?_⟩
      · exact wk_ro ow pr su s tg ls p hv n hn hsl hany hls hp hmod htg near rest r0 lost a67 a66 a53 hrl hnl htl hr0 hol b66 hlo true b65 Z (withL s Z) w' w hzl hrl' hwl' (fun q hq _ => by rw [hq]; exact c67') (fun _ => c66') (fun _ => own') hw
      · exact wk_own ow pr su s tg ls p hv n hn hsl hany hls hp hmod htg near rest r0 lost a67 a66 a53 hrl hnl htl hr0 hol b66 hlo true b65 Z (withL s Z) w' w hzl hrl' hwl' (fun q hq _ => by rw [hq]; exact c67') (fun _ => c66') (fun _ => own') hw
section
open Go Go.SH Go.Parity
set_option maxRecDepth 100000
set_option maxHeartbeats 4000000
def outL (n : Nat) (w : List Bool) : List Int := (List.range n).map fun i => if w.getD i false = true then 0 else 1
theorem allL_iff {n v : Nat} : inL ((List.range n).map fun _ => true) v ↔ v < n := by
  show ((List.range n).map fun _ => true).getD v false = true ↔ _
  rcases Nat.lt_or_ge v n with h | h
  · rw [range_map_getD _ _ _ _ h]; simp [h]
  · rw [getD_ge _ _ _ (by simpa using h)]; simp; omega
theorem out_wins {ow pr : List Int} {su : List (List Int)} {w : List Bool} {n : Nat} (hn : ow.length = n) (hw : RegG ow pr su ((List.range n).map fun _ => true) w) : Wins ow pr su (outL n w) := by
  have at' : ∀ v, v < n → (outL n w).getD v 0 = if w.getD v false = true then 0 else 1 := fun v h => by rw [outL, range_map_getD _ _ _ _ h]
  have lt : ∀ v, inL w v → v < n := fun v h => allL_iff.1 (hw.sub v h)
  refine ⟨by rw [outL, hn]; simp, fun v h => ?_, ?_⟩
  · rw [at' v (by omega)]; split
    · exact .inl rfl
    · exact .inr rfl
  · refine Good.congr hw (fun v => by rw [hn]; exact allL_iff) (fun v => ?_) fun v => ?_
    · rw [hn]
      refine ⟨fun h => ⟨lt v h, by rw [at' v (lt v h), if_pos h]⟩, fun ⟨h1, h2⟩ => ?_⟩
      rw [at' v h1] at h2
      apply Classical.byContradiction
      intro hno
      rw [if_neg hno] at h2; cases h2
    · rw [hn]
      refine ⟨fun ⟨h, h1⟩ => ⟨allL_iff.1 h, by rw [at' v (allL_iff.1 h), if_neg h1]⟩, fun ⟨h1, h2⟩ => ⟨allL_iff.2 h1, fun h => ?_⟩⟩
      rw [at' v h1, if_pos h] at h2; cases h2
theorem int_eq_of {l m : List Int} (h1 : l.length = m.length) (h2 : ∀ i, i < l.length → l.getD i 0 = m.getD i 0) : l = m := by
  refine List.ext_getElem h1 fun i h3 h4 => ?_
  have := h2 i h3
  rw [List.getD_eq_getElem?_getD, List.getD_eq_getElem?_getD, List.getElem?_eq_getElem h3, List.getElem?_eq_getElem h4] at this
  simpa using this
theorem wins_eq {ow pr : List Int} {su : List (List Int)} {ws rs : List Int} (hv : validB ow pr su = true) (h1 : Wins ow pr su ws) (h2 : Wins ow pr su rs) : ws = rs := by
  refine int_eq_of (h1.len.trans h2.len.symm) fun v hv' => ?_
  have hv' : v < ow.length := by rw [← h1.len]; exact hv'
  have := (Good.unique (N := ow.length) (fun v h => h) (two_pg hv) h1.good h2.good v).1
  rcases h1.two v hv' with h | h
  · rw [h, (this.1 ⟨hv', h⟩).2]
  · rcases h2.two v hv' with h3 | h3
    · have := (this.2 ⟨hv', h3⟩).2; omega
    · omega
theorem d21 (ow pr : List Int) (su : List (List Int)) (hr20 : ∀ r ∈ su, r.length ≤ 2 ^ 20) :
    ∃ rs, (validB ow pr su = true → Wins ow pr su rs) ∧ (validB ow pr su = false → rs = []) ∧ Contract Try.prog 21 [game ow pr su] (.one (.val (intRow rs))) := by
  have a36 := k29 ow pr su (fun r hr => by have := hr20 r hr; omega)
  cases hv : validB ow pr su
  · rw [hv] at a36
    refine ⟨[], by simp, by simp, ?_⟩
    refine ct21 (SH.Sem.of_wpA hm ?_)
    simp only [padA]
    simp only [Try.f21, Option.getD, w_skip, w_reg, w_regd, w_seq, w_cond, w_block, w_loop, w_rf, w_exit, w_ret, f_ok, f_call, f_yield, yK_cons, a_normal, r_normal, r_ret, r_exit, rg_cons, putL, frz, beq_self_eq_true, Nat.reduceBEq, updG_same, f_bad, cK_nil, cK_cons, v_nil, v_cons, gK_tt, gK_ff, gK_tf, gK_ft, dK_go, d_nil, d_cons, gD_tt, gD_ff, gD_tf, gD_ft, eC_one, eC_tup, eC_own, eE_ok, eE_bad, eD, eff, eBin, eEq, eUn, eConv, eLen, eMin, eMax, eField, eFieldAddr, eIndex, eIndexAddr, eSlice, eLoad, eStore, eAlloc, eBox, eBuild, eBuildSlice, eMake, eAppend, eCopy, eMakeMap, eMapUpdate, eLookup, lookV, optN, eNil, ePick, eExtract, E.pure, Eff.only, Eff.notB, evalA, AV.ofV, AV.ofC, sget, sput, putA, applyU, hset, hget, hlen, alen, takeA, dropA, spliceA, mapA, allA, lget, oget, pget, tget, cellsA, AV.one, AV.goneB, partA, partC, TK.isAgg, nilish, natA, natC, loN, hiN, optC, roCut, loadP, loadC, aggOr, fillA, fillC, allPos, partsC, partsCells, partsAll, kills, killIds, liveAll, gnd, srcOf, inBlk, mapO, mapP, Go.SH.IntKind.uns, TK.flat, eqSc, eqScC, eqFs, eqFsC, seqK, blockK, condK, l_exit, l_ret, retK, retS, rsV, rsC, allT, padA, mapT, glook, bsel, gsplit_true, gsplit_false, resOf, resIds, resAll, nodupN, notin, like, like1, likeL, likeAll, AV.np, AV.gb, idsR, idsM, retI, retR, reify, AR.v, AR.u, AR.nv, nvec, impV, impU, isAlloc, callOf, countA, upIds, Option.map_none, Option.map_some, Option.isSome_some, Option.isSome_none, List.map_cons, List.map_nil, true_and, and_true, List.cons_append, List.nil_append, List.append_nil, List.length_cons, List.length_nil, List.nodup_nil, List.not_mem_nil, not_false_eq_true, ne_eq, reduceCtorEq, Bool.and_true, Bool.true_and, Bool.not_true, Bool.not_false, if_true, if_false, reduceIte, en_byte, en_byte', en_int, en_int', en_bool, en_bool', en_str, en_str', en_row, en_row', sh_at, sh_at', and_assoc, Nat.zero_add, Nat.add_zero, Nat.reduceAdd, appF_zero, Option.isNone_none, Option.isNone_some, en_byteL, en_intL, en_rowL, Int.reduceToNat, Nat.mul_one, Nat.one_mul, Nat.zero_mul, Nat.reduceMul, Nat.reduceSub, Nat.sub_zero, bne_self_eq_false, ti1, ti2, ti3, ti4, ti5, ti6, ti7, ti8, ti9, ti10, ti11, ti12, ti13, ti14, ti15, ti16, ti17, ti18, ti19, ti21, ti22, ti23, ti24, ti25, ti26, ti27, ti28, ti30, ti31, ti33, ti34, ti35, ti36, ti37, ti38, ti39, ti40, ti41, ti42, ti43, ti45, ti46, ti47, ti48, ti49, ti50, ti51, ti52, ti53, ti54, ti55, ti57, ti58, ti59, ti60, ti61, ti62, ti63, ti64, ti65, ti66, ti67, ti68, ti69, ti70, ti71, ti72, ti73, ti74, ti75, ti76, ti77, ti78, ti79, ti80, ti81, ti82, ti83, ti85, ti86, ti87, ti88, ti89, ti90, ti91, ti92, ti93, ti94, ti95, ti96, ti97, ti98, ti99, ti100, ti101, ti102, ti103, ti104, ti105, ti106, ti107, ti108, ti109]
    repeat (((with_reducible refine And.intro ?_ ?_)); (focus (first | omega | (simp only [inR]; omega) | rfl | (simp [notinId, notin]; done) | exact Or.inr rfl | (intro i hi; (repeat' (with_reducible first | apply len_cut | apply len_shift | apply len_app | apply len_copy | intro j)) <;> first | rfl | (exact len_lit _ _ (by simp) rfl _) | (simp; done)))))
    refine EffC.use a36 ?_ (.inl rfl) ?_
    · ((refine evL ?_; (try (with_reducible exact True.intro))) <;> (repeat' (with_reducible refine And.intro ?_ ?_)) <;> first | trivial | (exact fun _ _ => trivial) | (simp; done) | (exact fun q hq => cut_at0 q (by simpa using hq)) | (exact fun q hq => cut_at0 q (by omega)) | omega)
    (refine ev ?_; (try (with_reducible exact True.intro)))
    ((repeat' (with_reducible refine And.intro ?_ ?_)) <;> first | omega | (simp [notinId]; done) | (exact fun q hq => cut_at0 q (by simpa using hq)) | (exact fun q hq => cut_at0 q (by omega)) | (exact fun _ _ => rfl))
  rw [hv] at a36
  obtain ⟨v1, v2, v3, v4⟩ := validB_spec hv
  obtain ⟨n, hn⟩ : ∃ n, ow.length = n := ⟨_, rfl⟩
  obtain ⟨w, hwl, hw, a53, _⟩ := region_all ow pr su hv hr20 n hn (numsOf ((List.range n).map fun _ => true)).length _ (by simp) (fun v h => by
    obtain ⟨t, t1, t2⟩ := sub_pg hv v (by rw [hn]; exact allL_iff.1 h)
    exact ⟨t, t1, allL_iff.2 (by omega)⟩) (Nat.le_refl _)
  refine ⟨outL n w, fun _ => out_wins hn hw, by simp, ?_⟩
  refine ct21 ?_
  simp only [padA]
  simp only [Try.f21, Option.getD]
  refine SH.Sem.step hm ?_
  (refine ev ?_; (try (with_reducible exact True.intro)))
  repeat (((with_reducible refine And.intro ?_ ?_)); (focus (first | omega | (simp only [inR]; omega) | rfl | (simp [notinId, notin]; done) | exact Or.inr rfl | (intro i hi; (repeat' (with_reducible first | apply len_cut | apply len_shift | apply len_app | apply len_copy | intro j)) <;> first | rfl | (exact len_lit _ _ (by simp) rfl _) | (simp; done)))))
  refine SH.Sem.step hm ?_
  (refine ev ?_; (try (with_reducible exact True.intro)))
  repeat (((with_reducible refine And.intro ?_ ?_)); (focus (first | omega | (simp only [inR]; omega) | rfl | (simp [notinId, notin]; done) | exact Or.inr rfl | (intro i hi; (repeat' (with_reducible first | apply len_cut | apply len_shift | apply len_app | apply len_copy | intro j)) <;> first | rfl | (exact len_lit _ _ (by simp) rfl _) | (simp; done)))))
  refine EffC.use a36 ?_ (.inl rfl) ?_
  · ((refine evL ?_; (try (with_reducible exact True.intro))) <;> (repeat' (with_reducible refine And.intro ?_ ?_)) <;> first | trivial | (exact fun _ _ => trivial) | (simp; done) | (exact fun q hq => cut_at0 q (by simpa using hq)) | (exact fun q hq => cut_at0 q (by omega)) | omega)
  (refine ev ?_; (try (with_reducible exact True.intro)))
  refine SH.Sem.step hm ?_
  (refine ev ?_; (try (with_reducible exact True.intro)))
  repeat (((with_reducible refine And.intro ?_ ?_)); (focus (first | omega | (simp only [inR]; omega) | rfl | (simp [notinId, notin]; done) | exact Or.inr rfl | (intro i hi; (repeat' (with_reducible first | apply len_cut | apply len_shift | apply len_app | apply len_copy | intro j)) <;> first | rfl | (exact len_lit _ _ (by simp) rfl _) | (simp; done)))))
  refine SH.Sem.step hm ?_
  (refine ev ?_; (try (with_reducible exact True.intro)))
  repeat (((with_reducible refine And.intro ?_ ?_)); (focus (first | omega | (simp only [inR]; omega) | rfl | (simp [notinId, notin]; done) | exact Or.inr rfl | (intro i hi; (repeat' (with_reducible first | apply len_cut | apply len_shift | apply len_app | apply len_copy | intro j)) <;> first | rfl | (exact len_lit _ _ (by simp) rfl _) | (simp; done)))))
  simp only [Int.toNat_natCast, v3, hn]
  refine SH.Sem.step hm ?_
  (refine ev ?_; (try (with_reducible exact True.intro)))
  repeat (((with_reducible refine And.intro ?_ ?_)); (focus (first | omega | (simp only [inR]; omega) | rfl | (simp [notinId, notin]; done) | exact Or.inr rfl | (intro i hi; (repeat' (with_reducible first | apply len_cut | apply len_shift | apply len_app | apply len_copy | intro j)) <;> first | rfl | (exact len_lit _ _ (by simp) rfl _) | (simp; done)))))
  refine SH.Sem.loop hm (fun i : Nat => ⟨padA [.undef, .ptr 0 0 0, .undef, .undef, .sl 1 0 n, .int .i64 i] 46, [.box [intRow ow, intRow pr, intRows su], .vec 1 n (encL cBool false (partL n (fun _ => true) (fun _ => false) i))]⟩) (fun i => i ≤ n) (fun i => n - i) [0, 1] 0 (by omega) ?_ fun i hi0 => ?_
  · simp only [padA, St.le, slotsLe, heapLe, blkLe, rowLe, live, injOn, loLe, nget, nlook, ren, okA, allP, mapA, hget, ABlk.used, notin, List.map_cons, List.map_nil, true_or, or_true, false_or, or_false, true_and, and_true, and_self, AV.int.injEq, AV.bool.injEq, AV.str.injEq, AV.sl.injEq, AV.ro.injEq, AV.agg.injEq, List.cons.injEq, reduceCtorEq, ne_eq, not_false_eq_true, not_true_eq_false]
    (repeat' (with_reducible refine And.intro ?_ ?_)) <;> first | exact (fun q hq => encb0 q hq) | rfl | trivial | (intros; trivial; done) | (intros; rfl; done) | (simp; done)
  simp only [padA]
  (refine ev ?_; (try (with_reducible exact True.intro)))
  refine gsd (fun hd => ?_) (fun hd => ?_)
  · have hi : i < n := by omega
    have e1 := encb_upd1 (f := fun _ => true) (g := fun _ => false) hi _ rfl
    (refine ev ?_; (try (with_reducible exact True.intro)))
    simp only [Int.toNat_natCast, e1]
    repeat (((with_reducible refine And.intro ?_ ?_)); (focus (first | omega | (simp only [inR]; omega) | rfl | (simp [notinId, notin]; done) | exact Or.inr rfl | (intro i hi; (repeat' (with_reducible first | apply len_cut | apply len_shift | apply len_app | apply len_copy | intro j)) <;> first | rfl | (exact len_lit _ _ (by simp) rfl _) | (simp; done)))))
    refine ⟨i + 1, [0, 1], by omega, by show n - (i + 1) < n - i; omega, ?_⟩
    simp only [padA, St.le, slotsLe, heapLe, blkLe, rowLe, live, injOn, loLe, nget, nlook, ren, okA, allP, mapA, hget, ABlk.used, notin, List.map_cons, List.map_nil, true_or, or_true, false_or, or_false, true_and, and_true, and_self, AV.int.injEq, AV.bool.injEq, AV.str.injEq, AV.sl.injEq, AV.ro.injEq, AV.agg.injEq, List.cons.injEq, reduceCtorEq, ne_eq, not_false_eq_true, not_true_eq_false]; simp
  obtain rfl : n = i := by omega
  (refine ev ?_; (try (with_reducible exact True.intro)))
  clear hi0 hd
  simp only [partL_full]
  refine SH.Sem.freeze 1 rfl ?_
  simp only [mapA, frz, hset]
  refine SH.Sem.step hm ?_
  (refine ev ?_; (try (with_reducible exact True.intro)))
  repeat (((with_reducible refine And.intro ?_ ?_)); (focus (first | omega | (simp only [inR]; omega) | rfl | (simp [notinId, notin]; done) | exact Or.inr rfl | (intro i hi; (repeat' (with_reducible first | apply len_cut | apply len_shift | apply len_app | apply len_copy | intro j)) <;> first | rfl | (exact len_lit _ _ (by simp) rfl _) | (simp; done)))))
  refine EffC.use a53 ?_ (.inr rfl) ?_
  · ((refine evL ?_; (try (with_reducible exact True.intro))) <;> (repeat' (with_reducible refine And.intro ?_ ?_)) <;> first | trivial | (exact fun _ _ => trivial) | (simp; done) | (exact fun q hq => cut_at0 q (by simpa using hq)) | (exact fun q hq => cut_at0 q (by omega)) | omega)
  (refine ev ?_; (try (with_reducible exact True.intro)))
  repeat (((with_reducible refine And.intro ?_ ?_)); (focus (first | omega | (simp only [inR]; omega) | rfl | (simp [notinId, notin]; done) | exact Or.inr rfl | (intro i hi; (repeat' (with_reducible first | apply len_cut | apply len_shift | apply len_app | apply len_copy | intro j)) <;> first | rfl | (exact len_lit _ _ (by simp) rfl _) | (simp; done)))))
  refine SH.Sem.step hm ?_
  (refine ev ?_; (try (with_reducible exact True.intro)))
  repeat (((with_reducible refine And.intro ?_ ?_)); (focus (first | omega | (simp only [inR]; omega) | rfl | (simp [notinId, notin]; done) | exact Or.inr rfl | (intro i hi; (repeat' (with_reducible first | apply len_cut | apply len_shift | apply len_app | apply len_copy | intro j)) <;> first | rfl | (exact len_lit _ _ (by simp) rfl _) | (simp; done)))))
  refine SH.Sem.adopt 7 1 (encL (cInt .i64) 0 []) (by decide) rfl ?_
  simp only [hset, hlen, sput]
  refine SH.Sem.step hm ?_
  (refine ev ?_; (try (with_reducible exact True.intro)))
  repeat (((with_reducible refine And.intro ?_ ?_)); (focus (first | omega | (simp only [inR]; omega) | rfl | (simp [notinId, notin]; done) | exact Or.inr rfl | (intro i hi; (repeat' (with_reducible first | apply len_cut | apply len_shift | apply len_app | apply len_copy | intro j)) <;> first | rfl | (exact len_lit _ _ (by simp) rfl _) | (simp; done)))))
  have ol : (outL n w).length = n := by simp [outL]
  refine SH.Sem.loop hm (fun i : Nat => ⟨padA [.undef, .undef, .undef, .undef, .ro n (cutF n 0 n (encL cBool false ((List.range n).map fun _ => true))), .undef, boolRow w, .sl 0 0 i, .int .i64 i] 46, [.vec 1 i (encL (cInt .i64) 0 ((outL n w).take i))]⟩) (fun i => i ≤ n) (fun i => n - i) [2] 0 (by omega) ?_ fun i hi0 => ?_
  · simp only [padA, St.le, slotsLe, heapLe, blkLe, rowLe, live, injOn, loLe, nget, nlook, ren, okA, allP, mapA, hget, ABlk.used, notin, List.map_cons, List.map_nil, true_or, or_true, false_or, or_false, true_and, and_true, and_self, AV.int.injEq, AV.bool.injEq, AV.str.injEq, AV.sl.injEq, AV.ro.injEq, AV.agg.injEq, List.cons.injEq, reduceCtorEq, ne_eq, not_false_eq_true, not_true_eq_false]; simp
  simp only [padA]
  (refine ev ?_; (try (with_reducible exact True.intro)))
  refine gsd (fun hd => ?_) (fun hd => ?_)
  · have hi : i < n := by omega
    have nx := take_next (outL n w) 0 i (by omega)
    have tl : i = ((outL n w).take i).length := by rw [List.length_take]; omega
    have e : (outL n w).getD i 0 = if w.getD i false = true then 0 else 1 := by rw [outL, range_map_getD _ _ _ _ hi]
    rw [e] at nx
    (refine ev ?_; (try (with_reducible exact True.intro)))
    simp only [Int.toNat_natCast]
    repeat (((with_reducible refine And.intro ?_ ?_)); (focus (first | omega | (simp only [inR]; omega) | rfl | (simp [notinId, notin]; done) | exact Or.inr rfl | (intro i hi; (repeat' (with_reducible first | apply len_cut | apply len_shift | apply len_app | apply len_copy | intro j)) <;> first | rfl | (exact len_lit _ _ (by simp) rfl _) | (simp; done)))))
    refine gs (fun h => ?_) (fun h => ?_)
    · rw [if_pos h] at nx
      (refine ev ?_; (try (with_reducible exact True.intro)))
      repeat (((with_reducible refine And.intro ?_ ?_)); (focus (first | omega | (simp only [inR]; omega) | rfl | (simp [notinId, notin]; done) | exact Or.inr rfl | (intro i hi; (repeat' (with_reducible first | apply len_cut | apply len_shift | apply len_app | apply len_copy | intro j)) <;> first | rfl | (exact len_lit _ _ (by simp) rfl _) | (simp; done)))))
      refine ⟨i + 1, [2], by omega, by show n - (i + 1) < n - i; omega, ?_⟩
      simp only [padA, St.le, slotsLe, heapLe, blkLe, rowLe, live, injOn, loLe, nget, nlook, ren, okA, allP, mapA, hget, ABlk.used, notin, List.map_cons, List.map_nil, true_or, or_true, false_or, or_false, true_and, and_true, and_self, AV.int.injEq, AV.bool.injEq, AV.str.injEq, AV.sl.injEq, AV.ro.injEq, AV.agg.injEq, List.cons.injEq, reduceCtorEq, ne_eq, not_false_eq_true, not_true_eq_false, nx]
      exact ⟨by omega, fun q hq => app_enc (n := i) (m := 1) (e := cInt .i64) (d := 0) tl (fun j h => cut_at0 j h) (fun j h => lit1 (0 : Int) rfl j h) q hq⟩
    · rw [if_neg (by rw [h]; simp)] at nx
      (refine ev ?_; (try (with_reducible exact True.intro)))
      repeat (((with_reducible refine And.intro ?_ ?_)); (focus (first | omega | (simp only [inR]; omega) | rfl | (simp [notinId, notin]; done) | exact Or.inr rfl | (intro i hi; (repeat' (with_reducible first | apply len_cut | apply len_shift | apply len_app | apply len_copy | intro j)) <;> first | rfl | (exact len_lit _ _ (by simp) rfl _) | (simp; done)))))
      refine ⟨i + 1, [2], by omega, by show n - (i + 1) < n - i; omega, ?_⟩
      simp only [padA, St.le, slotsLe, heapLe, blkLe, rowLe, live, injOn, loLe, nget, nlook, ren, okA, allP, mapA, hget, ABlk.used, notin, List.map_cons, List.map_nil, true_or, or_true, false_or, or_false, true_and, and_true, and_self, AV.int.injEq, AV.bool.injEq, AV.str.injEq, AV.sl.injEq, AV.ro.injEq, AV.agg.injEq, List.cons.injEq, reduceCtorEq, ne_eq, not_false_eq_true, not_true_eq_false, nx]
      exact ⟨by omega, fun q hq => app_enc (n := i) (m := 1) (e := cInt .i64) (d := 0) tl (fun j h => cut_at0 j h) (fun j h => lit1 (1 : Int) rfl j h) q hq⟩
  obtain rfl : n = i := by omega
  (refine ev ?_; (try (with_reducible exact True.intro)))
  clear hi0 hd
  rw [List.take_of_length_le (by omega)]
  refine SH.Sem.of_wpA hm ?_
  (refine ev ?_; (try (with_reducible exact True.intro)))
  repeat (((with_reducible refine And.intro ?_ ?_)); (focus (first | omega | (simp only [inR]; omega) | rfl | (simp [notinId, notin]; done) | exact Or.inr rfl | (intro i hi; (repeat' (with_reducible first | apply len_cut | apply len_shift | apply len_app | apply len_copy | intro j)) <;> first | rfl | (exact len_lit _ _ (by simp) rfl _) | (simp; done)))))
  simp only [ol]
  ((repeat' (with_reducible refine And.intro ?_ ?_)) <;> first | omega | (simp [notinId]; done) | (exact fun q hq => cut_at0 q (by simpa using hq)) | (exact fun q hq => cut_at0 q (by omega)) | (exact fun _ _ => rfl))
theorem s4 (ow pr : List Int) (su : List (List Int)) : Contract Try.prog 4 [game ow pr su] (.one (.val (.bool true))) := by
  refine ct4 (SH.Sem.of_wpA hm ?_)
  simp only [padA]
  simp only [Try.f4, Option.getD, w_skip, w_reg, w_regd, w_seq, w_cond, w_block, w_loop, w_rf, w_exit, w_ret, f_ok, f_call, f_yield, yK_cons, a_normal, r_normal, r_ret, r_exit, rg_cons, putL, frz, beq_self_eq_true, Nat.reduceBEq, updG_same, f_bad, cK_nil, cK_cons, v_nil, v_cons, gK_tt, gK_ff, gK_tf, gK_ft, dK_go, d_nil, d_cons, gD_tt, gD_ff, gD_tf, gD_ft, eC_one, eC_tup, eC_own, eE_ok, eE_bad, eD, eff, eBin, eEq, eUn, eConv, eLen, eMin, eMax, eField, eFieldAddr, eIndex, eIndexAddr, eSlice, eLoad, eStore, eAlloc, eBox, eBuild, eBuildSlice, eMake, eAppend, eCopy, eMakeMap, eMapUpdate, eLookup, lookV, optN, eNil, ePick, eExtract, E.pure, Eff.only, Eff.notB, evalA, AV.ofV, AV.ofC, sget, sput, putA, applyU, hset, hget, hlen, alen, takeA, dropA, spliceA, mapA, allA, lget, oget, pget, tget, cellsA, AV.one, AV.goneB, partA, partC, TK.isAgg, nilish, natA, natC, loN, hiN, optC, roCut, loadP, loadC, aggOr, fillA, fillC, allPos, partsC, partsCells, partsAll, kills, killIds, liveAll, gnd, srcOf, inBlk, mapO, mapP, Go.SH.IntKind.uns, TK.flat, eqSc, eqScC, eqFs, eqFsC, seqK, blockK, condK, l_exit, l_ret, retK, retS, rsV, rsC, allT, padA, mapT, glook, bsel, gsplit_true, gsplit_false, resOf, resIds, resAll, nodupN, notin, like, like1, likeL, likeAll, AV.np, AV.gb, idsR, idsM, retI, retR, reify, AR.v, AR.u, AR.nv, nvec, impV, impU, isAlloc, callOf, countA, upIds, Option.map_none, Option.map_some, Option.isSome_some, Option.isSome_none, List.map_cons, List.map_nil, true_and, and_true, List.cons_append, List.nil_append, List.append_nil, List.length_cons, List.length_nil, List.nodup_nil, List.not_mem_nil, not_false_eq_true, ne_eq, reduceCtorEq, Bool.and_true, Bool.true_and, Bool.not_true, Bool.not_false, if_true, if_false, reduceIte, en_byte, en_byte', en_int, en_int', en_bool, en_bool', en_str, en_str', en_row, en_row', sh_at, sh_at', and_assoc, Nat.zero_add, Nat.add_zero, Nat.reduceAdd, appF_zero, Option.isNone_none, Option.isNone_some, en_byteL, en_intL, en_rowL, Int.reduceToNat, Nat.mul_one, Nat.one_mul, Nat.zero_mul, Nat.reduceMul, Nat.reduceSub, Nat.sub_zero, bne_self_eq_false, ti1, ti2, ti3, ti4, ti5, ti6, ti7, ti8, ti9, ti10, ti11, ti12, ti13, ti14, ti15, ti16, ti17, ti18, ti19, ti21, ti22, ti23, ti24, ti25, ti26, ti27, ti28, ti30, ti31, ti33, ti34, ti35, ti36, ti37, ti38, ti39, ti40, ti41, ti42, ti43, ti45, ti46, ti47, ti48, ti49, ti50, ti51, ti52, ti53, ti54, ti55, ti57, ti58, ti59, ti60, ti61, ti62, ti63, ti64, ti65, ti66, ti67, ti68, ti69, ti70, ti71, ti72, ti73, ti74, ti75, ti76, ti77, ti78, ti79, ti80, ti81, ti82, ti83, ti85, ti86, ti87, ti88, ti89, ti90, ti91, ti92, ti93, ti94, ti95, ti96, ti97, ti98, ti99, ti100, ti101, ti102, ti103, ti104, ti105, ti106, ti107, ti108, ti109]
  repeat (((with_reducible refine And.intro ?_ ?_)); (focus (first | omega | (simp only [inR]; omega) | rfl | (simp [notinId, notin]; done) | exact Or.inr rfl | (intro i hi; (repeat' (with_reducible first | apply len_cut | apply len_shift | apply len_app | apply len_copy | intro j)) <;> first | rfl | (exact len_lit _ _ (by simp) rfl _) | (simp; done)))))
  refine EffC.use c17 ?_ (.inl rfl) ?_
  · trivial
  (refine ev ?_; (try (with_reducible exact True.intro)))
  repeat (((with_reducible refine And.intro ?_ ?_)); (focus (first | omega | (simp only [inR]; omega) | rfl | (simp [notinId, notin]; done) | exact Or.inr rfl | (intro i hi; (repeat' (with_reducible first | apply len_cut | apply len_shift | apply len_app | apply len_copy | intro j)) <;> first | rfl | (exact len_lit _ _ (by simp) rfl _) | (simp; done)))))
  refine EffC.use (k10 ow pr su 30 (by omega)) ?_ (.inl rfl) ?_
  · ((refine evL ?_; (try (with_reducible exact True.intro))) <;> (repeat' (with_reducible refine And.intro ?_ ?_)) <;> first | trivial | (exact fun _ _ => trivial) | (simp; done) | (exact fun q hq => cut_at0 q (by simpa using hq)) | (exact fun q hq => cut_at0 q (by omega)) | omega)
  (refine ev ?_; (try (with_reducible exact True.intro)))
  repeat (((with_reducible refine And.intro ?_ ?_)); (focus (first | omega | (simp only [inR]; omega) | rfl | (simp [notinId, notin]; done) | exact Or.inr rfl | (intro i hi; (repeat' (with_reducible first | apply len_cut | apply len_shift | apply len_app | apply len_copy | intro j)) <;> first | rfl | (exact len_lit _ _ (by simp) rfl _) | (simp; done)))))
  refine gs (fun h1 => ?_) (fun h1 => ?_)
  · (refine ev ?_; (try (with_reducible exact True.intro)))
    ((repeat' (with_reducible refine And.intro ?_ ?_)) <;> first | omega | (simp [notinId]; done) | (exact fun q hq => cut_at0 q (by simpa using hq)) | (exact fun q hq => cut_at0 q (by omega)) | (exact fun _ _ => rfl))
  · obtain ⟨l1, l2, l3, l4⟩ := smallB_spec (most := 30) (ow := ow) (pr := pr) (su := su) (by simpa using h1)
    have hr20 : ∀ r ∈ su, r.length ≤ 2 ^ 20 := fun r hr => by have := l4 r hr; omega
    obtain ⟨ws, w1, w2, a20⟩ := c20 ow pr su (by omega) (by omega) (by omega) hr20
    obtain ⟨rs, r1, r2, a21⟩ := d21 ow pr su hr20
    have e : ws = rs := by
      cases hv : validB ow pr su
      · rw [w2 hv, r2 hv]
      · exact wins_eq hv (w1 hv) (r1 hv)
    have wl : ws.length < 2 ^ 40 := by
      cases hv : validB ow pr su
      · rw [w2 hv]; simp
      · rw [(w1 hv).len]; omega
    have a19 := c19 ws rs wl
    rw [e, show (rs == rs) = true from beq_self_eq_true rs] at a19
    rw [e] at a20
    (refine ev ?_; (try (with_reducible exact True.intro)))
    repeat (((with_reducible refine And.intro ?_ ?_)); (focus (first | omega | (simp only [inR]; omega) | rfl | (simp [notinId, notin]; done) | exact Or.inr rfl | (intro i hi; (repeat' (with_reducible first | apply len_cut | apply len_shift | apply len_app | apply len_copy | intro j)) <;> first | rfl | (exact len_lit _ _ (by simp) rfl _) | (simp; done)))))
    refine ExCall.use a20 ?_ (.inr rfl) ?_
    · ((refine evL ?_; (try (with_reducible exact True.intro))) <;> (repeat' (with_reducible refine And.intro ?_ ?_)) <;> first | trivial | (exact fun _ _ => trivial) | (simp; done) | (exact fun q hq => cut_at0 q (by simpa using hq)) | (exact fun q hq => cut_at0 q (by omega)) | omega)
    (refine ev ?_; (try (with_reducible exact True.intro)))
    repeat (((with_reducible refine And.intro ?_ ?_)); (focus (first | omega | (simp only [inR]; omega) | rfl | (simp [notinId, notin]; done) | exact Or.inr rfl | (intro i hi; (repeat' (with_reducible first | apply len_cut | apply len_shift | apply len_app | apply len_copy | intro j)) <;> first | rfl | (exact len_lit _ _ (by simp) rfl _) | (simp; done)))))
    refine ExCall.use a21 ?_ (.inr rfl) ?_
    · ((refine evL ?_; (try (with_reducible exact True.intro))) <;> (repeat' (with_reducible refine And.intro ?_ ?_)) <;> first | trivial | (exact fun _ _ => trivial) | (simp; done) | (exact fun q hq => cut_at0 q (by simpa using hq)) | (exact fun q hq => cut_at0 q (by omega)) | omega)
    (refine ev ?_; (try (with_reducible exact True.intro)))
    repeat (((with_reducible refine And.intro ?_ ?_)); (focus (first | omega | (simp only [inR]; omega) | rfl | (simp [notinId, notin]; done) | exact Or.inr rfl | (intro i hi; (repeat' (with_reducible first | apply len_cut | apply len_shift | apply len_app | apply len_copy | intro j)) <;> first | rfl | (exact len_lit _ _ (by simp) rfl _) | (simp; done)))))
    refine ExCall.use a19 ?_ (.inl rfl) ?_
    · ((refine evL ?_; (try (with_reducible exact True.intro))) <;> (repeat' (with_reducible refine And.intro ?_ ?_)) <;> first | trivial | (exact fun _ _ => trivial) | (simp; done) | (exact fun q hq => cut_at0 q (by simpa using hq)) | (exact fun q hq => cut_at0 q (by omega)) | omega)
    (refine ev ?_; (try (with_reducible exact True.intro)))
    repeat (((with_reducible refine And.intro ?_ ?_)); (focus (first | omega | (simp only [inR]; omega) | rfl | (simp [notinId, notin]; done) | exact Or.inr rfl | (intro i hi; (repeat' (with_reducible first | apply len_cut | apply len_shift | apply len_app | apply len_copy | intro j)) <;> first | rfl | (exact len_lit _ _ (by simp) rfl _) | (simp; done)))))
    ((repeat' (with_reducible refine And.intro ?_ ?_)) <;> first | omega | (simp [notinId]; done) | (exact fun q hq => cut_at0 q (by simpa using hq)) | (exact fun q hq => cut_at0 q (by omega)) | (exact fun _ _ => rfl))
end
end Go.Proofs.Ythkgnnndlocbbaa
