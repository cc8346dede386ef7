/-
  The law SolveStrategies' function: it returns true. No condition.
-/
import Derived.Test.YthkgnnndlocbbaaUb
import Derived.Test.YthkgnnndlocbbaaUc
namespace Go.Proofs.Ythkgnnndlocbbaa
set_option linter.unusedVariables false
set_option linter.unusedSimpArgs false
open Go Go.SH Go.Parity
set_option maxRecDepth 100000
set_option maxHeartbeats 4000000
theorem mod_who (b : UInt8) : ∃ pl : Int, (pl = 0 ∨ pl = 1) ∧ ((b.toNat : Nat) : Int).tmod 2 = pl := by
  refine ⟨_, ?_, rfl⟩
  rw [Int.tmod_eq_emod_of_nonneg (by omega)]; omega
theorem rows_at {n i : Nat} {cs : Nat → List Int} (h : i < n) : ((List.range n).map cs).getD i [] = cs i := range_map_getD _ _ _ _ h
/-- A step after which no more than a given state is known. -/
theorem stepL {P : Program} {lo : Cx} (hm : P.follows .mixedOrders = true) {a b : Code} {Q : Exit → St → Prop} {st I : St} (k : SH.Sem P lo b Q I) (h : wpA P lo a (seqK (fun s => ∃ ρ, St.le lo ρ s I) Q) st) : SH.Sem P lo (.seq a b) Q st := by
  intro φ0 H0 w0 φ ac w hlo hs e0
  refine wpIn_seq (wpIn_mono (wpA_sound hm a _ st h φ0 H0 w0 φ ac w hlo hs e0) fun e a' w' he => ?_)
  obtain ⟨φ', st', h1, h2, h3⟩ := he
  cases e with
  | normal =>
    obtain ⟨ρ, hle⟩ := h1
    obtain ⟨φ'', hs'', e''⟩ := le_sound hle hlo h2 h3
    exact k φ0 H0 w0 φ'' a' w' hlo hs'' e''
  | _ => exact ⟨φ', st', h1, h2, h3⟩
theorem zeroI (n : Nat) : constF [AV.int .i64 0] = encL (cInt .i64) 0 ((List.range n).map fun _ => (0 : Int)) := by
  funext q
  rcases Nat.lt_or_ge q n with h | h
  · rw [encL, range_map_getD _ _ _ _ h]; rfl
  · rw [encL, getD_ge _ _ _ (by simpa using h)]; rfl
theorem resT_le (cs : Nat → List Int) (m : Nat) : ∀ i, resT cs m i ≤ m
  | 0 => Nat.le_refl _
  | i + 1 => by
    rw [resT]
    split
    · exact Nat.le_trans (Nat.div_le_self _ _) (resT_le cs m i)
    · exact resT_le cs m i
theorem s7 (ow pr : List Int) (su : List (List Int)) (b : UInt8) : Contract Try.prog 7 [game ow pr su, .int .u8 (b.toNat : Nat)] (.one (.val (.bool true))) := by
  refine ct7 ?_
  simp only [padA]
  simp only [Try.f7, Option.getD]
  refine SH.Sem.step hm ?_
  (refine ev ?_; (try (with_reducible exact True.intro)))
  repeat (((with_reducible refine And.intro ?_ ?_)); (focus (first | omega | (simp only [inR]; omega) | rfl | (simp [notinId, notin]; done) | exact Or.inr rfl | (intro i hi; (repeat' (with_reducible first | apply len_cut | apply len_shift | apply len_app | apply len_copy | intro j)) <;> first | rfl | (exact len_lit _ _ (by simp) rfl _) | (simp; done)))))
  refine SH.Sem.step hm ?_
  (refine ev ?_; (try (with_reducible exact True.intro)))
  repeat (((with_reducible refine And.intro ?_ ?_)); (focus (first | omega | (simp only [inR]; omega) | rfl | (simp [notinId, notin]; done) | exact Or.inr rfl | (intro i hi; (repeat' (with_reducible first | apply len_cut | apply len_shift | apply len_app | apply len_copy | intro j)) <;> first | rfl | (exact len_lit _ _ (by simp) rfl _) | (simp; done)))))
  refine EffC.use c17 ?_ (.inl rfl) ?_
  · trivial
  (refine ev ?_; (try (with_reducible exact True.intro)))
  repeat (((with_reducible refine And.intro ?_ ?_)); (focus (first | omega | (simp only [inR]; omega) | rfl | (simp [notinId, notin]; done) | exact Or.inr rfl | (intro i hi; (repeat' (with_reducible first | apply len_cut | apply len_shift | apply len_app | apply len_copy | intro j)) <;> first | rfl | (exact len_lit _ _ (by simp) rfl _) | (simp; done)))))
  have a22 := c22 ow pr su 7 (by omega)
  refine SH.Sem.step hm ?_
  (refine ev ?_; (try (with_reducible exact True.intro)))
  repeat (((with_reducible refine And.intro ?_ ?_)); (focus (first | omega | (simp only [inR]; omega) | rfl | (simp [notinId, notin]; done) | exact Or.inr rfl | (intro i hi; (repeat' (with_reducible first | apply len_cut | apply len_shift | apply len_app | apply len_copy | intro j)) <;> first | rfl | (exact len_lit _ _ (by simp) rfl _) | (simp; done)))))
  cases hsm : smallB 7 ow pr su && validB ow pr su
  · rw [hsm] at a22
    refine EffC.use a22 ?_ (.inl rfl) ?_
    · ((refine evL ?_; (try (with_reducible exact True.intro))) <;> (repeat' (with_reducible refine And.intro ?_ ?_)) <;> first | trivial | (exact fun _ _ => trivial) | (simp; done) | (exact fun q hq => cut_at0 q (by simpa using hq)) | (exact fun q hq => cut_at0 q (by omega)) | omega)
    (refine ev ?_; (try (with_reducible exact True.intro)))
    ((repeat' (with_reducible refine And.intro ?_ ?_)) <;> first | omega | (simp [notinId]; done) | (exact fun q hq => cut_at0 q (by simpa using hq)) | (exact fun q hq => cut_at0 q (by omega)) | (exact fun _ _ => rfl))
  rw [hsm] at a22
  refine EffC.use a22 ?_ (.inl rfl) ?_
  · ((refine evL ?_; (try (with_reducible exact True.intro))) <;> (repeat' (with_reducible refine And.intro ?_ ?_)) <;> first | trivial | (exact fun _ _ => trivial) | (simp; done) | (exact fun q hq => cut_at0 q (by simpa using hq)) | (exact fun q hq => cut_at0 q (by omega)) | omega)
  rw [Bool.and_eq_true] at hsm
  obtain ⟨l1, _, _, l4⟩ := smallB_spec hsm.1
  have hv := hsm.2
  obtain ⟨v1, v2, v3, v4⟩ := validB_spec hv
  obtain ⟨n, hn⟩ : ∃ n, ow.length = n := ⟨_, rfl⟩
  have hn7 : n ≤ 7 := by omega
  have hr20 : ∀ r ∈ su, r.length ≤ 2 ^ 20 := fun r hr => by have := l4 r hr; omega
  obtain ⟨ws, w1, _, a20⟩ := c20 ow pr su (by omega) (by omega) (by omega) hr20
  have hw := w1 hv
  have wl := hw.len
  obtain ⟨pl, hp, hpl⟩ := mod_who b
  have hb := b.toNat_lt
  obtain ⟨f1, f2, m, m1, m2⟩ := strat_ex hv hp hw n hn
  have a23 := c23 ow pr su ws pl (by omega) (by omega) _ (.inl rfl)
  rw [show su.length = n by omega] at a23
  obtain ⟨set, hset'⟩ : ∃ set, wonL n ws pl = set := ⟨_, rfl⟩
  rw [hset'] at f1 f2 m1 m2 a23
  have hsl : set.length = n := by rw [← hset', wonL]; simp
  have a27 : ∀ s : List Int, s.length = n → _ := fun s hs => c27 ow pr su pl set s hv hr20 n hn hsl hs
  (refine ev ?_; (try (with_reducible exact True.intro)))
  repeat (((with_reducible refine And.intro ?_ ?_)); (focus (first | omega | (simp only [inR]; omega) | rfl | (simp [notinId, notin]; done) | exact Or.inr rfl | (intro i hi; (repeat' (with_reducible first | apply len_cut | apply len_shift | apply len_app | apply len_copy | intro j)) <;> first | rfl | (exact len_lit _ _ (by simp) rfl _) | (simp; done)))))
  refine SH.Sem.step hm ?_
  (refine ev ?_; (try (with_reducible exact True.intro)))
  repeat (((with_reducible refine And.intro ?_ ?_)); (focus (first | omega | (simp only [inR]; omega) | rfl | (simp [notinId, notin]; done) | exact Or.inr rfl | (intro i hi; (repeat' (with_reducible first | apply len_cut | apply len_shift | apply len_app | apply len_copy | intro j)) <;> first | rfl | (exact len_lit _ _ (by simp) rfl _) | (simp; done)))))
  refine SH.Sem.loop hm (fun i : Nat => ⟨padA [.undef, .int .u8 (b.toNat : Nat), .ptr 0 0 0, .undef, .undef, .bool true, .int .i64 i] 172, [.box [intRow ow, intRow pr, intRows su]]⟩) (fun i => i ≤ n ∧ ∀ j, j < i → (su.getD j []).length ≤ 3) (fun i => n - i) [0] 0 ⟨by omega, fun j hj => by omega⟩ ?_ fun i ⟨hi0, hi1⟩ => ?_
  · simp only [padA, St.le, slotsLe, heapLe, blkLe, rowLe, live, injOn, loLe, nget, nlook, ren, okA, allP, mapA, hget, ABlk.used, notin, List.map_cons, List.map_nil, true_or, or_true, false_or, or_false, true_and, and_true, and_self, AV.int.injEq, AV.bool.injEq, AV.str.injEq, AV.sl.injEq, AV.ro.injEq, AV.agg.injEq, List.cons.injEq, reduceCtorEq, ne_eq, not_false_eq_true, not_true_eq_false]; simp
  simp only [padA]
  (refine ev ?_; (try (with_reducible exact True.intro)))
  repeat (((with_reducible refine And.intro ?_ ?_)); (focus (first | omega | (simp only [inR]; omega) | rfl | (simp [notinId, notin]; done) | exact Or.inr rfl | (intro i hi; (repeat' (with_reducible first | apply len_cut | apply len_shift | apply len_app | apply len_copy | intro j)) <;> first | rfl | (exact len_lit _ _ (by simp) rfl _) | (simp; done)))))
  refine gsd (fun hd => ?_) (fun hd => ?_)
  · have hi : i < n := by omega
    (refine ev ?_; (try (with_reducible exact True.intro)))
    simp only [Int.toNat_natCast]
    repeat (((with_reducible refine And.intro ?_ ?_)); (focus (first | omega | (simp only [inR]; omega) | rfl | (simp [notinId, notin]; done) | exact Or.inr rfl | (intro i hi; (repeat' (with_reducible first | apply len_cut | apply len_shift | apply len_app | apply len_copy | intro j)) <;> first | rfl | (exact len_lit _ _ (by simp) rfl _) | (simp; done)))))
    refine gsd (fun h => ?_) (fun h => ?_)
    · (refine ev ?_; (try (with_reducible exact True.intro)))
      ((repeat' (with_reducible refine And.intro ?_ ?_)) <;> first | omega | (simp [notinId]; done) | (exact fun q hq => cut_at0 q (by simpa using hq)) | (exact fun q hq => cut_at0 q (by omega)) | (exact fun _ _ => rfl))
    · (refine ev ?_; (try (with_reducible exact True.intro)))
      repeat (((with_reducible refine And.intro ?_ ?_)); (focus (first | omega | (simp only [inR]; omega) | rfl | (simp [notinId, notin]; done) | exact Or.inr rfl | (intro i hi; (repeat' (with_reducible first | apply len_cut | apply len_shift | apply len_app | apply len_copy | intro j)) <;> first | rfl | (exact len_lit _ _ (by simp) rfl _) | (simp; done)))))
      refine ⟨i + 1, [0], ⟨by omega, fun j hj => ?_⟩, by show n - (i + 1) < n - i; omega, ?_⟩
      · rcases Nat.lt_or_ge j i with h1 | h1
        · exact hi1 j h1
        · obtain rfl : j = i := by omega
          omega
      simp only [padA, St.le, slotsLe, heapLe, blkLe, rowLe, live, injOn, loLe, nget, nlook, ren, okA, allP, mapA, hget, ABlk.used, notin, List.map_cons, List.map_nil, true_or, or_true, false_or, or_false, true_and, and_true, and_self, AV.int.injEq, AV.bool.injEq, AV.str.injEq, AV.sl.injEq, AV.ro.injEq, AV.agg.injEq, List.cons.injEq, reduceCtorEq, ne_eq, not_false_eq_true, not_true_eq_false]; simp
  obtain rfl : n = i := by omega
  have h3 : ∀ i, (su.getD i []).length ≤ 3 := fun i => by
    rcases Nat.lt_or_ge i n with h | h
    · exact hi1 i h
    · rw [getD_ge _ _ _ (by omega)]; simp
  have a26 := c26 ow pr su pl set hv n hn hn7 h3 hsl
  have tp := proT_le (chL ow su pl set) (fun j => Nat.le_trans chK_len (h3 j)) n
  have tp : proT (chL ow su pl set) n ≤ 2187 := Nat.le_trans tp (Nat.le_trans (Nat.pow_le_pow_right (by omega) hn7) (by decide))
  (refine ev ?_; (try (with_reducible exact True.intro)))
  clear hi0 hi1 hd
  refine SH.Sem.step hm ?_
  (refine ev ?_; (try (with_reducible exact True.intro)))
  simp only [hpl]
  repeat (((with_reducible refine And.intro ?_ ?_)); (focus (first | omega | (simp only [inR]; omega) | rfl | (simp [notinId, notin]; done) | exact Or.inr rfl | (intro i hi; (repeat' (with_reducible first | apply len_cut | apply len_shift | apply len_app | apply len_copy | intro j)) <;> first | rfl | (exact len_lit _ _ (by simp) rfl _) | (simp; done)))))
  refine SH.Sem.step hm ?_
  (refine ev ?_; (try (with_reducible exact True.intro)))
  repeat (((with_reducible refine And.intro ?_ ?_)); (focus (first | omega | (simp only [inR]; omega) | rfl | (simp [notinId, notin]; done) | exact Or.inr rfl | (intro i hi; (repeat' (with_reducible first | apply len_cut | apply len_shift | apply len_app | apply len_copy | intro j)) <;> first | rfl | (exact len_lit _ _ (by simp) rfl _) | (simp; done)))))
  refine ExCall.use a20 ?_ (.inr rfl) ?_
  · ((refine evL ?_; (try (with_reducible exact True.intro))) <;> (repeat' (with_reducible refine And.intro ?_ ?_)) <;> first | trivial | (exact fun _ _ => trivial) | (simp; done) | (exact fun q hq => cut_at0 q (by simpa using hq)) | (exact fun q hq => cut_at0 q (by omega)) | omega)
  (refine ev ?_; (try (with_reducible exact True.intro)))
  repeat (((with_reducible refine And.intro ?_ ?_)); (focus (first | omega | (simp only [inR]; omega) | rfl | (simp [notinId, notin]; done) | exact Or.inr rfl | (intro i hi; (repeat' (with_reducible first | apply len_cut | apply len_shift | apply len_app | apply len_copy | intro j)) <;> first | rfl | (exact len_lit _ _ (by simp) rfl _) | (simp; done)))))
  refine ExCall.use a23 ?_ (.inr rfl) ?_
  · ((refine evL ?_; (try (with_reducible exact True.intro))) <;> (repeat' (with_reducible refine And.intro ?_ ?_)) <;> first | trivial | (exact fun _ _ => trivial) | (simp; done) | (exact fun q hq => cut_at0 q (by simpa using hq)) | (exact fun q hq => cut_at0 q (by omega)) | omega)
  (refine ev ?_; (try (with_reducible exact True.intro)))
  repeat (((with_reducible refine And.intro ?_ ?_)); (focus (first | omega | (simp only [inR]; omega) | rfl | (simp [notinId, notin]; done) | exact Or.inr rfl | (intro i hi; (repeat' (with_reducible first | apply len_cut | apply len_shift | apply len_app | apply len_copy | intro j)) <;> first | rfl | (exact len_lit _ _ (by simp) rfl _) | (simp; done)))))
  refine SH.Sem.step hm ?_
  (refine ev ?_; (try (with_reducible exact True.intro)))
  repeat (((with_reducible refine And.intro ?_ ?_)); (focus (first | omega | (simp only [inR]; omega) | rfl | (simp [notinId, notin]; done) | exact Or.inr rfl | (intro i hi; (repeat' (with_reducible first | apply len_cut | apply len_shift | apply len_app | apply len_copy | intro j)) <;> first | rfl | (exact len_lit _ _ (by simp) rfl _) | (simp; done)))))
  refine EffC.use a26 ?_ (.inr rfl) ?_
  · ((refine evL ?_; (try (with_reducible exact True.intro))) <;> (repeat' (with_reducible refine And.intro ?_ ?_)) <;> first | trivial | (exact fun _ _ => trivial) | (simp; done) | (exact fun q hq => cut_at0 q (by simpa using hq)) | (exact fun q hq => cut_at0 q (by omega)) | omega)
  (refine ev ?_; (try (with_reducible exact True.intro)))
  repeat (((with_reducible refine And.intro ?_ ?_)); (focus (first | omega | (simp only [inR]; omega) | rfl | (simp [notinId, notin]; done) | exact Or.inr rfl | (intro i hi; (repeat' (with_reducible first | apply len_cut | apply len_shift | apply len_app | apply len_copy | intro j)) <;> first | rfl | (exact len_lit _ _ (by simp) rfl _) | (simp; done)))))
  obtain ⟨cs, hcs⟩ : ∃ cs, chL ow su pl set = cs := ⟨_, rfl⟩
  simp only [hcs]
  rw [hcs] at f1 m1 m2 tp
  refine SH.Sem.step hm ?_
  (refine ev ?_; (try (with_reducible exact True.intro)))
  repeat (((with_reducible refine And.intro ?_ ?_)); (focus (first | omega | (simp only [inR]; omega) | rfl | (simp [notinId, notin]; done) | exact Or.inr rfl | (intro i hi; (repeat' (with_reducible first | apply len_cut | apply len_shift | apply len_app | apply len_copy | intro j)) <;> first | rfl | (exact len_lit _ _ (by simp) rfl _) | (simp; done)))))
  have csl : ((List.range n).map cs).length = n := by simp
  refine contV fun K9 hK9 => ?_
  refine SH.Sem.loopS (fun i : Nat => ⟨padA [.undef, .undef, .ptr 0 0 0, .undef, .undef, .bool true, .undef, .int .i64 pl, boolRow set, intRows ((List.range n).map cs), .int .i64 (proT cs n : Nat), .int .i64 i] 172, [.box [intRow ow, intRow pr, intRows su]]⟩) (fun i => i ≤ n) (fun i => n - i) [0] 0 (by omega) ?_ fun i hi0 => ?_
  · simp only [padA, St.le, slotsLe, heapLe, blkLe, rowLe, live, injOn, loLe, nget, nlook, ren, okA, allP, mapA, hget, ABlk.used, notin, List.map_cons, List.map_nil, true_or, or_true, false_or, or_false, true_and, and_true, and_self, AV.int.injEq, AV.bool.injEq, AV.str.injEq, AV.sl.injEq, AV.ro.injEq, AV.agg.injEq, List.cons.injEq, reduceCtorEq, ne_eq, not_false_eq_true, not_true_eq_false]; simp
  simp only [padA]
  refine SH.Sem.step hm ?_
  (refine ev ?_; (try (with_reducible exact True.intro)))
  repeat (((with_reducible refine And.intro ?_ ?_)); (focus (first | omega | (simp only [inR]; omega) | rfl | (simp [notinId, notin]; done) | exact Or.inr rfl | (intro i hi; (repeat' (with_reducible first | apply len_cut | apply len_shift | apply len_app | apply len_copy | intro j)) <;> first | rfl | (exact len_lit _ _ (by simp) rfl _) | (simp; done)))))
  refine gsd (fun hd => ?_) (fun hd => ?_)
  · have hi : i < n := by omega
    obtain ⟨row, hrow⟩ : ∃ row, su.getD i [] = row := ⟨_, rfl⟩
    have f2 := f2 i hi
    have f1 := f1 i hi
    have w3 := (v4 i (by omega)).2.2
    have hrl := h3 i
    have ci : ((List.range n).map cs).getD i [] = cs i := rows_at hi
    rw [hrow] at f2 w3 hrl
    (refine ev ?_; (try (with_reducible exact True.intro)))
    refine SH.Sem.seq ?_
    refine SH.Sem.block ?_
    have le1 : 0 < (cs i).length → (((cs i).length : Int) == 0) = false := fun h => beq_eq_false_iff_ne.2 (by omega)
    refine stepL hm (I := ⟨padA [.undef, .undef, .ptr 0 0 0, .undef, .undef, .bool true, .undef, .int .i64 pl, boolRow set, intRows ((List.range n).map cs), .int .i64 (proT cs n : Nat), .int .i64 i] 172, [.box [intRow ow, intRow pr, intRows su]]⟩) ?_ ?_
    rotate_left
    · (refine ev ?_; (try (with_reducible exact True.intro)))
      simp only [Int.toNat_natCast]
      repeat (((with_reducible refine And.intro ?_ ?_)); (focus (first | omega | (simp only [inR]; omega) | rfl | (simp [notinId, notin]; done) | exact Or.inr rfl | (intro i hi; (repeat' (with_reducible first | apply len_cut | apply len_shift | apply len_app | apply len_copy | intro j)) <;> first | rfl | (exact len_lit _ _ (by simp) rfl _) | (simp; done)))))
      refine gs (fun h1 => ?_) (fun h1 => ?_)
      · iterate 2 (try (refine ev ?_; (try (with_reducible exact True.intro))); try simp only [Int.toNat_natCast]; repeat (((with_reducible refine And.intro ?_ ?_)); (focus (first | omega | (simp only [inR]; omega) | rfl | (simp [notinId, notin]; done) | exact Or.inr rfl | (intro i hi; (repeat' (with_reducible first | apply len_cut | apply len_shift | apply len_app | apply len_copy | intro j)) <;> first | rfl | (exact len_lit _ _ (by simp) rfl _) | (simp; done))))))
        refine gs (fun h2 => ?_) (fun h2 => ?_)
        · have le1 := le1 (f1 h1 (by simpa using h2))
          iterate 2 (try (refine ev ?_; (try (with_reducible exact True.intro))); try simp only [Int.toNat_natCast, ci, le1]; repeat (((with_reducible refine And.intro ?_ ?_)); (focus (first | omega | (simp only [inR]; omega) | rfl | (simp [notinId, notin]; done) | exact Or.inr rfl | (intro i hi; (repeat' (with_reducible first | apply len_cut | apply len_shift | apply len_app | apply len_copy | intro j)) <;> first | rfl | (exact len_lit _ _ (by simp) rfl _) | (simp; done))))))
          refine ⟨[0], ?_⟩
          (simp only [padA, St.le, slotsLe, heapLe, blkLe, rowLe, live, injOn, loLe, nget, nlook, ren, okA, allP, mapA, hget, ABlk.used, notin, List.map_cons, List.map_nil, true_or, or_true, false_or, or_false, true_and, and_true, and_self, AV.int.injEq, AV.bool.injEq, AV.str.injEq, AV.sl.injEq, AV.ro.injEq, AV.agg.injEq, List.cons.injEq, reduceCtorEq, ne_eq, not_false_eq_true, not_true_eq_false]) <;> simp
        · iterate 2 (try (refine ev ?_; (try (with_reducible exact True.intro))); try simp only [Int.toNat_natCast, ci]; repeat (((with_reducible refine And.intro ?_ ?_)); (focus (first | omega | (simp only [inR]; omega) | rfl | (simp [notinId, notin]; done) | exact Or.inr rfl | (intro i hi; (repeat' (with_reducible first | apply len_cut | apply len_shift | apply len_app | apply len_copy | intro j)) <;> first | rfl | (exact len_lit _ _ (by simp) rfl _) | (simp; done))))))
          refine ⟨[0], ?_⟩
          (simp only [padA, St.le, slotsLe, heapLe, blkLe, rowLe, live, injOn, loLe, nget, nlook, ren, okA, allP, mapA, hget, ABlk.used, notin, List.map_cons, List.map_nil, true_or, or_true, false_or, or_false, true_and, and_true, and_self, AV.int.injEq, AV.bool.injEq, AV.str.injEq, AV.sl.injEq, AV.ro.injEq, AV.agg.injEq, List.cons.injEq, reduceCtorEq, ne_eq, not_false_eq_true, not_true_eq_false]) <;> simp
      · iterate 2 (try (refine ev ?_; (try (with_reducible exact True.intro))); try simp only [Int.toNat_natCast, ci]; repeat (((with_reducible refine And.intro ?_ ?_)); (focus (first | omega | (simp only [inR]; omega) | rfl | (simp [notinId, notin]; done) | exact Or.inr rfl | (intro i hi; (repeat' (with_reducible first | apply len_cut | apply len_shift | apply len_app | apply len_copy | intro j)) <;> first | rfl | (exact len_lit _ _ (by simp) rfl _) | (simp; done))))))
        refine ⟨[0], ?_⟩
        (simp only [padA, St.le, slotsLe, heapLe, blkLe, rowLe, live, injOn, loLe, nget, nlook, ren, okA, allP, mapA, hget, ABlk.used, notin, List.map_cons, List.map_nil, true_or, or_true, false_or, or_false, true_and, and_true, and_self, AV.int.injEq, AV.bool.injEq, AV.str.injEq, AV.sl.injEq, AV.ro.injEq, AV.agg.injEq, List.cons.injEq, reduceCtorEq, ne_eq, not_false_eq_true, not_true_eq_false]) <;> simp
    simp only [padA]
    refine SH.Sem.step hm ?_
    (refine ev ?_; (try (with_reducible exact True.intro)))
    refine SH.Sem.block ?_
    refine SH.Sem.loop hm (fun k : Nat => ⟨padA [.undef, .undef, .ptr 0 0 0, .undef, .undef, .bool true, .undef, .int .i64 pl, boolRow set, intRows ((List.range n).map cs), .int .i64 (proT cs n : Nat), .int .i64 i, .int .i64 k] 172, [.box [intRow ow, intRow pr, intRows su]]⟩) (fun k => k ≤ row.length) (fun k => row.length - k) [0] 0 (by omega) ?_ fun k hk0 => ?_
    · simp only [padA, St.le, slotsLe, heapLe, blkLe, rowLe, live, injOn, loLe, nget, nlook, ren, okA, allP, mapA, hget, ABlk.used, notin, List.map_cons, List.map_nil, true_or, or_true, false_or, or_false, true_and, and_true, and_self, AV.int.injEq, AV.bool.injEq, AV.str.injEq, AV.sl.injEq, AV.ro.injEq, AV.agg.injEq, List.cons.injEq, reduceCtorEq, ne_eq, not_false_eq_true, not_true_eq_false]; simp
    simp only [padA]
    (refine ev ?_; (try (with_reducible exact True.intro)))
    simp only [Int.toNat_natCast, hrow]
    repeat (((with_reducible refine And.intro ?_ ?_)); (focus (first | omega | (simp only [inR]; omega) | rfl | (simp [notinId, notin]; done) | exact Or.inr rfl | (intro i hi; (repeat' (with_reducible first | apply len_cut | apply len_shift | apply len_app | apply len_copy | intro j)) <;> first | rfl | (exact len_lit _ _ (by simp) rfl _) | (simp; done)))))
    refine gsd (fun hd2 => ?_) (fun hd2 => ?_)
    · have hk : k < row.length := by omega
      have f3 : set.getD i false = true → ow.getD i 0 ≠ pl → _ := fun a b => f2 a b _ (getD_mem hk 0)
      have w4 := w3 _ (getD_mem hk 0)
      obtain ⟨y, hy⟩ : ∃ y, row.getD k 0 = y := ⟨_, rfl⟩
      rw [hy] at f3 w4
      obtain ⟨yn, rfl⟩ : ∃ yn : Nat, y = yn := ⟨y.toNat, by omega⟩
      rw [Int.toNat_natCast] at f3
      (refine ev ?_; (try (with_reducible exact True.intro)))
      simp only [Int.toNat_natCast, hrow, hy]
      repeat (((with_reducible refine And.intro ?_ ?_)); (focus (first | omega | (simp only [inR]; omega) | rfl | (simp [notinId, notin]; done) | exact Or.inr rfl | (intro i hi; (repeat' (with_reducible first | apply len_cut | apply len_shift | apply len_app | apply len_copy | intro j)) <;> first | rfl | (exact len_lit _ _ (by simp) rfl _) | (simp; done)))))
      refine gs (fun h1 => ?_) (fun h1 => ?_)
      · iterate 2 (try (refine ev ?_; (try (with_reducible exact True.intro))); try simp only [Int.toNat_natCast, hrow, hy]; repeat (((with_reducible refine And.intro ?_ ?_)); (focus (first | omega | (simp only [inR]; omega) | rfl | (simp [notinId, notin]; done) | exact Or.inr rfl | (intro i hi; (repeat' (with_reducible first | apply len_cut | apply len_shift | apply len_app | apply len_copy | intro j)) <;> first | rfl | (exact len_lit _ _ (by simp) rfl _) | (simp; done))))))
        refine gs (fun h2 => ?_) (fun h2 => ?_)
        · have f3 := f3 h1 (by simpa using h2)
          iterate 6 (try (refine ev ?_; (try (with_reducible exact True.intro))); try simp only [Int.toNat_natCast, hrow, hy, f3, Bool.not_true]; repeat (((with_reducible refine And.intro ?_ ?_)); (focus (first | omega | (simp only [inR]; omega) | rfl | (simp [notinId, notin]; done) | exact Or.inr rfl | (intro i hi; (repeat' (with_reducible first | apply len_cut | apply len_shift | apply len_app | apply len_copy | intro j)) <;> first | rfl | (exact len_lit _ _ (by simp) rfl _) | (simp; done))))))
          refine ⟨by simp only [inR]; omega, ?_⟩
          refine ⟨k + 1, [0], by omega, by show row.length - (k + 1) < row.length - k; omega, ?_⟩
          (simp only [padA, St.le, slotsLe, heapLe, blkLe, rowLe, live, injOn, loLe, nget, nlook, ren, okA, allP, mapA, hget, ABlk.used, notin, List.map_cons, List.map_nil, true_or, or_true, false_or, or_false, true_and, and_true, and_self, AV.int.injEq, AV.bool.injEq, AV.str.injEq, AV.sl.injEq, AV.ro.injEq, AV.agg.injEq, List.cons.injEq, reduceCtorEq, ne_eq, not_false_eq_true, not_true_eq_false]) <;> simp
        · iterate 6 (try (refine ev ?_; (try (with_reducible exact True.intro))); try simp only [Int.toNat_natCast, hrow, hy]; repeat (((with_reducible refine And.intro ?_ ?_)); (focus (first | omega | (simp only [inR]; omega) | rfl | (simp [notinId, notin]; done) | exact Or.inr rfl | (intro i hi; (repeat' (with_reducible first | apply len_cut | apply len_shift | apply len_app | apply len_copy | intro j)) <;> first | rfl | (exact len_lit _ _ (by simp) rfl _) | (simp; done))))))
          refine ⟨by simp only [inR]; omega, ?_⟩
          refine ⟨k + 1, [0], by omega, by show row.length - (k + 1) < row.length - k; omega, ?_⟩
          simp only [padA, St.le, slotsLe, heapLe, blkLe, rowLe, live, injOn, loLe, nget, nlook, ren, okA, allP, mapA, hget, ABlk.used, notin, List.map_cons, List.map_nil, true_or, or_true, false_or, or_false, true_and, and_true, and_self, AV.int.injEq, AV.bool.injEq, AV.str.injEq, AV.sl.injEq, AV.ro.injEq, AV.agg.injEq, List.cons.injEq, reduceCtorEq, ne_eq, not_false_eq_true, not_true_eq_false]; simp
      · iterate 6 (try (refine ev ?_; (try (with_reducible exact True.intro))); try simp only [Int.toNat_natCast, hrow, hy]; repeat (((with_reducible refine And.intro ?_ ?_)); (focus (first | omega | (simp only [inR]; omega) | rfl | (simp [notinId, notin]; done) | exact Or.inr rfl | (intro i hi; (repeat' (with_reducible first | apply len_cut | apply len_shift | apply len_app | apply len_copy | intro j)) <;> first | rfl | (exact len_lit _ _ (by simp) rfl _) | (simp; done))))))
        refine ⟨by simp only [inR]; omega, ?_⟩
        refine ⟨k + 1, [0], by omega, by show row.length - (k + 1) < row.length - k; omega, ?_⟩
        simp only [padA, St.le, slotsLe, heapLe, blkLe, rowLe, live, injOn, loLe, nget, nlook, ren, okA, allP, mapA, hget, ABlk.used, notin, List.map_cons, List.map_nil, true_or, or_true, false_or, or_false, true_and, and_true, and_self, AV.int.injEq, AV.bool.injEq, AV.str.injEq, AV.sl.injEq, AV.ro.injEq, AV.agg.injEq, List.cons.injEq, reduceCtorEq, ne_eq, not_false_eq_true, not_true_eq_false]; simp
    · have hk : k = row.length := by omega
      (refine ev ?_; (try (with_reducible exact True.intro)))
      refine Sem.of_wpA hm ?_
      (refine ev ?_; (try (with_reducible exact True.intro)))
      repeat (((with_reducible refine And.intro ?_ ?_)); (focus (first | omega | (simp only [inR]; omega) | rfl | (simp [notinId, notin]; done) | exact Or.inr rfl | (intro i hi; (repeat' (with_reducible first | apply len_cut | apply len_shift | apply len_app | apply len_copy | intro j)) <;> first | rfl | (exact len_lit _ _ (by simp) rfl _) | (simp; done)))))
      refine ⟨i + 1, [0], by omega, by show n - (i + 1) < n - i; omega, ?_⟩
      simp only [padA, St.le, slotsLe, heapLe, blkLe, rowLe, live, injOn, loLe, nget, nlook, ren, okA, allP, mapA, hget, ABlk.used, notin, List.map_cons, List.map_nil, true_or, or_true, false_or, or_false, true_and, and_true, and_self, AV.int.injEq, AV.bool.injEq, AV.str.injEq, AV.sl.injEq, AV.ro.injEq, AV.agg.injEq, List.cons.injEq, reduceCtorEq, ne_eq, not_false_eq_true, not_true_eq_false]; simp
  obtain rfl : n = i := by omega
  (refine ev ?_; (try (with_reducible exact True.intro)))
  refine hK9 _ _ ?_
  (refine ev ?_; (try (with_reducible exact True.intro)))
  clear hi0 hd hK9 K9
  refine SH.Sem.step hm ?_
  (refine ev ?_; (try (with_reducible exact True.intro)))
  repeat (((with_reducible refine And.intro ?_ ?_)); (focus (first | omega | (simp only [inR]; omega) | rfl | (simp [notinId, notin]; done) | exact Or.inr rfl | (intro i hi; (repeat' (with_reducible first | apply len_cut | apply len_shift | apply len_app | apply len_copy | intro j)) <;> first | rfl | (exact len_lit _ _ (by simp) rfl _) | (simp; done)))))
  refine SH.Sem.loopS (fun r : Nat => ⟨padA [.undef, .undef, .ptr 0 0 0, .undef, .undef, .bool true, .undef, .int .i64 pl, boolRow set, intRows ((List.range n).map cs), .int .i64 (proT cs n : Nat), .undef, .undef, .int .i64 r] 172, [.box [intRow ow, intRow pr, intRows su]]⟩) (fun r => r ≤ m) (fun r => m - r) [0] 0 (by omega) ?_ fun r hr0 => ?_
  · simp only [padA, St.le, slotsLe, heapLe, blkLe, rowLe, live, injOn, loLe, nget, nlook, ren, okA, allP, mapA, hget, ABlk.used, notin, List.map_cons, List.map_nil, true_or, or_true, false_or, or_false, true_and, and_true, and_self, AV.int.injEq, AV.bool.injEq, AV.str.injEq, AV.sl.injEq, AV.ro.injEq, AV.agg.injEq, List.cons.injEq, reduceCtorEq, ne_eq, not_false_eq_true, not_true_eq_false]; simp
  simp only [padA]
  refine SH.Sem.step hm ?_
  (refine ev ?_; (try (with_reducible exact True.intro)))
  repeat (((with_reducible refine And.intro ?_ ?_)); (focus (first | omega | (simp only [inR]; omega) | rfl | (simp [notinId, notin]; done) | exact Or.inr rfl | (intro i hi; (repeat' (with_reducible first | apply len_cut | apply len_shift | apply len_app | apply len_copy | intro j)) <;> first | rfl | (exact len_lit _ _ (by simp) rfl _) | (simp; done)))))
  refine gsd (fun hd => ?_) (fun hd => ?_)
  rotate_left
  · omega
  (refine ev ?_; (try (with_reducible exact True.intro)))
  refine SH.Sem.seq ?_
  refine SH.Sem.block ?_
  refine SH.Sem.step hm ?_
  (refine ev ?_; (try (with_reducible exact True.intro)))
  simp only [v3, hn, Int.toNat_natCast]
  repeat (((with_reducible refine And.intro ?_ ?_)); (focus (first | omega | (simp only [inR]; omega) | rfl | (simp [notinId, notin]; done) | exact Or.inr rfl | (intro i hi; (repeat' (with_reducible first | apply len_cut | apply len_shift | apply len_app | apply len_copy | intro j)) <;> first | rfl | (exact len_lit _ _ (by simp) rfl _) | (simp; done)))))
  refine SH.Sem.step hm ?_
  (refine ev ?_; (try (with_reducible exact True.intro)))
  repeat (((with_reducible refine And.intro ?_ ?_)); (focus (first | omega | (simp only [inR]; omega) | rfl | (simp [notinId, notin]; done) | exact Or.inr rfl | (intro i hi; (repeat' (with_reducible first | apply len_cut | apply len_shift | apply len_app | apply len_copy | intro j)) <;> first | rfl | (exact len_lit _ _ (by simp) rfl _) | (simp; done)))))
  refine SH.Sem.step hm ?_
  (refine ev ?_; (try (with_reducible exact True.intro)))
  repeat (((with_reducible refine And.intro ?_ ?_)); (focus (first | omega | (simp only [inR]; omega) | rfl | (simp [notinId, notin]; done) | exact Or.inr rfl | (intro i hi; (repeat' (with_reducible first | apply len_cut | apply len_shift | apply len_app | apply len_copy | intro j)) <;> first | rfl | (exact len_lit _ _ (by simp) rfl _) | (simp; done)))))
  refine contV fun K2 hK2 => ?_
  refine SH.Sem.loop hm (fun i : Nat => ⟨padA [.undef, .undef, .ptr 0 0 0, .undef, .undef, .bool true, .undef, .int .i64 pl, boolRow set, intRows ((List.range n).map cs), .int .i64 (proT cs n : Nat), .undef, .undef, .int .i64 r, .sl 1 0 n, .int .i64 (resT cs r i : Nat), .int .i64 i] 172, [.box [intRow ow, intRow pr, intRows su], .vec 1 n (encL (cInt .i64) 0 (partL n (atT cs r) (fun _ => 0) i))]⟩) (fun i => i ≤ n) (fun i => n - i) [0, 1] 0 (by omega) ?_ fun i hi0 => ?_
  · simp only [padA, St.le, slotsLe, heapLe, blkLe, rowLe, live, injOn, loLe, nget, nlook, ren, okA, allP, mapA, hget, ABlk.used, notin, List.map_cons, List.map_nil, true_or, or_true, false_or, or_false, true_and, and_true, and_self, AV.int.injEq, AV.bool.injEq, AV.str.injEq, AV.sl.injEq, AV.ro.injEq, AV.agg.injEq, List.cons.injEq, reduceCtorEq, ne_eq, not_false_eq_true, not_true_eq_false, resT]
    exact ⟨rfl, fun q hq => by rw [partL_zero, ← zeroI]⟩
  simp only [padA]
  (refine ev ?_; (try (with_reducible exact True.intro)))
  repeat (((with_reducible refine And.intro ?_ ?_)); (focus (first | omega | (simp only [inR]; omega) | rfl | (simp [notinId, notin]; done) | exact Or.inr rfl | (intro i hi; (repeat' (with_reducible first | apply len_cut | apply len_shift | apply len_app | apply len_copy | intro j)) <;> first | rfl | (exact len_lit _ _ (by simp) rfl _) | (simp; done)))))
  refine gsd (fun hd2 => ?_) (fun hd2 => ?_)
  · have hi : i < n := by omega
    have ci : ((List.range n).map cs).getD i [] = cs i := rows_at hi
    have e1 : updF (encL (cInt .i64) 0 (partL n (atT cs r) (fun _ => 0) i)) i [.int .i64 (-1)] = encL (cInt .i64) 0 ((partL n (atT cs r) (fun _ => 0) i).set i (-1)) := updF_enc (e := cInt .i64) (d := 0) (xs := partL n (atT cs r) (fun _ => 0) i) (k := i) (-1 : Int) (by rw [partL_length]; exact hi)
    have e2 : ∀ x : Int, updF (encL (cInt .i64) 0 ((partL n (atT cs r) (fun _ => 0) i).set i (-1))) i [.int .i64 x] = encL (cInt .i64) 0 ((partL n (atT cs r) (fun _ => 0) i).set i x) := fun x => by
      have := updF_enc (e := cInt .i64) (d := 0) (xs := (partL n (atT cs r) (fun _ => 0) i).set i (-1)) (k := i) x (by rw [List.length_set, partL_length]; exact hi)
      rw [List.set_set] at this
      exact this
    have t1 : (resT cs r i : Int).tmod ((cs i).length : Int) = ((resT cs r i % (cs i).length : Nat) : Int) := (Int.ofNat_tmod _ _).symm
    have t2 : (resT cs r i : Int).tdiv ((cs i).length : Int) = ((resT cs r i / (cs i).length : Nat) : Int) := (Int.ofNat_tdiv _ _).symm
    have t3 := resT_le cs r i
    (refine ev ?_; (try (with_reducible exact True.intro)))
    simp only [Int.toNat_natCast, ci, e1]
    repeat (((with_reducible refine And.intro ?_ ?_)); (focus (first | omega | (simp only [inR]; omega) | rfl | (simp [notinId, notin]; done) | exact Or.inr rfl | (intro i hi; (repeat' (with_reducible first | apply len_cut | apply len_shift | apply len_app | apply len_copy | intro j)) <;> first | rfl | (exact len_lit _ _ (by simp) rfl _) | (simp; done)))))
    refine gsd (fun h => ?_) (fun h => ?_)
    · have h' : 0 < (cs i).length := by omega
      have t4 := Nat.mod_lt (resT cs r i) h'
      have t5 := Nat.div_le_self (resT cs r i) (cs i).length
      have a1 : atT cs r i = (cs i).getD (resT cs r i % (cs i).length) 0 := by rw [atT, if_pos h']
      have a2 : resT cs r (i + 1) = resT cs r i / (cs i).length := by rw [resT, if_pos h']
      generalize resT cs r i / (cs i).length = z at *
      iterate 4 (try (refine ev ?_; (try (with_reducible exact True.intro))); try simp only [Int.toNat_natCast, ci, t1, t2, e2]; repeat (((with_reducible refine And.intro ?_ ?_)); (focus (first | omega | (simp only [inR]; omega) | rfl | (simp [notinId, notin]; done) | exact Or.inr rfl | (intro i hi; (repeat' (with_reducible first | apply len_cut | apply len_shift | apply len_app | apply len_copy | intro j)) <;> first | rfl | (exact len_lit _ _ (by simp) rfl _) | (simp; done))))))
      refine ⟨i + 1, [0, 1], by omega, by show n - (i + 1) < n - i; omega, ?_⟩
      simp only [padA, St.le, slotsLe, heapLe, blkLe, rowLe, live, injOn, loLe, nget, nlook, ren, okA, allP, mapA, hget, ABlk.used, notin, List.map_cons, List.map_nil, true_or, or_true, false_or, or_false, true_and, and_true, and_self, AV.int.injEq, AV.bool.injEq, AV.str.injEq, AV.sl.injEq, AV.ro.injEq, AV.agg.injEq, List.cons.injEq, reduceCtorEq, ne_eq, not_false_eq_true, not_true_eq_false, a2, partL_set hi _ a1.symm]
      exact ⟨by omega, fun _ _ => trivial⟩
    · (refine ev ?_; (try (with_reducible exact True.intro)))
      repeat (((with_reducible refine And.intro ?_ ?_)); (focus (first | omega | (simp only [inR]; omega) | rfl | (simp [notinId, notin]; done) | exact Or.inr rfl | (intro i hi; (repeat' (with_reducible first | apply len_cut | apply len_shift | apply len_app | apply len_copy | intro j)) <;> first | rfl | (exact len_lit _ _ (by simp) rfl _) | (simp; done)))))
      have a1 : atT cs r i = -1 := by rw [atT, if_neg (by omega)]
      have a2 : resT cs r (i + 1) = resT cs r i := by rw [resT, if_neg (by omega)]
      refine ⟨i + 1, [0, 1], by omega, by show n - (i + 1) < n - i; omega, ?_⟩
      simp only [padA, St.le, slotsLe, heapLe, blkLe, rowLe, live, injOn, loLe, nget, nlook, ren, okA, allP, mapA, hget, ABlk.used, notin, List.map_cons, List.map_nil, true_or, or_true, false_or, or_false, true_and, and_true, and_self, AV.int.injEq, AV.bool.injEq, AV.str.injEq, AV.sl.injEq, AV.ro.injEq, AV.agg.injEq, List.cons.injEq, reduceCtorEq, ne_eq, not_false_eq_true, not_true_eq_false, a2, partL_set hi (-1) a1.symm]
      exact ⟨by omega, fun _ _ => trivial⟩
  obtain rfl : n = i := by omega
  (refine ev ?_; (try (with_reducible exact True.intro)))
  refine hK2 _ _ ?_
  (refine ev ?_; (try (with_reducible exact True.intro)))
  clear hK2 K2 hi0 hd2
  simp only [partL_full, show (List.range n).map (atT cs r) = stT cs r n from rfl]
  have sl : (stT cs r n).length = n := by simp [stT]
  have a27 := a27 (stT cs r n) sl
  refine SH.Sem.step hm ?_
  (refine ev ?_; (try (with_reducible exact True.intro)))
  repeat (((with_reducible refine And.intro ?_ ?_)); (focus (first | omega | (simp only [inR]; omega) | rfl | (simp [notinId, notin]; done) | exact Or.inr rfl | (intro i hi; (repeat' (with_reducible first | apply len_cut | apply len_shift | apply len_app | apply len_copy | intro j)) <;> first | rfl | (exact len_lit _ _ (by simp) rfl _) | (simp; done)))))
  cases hbt : beatB ow pr su pl set (stT cs r n) n
  · rw [hbt] at a27
    refine EffC.use a27 ?_ (.inl rfl) ?_
    · ((refine evL ?_; (try (with_reducible exact True.intro))) <;> (repeat' (with_reducible refine And.intro ?_ ?_)) <;> first | trivial | (exact fun _ _ => trivial) | (simp; done) | (exact fun q hq => cut_at0 q (by simpa using hq)) | (exact fun q hq => cut_at0 q (by omega)) | omega)
    (refine ev ?_; (try (with_reducible exact True.intro)))
    refine Sem.of_wpA hm ?_
    (refine ev ?_; (try (with_reducible exact True.intro)))
    ((repeat' (with_reducible refine And.intro ?_ ?_)) <;> first | omega | (simp [notinId]; done) | (exact fun q hq => cut_at0 q (by simpa using hq)) | (exact fun q hq => cut_at0 q (by omega)) | (exact fun _ _ => rfl))
  · rw [hbt] at a27
    refine EffC.use a27 ?_ (.inl rfl) ?_
    · ((refine evL ?_; (try (with_reducible exact True.intro))) <;> (repeat' (with_reducible refine And.intro ?_ ?_)) <;> first | trivial | (exact fun _ _ => trivial) | (simp; done) | (exact fun q hq => cut_at0 q (by simpa using hq)) | (exact fun q hq => cut_at0 q (by omega)) | omega)
    (refine ev ?_; (try (with_reducible exact True.intro)))
    repeat (((with_reducible refine And.intro ?_ ?_)); (focus (first | omega | (simp only [inR]; omega) | rfl | (simp [notinId, notin]; done) | exact Or.inr rfl | (intro i hi; (repeat' (with_reducible first | apply len_cut | apply len_shift | apply len_app | apply len_copy | intro j)) <;> first | rfl | (exact len_lit _ _ (by simp) rfl _) | (simp; done)))))
    have hrm : r ≠ m := fun h => by rw [h, m2] at hbt; cases hbt
    refine Sem.of_wpA hm ?_
    (refine ev ?_; (try (with_reducible exact True.intro)))
    repeat (((with_reducible refine And.intro ?_ ?_)); (focus (first | omega | (simp only [inR]; omega) | rfl | (simp [notinId, notin]; done) | exact Or.inr rfl | (intro i hi; (repeat' (with_reducible first | apply len_cut | apply len_shift | apply len_app | apply len_copy | intro j)) <;> first | rfl | (exact len_lit _ _ (by simp) rfl _) | (simp; done)))))
    refine Sem.of_wpA hm ?_
    (refine ev ?_; (try (with_reducible exact True.intro)))
    repeat (((with_reducible refine And.intro ?_ ?_)); (focus (first | omega | (simp only [inR]; omega) | rfl | (simp [notinId, notin]; done) | exact Or.inr rfl | (intro i hi; (repeat' (with_reducible first | apply len_cut | apply len_shift | apply len_app | apply len_copy | intro j)) <;> first | rfl | (exact len_lit _ _ (by simp) rfl _) | (simp; done)))))
    refine ⟨r + 1, [0], by omega, by show m - (r + 1) < m - r; omega, ?_⟩
    simp only [padA, St.le, slotsLe, heapLe, blkLe, rowLe, live, injOn, loLe, nget, nlook, ren, okA, allP, mapA, hget, ABlk.used, notin, List.map_cons, List.map_nil, true_or, or_true, false_or, or_false, true_and, and_true, and_self, AV.int.injEq, AV.bool.injEq, AV.str.injEq, AV.sl.injEq, AV.ro.injEq, AV.agg.injEq, List.cons.injEq, reduceCtorEq, ne_eq, not_false_eq_true, not_true_eq_false]; simp
end Go.Proofs.Ythkgnnndlocbbaa
