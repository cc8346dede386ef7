/-
  ref23's region: its steps walked. No condition but sizes.
-/
import Derived.Test.YthkgnnndlocbbaaTc
namespace Go.Proofs.Ythkgnnndlocbbaa
set_option linter.unusedVariables false
set_option linter.unusedSimpArgs false
open Go Go.SH Go.Parity
set_option maxRecDepth 100000
set_option maxHeartbeats 4000000

theorem wk_own (ow pr : List Int) (su : List (List Int)) (s tg : List Bool) (ls p : Int) (hv : validB ow pr su = true) (n : Nat) (hn : ow.length = n) (hsl : s.length = n) (hany : (s.any fun b => b) = true) (hls : lsL pr s n = ls) (hp : p = 0 ∨ p = 1) (hmod : ls.tmod 2 = p) (htg : tgL pr s ls n = tg)
    (near rest r0 lost : List Bool) (a67 : Contract Try.prog 67 [game ow pr su, boolRow s, .int .i64 p, boolRow tg] (.one (.vec 1 n (encL cBool false near)))) (a66 : Contract Try.prog 66 [boolRow s, boolRow near] (.one (.vec 1 n (encL cBool false rest)))) (a53 : Contract Try.prog 53 [game ow pr su, boolRow rest] (.one (.val (boolRow r0)))) (hrl : rest.length = n) (hnl : near.length = n) (htl : tg.length = n) (hr0 : r0.length = n) (hol : lost.length = n)
    (b66 : p = 0 → Contract Try.prog 66 [boolRow rest, boolRow r0] (.one (.vec 1 n (encL cBool false lost)))) (hlo : p = 1 → lost = r0) (sm : Bool) (b65 : Contract Try.prog 65 [boolRow lost] (.one (.val (.bool sm)))) (Z rest' w' w : List Bool) (hzl : Z.length = n) (hrl' : rest'.length = n) (hwl' : w'.length = n)
    (c67' : ∀ q : Int, q = 1 - p → sm = true → Contract Try.prog 67 [game ow pr su, boolRow s, .int .i64 q, boolRow lost] (.one (.vec 1 n (encL cBool false Z)))) (c66' : sm = true → Contract Try.prog 66 [boolRow s, boolRow Z] (.one (.vec 1 n (encL cBool false rest')))) (own' : sm = true → OwnR ow pr su n rest' w')
    (hw : w = if sm = true then (if p = 1 then orL w' Z n else w') else if p = 0 then s else (List.range n).map fun _ => false) : OwnR ow pr su n s w := by
  obtain ⟨v1, v2, v3, v4⟩ := validB_spec hv
  have a65 := c65 s (by omega)
  rw [hany] at a65
  refine in53 ?_
  simp only [hlen, padA]
  simp only [Try.f53, Option.getD]
  refine SH.Sem.step hm ?_
  (refine ev ?_; (try (with_reducible exact True.intro)))
  (repeat ((with_reducible refine And.intro ?_ ?_); (focus (first | omega | (simp only [inR]; omega) | rfl | (simp [notinId, notin]; done) | exact Or.inr rfl))))
  refine SH.Sem.step hm ?_
  (refine ev ?_; (try (with_reducible exact True.intro)))
  (repeat ((with_reducible refine And.intro ?_ ?_); (focus (first | omega | (simp only [inR]; omega) | rfl | (simp [notinId, notin]; done) | exact Or.inr rfl))))
  simp only [v3, hn]
  refine SH.Sem.step hm ?_
  (refine ev ?_; (try (with_reducible exact True.intro)))
  simp only [Int.toNat_natCast]
  (repeat ((with_reducible refine And.intro ?_ ?_); (focus (first | omega | (simp only [inR]; omega) | rfl | (simp [notinId, notin]; done) | exact Or.inr rfl))))
  refine SH.Sem.step hm ?_
  (refine ev ?_; (try (with_reducible exact True.intro)))
  (repeat ((with_reducible refine And.intro ?_ ?_); (focus (first | omega | (simp only [inR]; omega) | rfl | (simp [notinId, notin]; done) | exact Or.inr rfl))))
  refine EffC.use a65 ?_ (.inl rfl) ?_
  · ((refine evL ?_; (try (with_reducible exact True.intro))) <;> (repeat' (with_reducible refine And.intro ?_ ?_)) <;> first | trivial | (exact fun _ _ => trivial) | (simp; done) | (exact fun q hq => cut_at0 q (by simpa using hq)) | (exact fun q hq => cut_at0 q (by omega)) | omega)
  (refine ev ?_; (try (with_reducible exact True.intro)))
  (repeat ((with_reducible refine And.intro ?_ ?_); (focus (first | omega | (simp only [inR]; omega) | rfl | (simp [notinId, notin]; done) | exact Or.inr rfl))))
  refine SH.Sem.step hm ?_
  (refine ev ?_; (try (with_reducible exact True.intro)))
  (repeat ((with_reducible refine And.intro ?_ ?_); (focus (first | omega | (simp only [inR]; omega) | rfl | (simp [notinId, notin]; done) | exact Or.inr rfl))))
  refine SH.Sem.step hm ?_
  (refine ev ?_; (try (with_reducible exact True.intro)))
  (repeat ((with_reducible refine And.intro ?_ ?_); (focus (first | omega | (simp only [inR]; omega) | rfl | (simp [notinId, notin]; done) | exact Or.inr rfl))))
  refine SH.Sem.loop hm (fun i : Nat => ⟨padA [.undef, .sl 0 0 n, .ptr 1 0 0, .undef, .undef, .int .i64 n, .sl 2 0 n, .int .i64 (lsL pr s i), .int .i64 i] 123, [.vec 1 n (encL cBool false s), .box [intRow ow, intRow pr, intRows su], .vec 1 n (encL cBool false ((List.range n).map fun _ => false))]⟩) (fun i => i ≤ n) (fun i => n - i) [0, 1, 2] 0 (by omega) ?_ fun i hi0 => ?_
  · simp only [padA, St.le, slotsLe, heapLe, blkLe, rowLe, live, injOn, loLe, nget, nlook, ren, okA, allP, mapA, hget, ABlk.used, notin, List.map_cons, List.map_nil, true_or, or_true, false_or, or_false, true_and, and_true, and_self, AV.int.injEq, AV.bool.injEq, AV.str.injEq, AV.sl.injEq, AV.ro.injEq, AV.agg.injEq, List.cons.injEq, reduceCtorEq, ne_eq, not_false_eq_true, not_true_eq_false]
    (repeat' (with_reducible refine And.intro ?_ ?_)) <;> first | exact (fun q hq => by rw [zero_at n]) | rfl | trivial | (intros; trivial; done) | (intros; rfl; done) | (simp; done)
  simp only [padA]
  (refine ev ?_; (try (with_reducible exact True.intro)))
  refine gsd (fun hd => ?_) (fun hd => ?_)
  · have hi : i < n := by omega
    have nx : lsL pr s (i + 1) = if s.getD i false = true then min (lsL pr s i) (pr.getD i 0) else lsL pr s i := rfl
    (refine ev ?_; (try (with_reducible exact True.intro)))
    simp only [Int.toNat_natCast]
    (repeat ((with_reducible refine And.intro ?_ ?_); (focus (first | omega | (simp only [inR]; omega) | rfl | (simp [notinId, notin]; done) | exact Or.inr rfl))))
    refine gs (fun h => ?_) (fun h => ?_)
    · rw [if_pos h] at nx
      (refine ev ?_; (try (with_reducible exact True.intro)))
      simp only [Int.toNat_natCast]
      (repeat ((with_reducible refine And.intro ?_ ?_); (focus (first | omega | (simp only [inR]; omega) | rfl | (simp [notinId, notin]; done) | exact Or.inr rfl))))
      refine ⟨i + 1, [0, 1, 2], by omega, by show n - (i + 1) < n - i; omega, ?_⟩
      simp only [padA, St.le, slotsLe, heapLe, blkLe, rowLe, live, injOn, loLe, nget, nlook, ren, okA, allP, mapA, hget, ABlk.used, notin, List.map_cons, List.map_nil, true_or, or_true, false_or, or_false, true_and, and_true, and_self, AV.int.injEq, AV.bool.injEq, AV.str.injEq, AV.sl.injEq, AV.ro.injEq, AV.agg.injEq, List.cons.injEq, reduceCtorEq, ne_eq, not_false_eq_true, not_true_eq_false, nx]; simp
    · rw [if_neg (by rw [h]; simp)] at nx
      (refine ev ?_; (try (with_reducible exact True.intro)))
      (repeat ((with_reducible refine And.intro ?_ ?_); (focus (first | omega | (simp only [inR]; omega) | rfl | (simp [notinId, notin]; done) | exact Or.inr rfl))))
      refine ⟨i + 1, [0, 1, 2], by omega, by show n - (i + 1) < n - i; omega, ?_⟩
      simp only [padA, St.le, slotsLe, heapLe, blkLe, rowLe, live, injOn, loLe, nget, nlook, ren, okA, allP, mapA, hget, ABlk.used, notin, List.map_cons, List.map_nil, true_or, or_true, false_or, or_false, true_and, and_true, and_self, AV.int.injEq, AV.bool.injEq, AV.str.injEq, AV.sl.injEq, AV.ro.injEq, AV.agg.injEq, List.cons.injEq, reduceCtorEq, ne_eq, not_false_eq_true, not_true_eq_false, nx]; simp
  obtain rfl : n = i := by omega
  (refine ev ?_; (try (with_reducible exact True.intro)))
  clear hi0 hd
  refine SH.Sem.step hm ?_
  (refine ev ?_; (try (with_reducible exact True.intro)))
  simp only [hls, hmod]
  (repeat ((with_reducible refine And.intro ?_ ?_); (focus (first | omega | (simp only [inR]; omega) | rfl | (simp [notinId, notin]; done) | exact Or.inr rfl))))
  refine SH.Sem.step hm ?_
  (refine ev ?_; (try (with_reducible exact True.intro)))
  simp only [Int.toNat_natCast]
  (repeat ((with_reducible refine And.intro ?_ ?_); (focus (first | omega | (simp only [inR]; omega) | rfl | (simp [notinId, notin]; done) | exact Or.inr rfl))))
  refine SH.Sem.step hm ?_
  (refine ev ?_; (try (with_reducible exact True.intro)))
  (repeat ((with_reducible refine And.intro ?_ ?_); (focus (first | omega | (simp only [inR]; omega) | rfl | (simp [notinId, notin]; done) | exact Or.inr rfl))))
  refine SH.Sem.loop hm (fun i : Nat => ⟨padA [.undef, .sl 0 0 n, .ptr 1 0 0, .undef, .undef, .int .i64 n, .sl 2 0 n, .int .i64 ls, .undef, .int .i64 p, .sl 3 0 n, .int .i64 i] 123, [.vec 1 n (encL cBool false s), .box [intRow ow, intRow pr, intRows su], .vec 1 n (encL cBool false ((List.range n).map fun _ => false)), .vec 1 n (encL cBool false (partL n (fun i => s.getD i false && (pr.getD i 0 == ls)) (fun _ => false) i))]⟩) (fun i => i ≤ n) (fun i => n - i) [0, 1, 2, 3] 0 (by omega) ?_ fun i hi0 => ?_
  · simp only [padA, St.le, slotsLe, heapLe, blkLe, rowLe, live, injOn, loLe, nget, nlook, ren, okA, allP, mapA, hget, ABlk.used, notin, List.map_cons, List.map_nil, true_or, or_true, false_or, or_false, true_and, and_true, and_self, AV.int.injEq, AV.bool.injEq, AV.str.injEq, AV.sl.injEq, AV.ro.injEq, AV.agg.injEq, List.cons.injEq, reduceCtorEq, ne_eq, not_false_eq_true, not_true_eq_false]
    (repeat' (with_reducible refine And.intro ?_ ?_)) <;> first | exact (fun q hq => encb0 q hq) | rfl | trivial | (intros; trivial; done) | (intros; rfl; done) | (simp; done)
  simp only [padA]
  (refine ev ?_; (try (with_reducible exact True.intro)))
  refine gsd (fun hd => ?_) (fun hd => ?_)
  · have hi : i < n := by omega
    have e1 := encb_upd1 (f := fun i => s.getD i false && (pr.getD i 0 == ls)) (g := fun _ => false) hi _ rfl
    cases hsi : s.getD i false
    all_goals simp only [hsi, Bool.false_and, Bool.true_and] at e1
    all_goals (refine ev ?_; (try (with_reducible exact True.intro)))
    all_goals simp only [Int.toNat_natCast, hsi]
    all_goals (repeat ((with_reducible refine And.intro ?_ ?_); (focus (first | omega | (simp only [inR]; omega) | rfl | (simp [notinId, notin]; done) | exact Or.inr rfl))))
    all_goals (refine ev ?_; (try (with_reducible exact True.intro)))
    all_goals simp only [Int.toNat_natCast, e1]
    all_goals (repeat ((with_reducible refine And.intro ?_ ?_); (focus (first | omega | (simp only [inR]; omega) | rfl | (simp [notinId, notin]; done) | exact Or.inr rfl))))
    all_goals refine ⟨i + 1, [0, 1, 2, 3], by omega, by show n - (i + 1) < n - i; omega, ?_⟩
    all_goals simp only [padA, St.le, slotsLe, heapLe, blkLe, rowLe, live, injOn, loLe, nget, nlook, ren, okA, allP, mapA, hget, ABlk.used, notin, List.map_cons, List.map_nil, true_or, or_true, false_or, or_false, true_and, and_true, and_self, AV.int.injEq, AV.bool.injEq, AV.str.injEq, AV.sl.injEq, AV.ro.injEq, AV.agg.injEq, List.cons.injEq, reduceCtorEq, ne_eq, not_false_eq_true, not_true_eq_false]
    all_goals simp
  obtain rfl : n = i := by omega
  (refine ev ?_; (try (with_reducible exact True.intro)))
  clear hi0 hd
  simp only [partL_full, show (List.range n).map (fun i => s.getD i false && (pr.getD i 0 == ls)) = tgL pr s ls n from rfl, htg]
  refine SH.Sem.step hm ?_
  (refine ev ?_; (try (with_reducible exact True.intro)))
  (repeat ((with_reducible refine And.intro ?_ ?_); (focus (first | omega | (simp only [inR]; omega) | rfl | (simp [notinId, notin]; done) | exact Or.inr rfl))))
  refine EffC.use a67 ?_ (.inl (memless_b _ _)) ?_
  · ((refine evL ?_; (try (with_reducible exact True.intro))) <;> (repeat' (with_reducible refine And.intro ?_ ?_)) <;> first | trivial | (exact fun _ _ => trivial) | (simp; done) | (exact fun q hq => cut_at0 q (by simpa using hq)) | (exact fun q hq => cut_at0 q (by omega)) | omega)
  (refine ev ?_; (try (with_reducible exact True.intro)))
  (repeat ((with_reducible refine And.intro ?_ ?_); (focus (first | omega | (simp only [inR]; omega) | rfl | (simp [notinId, notin]; done) | exact Or.inr rfl))))
  refine EffC.use a66 ?_ (.inl (memless_b _ _)) ?_
  · ((refine evL ?_; (try (with_reducible exact True.intro))) <;> (repeat' (with_reducible refine And.intro ?_ ?_)) <;> first | trivial | (exact fun _ _ => trivial) | (simp; done) | (exact fun q hq => cut_at0 q (by simpa using hq)) | (exact fun q hq => cut_at0 q (by omega)) | omega)
  (refine ev ?_; (try (with_reducible exact True.intro)))
  (repeat ((with_reducible refine And.intro ?_ ?_); (focus (first | omega | (simp only [inR]; omega) | rfl | (simp [notinId, notin]; done) | exact Or.inr rfl))))
  refine SH.Sem.freeze 5 rfl ?_
  simp only [mapA, frz, hset]
  refine SH.Sem.step hm ?_
  (refine ev ?_; (try (with_reducible exact True.intro)))
  (repeat ((with_reducible refine And.intro ?_ ?_); (focus (first | omega | (simp only [inR]; omega) | rfl | (simp [notinId, notin]; done) | exact Or.inr rfl))))
  refine EffC.use a53 ?_ (.inr rfl) ?_
  · ((refine evL ?_; (try (with_reducible exact True.intro))) <;> (repeat' (with_reducible refine And.intro ?_ ?_)) <;> first | trivial | (exact fun _ _ => trivial) | (simp; done) | (exact fun q hq => cut_at0 q (by simpa using hq)) | (exact fun q hq => cut_at0 q (by omega)) | omega)
  (refine ev ?_; (try (with_reducible exact True.intro)))
  (repeat ((with_reducible refine And.intro ?_ ?_); (focus (first | omega | (simp only [inR]; omega) | rfl | (simp [notinId, notin]; done) | exact Or.inr rfl))))
  refine SH.Sem.step hm ?_
  (refine ev ?_; (try (with_reducible exact True.intro)))
  (repeat ((with_reducible refine And.intro ?_ ?_); (focus (first | omega | (simp only [inR]; omega) | rfl | (simp [notinId, notin]; done) | exact Or.inr rfl))))
  refine SH.Sem.step hm ?_
  (refine ev ?_; (try (with_reducible exact True.intro)))
  (repeat ((with_reducible refine And.intro ?_ ?_); (focus (first | omega | (simp only [inR]; omega) | rfl | (simp [notinId, notin]; done) | exact Or.inr rfl))))
  rcases hp with rfl | rfl
  · have c67' := c67' 1 rfl
    simp only [show ((0 : Int) == 0) = true from rfl]
    (refine ev ?_; (try (with_reducible exact True.intro)))
    (repeat ((with_reducible refine And.intro ?_ ?_); (focus (first | omega | (simp only [inR]; omega) | rfl | (simp [notinId, notin]; done) | exact Or.inr rfl))))
    have b66 := b66 rfl
    refine EffC.use b66 ?_ (.inl (memless_b _ _)) ?_
    · ((refine evL ?_; (try (with_reducible exact True.intro))) <;> (repeat' (with_reducible refine And.intro ?_ ?_)) <;> first | trivial | (exact fun _ _ => trivial) | (simp; done) | (exact fun q hq => cut_at0 q (by simpa using hq)) | (exact fun q hq => cut_at0 q (by omega)) | omega)
    (refine ev ?_; (try (with_reducible exact True.intro)))
    (repeat ((with_reducible refine And.intro ?_ ?_); (focus (first | omega | (simp only [inR]; omega) | rfl | (simp [notinId, notin]; done) | exact Or.inr rfl))))
    refine SH.Sem.step hm ?_
    (refine ev ?_; (try (with_reducible exact True.intro)))
    (repeat ((with_reducible refine And.intro ?_ ?_); (focus (first | omega | (simp only [inR]; omega) | rfl | (simp [notinId, notin]; done) | exact Or.inr rfl))))
    refine EffC.use b65 ?_ (.inl rfl) ?_
    · ((refine evL ?_; (try (with_reducible exact True.intro))) <;> (repeat' (with_reducible refine And.intro ?_ ?_)) <;> first | trivial | (exact fun _ _ => trivial) | (simp; done) | (exact fun q hq => cut_at0 q (by simpa using hq)) | (exact fun q hq => cut_at0 q (by omega)) | omega)
    (refine ev ?_; (try (with_reducible exact True.intro)))
    (repeat ((with_reducible refine And.intro ?_ ?_); (focus (first | omega | (simp only [inR]; omega) | rfl | (simp [notinId, notin]; done) | exact Or.inr rfl))))
    cases sm
    · (refine ev ?_; (try (with_reducible exact True.intro)))
      try simp only [show ((0 : Int) == 0) = true from rfl]
      try (refine ev ?_; (try (with_reducible exact True.intro)))
      (repeat ((with_reducible refine And.intro ?_ ?_); (focus (first | omega | (simp only [inR]; omega) | rfl | (simp [notinId, notin]; done) | exact Or.inr rfl))))
      exact ⟨0, rfl, by rw [hw, if_neg (by simp), if_pos rfl]; rfl⟩
    · have c66' := c66' rfl
      have own' := own' rfl
      simp only [if_true, show ((0 : Int) = 1) = False from by simp, if_false] at hw
      (refine ev ?_; (try (with_reducible exact True.intro)))
      (repeat ((with_reducible refine And.intro ?_ ?_); (focus (first | omega | (simp only [inR]; omega) | rfl | (simp [notinId, notin]; done) | exact Or.inr rfl))))
      refine SH.Sem.step hm ?_
      (refine ev ?_; (try (with_reducible exact True.intro)))
      (repeat ((with_reducible refine And.intro ?_ ?_); (focus (first | omega | (simp only [inR]; omega) | rfl | (simp [notinId, notin]; done) | exact Or.inr rfl))))
      refine EffC.use (c67' rfl) ?_ (.inl (memless_b _ _)) ?_
      · ((refine evL ?_; (try (with_reducible exact True.intro))) <;> (repeat' (with_reducible refine And.intro ?_ ?_)) <;> first | trivial | (exact fun _ _ => trivial) | (simp; done) | (exact fun q hq => cut_at0 q (by simpa using hq)) | (exact fun q hq => cut_at0 q (by omega)) | omega)
      (refine ev ?_; (try (with_reducible exact True.intro)))
      (repeat ((with_reducible refine And.intro ?_ ?_); (focus (first | omega | (simp only [inR]; omega) | rfl | (simp [notinId, notin]; done) | exact Or.inr rfl))))
      refine SH.Sem.step hm ?_
      (refine ev ?_; (try (with_reducible exact True.intro)))
      (repeat ((with_reducible refine And.intro ?_ ?_); (focus (first | omega | (simp only [inR]; omega) | rfl | (simp [notinId, notin]; done) | exact Or.inr rfl))))
      refine ExCall.use c66' ?_ (.inl (memless_b _ _)) ?_
      · ((refine evL ?_; (try (with_reducible exact True.intro))) <;> (repeat' (with_reducible refine And.intro ?_ ?_)) <;> first | trivial | (exact fun _ _ => trivial) | (simp; done) | (exact fun q hq => cut_at0 q (by simpa using hq)) | (exact fun q hq => cut_at0 q (by omega)) | omega)
      (refine ev ?_; (try (with_reducible exact True.intro)))
      (repeat ((with_reducible refine And.intro ?_ ?_); (focus (first | omega | (simp only [inR]; omega) | rfl | (simp [notinId, notin]; done) | exact Or.inr rfl))))
      refine ExCall.mk (.own 8 1 n (encL cBool false w')) (.inr ⟨n, encL cBool false rest', 1, rfl, rfl, game_ro, own'⟩) (by simp [AR.nv]) ?_
      (refine ev ?_; (try (with_reducible exact True.intro)))
      (repeat ((with_reducible refine And.intro ?_ ?_); (focus (first | omega | (simp only [inR]; omega) | rfl | (simp [notinId, notin]; done) | exact Or.inr rfl))))
      refine SH.Sem.step hm ?_
      (refine ev ?_; (try (with_reducible exact True.intro)))
      (repeat ((with_reducible refine And.intro ?_ ?_); (focus (first | omega | (simp only [inR]; omega) | rfl | (simp [notinId, notin]; done) | exact Or.inr rfl))))
      try simp only [show ((0 : Int) == 1) = false from rfl]
      try (refine ev ?_; (try (with_reducible exact True.intro)))
      (repeat ((with_reducible refine And.intro ?_ ?_); (focus (first | omega | (simp only [inR]; omega) | rfl | (simp [notinId, notin]; done) | exact Or.inr rfl))))
      refine SH.Sem.step hm ?_
      (refine ev ?_; (try (with_reducible exact True.intro)))
      (repeat ((with_reducible refine And.intro ?_ ?_); (focus (first | omega | (simp only [inR]; omega) | rfl | (simp [notinId, notin]; done) | exact Or.inr rfl))))
      refine SH.Sem.of_wpA hm ?_
      (refine ev ?_; (try (with_reducible exact True.intro)))
      (repeat ((with_reducible refine And.intro ?_ ?_); (focus (first | omega | (simp only [inR]; omega) | rfl | (simp [notinId, notin]; done) | exact Or.inr rfl))))
      subst hw
      exact ⟨10, rfl, rfl⟩
  · have c67' := c67' 0 rfl
    simp only [show ((1 : Int) == 0) = false from rfl]
    (refine ev ?_; (try (with_reducible exact True.intro)))
    (repeat ((with_reducible refine And.intro ?_ ?_); (focus (first | omega | (simp only [inR]; omega) | rfl | (simp [notinId, notin]; done) | exact Or.inr rfl))))
    obtain rfl := hlo rfl
    refine SH.Sem.step hm ?_
    (refine ev ?_; (try (with_reducible exact True.intro)))
    (repeat ((with_reducible refine And.intro ?_ ?_); (focus (first | omega | (simp only [inR]; omega) | rfl | (simp [notinId, notin]; done) | exact Or.inr rfl))))
    refine EffC.use b65 ?_ (.inl rfl) ?_
    · ((refine evL ?_; (try (with_reducible exact True.intro))) <;> (repeat' (with_reducible refine And.intro ?_ ?_)) <;> first | trivial | (exact fun _ _ => trivial) | (simp; done) | (exact fun q hq => cut_at0 q (by simpa using hq)) | (exact fun q hq => cut_at0 q (by omega)) | omega)
    (refine ev ?_; (try (with_reducible exact True.intro)))
    (repeat ((with_reducible refine And.intro ?_ ?_); (focus (first | omega | (simp only [inR]; omega) | rfl | (simp [notinId, notin]; done) | exact Or.inr rfl))))
    cases sm
    · (refine ev ?_; (try (with_reducible exact True.intro)))
      try simp only [show ((1 : Int) == 0) = false from rfl]
      try (refine ev ?_; (try (with_reducible exact True.intro)))
      (repeat ((with_reducible refine And.intro ?_ ?_); (focus (first | omega | (simp only [inR]; omega) | rfl | (simp [notinId, notin]; done) | exact Or.inr rfl))))
      exact ⟨2, rfl, by rw [hw, if_neg (by simp), if_neg (by decide)]; rfl⟩
    · have c66' := c66' rfl
      have own' := own' rfl
      simp only [if_true, show ((1 : Int) = 1) = True from by simp, if_true] at hw
      (refine ev ?_; (try (with_reducible exact True.intro)))
      (repeat ((with_reducible refine And.intro ?_ ?_); (focus (first | omega | (simp only [inR]; omega) | rfl | (simp [notinId, notin]; done) | exact Or.inr rfl))))
      refine SH.Sem.step hm ?_
      (refine ev ?_; (try (with_reducible exact True.intro)))
      (repeat ((with_reducible refine And.intro ?_ ?_); (focus (first | omega | (simp only [inR]; omega) | rfl | (simp [notinId, notin]; done) | exact Or.inr rfl))))
      refine EffC.use (c67' rfl) ?_ (.inl (memless_b _ _)) ?_
      · ((refine evL ?_; (try (with_reducible exact True.intro))) <;> (repeat' (with_reducible refine And.intro ?_ ?_)) <;> first | trivial | (exact fun _ _ => trivial) | (simp; done) | (exact fun q hq => cut_at0 q (by simpa using hq)) | (exact fun q hq => cut_at0 q (by omega)) | omega)
      (refine ev ?_; (try (with_reducible exact True.intro)))
      (repeat ((with_reducible refine And.intro ?_ ?_); (focus (first | omega | (simp only [inR]; omega) | rfl | (simp [notinId, notin]; done) | exact Or.inr rfl))))
      refine SH.Sem.step hm ?_
      (refine ev ?_; (try (with_reducible exact True.intro)))
      (repeat ((with_reducible refine And.intro ?_ ?_); (focus (first | omega | (simp only [inR]; omega) | rfl | (simp [notinId, notin]; done) | exact Or.inr rfl))))
      refine ExCall.use c66' ?_ (.inl (memless_b _ _)) ?_
      · ((refine evL ?_; (try (with_reducible exact True.intro))) <;> (repeat' (with_reducible refine And.intro ?_ ?_)) <;> first | trivial | (exact fun _ _ => trivial) | (simp; done) | (exact fun q hq => cut_at0 q (by simpa using hq)) | (exact fun q hq => cut_at0 q (by omega)) | omega)
      (refine ev ?_; (try (with_reducible exact True.intro)))
      (repeat ((with_reducible refine And.intro ?_ ?_); (focus (first | omega | (simp only [inR]; omega) | rfl | (simp [notinId, notin]; done) | exact Or.inr rfl))))
      refine ExCall.mk (.own 7 1 n (encL cBool false w')) (.inr ⟨n, encL cBool false rest', 1, rfl, rfl, game_ro, own'⟩) (by simp [AR.nv]) ?_
      (refine ev ?_; (try (with_reducible exact True.intro)))
      (repeat ((with_reducible refine And.intro ?_ ?_); (focus (first | omega | (simp only [inR]; omega) | rfl | (simp [notinId, notin]; done) | exact Or.inr rfl))))
      refine SH.Sem.step hm ?_
      (refine ev ?_; (try (with_reducible exact True.intro)))
      (repeat ((with_reducible refine And.intro ?_ ?_); (focus (first | omega | (simp only [inR]; omega) | rfl | (simp [notinId, notin]; done) | exact Or.inr rfl))))
      try simp only [show ((1 : Int) == 1) = true from rfl]
      try (refine ev ?_; (try (with_reducible exact True.intro)))
      (repeat ((with_reducible refine And.intro ?_ ?_); (focus (first | omega | (simp only [inR]; omega) | rfl | (simp [notinId, notin]; done) | exact Or.inr rfl))))
      refine SH.Sem.loop hm (fun i : Nat => ⟨padA [.undef, .undef, .undef, .undef, .undef, .int .i64 n, .undef, .undef, .undef, .undef, .undef, .undef, .undef, .undef, .undef, .sl 1 0 n, .sl 2 0 n, .int .i64 i] 123, [.vec 1 n (encL cBool false s), .vec 1 n (encL cBool false Z), .vec 1 n (encL cBool false (partL n (fun i => w'.getD i false || Z.getD i false) (fun i => w'.getD i false) i))]⟩) (fun i => i ≤ n) (fun i => n - i) [0, 6, 9] 0 (by omega) ?_ fun i hi0 => ?_
      · simp only [padA, St.le, slotsLe, heapLe, blkLe, rowLe, live, injOn, loLe, nget, nlook, ren, okA, allP, mapA, hget, ABlk.used, notin, List.map_cons, List.map_nil, true_or, or_true, false_or, or_false, true_and, and_true, and_self, AV.int.injEq, AV.bool.injEq, AV.str.injEq, AV.sl.injEq, AV.ro.injEq, AV.agg.injEq, List.cons.injEq, reduceCtorEq, ne_eq, not_false_eq_true, not_true_eq_false]
        (repeat' (with_reducible refine And.intro ?_ ?_)) <;> first | exact (fun q hq => by rw [partL_zero]; simp only [encL]; rw [range_map_getD _ _ _ _ hq]) | rfl | trivial | (intros; trivial; done) | (intros; rfl; done) | (simp; done)
      simp only [padA]
      (refine ev ?_; (try (with_reducible exact True.intro)))
      refine gsd (fun hd => ?_) (fun hd => ?_)
      · have hi : i < n := by omega
        have e1 := encb_upd1 (f := fun i => w'.getD i false || Z.getD i false) (g := fun i => w'.getD i false) hi _ rfl
        have e2 : (partL n (fun i => w'.getD i false || Z.getD i false) (fun i => w'.getD i false) i).getD i false = w'.getD i false := by rw [partL_getD _ hi, if_neg (by omega)]
        cases hwi : w'.getD i false
        all_goals simp only [hwi, Bool.false_or, Bool.true_or] at e1 e2
        all_goals (refine ev ?_; (try (with_reducible exact True.intro)))
        all_goals simp only [Int.toNat_natCast, e2]
        all_goals (repeat ((with_reducible refine And.intro ?_ ?_); (focus (first | omega | (simp only [inR]; omega) | rfl | (simp [notinId, notin]; done) | exact Or.inr rfl))))
        all_goals (refine ev ?_; (try (with_reducible exact True.intro)))
        all_goals simp only [Int.toNat_natCast, e1]
        all_goals (repeat ((with_reducible refine And.intro ?_ ?_); (focus (first | omega | (simp only [inR]; omega) | rfl | (simp [notinId, notin]; done) | exact Or.inr rfl))))
        all_goals refine ⟨i + 1, [0, 1, 2], by omega, by show n - (i + 1) < n - i; omega, ?_⟩
        all_goals simp only [padA, St.le, slotsLe, heapLe, blkLe, rowLe, live, injOn, loLe, nget, nlook, ren, okA, allP, mapA, hget, ABlk.used, notin, List.map_cons, List.map_nil, true_or, or_true, false_or, or_false, true_and, and_true, and_self, AV.int.injEq, AV.bool.injEq, AV.str.injEq, AV.sl.injEq, AV.ro.injEq, AV.agg.injEq, List.cons.injEq, reduceCtorEq, ne_eq, not_false_eq_true, not_true_eq_false]
        all_goals simp
      obtain rfl : n = i := by omega
      (refine ev ?_; (try (with_reducible exact True.intro)))
      clear hi0 hd
      rw [partL_full, show (List.range n).map (fun i => w'.getD i false || Z.getD i false) = orL w' Z n from rfl, ← hw]
      have hwl : w.length = n := by rw [hw, orL]; simp
      refine SH.Sem.of_wpA hm ?_
      (refine ev ?_; (try (with_reducible exact True.intro)))
      (repeat ((with_reducible refine And.intro ?_ ?_); (focus (first | omega | (simp only [inR]; omega) | rfl | (simp [notinId, notin]; done) | exact Or.inr rfl))))
      exact ⟨2, rfl, rfl⟩

end Go.Proofs.Ythkgnnndlocbbaa
