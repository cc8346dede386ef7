/-
  The choices of a player within a set. No condition but sizes.
-/
import Derived.Test.YthkgnnndlocbbaaUa
namespace Go.Proofs.Ythkgnnndlocbbaa
set_option linter.unusedVariables false
set_option linter.unusedSimpArgs false
open Go Go.SH Go.Parity
set_option maxRecDepth 100000
set_option maxHeartbeats 4000000
section
variable {ow : List Int} {su : List (List Int)} {pl : Int} {set : List Bool} {n i k : Nat}
def chI (ow : List Int) (su : List (List Int)) (pl : Int) (set : List Bool) (i k q : Nat) : List Int := if q < i then chL ow su pl set q else if q = i then chK ow su pl set i k else []
theorem chI_up (h : chK ow su pl set i k = chL ow su pl set i) : chI ow su pl set i k = chI ow su pl set (i + 1) 0 := by
  funext q
  unfold chI
  rcases Nat.lt_trichotomy q i with h1 | h1 | h1
  · rw [if_pos h1, if_pos (by omega)]
  · subst h1
    rw [if_neg (by omega), if_pos rfl, if_pos (by omega), h]
  · rw [if_neg (by omega), if_neg (by omega), if_neg (by omega)]
    split
    · unfold chK; simp
    · rfl
theorem chI_zero : chI ow su pl set 0 0 = fun _ => [] := by
  funext q
  unfold chI
  rw [if_neg (by omega)]
  split
  · unfold chK; simp
  · rfl
theorem chI_end {q : Nat} (h : q < n) : chI ow su pl set n 0 q = chL ow su pl set q := by rw [chI, if_pos h]
theorem chI_at : chI ow su pl set i k i = chK ow su pl set i k := by rw [chI, if_neg (by omega), if_pos rfl]
theorem chI_ne {q k' : Nat} (h : q ≠ i) : chI ow su pl set i k q = chI ow su pl set i k' q := by
  unfold chI; rw [if_neg h, if_neg h]
theorem chI_stay (h : chK ow su pl set i (k + 1) = chK ow su pl set i k) : chI ow su pl set i (k + 1) = chI ow su pl set i k := by
  funext q
  unfold chI
  split
  · rfl
  · split
    · exact h
    · rfl
theorem chK_no (h : (set.getD i false && (ow.getD i 0 == pl)) = false) : chK ow su pl set i k = chL ow su pl set i := by
  rw [chL, chK, chK, if_neg (by rw [h]; simp), if_neg (by rw [h]; simp)]
theorem chK_next (h : (set.getD i false && (ow.getD i 0 == pl)) = true) (hk : k < (su.getD i []).length) : chK ow su pl set i (k + 1) = chK ow su pl set i k ++ if set.getD ((su.getD i []).getD k 0).toNat false = true then [(su.getD i []).getD k 0] else [] := by
  rw [chK, chK, if_pos h, if_pos h, take_next _ 0 k hk, List.filter_append]
  congr 1
  split
  · rename_i h1; rw [List.filter_cons_of_pos (by exact h1)]; rfl
  · rename_i h1; rw [List.filter_cons_of_neg (by exact h1)]; rfl
theorem chK_len : (chK ow su pl set i k).length ≤ (su.getD i []).length := by
  unfold chK
  split
  · refine Nat.le_trans (List.length_filter_le _ _) ?_
    rw [List.length_take]; omega
  · simp
end
/-- To hold what follows out of sight. -/
theorem contV {P : Program} {lo : Cx} {c : Code} {st : St} {K : Exit → St → Prop} (h : ∀ K' : Exit → St → Prop, (∀ e s, K e s → K' e s) → SH.Sem P lo c K' st) : SH.Sem P lo c K st := h K fun _ _ h => h
theorem rowLe_refl' {ρ : List Nat} {H : List ABlk} {r : MRow} (h : ∀ k, r = .lent k → k = nget ρ k ∧ (hget H k).used = true) : rowLe ρ H r r := by
  cases r with
  | row sz m f => exact ⟨rfl, rfl, fun _ _ => rfl⟩
  | lent k => exact h k rfl
  | hole => trivial
theorem rowsG_lent {L : Nat → List Int} {x k : Nat} : rowsG L x ≠ .lent k := by unfold rowsG; simp
theorem rowsG_back {L : Nat → List Int} {i m : Nat} : updG (updG (rowsG L) i (.lent m)) i (.row 1 (L i).length (encL (cInt .i64) 0 (L i))) = rowsG L := by
  funext x
  by_cases hx : x = i
  · subst hx; rw [updG_same, rowsG]
  · rw [updG_ne _ _ hx, updG_ne _ _ hx]
theorem c26 (ow pr : List Int) (su : List (List Int)) (pl : Int) (set : List Bool) (hv : validB ow pr su = true) (n : Nat) (hn : ow.length = n) (hn7 : n ≤ 7) (h3 : ∀ i, (su.getD i []).length ≤ 3) (hsl : set.length = n) :
    Contract Try.prog 26 [game ow pr su, .int .i64 pl, boolRow set] (.tup [.val (intRows ((List.range n).map (chL ow su pl set))), .val (.int .i64 (proT (chL ow su pl set) n : Nat))]) := by
  obtain ⟨v1, v2, v3, v4⟩ := validB_spec hv
  have pb : ∀ i, i ≤ n → proT (chL ow su pl set) i ≤ 2187 := fun i hi => Nat.le_trans (proT_le _ (fun j => Nat.le_trans chK_len (h3 j)) i) (Nat.le_trans (Nat.pow_le_pow_right (by omega) (show i ≤ 7 by omega)) (by decide))
  refine ct26 ?_
  simp only [padA]
  simp only [Try.f26, Option.getD]
  refine SH.Sem.step hm ?_
  (refine ev ?_; (try (with_reducible exact True.intro)))
  repeat (((with_reducible refine And.intro ?_ ?_)); (focus (first | omega | (simp only [inR]; omega) | rfl | (simp [notinId, notin]; done) | exact Or.inr rfl | (intro i hi; (repeat' (with_reducible first | apply len_cut | apply len_shift | apply len_app | apply len_copy | intro j)) <;> first | rfl | (exact len_lit _ _ (by simp) rfl _) | (simp; done)))))
  refine SH.Sem.step hm ?_
  (refine ev ?_; (try (with_reducible exact True.intro)))
  repeat (((with_reducible refine And.intro ?_ ?_)); (focus (first | omega | (simp only [inR]; omega) | rfl | (simp [notinId, notin]; done) | exact Or.inr rfl | (intro i hi; (repeat' (with_reducible first | apply len_cut | apply len_shift | apply len_app | apply len_copy | intro j)) <;> first | rfl | (exact len_lit _ _ (by simp) rfl _) | (simp; done)))))
  simp only [v3, hn, Int.toNat_natCast]
  refine SH.Sem.tomat 1 1 (encL (cInt .i64) 0 []) (by decide) rfl (fun i _ => rfl) ?_
  simp only [hset]
  refine SH.Sem.step hm ?_
  (refine ev ?_; (try (with_reducible exact True.intro)))
  repeat (((with_reducible refine And.intro ?_ ?_)); (focus (first | omega | (simp only [inR]; omega) | rfl | (simp [notinId, notin]; done) | exact Or.inr rfl | (intro i hi; (repeat' (with_reducible first | apply len_cut | apply len_shift | apply len_app | apply len_copy | intro j)) <;> first | rfl | (exact len_lit _ _ (by simp) rfl _) | (simp; done)))))
  refine SH.Sem.step hm ?_
  (refine ev ?_; (try (with_reducible exact True.intro)))
  repeat (((with_reducible refine And.intro ?_ ?_)); (focus (first | omega | (simp only [inR]; omega) | rfl | (simp [notinId, notin]; done) | exact Or.inr rfl | (intro i hi; (repeat' (with_reducible first | apply len_cut | apply len_shift | apply len_app | apply len_copy | intro j)) <;> first | rfl | (exact len_lit _ _ (by simp) rfl _) | (simp; done)))))
  refine SH.Sem.loopS (fun i : Nat => ⟨padA [.undef, .int .i64 pl, boolRow set, .ptr 0 0 0, .undef, .undef, .undef, .undef, .sl 1 0 n, .int .i64 (proT (chL ow su pl set) i : Nat), .int .i64 i] 86, [.box [intRow ow, intRow pr, intRows su], .mat n (rowsG (chI ow su pl set i 0))]⟩) (fun i => i ≤ n) (fun i => n - i) [0, 1] 0 (by omega) ?_ fun i hi0 => ?_
  · have e0 : rowsG (chI ow su pl set 0 0) = fun _ => .row 1 0 (encL (cInt .i64) 0 []) := by rw [chI_zero]; rfl
    simp only [padA, St.le, slotsLe, heapLe, blkLe, rowLe, live, injOn, loLe, nget, nlook, ren, okA, allP, mapA, hget, ABlk.used, notin, List.map_cons, List.map_nil, true_or, or_true, false_or, or_false, true_and, and_true, and_self, AV.int.injEq, AV.bool.injEq, AV.str.injEq, AV.sl.injEq, AV.ro.injEq, AV.agg.injEq, List.cons.injEq, reduceCtorEq, ne_eq, not_false_eq_true, not_true_eq_false, -rowLe, e0, proT]
    exact ⟨⟨rfl, rfl⟩, fun _ _ _ _ => trivial⟩
  simp only [padA]
  refine SH.Sem.step hm ?_
  (refine ev ?_; (try (with_reducible exact True.intro)))
  repeat (((with_reducible refine And.intro ?_ ?_)); (focus (first | omega | (simp only [inR]; omega) | rfl | (simp [notinId, notin]; done) | exact Or.inr rfl | (intro i hi; (repeat' (with_reducible first | apply len_cut | apply len_shift | apply len_app | apply len_copy | intro j)) <;> first | rfl | (exact len_lit _ _ (by simp) rfl _) | (simp; done)))))
  refine gsd (fun hd => ?_) (fun hd => ?_)
  · have hi : i < n := by omega
    obtain ⟨row, hrow⟩ : ∃ row, su.getD i [] = row := ⟨_, rfl⟩
    have w3 := (v4 i (by omega)).2.2
    have hrl := h3 i
    rw [hrow] at w3 hrl
    (refine ev ?_; (try (with_reducible exact True.intro)))
    refine SH.Sem.seq ?_
    refine SH.Sem.block ?_
    refine SH.Sem.step hm ?_
    (refine ev ?_; (try (with_reducible exact True.intro)))
    refine contV fun K2 hK2 => ?_
    refine SH.Sem.loopS (fun k : Nat => ⟨padA [.undef, .int .i64 pl, boolRow set, .ptr 0 0 0, .undef, .undef, .undef, .undef, .sl 1 0 n, .int .i64 (proT (chL ow su pl set) i : Nat), .int .i64 i, .int .i64 k] 86, [.box [intRow ow, intRow pr, intRows su], .mat n (rowsG (chI ow su pl set i k))]⟩) (fun k => k ≤ row.length) (fun k => row.length - k) [0, 1] 0 (by omega) ?_ fun k hk0 => ?_
    · simp only [padA, St.le, slotsLe, heapLe, blkLe, rowLe, live, injOn, loLe, nget, nlook, ren, okA, allP, mapA, hget, ABlk.used, notin, List.map_cons, List.map_nil, true_or, or_true, false_or, or_false, true_and, and_true, and_self, AV.int.injEq, AV.bool.injEq, AV.str.injEq, AV.sl.injEq, AV.ro.injEq, AV.agg.injEq, List.cons.injEq, reduceCtorEq, ne_eq, not_false_eq_true, not_true_eq_false, -rowLe]
      exact ⟨rfl, fun x _ => rowLe_refl' fun k' h' => absurd h' rowsG_lent⟩
    simp only [padA]
    refine SH.Sem.step hm ?_
    (refine ev ?_; (try (with_reducible exact True.intro)))
    simp only [Int.toNat_natCast, hrow]
    repeat (((with_reducible refine And.intro ?_ ?_)); (focus (first | omega | (simp only [inR]; omega) | rfl | (simp [notinId, notin]; done) | exact Or.inr rfl | (intro i hi; (repeat' (with_reducible first | apply len_cut | apply len_shift | apply len_app | apply len_copy | intro j)) <;> first | rfl | (exact len_lit _ _ (by simp) rfl _) | (simp; done)))))
    have ei : chI ow su pl set (i + 1) 0 i = chL ow su pl set i := by rw [chI, if_pos (by omega)]
    have pm : (proT (chL ow su pl set) i : Int) * max ((chI ow su pl set (i + 1) 0 i).length : Int) 1 = (proT (chL ow su pl set) (i + 1) : Nat) := by
      rw [ei, proT, Int.natCast_mul, show ((max (chL ow su pl set i).length 1 : Nat) : Int) = max ((chL ow su pl set i).length : Int) 1 by omega]
    have pm2 : inR .i64 ((proT (chL ow su pl set) i : Int) * max ((chI ow su pl set (i + 1) 0 i).length : Int) 1) := by
      rw [pm]; have := pb (i + 1) (by omega); simp only [inR]; omega
    refine gsd (fun hd2 => ?_) (fun hd2 => ?_)
    rotate_left
    · have hk : k = row.length := by omega
      have fin : chK ow su pl set i k = chL ow su pl set i := by rw [chL, hrow, hk]
      (refine ev ?_; (try (with_reducible exact True.intro)))
      repeat (((with_reducible refine And.intro ?_ ?_)); (focus (first | omega | (simp only [inR]; omega) | rfl | (simp [notinId, notin]; done) | exact Or.inr rfl | (intro i hi; (repeat' (with_reducible first | apply len_cut | apply len_shift | apply len_app | apply len_copy | intro j)) <;> first | rfl | (exact len_lit _ _ (by simp) rfl _) | (simp; done)))))
      refine hK2 _ _ ?_
      (refine ev ?_; (try (with_reducible exact True.intro)))
      repeat (((with_reducible refine And.intro ?_ ?_)); (focus (first | omega | (simp only [inR]; omega) | rfl | (simp [notinId, notin]; done) | exact Or.inr rfl | (intro i hi; (repeat' (with_reducible first | apply len_cut | apply len_shift | apply len_app | apply len_copy | intro j)) <;> first | rfl | (exact len_lit _ _ (by simp) rfl _) | (simp; done)))))
      clear hK2 K2
      rw [chI_up fin]
      refine SH.Sem.lend 1 i rfl hi rfl ?_
      simp only [hlen, hset, Nat.zero_add, Nat.reduceAdd]
      refine Sem.of_wpA hm ?_
      iterate 3 (try (refine ev ?_; (try (with_reducible exact True.intro))); try simp only [Int.toNat_natCast, updG_same, hget]; repeat (((with_reducible refine And.intro ?_ ?_)); (focus (first | omega | (simp only [inR]; omega) | rfl | (simp [notinId, notin]; done) | exact Or.inr rfl | (intro i hi; (repeat' (with_reducible first | apply len_cut | apply len_shift | apply len_app | apply len_copy | intro j)) <;> first | rfl | (exact len_lit _ _ (by simp) rfl _) | (simp; done))))))
      refine ⟨pm2, ?_⟩
      refine SH.Sem.back 1 i 2 rfl hi (updG_same _ _ _) rfl ?_
      simp only [hset, rowsG_back]
      refine Sem.of_wpA hm ?_
      (refine ev ?_; (try (with_reducible exact True.intro)))
      repeat (((with_reducible refine And.intro ?_ ?_)); (focus (first | omega | (simp only [inR]; omega) | rfl | (simp [notinId, notin]; done) | exact Or.inr rfl | (intro i hi; (repeat' (with_reducible first | apply len_cut | apply len_shift | apply len_app | apply len_copy | intro j)) <;> first | rfl | (exact len_lit _ _ (by simp) rfl _) | (simp; done)))))
      refine ⟨i + 1, [0, 1], by omega, by show n - (i + 1) < n - i; omega, ?_⟩
      simp only [padA, St.le, slotsLe, heapLe, blkLe, rowLe, live, injOn, loLe, nget, nlook, ren, okA, allP, mapA, hget, ABlk.used, notin, List.map_cons, List.map_nil, true_or, or_true, false_or, or_false, true_and, and_true, and_self, AV.int.injEq, AV.bool.injEq, AV.str.injEq, AV.sl.injEq, AV.ro.injEq, AV.agg.injEq, List.cons.injEq, reduceCtorEq, ne_eq, not_false_eq_true, not_true_eq_false, -rowLe]
      exact ⟨⟨pm, by omega⟩, fun x _ => rowLe_refl' fun k' h' => absurd h' rowsG_lent⟩
    have hk : k < row.length := by omega
    (refine ev ?_; (try (with_reducible exact True.intro)))
    simp only [Int.toNat_natCast]
    repeat (((with_reducible refine And.intro ?_ ?_)); (focus (first | omega | (simp only [inR]; omega) | rfl | (simp [notinId, notin]; done) | exact Or.inr rfl | (intro i hi; (repeat' (with_reducible first | apply len_cut | apply len_shift | apply len_app | apply len_copy | intro j)) <;> first | rfl | (exact len_lit _ _ (by simp) rfl _) | (simp; done)))))
    refine gs (fun h1 => ?_) (fun h1 => ?_)
    rotate_left
    · have fin : chK ow su pl set i k = chL ow su pl set i := chK_no (by rw [h1]; rfl)
      (refine ev ?_; (try (with_reducible exact True.intro)))
      repeat (((with_reducible refine And.intro ?_ ?_)); (focus (first | omega | (simp only [inR]; omega) | rfl | (simp [notinId, notin]; done) | exact Or.inr rfl | (intro i hi; (repeat' (with_reducible first | apply len_cut | apply len_shift | apply len_app | apply len_copy | intro j)) <;> first | rfl | (exact len_lit _ _ (by simp) rfl _) | (simp; done)))))
      refine hK2 _ _ ?_
      (refine ev ?_; (try (with_reducible exact True.intro)))
      repeat (((with_reducible refine And.intro ?_ ?_)); (focus (first | omega | (simp only [inR]; omega) | rfl | (simp [notinId, notin]; done) | exact Or.inr rfl | (intro i hi; (repeat' (with_reducible first | apply len_cut | apply len_shift | apply len_app | apply len_copy | intro j)) <;> first | rfl | (exact len_lit _ _ (by simp) rfl _) | (simp; done)))))
      clear hK2 K2
      rw [chI_up fin]
      refine SH.Sem.lend 1 i rfl hi rfl ?_
      simp only [hlen, hset, Nat.zero_add, Nat.reduceAdd]
      refine Sem.of_wpA hm ?_
      iterate 3 (try (refine ev ?_; (try (with_reducible exact True.intro))); try simp only [Int.toNat_natCast, updG_same, hget]; repeat (((with_reducible refine And.intro ?_ ?_)); (focus (first | omega | (simp only [inR]; omega) | rfl | (simp [notinId, notin]; done) | exact Or.inr rfl | (intro i hi; (repeat' (with_reducible first | apply len_cut | apply len_shift | apply len_app | apply len_copy | intro j)) <;> first | rfl | (exact len_lit _ _ (by simp) rfl _) | (simp; done))))))
      refine ⟨pm2, ?_⟩
      refine SH.Sem.back 1 i 2 rfl hi (updG_same _ _ _) rfl ?_
      simp only [hset, rowsG_back]
      refine Sem.of_wpA hm ?_
      (refine ev ?_; (try (with_reducible exact True.intro)))
      repeat (((with_reducible refine And.intro ?_ ?_)); (focus (first | omega | (simp only [inR]; omega) | rfl | (simp [notinId, notin]; done) | exact Or.inr rfl | (intro i hi; (repeat' (with_reducible first | apply len_cut | apply len_shift | apply len_app | apply len_copy | intro j)) <;> first | rfl | (exact len_lit _ _ (by simp) rfl _) | (simp; done)))))
      refine ⟨i + 1, [0, 1], by omega, by show n - (i + 1) < n - i; omega, ?_⟩
      simp only [padA, St.le, slotsLe, heapLe, blkLe, rowLe, live, injOn, loLe, nget, nlook, ren, okA, allP, mapA, hget, ABlk.used, notin, List.map_cons, List.map_nil, true_or, or_true, false_or, or_false, true_and, and_true, and_self, AV.int.injEq, AV.bool.injEq, AV.str.injEq, AV.sl.injEq, AV.ro.injEq, AV.agg.injEq, List.cons.injEq, reduceCtorEq, ne_eq, not_false_eq_true, not_true_eq_false, -rowLe]
      exact ⟨⟨pm, by omega⟩, fun x _ => rowLe_refl' fun k' h' => absurd h' rowsG_lent⟩
    (refine ev ?_; (try (with_reducible exact True.intro)))
    simp only [Int.toNat_natCast]
    repeat (((with_reducible refine And.intro ?_ ?_)); (focus (first | omega | (simp only [inR]; omega) | rfl | (simp [notinId, notin]; done) | exact Or.inr rfl | (intro i hi; (repeat' (with_reducible first | apply len_cut | apply len_shift | apply len_app | apply len_copy | intro j)) <;> first | rfl | (exact len_lit _ _ (by simp) rfl _) | (simp; done)))))
    refine gs (fun h2 => ?_) (fun h2 => ?_)
    rotate_left
    · have fin : chK ow su pl set i k = chL ow su pl set i := chK_no (by rw [h2, Bool.and_false])
      (refine ev ?_; (try (with_reducible exact True.intro)))
      repeat (((with_reducible refine And.intro ?_ ?_)); (focus (first | omega | (simp only [inR]; omega) | rfl | (simp [notinId, notin]; done) | exact Or.inr rfl | (intro i hi; (repeat' (with_reducible first | apply len_cut | apply len_shift | apply len_app | apply len_copy | intro j)) <;> first | rfl | (exact len_lit _ _ (by simp) rfl _) | (simp; done)))))
      refine hK2 _ _ ?_
      (refine ev ?_; (try (with_reducible exact True.intro)))
      repeat (((with_reducible refine And.intro ?_ ?_)); (focus (first | omega | (simp only [inR]; omega) | rfl | (simp [notinId, notin]; done) | exact Or.inr rfl | (intro i hi; (repeat' (with_reducible first | apply len_cut | apply len_shift | apply len_app | apply len_copy | intro j)) <;> first | rfl | (exact len_lit _ _ (by simp) rfl _) | (simp; done)))))
      clear hK2 K2
      rw [chI_up fin]
      refine SH.Sem.lend 1 i rfl hi rfl ?_
      simp only [hlen, hset, Nat.zero_add, Nat.reduceAdd]
      refine Sem.of_wpA hm ?_
      iterate 3 (try (refine ev ?_; (try (with_reducible exact True.intro))); try simp only [Int.toNat_natCast, updG_same, hget]; repeat (((with_reducible refine And.intro ?_ ?_)); (focus (first | omega | (simp only [inR]; omega) | rfl | (simp [notinId, notin]; done) | exact Or.inr rfl | (intro i hi; (repeat' (with_reducible first | apply len_cut | apply len_shift | apply len_app | apply len_copy | intro j)) <;> first | rfl | (exact len_lit _ _ (by simp) rfl _) | (simp; done))))))
      refine ⟨pm2, ?_⟩
      refine SH.Sem.back 1 i 2 rfl hi (updG_same _ _ _) rfl ?_
      simp only [hset, rowsG_back]
      refine Sem.of_wpA hm ?_
      (refine ev ?_; (try (with_reducible exact True.intro)))
      repeat (((with_reducible refine And.intro ?_ ?_)); (focus (first | omega | (simp only [inR]; omega) | rfl | (simp [notinId, notin]; done) | exact Or.inr rfl | (intro i hi; (repeat' (with_reducible first | apply len_cut | apply len_shift | apply len_app | apply len_copy | intro j)) <;> first | rfl | (exact len_lit _ _ (by simp) rfl _) | (simp; done)))))
      refine ⟨i + 1, [0, 1], by omega, by show n - (i + 1) < n - i; omega, ?_⟩
      simp only [padA, St.le, slotsLe, heapLe, blkLe, rowLe, live, injOn, loLe, nget, nlook, ren, okA, allP, mapA, hget, ABlk.used, notin, List.map_cons, List.map_nil, true_or, or_true, false_or, or_false, true_and, and_true, and_self, AV.int.injEq, AV.bool.injEq, AV.str.injEq, AV.sl.injEq, AV.ro.injEq, AV.agg.injEq, List.cons.injEq, reduceCtorEq, ne_eq, not_false_eq_true, not_true_eq_false, -rowLe]
      exact ⟨⟨pm, by omega⟩, fun x _ => rowLe_refl' fun k' h' => absurd h' rowsG_lent⟩
    have hfl : (set.getD i false && (ow.getD i 0 == pl)) = true := by rw [h1, h2]; rfl
    (refine ev ?_; (try (with_reducible exact True.intro)))
    repeat (((with_reducible refine And.intro ?_ ?_)); (focus (first | omega | (simp only [inR]; omega) | rfl | (simp [notinId, notin]; done) | exact Or.inr rfl | (intro i hi; (repeat' (with_reducible first | apply len_cut | apply len_shift | apply len_app | apply len_copy | intro j)) <;> first | rfl | (exact len_lit _ _ (by simp) rfl _) | (simp; done)))))
    obtain ⟨y, hy⟩ : ∃ y, row.getD k 0 = y := ⟨_, rfl⟩
    have w3 := w3 _ (getD_mem hk 0)
    rw [hy] at w3
    obtain ⟨yn, rfl⟩ : ∃ yn : Nat, y = yn := ⟨y.toNat, by omega⟩
    have nx := chK_next (k := k) hfl (by rw [hrow]; exact hk)
    rw [hrow, hy, Int.toNat_natCast] at nx
    have cl : (chI ow su pl set i k i).length ≤ 3 := by rw [chI_at]; exact Nat.le_trans chK_len (by rw [hrow]; exact hrl)
    refine SH.Sem.seq ?_
    refine SH.Sem.block ?_
    refine SH.Sem.lend 1 i rfl hi rfl ?_
    simp only [hlen, hset, Nat.zero_add, Nat.reduceAdd]
    refine Sem.of_wpA hm ?_
    (refine ev ?_; (try (with_reducible exact True.intro)))
    simp only [Int.toNat_natCast, hrow, hy]
    repeat (((with_reducible refine And.intro ?_ ?_)); (focus (first | omega | (simp only [inR]; omega) | rfl | (simp [notinId, notin]; done) | exact Or.inr rfl | (intro i hi; (repeat' (with_reducible first | apply len_cut | apply len_shift | apply len_app | apply len_copy | intro j)) <;> first | rfl | (exact len_lit _ _ (by simp) rfl _) | (simp; done)))))
    refine gs (fun h4 => ?_) (fun h4 => ?_)
    rotate_left
    · rw [h4, if_neg (by simp), List.append_nil] at nx
      have st := chI_stay nx
      (refine ev ?_; (try (with_reducible exact True.intro)))
      repeat (((with_reducible refine And.intro ?_ ?_)); (focus (first | omega | (simp only [inR]; omega) | rfl | (simp [notinId, notin]; done) | exact Or.inr rfl | (intro i hi; (repeat' (with_reducible first | apply len_cut | apply len_shift | apply len_app | apply len_copy | intro j)) <;> first | rfl | (exact len_lit _ _ (by simp) rfl _) | (simp; done)))))
      refine SH.Sem.back 1 i 2 rfl hi (updG_same _ _ _) rfl ?_
      simp only [hset, rowsG_back]
      refine Sem.of_wpA hm ?_
      (refine ev ?_; (try (with_reducible exact True.intro)))
      repeat (((with_reducible refine And.intro ?_ ?_)); (focus (first | omega | (simp only [inR]; omega) | rfl | (simp [notinId, notin]; done) | exact Or.inr rfl | (intro i hi; (repeat' (with_reducible first | apply len_cut | apply len_shift | apply len_app | apply len_copy | intro j)) <;> first | rfl | (exact len_lit _ _ (by simp) rfl _) | (simp; done)))))
      refine ⟨k + 1, [0, 1], by omega, by show row.length - (k + 1) < row.length - k; omega, ?_⟩
      simp only [padA, St.le, slotsLe, heapLe, blkLe, rowLe, live, injOn, loLe, nget, nlook, ren, okA, allP, mapA, hget, ABlk.used, notin, List.map_cons, List.map_nil, true_or, or_true, false_or, or_false, true_and, and_true, and_self, AV.int.injEq, AV.bool.injEq, AV.str.injEq, AV.sl.injEq, AV.ro.injEq, AV.agg.injEq, List.cons.injEq, reduceCtorEq, ne_eq, not_false_eq_true, not_true_eq_false, -rowLe, st]
      exact ⟨by omega, fun x _ => rowLe_refl' fun k' h' => absurd h' rowsG_lent⟩
    rw [if_pos h4] at nx
    iterate 3 (try (refine ev ?_; (try (with_reducible exact True.intro))); try simp only [Int.toNat_natCast, updG_same, hget, hrow, hy]; repeat (((with_reducible refine And.intro ?_ ?_)); (focus (first | omega | (simp only [inR]; omega) | rfl | (simp [notinId, notin]; done) | exact Or.inr rfl | (intro i hi; (repeat' (with_reducible first | apply len_cut | apply len_shift | apply len_app | apply len_copy | intro j)) <;> first | rfl | (exact len_lit _ _ (by simp) rfl _) | (simp; done))))))
    refine SH.Sem.back 1 i 5 rfl hi (updG_same _ _ _) rfl ?_
    simp only [hset]
    refine Sem.of_wpA hm ?_
    (refine ev ?_; (try (with_reducible exact True.intro)))
    repeat (((with_reducible refine And.intro ?_ ?_)); (focus (first | omega | (simp only [inR]; omega) | rfl | (simp [notinId, notin]; done) | exact Or.inr rfl | (intro i hi; (repeat' (with_reducible first | apply len_cut | apply len_shift | apply len_app | apply len_copy | intro j)) <;> first | rfl | (exact len_lit _ _ (by simp) rfl _) | (simp; done)))))
    refine ⟨k + 1, [0, 1], by omega, by show row.length - (k + 1) < row.length - k; omega, ?_⟩
    simp only [padA, St.le, slotsLe, heapLe, blkLe, rowLe, live, injOn, loLe, nget, nlook, ren, okA, allP, mapA, hget, ABlk.used, notin, List.map_cons, List.map_nil, true_or, or_true, false_or, or_false, true_and, and_true, and_self, AV.int.injEq, AV.bool.injEq, AV.str.injEq, AV.sl.injEq, AV.ro.injEq, AV.agg.injEq, List.cons.injEq, reduceCtorEq, ne_eq, not_false_eq_true, not_true_eq_false, -rowLe]
    refine ⟨by omega, fun x _ => ?_⟩
    by_cases hx : x = i
    · subst hx
      simp only [updG_same, rowsG, rowLe, chI_at, nx]
      refine ⟨trivial, by simp, fun j hj => ?_⟩
      exact app_enc (n := (chK ow su pl set x k).length) (m := 1) (e := cInt .i64) (d := 0) rfl (fun j h => cut_at0 j h) (fun j h => lit1 (yn : Int) (by rfl) j h) j (by simpa using hj)
    · simp only [updG_ne _ _ hx]
      rw [rowsG, rowsG, show chI ow su pl set i (k + 1) x = chI ow su pl set i k x from chI_ne hx]
      exact ⟨rfl, rfl, fun _ _ => rfl⟩
  · obtain rfl : n = i := by omega
    (refine ev ?_; (try (with_reducible exact True.intro)))
    repeat (((with_reducible refine And.intro ?_ ?_)); (focus (first | omega | (simp only [inR]; omega) | rfl | (simp [notinId, notin]; done) | exact Or.inr rfl | (intro i hi; (repeat' (with_reducible first | apply len_cut | apply len_shift | apply len_app | apply len_copy | intro j)) <;> first | rfl | (exact len_lit _ _ (by simp) rfl _) | (simp; done)))))
    have eF : ∀ q, q < n → encL (cRow (cInt .i64) 0) [] ((List.range n).map (chL ow su pl set)) q = [.ro (chI ow su pl set n 0 q).length (encL (cInt .i64) 0 (chI ow su pl set n 0 q))] := by
      intro q hq
      rw [encL_get _ _ (by simpa using hq), chI_end hq]
      simp [cRow]
    refine SH.Sem.matfrz 1 1 (fun q => (chI ow su pl set n 0 q).length) (fun q => encL (cInt .i64) 0 (chI ow su pl set n 0 q)) (encL (cRow (cInt .i64) 0) [] ((List.range n).map (chL ow su pl set))) rfl (fun q _ => rfl) eF ?_
    simp only [hset]
    refine Sem.of_wpA hm ?_
    (refine ev ?_; (try (with_reducible exact True.intro)))
    repeat (((with_reducible refine And.intro ?_ ?_)); (focus (first | omega | (simp only [inR]; omega) | rfl | (simp [notinId, notin]; done) | exact Or.inr rfl | (intro i hi; (repeat' (with_reducible first | apply len_cut | apply len_shift | apply len_app | apply len_copy | intro j)) <;> first | rfl | (exact len_lit _ _ (by simp) rfl _) | (simp; done)))))
    exact ⟨fun q hq => cut_at0 q (by simpa using hq), by simp [notinId], by simp [notinId]⟩
end Go.Proofs.Ythkgnnndlocbbaa
