/-
  ref23.Beaten: what it computes. No condition but sizes.
-/
import Derived.Test.YthkgnnndlocbbaaUa
namespace Go.Proofs.Ythkgnnndlocbbaa
set_option linter.unusedVariables false
set_option linter.unusedSimpArgs false
open Go Go.SH Go.Parity
set_option maxRecDepth 100000
set_option maxHeartbeats 4000000
def rowF (n : Nat) (f : Nat → Bool) : List Bool := (List.range n).map f
def matB (n : Nat) (R : Nat → Nat → Bool) : Nat → MRow := fun q => .row 1 n (encL cBool false (rowF n (R q)))
def matI (n i : Nat) (R : Nat → Nat → Bool) : Nat → MRow := fun q => if q < i then .row 1 n (encL cBool false (rowF n (R q))) else .row 1 0 (encL cBool false [])
theorem rowF_len {n : Nat} {f : Nat → Bool} : (rowF n f).length = n := by simp [rowF]
theorem rowF_at {n j : Nat} {f : Nat → Bool} (h : j < n) : (rowF n f).getD j false = f j := by rw [rowF, range_map_getD _ _ _ _ h]
theorem rowF_set {n j : Nat} {f g : Nat → Bool} (hj : j < n) (x : Bool) (h1 : g j = x) (h2 : ∀ q, q ≠ j → g q = f q) : rowF n g = (rowF n f).set j x := by
  refine list_eq_of (by simp [rowF]) fun q hq => ?_
  have hq : q < n := by simpa [rowF] using hq
  rw [rowF_at hq, getD_set _ _ _ _ _ (by rw [rowF_len]; exact hj)]
  split
  · rename_i e; subst e; exact h1
  · rename_i e; rw [rowF_at hq]; exact h2 q e
section
variable {ow pr : List Int} {su : List (List Int)} {pl : Int} {set : List Bool} {s : List Int} {q : Int} {n i k j a b : Nat} {R : Nat → Nat → Bool}
theorem rowB_at (hk : k < (su.getD i []).length) {y : Nat} (hy : (su.getD i []).getD k 0 = (y : Int)) : rowB ow pr su pl set s q i (k + 1) j = if j = y then edgeB ow pr pl set s q i y else rowB ow pr su pl set s q i k j := by
  rw [rowB, rowB, take_next _ 0 k hk, List.any_append, hy]
  simp only [List.any_cons, List.any_nil, Bool.or_false]
  split
  · rename_i e; subst e; simp
  · rename_i e
    rw [show ((y : Int) == (j : Int)) = false by simpa using fun h : (y : Int) = j => e (by omega), Bool.or_false]
theorem rowB_yes (hk : k < (su.getD i []).length) {y : Nat} (hy : (su.getD i []).getD k 0 = (y : Int)) (hyn : y < n) (h : edgeB ow pr pl set s q i y = true) : rowF n (rowB ow pr su pl set s q i (k + 1)) = (rowF n (rowB ow pr su pl set s q i k)).set y true :=
  rowF_set hyn true (by rw [rowB_at hk hy, if_pos rfl, h]) fun x hx => by rw [rowB_at hk hy, if_neg hx]
theorem rowB_no (hk : k < (su.getD i []).length) {y : Nat} (hy : (su.getD i []).getD k 0 = (y : Int)) (h : edgeB ow pr pl set s q i y = false) : rowB ow pr su pl set s q i (k + 1) = rowB ow pr su pl set s q i k := by
  funext x
  rw [rowB_at hk hy]
  split
  · rename_i e; subst e; rw [rowB, h, Bool.and_false]
  · rfl
theorem rowB_zero : rowF n (rowB ow pr su pl set s q i 0) = (List.range n).map fun _ => false := by
  rw [rowF]; congr 1
theorem fw_next (hi : i < n) (hj : j < n) : fwB R n ((k * n + i) * n + (j + 1)) a b = if a = i ∧ b = j then fwB R n ((k * n + i) * n + j) a b || (fwB R n ((k * n + i) * n + j) a k && fwB R n ((k * n + i) * n + j) k b) else fwB R n ((k * n + i) * n + j) a b := by
  have hn : 0 < n := by omega
  have e1 : ((k * n + i) * n + j) / n = k * n + i := by rw [Nat.mul_comm, Nat.mul_add_div hn, Nat.div_eq_of_lt hj, Nat.add_zero]
  have e2 : (k * n + i) % n = i := by rw [Nat.mul_comm, Nat.mul_add_mod, Nat.mod_eq_of_lt hi]
  have e3 : (k * n + i) / n = k := by rw [Nat.mul_comm, Nat.mul_add_div hn, Nat.div_eq_of_lt hi, Nat.add_zero]
  have e4 : ((k * n + i) * n + j) % n = j := by rw [Nat.mul_comm (k * n + i), Nat.mul_add_mod, Nat.mod_eq_of_lt hj]
  rw [← Nat.add_assoc]
  generalize (k * n + i) * n + j = t at *
  simp only [fwB, e1, e2, e3, e4]
theorem fw_other (hi : i < n) (ha : a ≠ i) : ∀ j, j ≤ n → fwB R n ((k * n + i) * n + j) a = fwB R n ((k * n + i) * n) a
  | 0, _ => rfl
  | j + 1, hj => by
    funext b
    rw [fw_next hi (by omega), if_neg (fun h => ha h.1), fw_other hi ha j (by omega)]
theorem fw_row (hi : i < n) (hj : j < n) : rowF n (fwB R n ((k * n + i) * n + (j + 1)) i) = (rowF n (fwB R n ((k * n + i) * n + j) i)).set j (fwB R n ((k * n + i) * n + j) i j || (fwB R n ((k * n + i) * n + j) i k && fwB R n ((k * n + i) * n + j) k j)) :=
  rowF_set hj _ (by rw [fw_next hi hj, if_pos ⟨rfl, rfl⟩]) fun x hx => by rw [fw_next hi hj, if_neg fun h => hx h.2]
end
/-- To hold what follows out of sight. -/
theorem contU {P : Program} {lo : Cx} {c : Code} {st : St} {K : Exit → St → Prop} (h : ∀ K' : Exit → St → Prop, (∀ e s, K e s → K' e s) → SH.Sem P lo c K' st) : SH.Sem P lo c K st := h K fun _ _ h => h
theorem rowLe_refl {ρ : List Nat} {H : List ABlk} {r : MRow} (h : ∀ k, r = .lent k → k = nget ρ k ∧ (hget H k).used = true) : rowLe ρ H r r := by
  cases r with
  | row sz m f => exact ⟨rfl, rfl, fun _ _ => rfl⟩
  | lent k => exact h k rfl
  | hole => trivial
theorem matI_lent {n i x k : Nat} {R : Nat → Nat → Bool} : matI n i R x ≠ .lent k := by unfold matI; split <;> simp
theorem matB_lent {n x k : Nat} {R : Nat → Nat → Bool} : matB n R x ≠ .lent k := by unfold matB; simp
theorem upd_lent {g : Nat → MRow} {i a x k : Nat} (hg : ∀ x k, g x ≠ .lent k) (h : updG g i (.lent a) x = .lent k) : k = a := by
  by_cases hx : x = i
  · subst hx; rw [updG_same] at h; cases h; rfl
  · rw [updG_ne _ _ hx] at h; exact absurd h (hg x k)
theorem matI_next {n i m : Nat} {R : Nat → Nat → Bool} {f : Nat → Bool} (h : f = R i) : updG (updG (matI n i R) i (.lent m)) i (.row 1 n (encL cBool false (rowF n f))) = matI n (i + 1) R := by
  funext x
  subst h
  by_cases hx : x = i
  · subst hx; rw [updG_same, matI, if_pos (by omega)]
  · rw [updG_ne _ _ hx, updG_ne _ _ hx, matI, matI]
    by_cases h : x < i
    · rw [if_pos h, if_pos (by omega)]
    · rw [if_neg h, if_neg (by omega)]
theorem matI_full {n x : Nat} {R : Nat → Nat → Bool} (h : x < n) : matI n n R x = matB n R x := by rw [matI, if_pos h, matB]
theorem matB_one {n i m : Nat} {R R' : Nat → Nat → Bool} (h : ∀ a, a ≠ i → R' a = R a) : updG (updG (matB n R) i (.lent m)) i (.row 1 n (encL cBool false (rowF n (R' i)))) = matB n R' := by
  funext x
  by_cases hx : x = i
  · subst hx; rw [updG_same, matB]
  · rw [updG_ne _ _ hx, updG_ne _ _ hx, matB, matB, h x hx]
theorem matB_two {n i k m m' : Nat} {R R' : Nat → Nat → Bool} (h : ∀ a, a ≠ i → R' a = R a) : updG (updG (updG (updG (matB n R) i (.lent m)) k (.lent m')) k (.row 1 n (encL cBool false (rowF n (R k))))) i (.row 1 n (encL cBool false (rowF n (R' i)))) = matB n R' := by
  funext x
  by_cases hx : x = i
  · subst hx; rw [updG_same, matB]
  · rw [updG_ne _ _ hx]
    by_cases hk : x = k
    · subst hk; rw [updG_same, matB, h x hx]
    · rw [updG_ne _ _ hk, updG_ne _ _ hk, updG_ne _ _ hx, matB, matB, h x hx]
theorem zeroU (n : Nat) : constF [AV.bool false] = encL cBool false ((List.range n).map fun _ => false) := by
  funext q
  rcases Nat.lt_or_ge q n with h | h
  · rw [encL, range_map_getD _ _ _ _ h]; rfl
  · rw [encL, getD_ge _ _ _ (by simpa using h)]; rfl
theorem c27 (ow pr : List Int) (su : List (List Int)) (pl : Int) (set : List Bool) (s : List Int) (hv : validB ow pr su = true) (hr20 : ∀ r ∈ su, r.length ≤ 2 ^ 20) (n : Nat) (hn : ow.length = n) (hsl : set.length = n) (hl : s.length = n) :
    Contract Try.prog 27 [game ow pr su, .int .i64 pl, boolRow set, intRow s] (.one (.val (.bool (beatB ow pr su pl set s n)))) := by
  obtain ⟨v1, v2, v3, v4⟩ := validB_spec hv
  refine ct27 ?_
  simp only [padA]
  simp only [Try.f27, Option.getD]
  refine SH.Sem.step hm ?_
  (refine ev ?_; (try (with_reducible exact True.intro)))
  repeat (((with_reducible refine And.intro ?_ ?_)); (focus (first | omega | (simp only [inR]; omega) | rfl | (simp [notinId, notin]; done) | exact Or.inr rfl | (intro i hi; (repeat' (with_reducible first | apply len_cut | apply len_shift | apply len_app | apply len_copy | intro j)) <;> first | rfl | (exact len_lit _ _ (by simp) rfl _) | (simp; done)))))
  refine SH.Sem.step hm ?_
  (refine ev ?_; (try (with_reducible exact True.intro)))
  repeat (((with_reducible refine And.intro ?_ ?_)); (focus (first | omega | (simp only [inR]; omega) | rfl | (simp [notinId, notin]; done) | exact Or.inr rfl | (intro i hi; (repeat' (with_reducible first | apply len_cut | apply len_shift | apply len_app | apply len_copy | intro j)) <;> first | rfl | (exact len_lit _ _ (by simp) rfl _) | (simp; done)))))
  simp only [v3, hn]
  refine SH.Sem.step hm ?_
  (refine ev ?_; (try (with_reducible exact True.intro)))
  repeat (((with_reducible refine And.intro ?_ ?_)); (focus (first | omega | (simp only [inR]; omega) | rfl | (simp [notinId, notin]; done) | exact Or.inr rfl | (intro i hi; (repeat' (with_reducible first | apply len_cut | apply len_shift | apply len_app | apply len_copy | intro j)) <;> first | rfl | (exact len_lit _ _ (by simp) rfl _) | (simp; done)))))
  refine SH.Sem.loopS (fun q : Nat => ⟨padA [.undef, .int .i64 pl, boolRow set, intRow s, .ptr 0 0 0, .undef, .undef, .undef, .undef, .int .i64 n, .int .i64 q] 211, [.box [intRow ow, intRow pr, intRows su]]⟩) (fun q => q ≤ 30001 ∧ ∀ q', q' < q → hitB ow pr su pl set s n ((q' : Nat) : Int) = false) (fun q => 30001 - q) [0] 0 ⟨by omega, fun q' h => by omega⟩ ?_ fun q ⟨hq0, hq1⟩ => ?_
  · simp only [padA, St.le, slotsLe, heapLe, blkLe, rowLe, live, injOn, loLe, nget, nlook, ren, okA, allP, mapA, hget, ABlk.used, notin, List.map_cons, List.map_nil, true_or, or_true, false_or, or_false, true_and, and_true, and_self, AV.int.injEq, AV.bool.injEq, AV.str.injEq, AV.sl.injEq, AV.ro.injEq, AV.agg.injEq, List.cons.injEq, reduceCtorEq, ne_eq, not_false_eq_true, not_true_eq_false]; simp
  simp only [padA]
  refine SH.Sem.step hm ?_
  (refine ev ?_; (try (with_reducible exact True.intro)))
  refine gsd (fun hd => ?_) (fun hd => ?_)
  · have hq : q < 30001 := by omega
    (refine ev ?_; (try (with_reducible exact True.intro)))
    refine SH.Sem.seq ?_
    refine SH.Sem.block ?_
    refine SH.Sem.step hm ?_
    (refine ev ?_; (try (with_reducible exact True.intro)))
    refine SH.Sem.step hm ?_
    (refine ev ?_; (try (with_reducible exact True.intro)))
    refine contU fun K2 hK2 => ?_
    refine SH.Sem.loop hm (fun i : Nat => ⟨padA [.undef, .int .i64 pl, boolRow set, intRow s, .ptr 0 0 0, .undef, .undef, .undef, .undef, .int .i64 n, .int .i64 q, .bool ((List.range i).any (prioB pr set q)), .int .i64 i] 211, [.box [intRow ow, intRow pr, intRows su]]⟩) (fun i => i ≤ n) (fun i => n - i) [0] 0 (by omega) ?_ fun i hi0 => ?_
    · simp only [padA, St.le, slotsLe, heapLe, blkLe, rowLe, live, injOn, loLe, nget, nlook, ren, okA, allP, mapA, hget, ABlk.used, notin, List.map_cons, List.map_nil, true_or, or_true, false_or, or_false, true_and, and_true, and_self, AV.int.injEq, AV.bool.injEq, AV.str.injEq, AV.sl.injEq, AV.ro.injEq, AV.agg.injEq, List.cons.injEq, reduceCtorEq, ne_eq, not_false_eq_true, not_true_eq_false]; simp
    simp only [padA]
    (refine ev ?_; (try (with_reducible exact True.intro)))
    refine gsd (fun hd2 => ?_) (fun hd2 => ?_)
    · have hi : i < n := by omega
      have nx := any_next (prioB pr set q) i
      generalize (List.range i).any (prioB pr set q) = an at *
      cases an
      · cases hsi : set.getD i false
        all_goals rw [prioB, hsi] at nx
        all_goals simp only [Bool.false_or, Bool.false_and, Bool.true_and] at nx
        all_goals (refine ev ?_; (try (with_reducible exact True.intro)))
        all_goals simp only [Int.toNat_natCast, hsi]
        all_goals repeat (((with_reducible refine And.intro ?_ ?_)); (focus (first | omega | (simp only [inR]; omega) | rfl | (simp [notinId, notin]; done) | exact Or.inr rfl | (intro i hi; (repeat' (with_reducible first | apply len_cut | apply len_shift | apply len_app | apply len_copy | intro j)) <;> first | rfl | (exact len_lit _ _ (by simp) rfl _) | (simp; done)))))
        all_goals try (refine ev ?_; (try (with_reducible exact True.intro)))
        all_goals try simp only [Int.toNat_natCast]
        all_goals repeat (((with_reducible refine And.intro ?_ ?_)); (focus (first | omega | (simp only [inR]; omega) | rfl | (simp [notinId, notin]; done) | exact Or.inr rfl | (intro i hi; (repeat' (with_reducible first | apply len_cut | apply len_shift | apply len_app | apply len_copy | intro j)) <;> first | rfl | (exact len_lit _ _ (by simp) rfl _) | (simp; done)))))
        all_goals refine ⟨i + 1, [0], by omega, by show n - (i + 1) < n - i; omega, ?_⟩
        all_goals simp only [padA, St.le, slotsLe, heapLe, blkLe, rowLe, live, injOn, loLe, nget, nlook, ren, okA, allP, mapA, hget, ABlk.used, notin, List.map_cons, List.map_nil, true_or, or_true, false_or, or_false, true_and, and_true, and_self, AV.int.injEq, AV.bool.injEq, AV.str.injEq, AV.sl.injEq, AV.ro.injEq, AV.agg.injEq, List.cons.injEq, reduceCtorEq, ne_eq, not_false_eq_true, not_true_eq_false, nx]
        all_goals simp
      · rw [Bool.true_or] at nx
        (refine ev ?_; (try (with_reducible exact True.intro)))
        repeat (((with_reducible refine And.intro ?_ ?_)); (focus (first | omega | (simp only [inR]; omega) | rfl | (simp [notinId, notin]; done) | exact Or.inr rfl | (intro i hi; (repeat' (with_reducible first | apply len_cut | apply len_shift | apply len_app | apply len_copy | intro j)) <;> first | rfl | (exact len_lit _ _ (by simp) rfl _) | (simp; done)))))
        refine ⟨i + 1, [0], by omega, by show n - (i + 1) < n - i; omega, ?_⟩
        simp only [padA, St.le, slotsLe, heapLe, blkLe, rowLe, live, injOn, loLe, nget, nlook, ren, okA, allP, mapA, hget, ABlk.used, notin, List.map_cons, List.map_nil, true_or, or_true, false_or, or_false, true_and, and_true, and_self, AV.int.injEq, AV.bool.injEq, AV.str.injEq, AV.sl.injEq, AV.ro.injEq, AV.agg.injEq, List.cons.injEq, reduceCtorEq, ne_eq, not_false_eq_true, not_true_eq_false, nx]; simp
    obtain rfl : n = i := by omega
    (refine ev ?_; (try (with_reducible exact True.intro)))
    clear hi0 hd2
    refine hK2 _ _ ?_
    (refine ev ?_; (try (with_reducible exact True.intro)))
    clear hK2 K2
    have goOn : hitB ow pr su pl set s n (q : Int) = false → (q + 1 ≤ 30001 ∧ ∀ q', q' < q + 1 → hitB ow pr su pl set s n ((q' : Nat) : Int) = false) := fun h => ⟨by omega, fun q' hq' => by
      rcases Nat.lt_or_ge q' q with h1 | h1
      · exact hq1 q' h1
      · obtain rfl : q' = q := by omega
        exact h⟩
    refine SH.Sem.step hm ?_
    (refine ev ?_; (try (with_reducible exact True.intro)))
    have sk : skipB pr pl set n (q : Int) = true → hitB ow pr su pl set s n (q : Int) = false := fun h => by rw [hitB, h]; rfl
    have sk2 : skipB pr pl set n (q : Int) = (!((List.range n).any (prioB pr set q)) || (q : Int).tmod 2 == pl) := rfl
    generalize (List.range n).any (prioB pr set q) = an at *
    cases an
    · (refine ev ?_; (try (with_reducible exact True.intro)))
      repeat (((with_reducible refine And.intro ?_ ?_)); (focus (first | omega | (simp only [inR]; omega) | rfl | (simp [notinId, notin]; done) | exact Or.inr rfl | (intro i hi; (repeat' (with_reducible first | apply len_cut | apply len_shift | apply len_app | apply len_copy | intro j)) <;> first | rfl | (exact len_lit _ _ (by simp) rfl _) | (simp; done)))))
      refine Sem.of_wpA hm ?_
      (refine ev ?_; (try (with_reducible exact True.intro)))
      repeat (((with_reducible refine And.intro ?_ ?_)); (focus (first | omega | (simp only [inR]; omega) | rfl | (simp [notinId, notin]; done) | exact Or.inr rfl | (intro i hi; (repeat' (with_reducible first | apply len_cut | apply len_shift | apply len_app | apply len_copy | intro j)) <;> first | rfl | (exact len_lit _ _ (by simp) rfl _) | (simp; done)))))
      refine ⟨q + 1, [0], goOn (sk (by rw [sk2]; rfl)), by show 30001 - (q + 1) < 30001 - q; omega, ?_⟩
      simp only [padA, St.le, slotsLe, heapLe, blkLe, rowLe, live, injOn, loLe, nget, nlook, ren, okA, allP, mapA, hget, ABlk.used, notin, List.map_cons, List.map_nil, true_or, or_true, false_or, or_false, true_and, and_true, and_self, AV.int.injEq, AV.bool.injEq, AV.str.injEq, AV.sl.injEq, AV.ro.injEq, AV.agg.injEq, List.cons.injEq, reduceCtorEq, ne_eq, not_false_eq_true, not_true_eq_false]; simp
    rw [Bool.not_true, Bool.false_or] at sk2
    (refine ev ?_; (try (with_reducible exact True.intro)))
    repeat (((with_reducible refine And.intro ?_ ?_)); (focus (first | omega | (simp only [inR]; omega) | rfl | (simp [notinId, notin]; done) | exact Or.inr rfl | (intro i hi; (repeat' (with_reducible first | apply len_cut | apply len_shift | apply len_app | apply len_copy | intro j)) <;> first | rfl | (exact len_lit _ _ (by simp) rfl _) | (simp; done)))))
    refine gs (fun hpl => ?_) (fun hpl => ?_)
    · (refine ev ?_; (try (with_reducible exact True.intro)))
      repeat (((with_reducible refine And.intro ?_ ?_)); (focus (first | omega | (simp only [inR]; omega) | rfl | (simp [notinId, notin]; done) | exact Or.inr rfl | (intro i hi; (repeat' (with_reducible first | apply len_cut | apply len_shift | apply len_app | apply len_copy | intro j)) <;> first | rfl | (exact len_lit _ _ (by simp) rfl _) | (simp; done)))))
      refine Sem.of_wpA hm ?_
      (refine ev ?_; (try (with_reducible exact True.intro)))
      repeat (((with_reducible refine And.intro ?_ ?_)); (focus (first | omega | (simp only [inR]; omega) | rfl | (simp [notinId, notin]; done) | exact Or.inr rfl | (intro i hi; (repeat' (with_reducible first | apply len_cut | apply len_shift | apply len_app | apply len_copy | intro j)) <;> first | rfl | (exact len_lit _ _ (by simp) rfl _) | (simp; done)))))
      refine ⟨q + 1, [0], goOn (sk (by rw [sk2]; exact hpl)), by show 30001 - (q + 1) < 30001 - q; omega, ?_⟩
      simp only [padA, St.le, slotsLe, heapLe, blkLe, rowLe, live, injOn, loLe, nget, nlook, ren, okA, allP, mapA, hget, ABlk.used, notin, List.map_cons, List.map_nil, true_or, or_true, false_or, or_false, true_and, and_true, and_self, AV.int.injEq, AV.bool.injEq, AV.str.injEq, AV.sl.injEq, AV.ro.injEq, AV.agg.injEq, List.cons.injEq, reduceCtorEq, ne_eq, not_false_eq_true, not_true_eq_false]; simp
    rw [hpl] at sk2
    (refine ev ?_; (try (with_reducible exact True.intro)))
    repeat (((with_reducible refine And.intro ?_ ?_)); (focus (first | omega | (simp only [inR]; omega) | rfl | (simp [notinId, notin]; done) | exact Or.inr rfl | (intro i hi; (repeat' (with_reducible first | apply len_cut | apply len_shift | apply len_app | apply len_copy | intro j)) <;> first | rfl | (exact len_lit _ _ (by simp) rfl _) | (simp; done)))))
    refine SH.Sem.step hm ?_
    (refine ev ?_; (try (with_reducible exact True.intro)))
    repeat (((with_reducible refine And.intro ?_ ?_)); (focus (first | omega | (simp only [inR]; omega) | rfl | (simp [notinId, notin]; done) | exact Or.inr rfl | (intro i hi; (repeat' (with_reducible first | apply len_cut | apply len_shift | apply len_app | apply len_copy | intro j)) <;> first | rfl | (exact len_lit _ _ (by simp) rfl _) | (simp; done)))))
    simp only [Int.toNat_natCast]
    refine SH.Sem.tomat 1 1 (encL cBool false []) (by decide) rfl (fun i _ => rfl) ?_
    simp only [hset]
    refine SH.Sem.step hm ?_
    (refine ev ?_; (try (with_reducible exact True.intro)))
    repeat (((with_reducible refine And.intro ?_ ?_)); (focus (first | omega | (simp only [inR]; omega) | rfl | (simp [notinId, notin]; done) | exact Or.inr rfl | (intro i hi; (repeat' (with_reducible first | apply len_cut | apply len_shift | apply len_app | apply len_copy | intro j)) <;> first | rfl | (exact len_lit _ _ (by simp) rfl _) | (simp; done)))))
    refine contU fun K2 hK2 => ?_
    refine SH.Sem.loopS (fun i : Nat => ⟨padA [.undef, .int .i64 pl, boolRow set, intRow s, .ptr 0 0 0, .undef, .undef, .undef, .undef, .int .i64 n, .int .i64 q, .undef, .undef, .sl 1 0 n, .int .i64 i] 211, [.box [intRow ow, intRow pr, intRows su], .mat n (matI n i (allB ow pr su pl set s q))]⟩) (fun i => i ≤ n) (fun i => n - i) [0, 1] 0 (by omega) ?_ fun i hi0 => ?_
    · have e0 : matI n 0 (allB ow pr su pl set s q) = fun _ => .row 1 0 (encL cBool false []) := by funext x; simp [matI]
      simp only [padA, St.le, slotsLe, heapLe, blkLe, rowLe, live, injOn, loLe, nget, nlook, ren, okA, allP, mapA, hget, ABlk.used, notin, List.map_cons, List.map_nil, true_or, or_true, false_or, or_false, true_and, and_true, and_self, AV.int.injEq, AV.bool.injEq, AV.str.injEq, AV.sl.injEq, AV.ro.injEq, AV.agg.injEq, List.cons.injEq, reduceCtorEq, ne_eq, not_false_eq_true, not_true_eq_false, e0]; simp
    simp only [padA]
    refine SH.Sem.step hm ?_
    (refine ev ?_; (try (with_reducible exact True.intro)))
    refine gsd (fun hd2 => ?_) (fun hd2 => ?_)
    · have hi : i < n := by omega
      (refine ev ?_; (try (with_reducible exact True.intro)))
      refine SH.Sem.seq ?_
      refine SH.Sem.block ?_
      refine SH.Sem.step hm ?_
      (refine ev ?_; (try (with_reducible exact True.intro)))
      simp only [Int.toNat_natCast]
      repeat (((with_reducible refine And.intro ?_ ?_)); (focus (first | omega | (simp only [inR]; omega) | rfl | (simp [notinId, notin]; done) | exact Or.inr rfl | (intro i hi; (repeat' (with_reducible first | apply len_cut | apply len_shift | apply len_app | apply len_copy | intro j)) <;> first | rfl | (exact len_lit _ _ (by simp) rfl _) | (simp; done)))))
      refine SH.Sem.step hm ?_
      (refine ev ?_; (try (with_reducible exact True.intro)))
      repeat (((with_reducible refine And.intro ?_ ?_)); (focus (first | omega | (simp only [inR]; omega) | rfl | (simp [notinId, notin]; done) | exact Or.inr rfl | (intro i hi; (repeat' (with_reducible first | apply len_cut | apply len_shift | apply len_app | apply len_copy | intro j)) <;> first | rfl | (exact len_lit _ _ (by simp) rfl _) | (simp; done)))))
      refine SH.Sem.block ?_
      obtain ⟨row, hrow⟩ : ∃ row, su.getD i [] = row := ⟨_, rfl⟩
      have w3 := (v4 i (by omega)).2.2
      have hrl := hr20 _ (getD_mem (show i < su.length by omega) [])
      rw [hrow] at w3 hrl
      refine contU fun K3 hK3 => ?_
      refine SH.Sem.loop hm (fun k : Nat => ⟨padA [.undef, .int .i64 pl, boolRow set, intRow s, .ptr 0 0 0, .undef, .undef, .undef, .undef, .int .i64 n, .int .i64 q, .undef, .undef, .sl 1 0 n, .int .i64 i, .int .i64 k] 211, [.box [intRow ow, intRow pr, intRows su], .mat n (updG (matI n i (allB ow pr su pl set s q)) i (.lent 2)), .vec 1 n (encL cBool false (rowF n (rowB ow pr su pl set s q i k)))]⟩) (fun k => k ≤ row.length) (fun k => row.length - k) [0, 1, 2] 0 (by omega) ?_ fun k hk0 => ?_
      · simp only [padA, St.le, slotsLe, heapLe, blkLe, rowLe, live, injOn, loLe, nget, nlook, ren, okA, allP, mapA, hget, ABlk.used, notin, List.map_cons, List.map_nil, true_or, or_true, false_or, or_false, true_and, and_true, and_self, AV.int.injEq, AV.bool.injEq, AV.str.injEq, AV.sl.injEq, AV.ro.injEq, AV.agg.injEq, List.cons.injEq, reduceCtorEq, ne_eq, not_false_eq_true, not_true_eq_false, rowB_zero]
        exact ⟨rfl, ⟨fun x _ => rowLe_refl fun k' h' => by obtain rfl := upd_lent (fun _ _ => matI_lent) h'; exact ⟨rfl, rfl⟩, fun x hx => by rw [zeroU n]⟩, by decide⟩
      simp only [padA]
      (refine ev ?_; (try (with_reducible exact True.intro)))
      simp only [Int.toNat_natCast, hrow]
      repeat (((with_reducible refine And.intro ?_ ?_)); (focus (first | omega | (simp only [inR]; omega) | rfl | (simp [notinId, notin]; done) | exact Or.inr rfl | (intro i hi; (repeat' (with_reducible first | apply len_cut | apply len_shift | apply len_app | apply len_copy | intro j)) <;> first | rfl | (exact len_lit _ _ (by simp) rfl _) | (simp; done)))))
      refine gsd (fun hd3 => ?_) (fun hd3 => ?_)
      · have hk : k < row.length := by omega
        obtain ⟨y, hy⟩ : ∃ y, row.getD k 0 = y := ⟨_, rfl⟩
        have w3 := w3 _ (getD_mem hk 0)
        rw [hy] at w3
        obtain ⟨yn, rfl⟩ : ∃ yn : Nat, y = yn := ⟨y.toNat, by omega⟩
        have hyn : yn < n := by omega
        have yes : edgeB ow pr pl set s q i yn = true → _ := rowB_yes (n := n) (ow := ow) (pr := pr) (su := su) (pl := pl) (set := set) (s := s) (q := q) (i := i) (k := k) (by rw [hrow]; exact hk) (by rw [hrow]; exact hy) hyn
        have no : edgeB ow pr pl set s q i yn = false → _ := rowB_no (ow := ow) (pr := pr) (su := su) (pl := pl) (set := set) (s := s) (q := q) (i := i) (k := k) (by rw [hrow]; exact hk) (by rw [hrow]; exact hy)
        have en : edgeB ow pr pl set s q i yn = (set.getD i false && set.getD yn false && decide ((q : Int) ≤ pr.getD i 0) && decide ((q : Int) ≤ pr.getD yn 0) && (ow.getD i 0 != pl || s.getD i 0 == (yn : Int))) := rfl
        (refine ev ?_; (try (with_reducible exact True.intro)))
        simp only [Int.toNat_natCast, hrow, hy]
        repeat (((with_reducible refine And.intro ?_ ?_)); (focus (first | omega | (simp only [inR]; omega) | rfl | (simp [notinId, notin]; done) | exact Or.inr rfl | (intro i hi; (repeat' (with_reducible first | apply len_cut | apply len_shift | apply len_app | apply len_copy | intro j)) <;> first | rfl | (exact len_lit _ _ (by simp) rfl _) | (simp; done)))))
        refine gs (fun h1 => ?_) (fun h1 => ?_)
        rotate_left
        · (refine ev ?_; (try (with_reducible exact True.intro)))
          repeat (((with_reducible refine And.intro ?_ ?_)); (focus (first | omega | (simp only [inR]; omega) | rfl | (simp [notinId, notin]; done) | exact Or.inr rfl | (intro i hi; (repeat' (with_reducible first | apply len_cut | apply len_shift | apply len_app | apply len_copy | intro j)) <;> first | rfl | (exact len_lit _ _ (by simp) rfl _) | (simp; done)))))
          have no := no (by rw [en, h1]; simp)
          refine ⟨k + 1, [0, 1, 2], by omega, by show row.length - (k + 1) < row.length - k; omega, ?_⟩
          simp only [padA, St.le, slotsLe, heapLe, blkLe, rowLe, live, injOn, loLe, nget, nlook, ren, okA, allP, mapA, hget, ABlk.used, notin, List.map_cons, List.map_nil, true_or, or_true, false_or, or_false, true_and, and_true, and_self, AV.int.injEq, AV.bool.injEq, AV.str.injEq, AV.sl.injEq, AV.ro.injEq, AV.agg.injEq, List.cons.injEq, reduceCtorEq, ne_eq, not_false_eq_true, not_true_eq_false, -rowLe, no]
          exact ⟨by omega, ⟨fun x _ => rowLe_refl fun k' h' => by obtain rfl := upd_lent (fun _ _ => matI_lent) h'; exact ⟨rfl, rfl⟩, fun _ _ => trivial⟩, by decide⟩
        (refine ev ?_; (try (with_reducible exact True.intro)))
        simp only [Int.toNat_natCast, hrow, hy]
        repeat (((with_reducible refine And.intro ?_ ?_)); (focus (first | omega | (simp only [inR]; omega) | rfl | (simp [notinId, notin]; done) | exact Or.inr rfl | (intro i hi; (repeat' (with_reducible first | apply len_cut | apply len_shift | apply len_app | apply len_copy | intro j)) <;> first | rfl | (exact len_lit _ _ (by simp) rfl _) | (simp; done)))))
        refine gs (fun h2 => ?_) (fun h2 => ?_)
        rotate_left
        · (refine ev ?_; (try (with_reducible exact True.intro)))
          repeat (((with_reducible refine And.intro ?_ ?_)); (focus (first | omega | (simp only [inR]; omega) | rfl | (simp [notinId, notin]; done) | exact Or.inr rfl | (intro i hi; (repeat' (with_reducible first | apply len_cut | apply len_shift | apply len_app | apply len_copy | intro j)) <;> first | rfl | (exact len_lit _ _ (by simp) rfl _) | (simp; done)))))
          have no := no (by rw [en, h2]; simp)
          refine ⟨k + 1, [0, 1, 2], by omega, by show row.length - (k + 1) < row.length - k; omega, ?_⟩
          simp only [padA, St.le, slotsLe, heapLe, blkLe, rowLe, live, injOn, loLe, nget, nlook, ren, okA, allP, mapA, hget, ABlk.used, notin, List.map_cons, List.map_nil, true_or, or_true, false_or, or_false, true_and, and_true, and_self, AV.int.injEq, AV.bool.injEq, AV.str.injEq, AV.sl.injEq, AV.ro.injEq, AV.agg.injEq, List.cons.injEq, reduceCtorEq, ne_eq, not_false_eq_true, not_true_eq_false, -rowLe, no]
          exact ⟨by omega, ⟨fun x _ => rowLe_refl fun k' h' => by obtain rfl := upd_lent (fun _ _ => matI_lent) h'; exact ⟨rfl, rfl⟩, fun _ _ => trivial⟩, by decide⟩
        (refine ev ?_; (try (with_reducible exact True.intro)))
        simp only [Int.toNat_natCast, hrow, hy]
        repeat (((with_reducible refine And.intro ?_ ?_)); (focus (first | omega | (simp only [inR]; omega) | rfl | (simp [notinId, notin]; done) | exact Or.inr rfl | (intro i hi; (repeat' (with_reducible first | apply len_cut | apply len_shift | apply len_app | apply len_copy | intro j)) <;> first | rfl | (exact len_lit _ _ (by simp) rfl _) | (simp; done)))))
        refine gsd (fun h3 => ?_) (fun h3 => ?_)
        rotate_left
        · (refine ev ?_; (try (with_reducible exact True.intro)))
          repeat (((with_reducible refine And.intro ?_ ?_)); (focus (first | omega | (simp only [inR]; omega) | rfl | (simp [notinId, notin]; done) | exact Or.inr rfl | (intro i hi; (repeat' (with_reducible first | apply len_cut | apply len_shift | apply len_app | apply len_copy | intro j)) <;> first | rfl | (exact len_lit _ _ (by simp) rfl _) | (simp; done)))))
          have no := no (by rw [en, decide_eq_false (show ¬ (q : Int) ≤ pr.getD i 0 by omega)]; simp)
          refine ⟨k + 1, [0, 1, 2], by omega, by show row.length - (k + 1) < row.length - k; omega, ?_⟩
          simp only [padA, St.le, slotsLe, heapLe, blkLe, rowLe, live, injOn, loLe, nget, nlook, ren, okA, allP, mapA, hget, ABlk.used, notin, List.map_cons, List.map_nil, true_or, or_true, false_or, or_false, true_and, and_true, and_self, AV.int.injEq, AV.bool.injEq, AV.str.injEq, AV.sl.injEq, AV.ro.injEq, AV.agg.injEq, List.cons.injEq, reduceCtorEq, ne_eq, not_false_eq_true, not_true_eq_false, -rowLe, no]
          exact ⟨by omega, ⟨fun x _ => rowLe_refl fun k' h' => by obtain rfl := upd_lent (fun _ _ => matI_lent) h'; exact ⟨rfl, rfl⟩, fun _ _ => trivial⟩, by decide⟩
        (refine ev ?_; (try (with_reducible exact True.intro)))
        simp only [Int.toNat_natCast, hrow, hy]
        repeat (((with_reducible refine And.intro ?_ ?_)); (focus (first | omega | (simp only [inR]; omega) | rfl | (simp [notinId, notin]; done) | exact Or.inr rfl | (intro i hi; (repeat' (with_reducible first | apply len_cut | apply len_shift | apply len_app | apply len_copy | intro j)) <;> first | rfl | (exact len_lit _ _ (by simp) rfl _) | (simp; done)))))
        refine gsd (fun h4 => ?_) (fun h4 => ?_)
        rotate_left
        · (refine ev ?_; (try (with_reducible exact True.intro)))
          repeat (((with_reducible refine And.intro ?_ ?_)); (focus (first | omega | (simp only [inR]; omega) | rfl | (simp [notinId, notin]; done) | exact Or.inr rfl | (intro i hi; (repeat' (with_reducible first | apply len_cut | apply len_shift | apply len_app | apply len_copy | intro j)) <;> first | rfl | (exact len_lit _ _ (by simp) rfl _) | (simp; done)))))
          have no := no (by rw [en, decide_eq_false (show ¬ (q : Int) ≤ pr.getD yn 0 by omega)]; simp)
          refine ⟨k + 1, [0, 1, 2], by omega, by show row.length - (k + 1) < row.length - k; omega, ?_⟩
          simp only [padA, St.le, slotsLe, heapLe, blkLe, rowLe, live, injOn, loLe, nget, nlook, ren, okA, allP, mapA, hget, ABlk.used, notin, List.map_cons, List.map_nil, true_or, or_true, false_or, or_false, true_and, and_true, and_self, AV.int.injEq, AV.bool.injEq, AV.str.injEq, AV.sl.injEq, AV.ro.injEq, AV.agg.injEq, List.cons.injEq, reduceCtorEq, ne_eq, not_false_eq_true, not_true_eq_false, -rowLe, no]
          exact ⟨by omega, ⟨fun x _ => rowLe_refl fun k' h' => by obtain rfl := upd_lent (fun _ _ => matI_lent) h'; exact ⟨rfl, rfl⟩, fun _ _ => trivial⟩, by decide⟩
        (refine ev ?_; (try (with_reducible exact True.intro)))
        simp only [Int.toNat_natCast, hrow, hy]
        repeat (((with_reducible refine And.intro ?_ ?_)); (focus (first | omega | (simp only [inR]; omega) | rfl | (simp [notinId, notin]; done) | exact Or.inr rfl | (intro i hi; (repeat' (with_reducible first | apply len_cut | apply len_shift | apply len_app | apply len_copy | intro j)) <;> first | rfl | (exact len_lit _ _ (by simp) rfl _) | (simp; done)))))
        refine gs (fun h5 => ?_) (fun h5 => ?_)
        · (refine ev ?_; (try (with_reducible exact True.intro)))
          simp only [Int.toNat_natCast, updG_same, hget]
          (refine ev ?_; (try (with_reducible exact True.intro)))
          simp only [Int.toNat_natCast]
          repeat (((with_reducible refine And.intro ?_ ?_)); (focus (first | omega | (simp only [inR]; omega) | rfl | (simp [notinId, notin]; done) | exact Or.inr rfl | (intro i hi; (repeat' (with_reducible first | apply len_cut | apply len_shift | apply len_app | apply len_copy | intro j)) <;> first | rfl | (exact len_lit _ _ (by simp) rfl _) | (simp; done)))))
          have yes := yes (by rw [en, h1, h2, decide_eq_true h3, decide_eq_true h4, h5]; simp)
          refine ⟨k + 1, [0, 1, 2], by omega, by show row.length - (k + 1) < row.length - k; omega, ?_⟩
          simp only [padA, St.le, slotsLe, heapLe, blkLe, rowLe, live, injOn, loLe, nget, nlook, ren, okA, allP, mapA, hget, ABlk.used, notin, List.map_cons, List.map_nil, true_or, or_true, false_or, or_false, true_and, and_true, and_self, AV.int.injEq, AV.bool.injEq, AV.str.injEq, AV.sl.injEq, AV.ro.injEq, AV.agg.injEq, List.cons.injEq, reduceCtorEq, ne_eq, not_false_eq_true, not_true_eq_false, -rowLe, yes]
          exact ⟨by omega, ⟨fun x _ => rowLe_refl fun k' h' => by obtain rfl := upd_lent (fun _ _ => matI_lent) h'; exact ⟨rfl, rfl⟩, fun x _ => congrFun (updF_enc (e := cBool) (d := false) (k := yn) true (by rw [rowF_len]; exact hyn)) x⟩, by decide⟩
        (refine ev ?_; (try (with_reducible exact True.intro)))
        simp only [Int.toNat_natCast, hrow, hy]
        repeat (((with_reducible refine And.intro ?_ ?_)); (focus (first | omega | (simp only [inR]; omega) | rfl | (simp [notinId, notin]; done) | exact Or.inr rfl | (intro i hi; (repeat' (with_reducible first | apply len_cut | apply len_shift | apply len_app | apply len_copy | intro j)) <;> first | rfl | (exact len_lit _ _ (by simp) rfl _) | (simp; done)))))
        refine gs (fun h6 => ?_) (fun h6 => ?_)
        · (refine ev ?_; (try (with_reducible exact True.intro)))
          simp only [Int.toNat_natCast, updG_same, hget]
          (refine ev ?_; (try (with_reducible exact True.intro)))
          simp only [Int.toNat_natCast]
          repeat (((with_reducible refine And.intro ?_ ?_)); (focus (first | omega | (simp only [inR]; omega) | rfl | (simp [notinId, notin]; done) | exact Or.inr rfl | (intro i hi; (repeat' (with_reducible first | apply len_cut | apply len_shift | apply len_app | apply len_copy | intro j)) <;> first | rfl | (exact len_lit _ _ (by simp) rfl _) | (simp; done)))))
          have yes := yes (by rw [en, h1, h2, decide_eq_true h3, decide_eq_true h4, h5, h6]; simp)
          refine ⟨k + 1, [0, 1, 2], by omega, by show row.length - (k + 1) < row.length - k; omega, ?_⟩
          simp only [padA, St.le, slotsLe, heapLe, blkLe, rowLe, live, injOn, loLe, nget, nlook, ren, okA, allP, mapA, hget, ABlk.used, notin, List.map_cons, List.map_nil, true_or, or_true, false_or, or_false, true_and, and_true, and_self, AV.int.injEq, AV.bool.injEq, AV.str.injEq, AV.sl.injEq, AV.ro.injEq, AV.agg.injEq, List.cons.injEq, reduceCtorEq, ne_eq, not_false_eq_true, not_true_eq_false, -rowLe, yes]
          exact ⟨by omega, ⟨fun x _ => rowLe_refl fun k' h' => by obtain rfl := upd_lent (fun _ _ => matI_lent) h'; exact ⟨rfl, rfl⟩, fun x _ => congrFun (updF_enc (e := cBool) (d := false) (k := yn) true (by rw [rowF_len]; exact hyn)) x⟩, by decide⟩
        · (refine ev ?_; (try (with_reducible exact True.intro)))
          repeat (((with_reducible refine And.intro ?_ ?_)); (focus (first | omega | (simp only [inR]; omega) | rfl | (simp [notinId, notin]; done) | exact Or.inr rfl | (intro i hi; (repeat' (with_reducible first | apply len_cut | apply len_shift | apply len_app | apply len_copy | intro j)) <;> first | rfl | (exact len_lit _ _ (by simp) rfl _) | (simp; done)))))
          have no := no (by rw [en, h5, h6]; simp)
          refine ⟨k + 1, [0, 1, 2], by omega, by show row.length - (k + 1) < row.length - k; omega, ?_⟩
          simp only [padA, St.le, slotsLe, heapLe, blkLe, rowLe, live, injOn, loLe, nget, nlook, ren, okA, allP, mapA, hget, ABlk.used, notin, List.map_cons, List.map_nil, true_or, or_true, false_or, or_false, true_and, and_true, and_self, AV.int.injEq, AV.bool.injEq, AV.str.injEq, AV.sl.injEq, AV.ro.injEq, AV.agg.injEq, List.cons.injEq, reduceCtorEq, ne_eq, not_false_eq_true, not_true_eq_false, -rowLe, no]
          exact ⟨by omega, ⟨fun x _ => rowLe_refl fun k' h' => by obtain rfl := upd_lent (fun _ _ => matI_lent) h'; exact ⟨rfl, rfl⟩, fun _ _ => trivial⟩, by decide⟩
      · have hk : k = row.length := by omega
        subst hk
        (refine ev ?_; (try (with_reducible exact True.intro)))
        refine hK3 _ _ ?_
        (refine ev ?_; (try (with_reducible exact True.intro)))
        repeat (((with_reducible refine And.intro ?_ ?_)); (focus (first | omega | (simp only [inR]; omega) | rfl | (simp [notinId, notin]; done) | exact Or.inr rfl | (intro i hi; (repeat' (with_reducible first | apply len_cut | apply len_shift | apply len_app | apply len_copy | intro j)) <;> first | rfl | (exact len_lit _ _ (by simp) rfl _) | (simp; done)))))
        clear hK3 K3
        refine SH.Sem.back 1 i 2 rfl hi (updG_same _ _ _) rfl ?_
        simp only [hset]
        refine Sem.of_wpA hm ?_
        (refine ev ?_; (try (with_reducible exact True.intro)))
        repeat (((with_reducible refine And.intro ?_ ?_)); (focus (first | omega | (simp only [inR]; omega) | rfl | (simp [notinId, notin]; done) | exact Or.inr rfl | (intro i hi; (repeat' (with_reducible first | apply len_cut | apply len_shift | apply len_app | apply len_copy | intro j)) <;> first | rfl | (exact len_lit _ _ (by simp) rfl _) | (simp; done)))))
        have ea : rowB ow pr su pl set s q i row.length = allB ow pr su pl set s q i := by funext x; rw [allB, hrow]
        refine ⟨i + 1, [0, 1], by omega, by show n - (i + 1) < n - i; omega, ?_⟩
        simp only [padA, St.le, slotsLe, heapLe, blkLe, rowLe, live, injOn, loLe, nget, nlook, ren, okA, allP, mapA, hget, ABlk.used, notin, List.map_cons, List.map_nil, true_or, or_true, false_or, or_false, true_and, and_true, and_self, AV.int.injEq, AV.bool.injEq, AV.str.injEq, AV.sl.injEq, AV.ro.injEq, AV.agg.injEq, List.cons.injEq, reduceCtorEq, ne_eq, not_false_eq_true, not_true_eq_false, -rowLe, matI_next ea]
        exact ⟨by omega, fun x _ => rowLe_refl fun k' h' => absurd h' matI_lent⟩
    obtain rfl : n = i := by omega
    (refine ev ?_; (try (with_reducible exact True.intro)))
    clear hi0 hd2
    refine hK2 _ _ ?_
    (refine ev ?_; (try (with_reducible exact True.intro)))
    clear hK2 K2
    refine SH.Sem.step hm ?_
    (refine ev ?_; (try (with_reducible exact True.intro)))
    repeat (((with_reducible refine And.intro ?_ ?_)); (focus (first | omega | (simp only [inR]; omega) | rfl | (simp [notinId, notin]; done) | exact Or.inr rfl | (intro i hi; (repeat' (with_reducible first | apply len_cut | apply len_shift | apply len_app | apply len_copy | intro j)) <;> first | rfl | (exact len_lit _ _ (by simp) rfl _) | (simp; done)))))
    obtain ⟨R, hR⟩ : ∃ R, allB ow pr su pl set s (q : Int) = R := ⟨_, rfl⟩
    rw [hR]
    refine contU fun K2 hK2 => ?_
    refine SH.Sem.loopS (fun k : Nat => ⟨padA [.undef, .int .i64 pl, boolRow set, intRow s, .ptr 0 0 0, .undef, .undef, .undef, .undef, .int .i64 n, .int .i64 q, .undef, .undef, .sl 1 0 n, .undef, .undef, .undef, .int .i64 k] 211, [.box [intRow ow, intRow pr, intRows su], .mat n (matB n (fwB R n (k * n * n)))]⟩) (fun k => k ≤ n) (fun k => n - k) [0, 1] 0 (by omega) ?_ fun k hk0 => ?_
    · simp only [padA, St.le, slotsLe, heapLe, blkLe, rowLe, live, injOn, loLe, nget, nlook, ren, okA, allP, mapA, hget, ABlk.used, notin, List.map_cons, List.map_nil, true_or, or_true, false_or, or_false, true_and, and_true, and_self, AV.int.injEq, AV.bool.injEq, AV.str.injEq, AV.sl.injEq, AV.ro.injEq, AV.agg.injEq, List.cons.injEq, reduceCtorEq, ne_eq, not_false_eq_true, not_true_eq_false, -rowLe, Nat.zero_mul]
      refine ⟨rfl, fun x hx => ?_⟩
      rw [matI_full hx]
      exact rowLe_refl fun k' h' => absurd h' matB_lent
    simp only [padA]
    refine SH.Sem.step hm ?_
    (refine ev ?_; (try (with_reducible exact True.intro)))
    refine gsd (fun hd2 => ?_) (fun hd2 => ?_)
    · have hk : k < n := by omega
      (refine ev ?_; (try (with_reducible exact True.intro)))
      refine SH.Sem.seq ?_
      refine SH.Sem.block ?_
      refine SH.Sem.step hm ?_
      (refine ev ?_; (try (with_reducible exact True.intro)))
      repeat (((with_reducible refine And.intro ?_ ?_)); (focus (first | omega | (simp only [inR]; omega) | rfl | (simp [notinId, notin]; done) | exact Or.inr rfl | (intro i hi; (repeat' (with_reducible first | apply len_cut | apply len_shift | apply len_app | apply len_copy | intro j)) <;> first | rfl | (exact len_lit _ _ (by simp) rfl _) | (simp; done)))))
      refine SH.Sem.block ?_
      refine contU fun K3 hK3 => ?_
      refine SH.Sem.loopS (fun i : Nat => ⟨padA [.undef, .int .i64 pl, boolRow set, intRow s, .ptr 0 0 0, .undef, .undef, .undef, .undef, .int .i64 n, .int .i64 q, .undef, .undef, .sl 1 0 n, .undef, .undef, .undef, .int .i64 k, .int .i64 i] 211, [.box [intRow ow, intRow pr, intRows su], .mat n (matB n (fwB R n ((k * n + i) * n)))]⟩) (fun i => i ≤ n) (fun i => n - i) [0, 1] 0 (by omega) ?_ fun i hi0 => ?_
      · simp only [padA, St.le, slotsLe, heapLe, blkLe, rowLe, live, injOn, loLe, nget, nlook, ren, okA, allP, mapA, hget, ABlk.used, notin, List.map_cons, List.map_nil, true_or, or_true, false_or, or_false, true_and, and_true, and_self, AV.int.injEq, AV.bool.injEq, AV.str.injEq, AV.sl.injEq, AV.ro.injEq, AV.agg.injEq, List.cons.injEq, reduceCtorEq, ne_eq, not_false_eq_true, not_true_eq_false, -rowLe, Nat.add_zero]
        exact ⟨rfl, fun x _ => rowLe_refl fun k' h' => absurd h' matB_lent⟩
      simp only [padA]
      refine SH.Sem.step hm ?_
      (refine ev ?_; (try (with_reducible exact True.intro)))
      refine gsd (fun hd3 => ?_) (fun hd3 => ?_)
      · have hi : i < n := by omega
        (refine ev ?_; (try (with_reducible exact True.intro)))
        refine SH.Sem.seq ?_
        refine SH.Sem.block ?_
        refine SH.Sem.step hm ?_
        (refine ev ?_; (try (with_reducible exact True.intro)))
        repeat (((with_reducible refine And.intro ?_ ?_)); (focus (first | omega | (simp only [inR]; omega) | rfl | (simp [notinId, notin]; done) | exact Or.inr rfl | (intro i hi; (repeat' (with_reducible first | apply len_cut | apply len_shift | apply len_app | apply len_copy | intro j)) <;> first | rfl | (exact len_lit _ _ (by simp) rfl _) | (simp; done)))))
        refine SH.Sem.block ?_
        obtain ⟨t0, ht0⟩ : ∃ t0, (k * n + i) * n = t0 := ⟨_, rfl⟩
        have fr : ∀ j, j < n → _ := fun j hj => fw_row (R := R) (n := n) (k := k) (i := i) (j := j) hi hj
        have fo : ∀ a, a ≠ i → ∀ j, j ≤ n → _ := fun a ha j hj => fw_other (R := R) (n := n) (k := k) (i := i) (a := a) hi ha j hj
        rw [ht0] at fr fo
        have up : (k * n + (i + 1)) * n = t0 + n := by rw [← ht0, ← Nat.add_assoc, Nat.add_mul (k * n + i), Nat.one_mul]
        rw [ht0]
        refine SH.Sem.lend 1 i rfl hi rfl ?_
        simp only [hlen, hset, Nat.zero_add, Nat.reduceAdd]
        by_cases hik : i = k
        · subst hik
          have g1 : updG (matB n (fwB R n t0)) i (.lent 2) i = .lent 2 := updG_same _ _ _
          have g3 : ∀ x k', updG (matB n (fwB R n t0)) i (.lent 2) x = .lent k' → k' = 2 := fun x k' h => upd_lent (fun _ _ => matB_lent) h
          refine contU fun K4 hK4 => ?_
          refine SH.Sem.loop hm (fun j : Nat => ⟨padA [.undef, .int .i64 pl, boolRow set, intRow s, .ptr 0 0 0, .undef, .undef, .undef, .undef, .int .i64 n, .int .i64 q, .undef, .undef, .sl 1 0 n, .undef, .undef, .undef, .int .i64 i, .int .i64 i, .int .i64 j] 211, [.box [intRow ow, intRow pr, intRows su], .mat n (updG (matB n (fwB R n t0)) i (.lent 2)), .vec 1 n (encL cBool false (rowF n (fwB R n (t0 + j) i)))]⟩) (fun j => j ≤ n) (fun j => n - j) [0, 1, 2] 0 (by omega) ?_ fun j hj0 => ?_
          · simp only [padA, St.le, slotsLe, heapLe, blkLe, rowLe, live, injOn, loLe, nget, nlook, ren, okA, allP, mapA, hget, ABlk.used, notin, List.map_cons, List.map_nil, true_or, or_true, false_or, or_false, true_and, and_true, and_self, AV.int.injEq, AV.bool.injEq, AV.str.injEq, AV.sl.injEq, AV.ro.injEq, AV.agg.injEq, List.cons.injEq, reduceCtorEq, ne_eq, not_false_eq_true, not_true_eq_false, -rowLe, Nat.add_zero]
            (repeat' (with_reducible refine And.intro ?_ ?_)) <;> first | rfl | exact fun x _ => rowLe_refl fun k' h' => by obtain rfl := g3 x k' h'; exact ⟨rfl, rfl⟩ | exact fun _ _ => trivial | exact fun _ _ => rfl | decide
          simp only [padA]
          (refine ev ?_; (try (with_reducible exact True.intro)))
          refine gsd (fun hd4 => ?_) (fun hd4 => ?_)
          · have hj : j < n := by omega
            have fr := fr j hj
            have r1 : (rowF n (fwB R n (t0 + j) i)).getD j false = fwB R n (t0 + j) i j := rowF_at hj
            have r2 : (rowF n (fwB R n (t0 + j) i)).getD i false = fwB R n (t0 + j) i i := rowF_at hi
            generalize fwB R n (t0 + j) i j = x1 at *
            generalize fwB R n (t0 + j) i i = x2 at *
            cases x1
            · cases x2
              all_goals iterate 8 (try (refine ev ?_; (try (with_reducible exact True.intro))); try simp only [Int.toNat_natCast, g1, hget, r1, r2]; repeat (((with_reducible refine And.intro ?_ ?_)); (focus (first | omega | (simp only [inR]; omega) | rfl | (simp [notinId, notin]; done) | exact Or.inr rfl | (intro i hi; (repeat' (with_reducible first | apply len_cut | apply len_shift | apply len_app | apply len_copy | intro j)) <;> first | rfl | (exact len_lit _ _ (by simp) rfl _) | (simp; done))))))
              all_goals simp only [Bool.false_or, Bool.true_or, Bool.true_and, Bool.false_and] at fr
              all_goals refine ⟨j + 1, [0, 1, 2], by omega, by show n - (j + 1) < n - j; omega, ?_⟩
              all_goals simp only [padA, St.le, slotsLe, heapLe, blkLe, rowLe, live, injOn, loLe, nget, nlook, ren, okA, allP, mapA, hget, ABlk.used, notin, List.map_cons, List.map_nil, true_or, or_true, false_or, or_false, true_and, and_true, and_self, AV.int.injEq, AV.bool.injEq, AV.str.injEq, AV.sl.injEq, AV.ro.injEq, AV.agg.injEq, List.cons.injEq, reduceCtorEq, ne_eq, not_false_eq_true, not_true_eq_false, -rowLe, fr]
              all_goals (repeat' (with_reducible refine And.intro ?_ ?_)) <;> first | omega | exact fun x _ => rowLe_refl fun k' h' => by obtain rfl := g3 x k' h'; exact ⟨rfl, rfl⟩ | exact fun _ _ => trivial | exact (fun x _ => congrFun (updF_enc (e := cBool) (d := false) (k := j) _ (by rw [rowF_len]; exact hj)) x) | decide
            · iterate 8 (try (refine ev ?_; (try (with_reducible exact True.intro))); try simp only [Int.toNat_natCast, g1, hget, r1, r2]; repeat (((with_reducible refine And.intro ?_ ?_)); (focus (first | omega | (simp only [inR]; omega) | rfl | (simp [notinId, notin]; done) | exact Or.inr rfl | (intro i hi; (repeat' (with_reducible first | apply len_cut | apply len_shift | apply len_app | apply len_copy | intro j)) <;> first | rfl | (exact len_lit _ _ (by simp) rfl _) | (simp; done))))))
              simp only [Bool.false_or, Bool.true_or, Bool.true_and, Bool.false_and] at fr
              refine ⟨j + 1, [0, 1, 2], by omega, by show n - (j + 1) < n - j; omega, ?_⟩
              simp only [padA, St.le, slotsLe, heapLe, blkLe, rowLe, live, injOn, loLe, nget, nlook, ren, okA, allP, mapA, hget, ABlk.used, notin, List.map_cons, List.map_nil, true_or, or_true, false_or, or_false, true_and, and_true, and_self, AV.int.injEq, AV.bool.injEq, AV.str.injEq, AV.sl.injEq, AV.ro.injEq, AV.agg.injEq, List.cons.injEq, reduceCtorEq, ne_eq, not_false_eq_true, not_true_eq_false, -rowLe, fr]
              (repeat' (with_reducible refine And.intro ?_ ?_)) <;> first | omega | exact fun x _ => rowLe_refl fun k' h' => by obtain rfl := g3 x k' h'; exact ⟨rfl, rfl⟩ | exact fun _ _ => trivial | exact (fun x _ => congrFun (updF_enc (e := cBool) (d := false) (k := j) _ (by rw [rowF_len]; exact hj)) x) | decide
          obtain rfl : n = j := by omega
          (refine ev ?_; (try (with_reducible exact True.intro)))
          refine hK4 _ _ ?_
          (refine ev ?_; (try (with_reducible exact True.intro)))
          repeat (((with_reducible refine And.intro ?_ ?_)); (focus (first | omega | (simp only [inR]; omega) | rfl | (simp [notinId, notin]; done) | exact Or.inr rfl | (intro i hi; (repeat' (with_reducible first | apply len_cut | apply len_shift | apply len_app | apply len_copy | intro j)) <;> first | rfl | (exact len_lit _ _ (by simp) rfl _) | (simp; done)))))
          clear hK4 K4
          refine SH.Sem.back 1 i 2 rfl hi g1 rfl ?_
          simp only [hset]
          refine Sem.of_wpA hm ?_
          (refine ev ?_; (try (with_reducible exact True.intro)))
          repeat (((with_reducible refine And.intro ?_ ?_)); (focus (first | omega | (simp only [inR]; omega) | rfl | (simp [notinId, notin]; done) | exact Or.inr rfl | (intro i hi; (repeat' (with_reducible first | apply len_cut | apply len_shift | apply len_app | apply len_copy | intro j)) <;> first | rfl | (exact len_lit _ _ (by simp) rfl _) | (simp; done)))))
          refine ⟨i + 1, [0, 1], by omega, by show n - (i + 1) < n - i; omega, ?_⟩
          have mb := matB_one (m := 2) (n := n) (i := i) (R := fwB R n t0) (R' := fwB R n (t0 + n)) fun a ha => fo a ha n (Nat.le_refl _)
          simp only [padA, St.le, slotsLe, heapLe, blkLe, rowLe, live, injOn, loLe, nget, nlook, ren, okA, allP, mapA, hget, ABlk.used, notin, List.map_cons, List.map_nil, true_or, or_true, false_or, or_false, true_and, and_true, and_self, AV.int.injEq, AV.bool.injEq, AV.str.injEq, AV.sl.injEq, AV.ro.injEq, AV.agg.injEq, List.cons.injEq, reduceCtorEq, ne_eq, not_false_eq_true, not_true_eq_false, -rowLe, up, mb]
          exact ⟨by omega, fun x _ => rowLe_refl fun k' h' => absurd h' matB_lent⟩
        · have hki : k ≠ i := fun h => hik h.symm
          refine SH.Sem.lend 1 k rfl hk ((updG_ne _ _ hki).trans rfl) ?_
          simp only [hlen, hset, Nat.zero_add, Nat.reduceAdd]
          have g1 : updG (updG (matB n (fwB R n t0)) i (.lent 2)) k (.lent 3) i = .lent 2 := (updG_ne _ _ hik).trans (updG_same _ _ _)
          have g2 : updG (updG (matB n (fwB R n t0)) i (.lent 2)) k (.lent 3) k = .lent 3 := updG_same _ _ _
          have g3 : ∀ x k', updG (updG (matB n (fwB R n t0)) i (.lent 2)) k (.lent 3) x = .lent k' → k' = 2 ∨ k' = 3 := fun x k' h => by
            by_cases hx : x = k
            · subst hx; rw [updG_same] at h; cases h; exact .inr rfl
            · rw [updG_ne _ _ hx] at h; exact .inl (upd_lent (fun _ _ => matB_lent) h)
          refine contU fun K4 hK4 => ?_
          refine SH.Sem.loop hm (fun j : Nat => ⟨padA [.undef, .int .i64 pl, boolRow set, intRow s, .ptr 0 0 0, .undef, .undef, .undef, .undef, .int .i64 n, .int .i64 q, .undef, .undef, .sl 1 0 n, .undef, .undef, .undef, .int .i64 k, .int .i64 i, .int .i64 j] 211, [.box [intRow ow, intRow pr, intRows su], .mat n (updG (updG (matB n (fwB R n t0)) i (.lent 2)) k (.lent 3)), .vec 1 n (encL cBool false (rowF n (fwB R n (t0 + j) i))), .vec 1 n (encL cBool false (rowF n (fwB R n t0 k)))]⟩) (fun j => j ≤ n) (fun j => n - j) [0, 1, 2, 3] 0 (by omega) ?_ fun j hj0 => ?_
          · simp only [padA, St.le, slotsLe, heapLe, blkLe, rowLe, live, injOn, loLe, nget, nlook, ren, okA, allP, mapA, hget, ABlk.used, notin, List.map_cons, List.map_nil, true_or, or_true, false_or, or_false, true_and, and_true, and_self, AV.int.injEq, AV.bool.injEq, AV.str.injEq, AV.sl.injEq, AV.ro.injEq, AV.agg.injEq, List.cons.injEq, reduceCtorEq, ne_eq, not_false_eq_true, not_true_eq_false, -rowLe, Nat.add_zero]
            (repeat' (with_reducible refine And.intro ?_ ?_)) <;> first | rfl | exact fun x _ => rowLe_refl fun k' h' => by rcases g3 x k' h' with rfl | rfl <;> exact ⟨rfl, rfl⟩ | exact fun _ _ => trivial | exact fun _ _ => rfl | decide
          simp only [padA]
          (refine ev ?_; (try (with_reducible exact True.intro)))
          refine gsd (fun hd4 => ?_) (fun hd4 => ?_)
          · have hj : j < n := by omega
            have fr := fr j hj
            rw [fo k hki j (by omega)] at fr
            have r1 : (rowF n (fwB R n (t0 + j) i)).getD j false = fwB R n (t0 + j) i j := rowF_at hj
            have r2 : (rowF n (fwB R n (t0 + j) i)).getD k false = fwB R n (t0 + j) i k := rowF_at hk
            have r3 : (rowF n (fwB R n t0 k)).getD j false = fwB R n t0 k j := rowF_at hj
            generalize fwB R n (t0 + j) i j = x1 at *
            generalize fwB R n (t0 + j) i k = x2 at *
            generalize fwB R n t0 k j = x3 at *
            cases x1
            · cases x2
              all_goals iterate 8 (try (refine ev ?_; (try (with_reducible exact True.intro))); try simp only [Int.toNat_natCast, g1, g2, hget, r1, r2, r3]; repeat (((with_reducible refine And.intro ?_ ?_)); (focus (first | omega | (simp only [inR]; omega) | rfl | (simp [notinId, notin]; done) | exact Or.inr rfl | (intro i hi; (repeat' (with_reducible first | apply len_cut | apply len_shift | apply len_app | apply len_copy | intro j)) <;> first | rfl | (exact len_lit _ _ (by simp) rfl _) | (simp; done))))))
              all_goals simp only [Bool.false_or, Bool.true_or, Bool.true_and, Bool.false_and] at fr
              all_goals refine ⟨j + 1, [0, 1, 2, 3], by omega, by show n - (j + 1) < n - j; omega, ?_⟩
              all_goals simp only [padA, St.le, slotsLe, heapLe, blkLe, rowLe, live, injOn, loLe, nget, nlook, ren, okA, allP, mapA, hget, ABlk.used, notin, List.map_cons, List.map_nil, true_or, or_true, false_or, or_false, true_and, and_true, and_self, AV.int.injEq, AV.bool.injEq, AV.str.injEq, AV.sl.injEq, AV.ro.injEq, AV.agg.injEq, List.cons.injEq, reduceCtorEq, ne_eq, not_false_eq_true, not_true_eq_false, -rowLe, fr]
              all_goals (repeat' (with_reducible refine And.intro ?_ ?_)) <;> first | omega | exact fun x _ => rowLe_refl fun k' h' => by rcases g3 x k' h' with rfl | rfl <;> exact ⟨rfl, rfl⟩ | exact fun _ _ => trivial | exact (fun x _ => congrFun (updF_enc (e := cBool) (d := false) (k := j) _ (by rw [rowF_len]; exact hj)) x) | decide
            · iterate 8 (try (refine ev ?_; (try (with_reducible exact True.intro))); try simp only [Int.toNat_natCast, g1, g2, hget, r1, r2, r3]; repeat (((with_reducible refine And.intro ?_ ?_)); (focus (first | omega | (simp only [inR]; omega) | rfl | (simp [notinId, notin]; done) | exact Or.inr rfl | (intro i hi; (repeat' (with_reducible first | apply len_cut | apply len_shift | apply len_app | apply len_copy | intro j)) <;> first | rfl | (exact len_lit _ _ (by simp) rfl _) | (simp; done))))))
              simp only [Bool.false_or, Bool.true_or, Bool.true_and, Bool.false_and] at fr
              refine ⟨j + 1, [0, 1, 2, 3], by omega, by show n - (j + 1) < n - j; omega, ?_⟩
              simp only [padA, St.le, slotsLe, heapLe, blkLe, rowLe, live, injOn, loLe, nget, nlook, ren, okA, allP, mapA, hget, ABlk.used, notin, List.map_cons, List.map_nil, true_or, or_true, false_or, or_false, true_and, and_true, and_self, AV.int.injEq, AV.bool.injEq, AV.str.injEq, AV.sl.injEq, AV.ro.injEq, AV.agg.injEq, List.cons.injEq, reduceCtorEq, ne_eq, not_false_eq_true, not_true_eq_false, -rowLe, fr]
              (repeat' (with_reducible refine And.intro ?_ ?_)) <;> first | omega | exact fun x _ => rowLe_refl fun k' h' => by rcases g3 x k' h' with rfl | rfl <;> exact ⟨rfl, rfl⟩ | exact fun _ _ => trivial | exact (fun x _ => congrFun (updF_enc (e := cBool) (d := false) (k := j) _ (by rw [rowF_len]; exact hj)) x) | decide
          obtain rfl : n = j := by omega
          (refine ev ?_; (try (with_reducible exact True.intro)))
          refine hK4 _ _ ?_
          (refine ev ?_; (try (with_reducible exact True.intro)))
          repeat (((with_reducible refine And.intro ?_ ?_)); (focus (first | omega | (simp only [inR]; omega) | rfl | (simp [notinId, notin]; done) | exact Or.inr rfl | (intro i hi; (repeat' (with_reducible first | apply len_cut | apply len_shift | apply len_app | apply len_copy | intro j)) <;> first | rfl | (exact len_lit _ _ (by simp) rfl _) | (simp; done)))))
          clear hK4 K4
          refine SH.Sem.back 1 k 3 rfl hk g2 rfl ?_
          simp only [hset]
          refine SH.Sem.back 1 i 2 rfl hi ((updG_ne _ _ hik).trans g1) rfl ?_
          simp only [hset]
          refine Sem.of_wpA hm ?_
          (refine ev ?_; (try (with_reducible exact True.intro)))
          repeat (((with_reducible refine And.intro ?_ ?_)); (focus (first | omega | (simp only [inR]; omega) | rfl | (simp [notinId, notin]; done) | exact Or.inr rfl | (intro i hi; (repeat' (with_reducible first | apply len_cut | apply len_shift | apply len_app | apply len_copy | intro j)) <;> first | rfl | (exact len_lit _ _ (by simp) rfl _) | (simp; done)))))
          refine ⟨i + 1, [0, 1], by omega, by show n - (i + 1) < n - i; omega, ?_⟩
          have mb := matB_two (m := 2) (m' := 3) (k := k) (n := n) (i := i) (R := fwB R n t0) (R' := fwB R n (t0 + n)) fun a ha => fo a ha n (Nat.le_refl _)
          simp only [padA, St.le, slotsLe, heapLe, blkLe, rowLe, live, injOn, loLe, nget, nlook, ren, okA, allP, mapA, hget, ABlk.used, notin, List.map_cons, List.map_nil, true_or, or_true, false_or, or_false, true_and, and_true, and_self, AV.int.injEq, AV.bool.injEq, AV.str.injEq, AV.sl.injEq, AV.ro.injEq, AV.agg.injEq, List.cons.injEq, reduceCtorEq, ne_eq, not_false_eq_true, not_true_eq_false, -rowLe, up, mb]
          exact ⟨by omega, fun x _ => rowLe_refl fun k' h' => absurd h' matB_lent⟩
      · obtain rfl : n = i := by omega
        (refine ev ?_; (try (with_reducible exact True.intro)))
        refine hK3 _ _ ?_
        (refine ev ?_; (try (with_reducible exact True.intro)))
        clear hK3 K3
        refine Sem.of_wpA hm ?_
        (refine ev ?_; (try (with_reducible exact True.intro)))
        repeat (((with_reducible refine And.intro ?_ ?_)); (focus (first | omega | (simp only [inR]; omega) | rfl | (simp [notinId, notin]; done) | exact Or.inr rfl | (intro i hi; (repeat' (with_reducible first | apply len_cut | apply len_shift | apply len_app | apply len_copy | intro j)) <;> first | rfl | (exact len_lit _ _ (by simp) rfl _) | (simp; done)))))
        refine ⟨k + 1, [0, 1], by omega, by show n - (k + 1) < n - k; omega, ?_⟩
        simp only [padA, St.le, slotsLe, heapLe, blkLe, rowLe, live, injOn, loLe, nget, nlook, ren, okA, allP, mapA, hget, ABlk.used, notin, List.map_cons, List.map_nil, true_or, or_true, false_or, or_false, true_and, and_true, and_self, AV.int.injEq, AV.bool.injEq, AV.str.injEq, AV.sl.injEq, AV.ro.injEq, AV.agg.injEq, List.cons.injEq, reduceCtorEq, ne_eq, not_false_eq_true, not_true_eq_false, -rowLe, show (k + 1) * n * n = (k * n + n) * n by rw [Nat.add_mul, Nat.one_mul]]
        exact ⟨by omega, fun x _ => rowLe_refl fun k' h' => absurd h' matB_lent⟩
    obtain rfl : n = k := by omega
    (refine ev ?_; (try (with_reducible exact True.intro)))
    clear hk0 hd2
    refine hK2 _ _ ?_
    (refine ev ?_; (try (with_reducible exact True.intro)))
    clear hK2 K2
    obtain ⟨F, hF⟩ : ∃ F, fwB R n (n * n * n) = F := ⟨_, rfl⟩
    simp only [hF]
    have cy : ∀ i, cycB ow pr su pl set s n (q : Int) i = (set.getD i false && (pr.getD i 0 == (q : Int)) && F i i) := fun i => by rw [cycB, prioB, hR, hF]
    refine SH.Sem.step hm ?_
    (refine ev ?_; (try (with_reducible exact True.intro)))
    repeat (((with_reducible refine And.intro ?_ ?_)); (focus (first | omega | (simp only [inR]; omega) | rfl | (simp [notinId, notin]; done) | exact Or.inr rfl | (intro i hi; (repeat' (with_reducible first | apply len_cut | apply len_shift | apply len_app | apply len_copy | intro j)) <;> first | rfl | (exact len_lit _ _ (by simp) rfl _) | (simp; done)))))
    refine SH.Sem.block ?_
    refine SH.Sem.loopS (fun i : Nat => ⟨padA [.undef, .int .i64 pl, boolRow set, intRow s, .ptr 0 0 0, .undef, .undef, .undef, .undef, .int .i64 n, .int .i64 q, .undef, .undef, .sl 1 0 n, .undef, .undef, .undef, .undef, .undef, .undef, .int .i64 i] 211, [.box [intRow ow, intRow pr, intRows su], .mat n (matB n F)]⟩) (fun i => i ≤ n ∧ ∀ i', i' < i → cycB ow pr su pl set s n (q : Int) i' = false) (fun i => n - i) [0, 1] 0 ⟨by omega, fun i' h => by omega⟩ ?_ fun i ⟨hi0, hi1⟩ => ?_
    · simp only [padA, St.le, slotsLe, heapLe, blkLe, rowLe, live, injOn, loLe, nget, nlook, ren, okA, allP, mapA, hget, ABlk.used, notin, List.map_cons, List.map_nil, true_or, or_true, false_or, or_false, true_and, and_true, and_self, AV.int.injEq, AV.bool.injEq, AV.str.injEq, AV.sl.injEq, AV.ro.injEq, AV.agg.injEq, List.cons.injEq, reduceCtorEq, ne_eq, not_false_eq_true, not_true_eq_false, -rowLe]
      exact ⟨rfl, fun x _ => rowLe_refl fun k' h' => absurd h' matB_lent⟩
    simp only [padA]
    refine SH.Sem.step hm ?_
    (refine ev ?_; (try (with_reducible exact True.intro)))
    refine gsd (fun hd2 => ?_) (fun hd2 => ?_)
    · have hi : i < n := by omega
      (refine ev ?_; (try (with_reducible exact True.intro)))
      refine SH.Sem.seq ?_
      refine SH.Sem.block ?_
      refine SH.Sem.lend 1 i rfl hi rfl ?_
      simp only [hlen, hset, Nat.zero_add, Nat.reduceAdd]
      refine Sem.of_wpA hm ?_
      have cy := cy i
      have g1 : updG (matB n F) i (.lent 2) i = .lent 2 := updG_same _ _ _
      have r1 : (rowF n (F i)).getD i false = F i i := rowF_at hi
      have mb := matB_one (m := 2) (n := n) (i := i) (R := F) (R' := F) fun a ha => rfl
      have goOn : cycB ow pr su pl set s n (q : Int) i = false → (i + 1 ≤ n ∧ ∀ i', i' < i + 1 → cycB ow pr su pl set s n (q : Int) i' = false) := fun h => ⟨by omega, fun i' hi' => by
        rcases Nat.lt_or_ge i' i with h1 | h1
        · exact hi1 i' h1
        · obtain rfl : i' = i := by omega
          exact h⟩
      (refine ev ?_; (try (with_reducible exact True.intro)))
      simp only [Int.toNat_natCast]
      repeat (((with_reducible refine And.intro ?_ ?_)); (focus (first | omega | (simp only [inR]; omega) | rfl | (simp [notinId, notin]; done) | exact Or.inr rfl | (intro i hi; (repeat' (with_reducible first | apply len_cut | apply len_shift | apply len_app | apply len_copy | intro j)) <;> first | rfl | (exact len_lit _ _ (by simp) rfl _) | (simp; done)))))
      refine gs (fun h1 => ?_) (fun h1 => ?_)
      rotate_left
      · (refine ev ?_; (try (with_reducible exact True.intro)))
        repeat (((with_reducible refine And.intro ?_ ?_)); (focus (first | omega | (simp only [inR]; omega) | rfl | (simp [notinId, notin]; done) | exact Or.inr rfl | (intro i hi; (repeat' (with_reducible first | apply len_cut | apply len_shift | apply len_app | apply len_copy | intro j)) <;> first | rfl | (exact len_lit _ _ (by simp) rfl _) | (simp; done)))))
        refine SH.Sem.back 1 i 2 rfl hi g1 rfl ?_
        simp only [hset, mb]
        refine Sem.of_wpA hm ?_
        (refine ev ?_; (try (with_reducible exact True.intro)))
        repeat (((with_reducible refine And.intro ?_ ?_)); (focus (first | omega | (simp only [inR]; omega) | rfl | (simp [notinId, notin]; done) | exact Or.inr rfl | (intro i hi; (repeat' (with_reducible first | apply len_cut | apply len_shift | apply len_app | apply len_copy | intro j)) <;> first | rfl | (exact len_lit _ _ (by simp) rfl _) | (simp; done)))))
        refine ⟨i + 1, [0, 1], goOn (by rw [cy, h1]; simp), by show n - (i + 1) < n - i; omega, ?_⟩
        simp only [padA, St.le, slotsLe, heapLe, blkLe, rowLe, live, injOn, loLe, nget, nlook, ren, okA, allP, mapA, hget, ABlk.used, notin, List.map_cons, List.map_nil, true_or, or_true, false_or, or_false, true_and, and_true, and_self, AV.int.injEq, AV.bool.injEq, AV.str.injEq, AV.sl.injEq, AV.ro.injEq, AV.agg.injEq, List.cons.injEq, reduceCtorEq, ne_eq, not_false_eq_true, not_true_eq_false, -rowLe]
        exact ⟨by omega, fun x _ => rowLe_refl fun k' h' => absurd h' matB_lent⟩
      iterate 4 (try (refine ev ?_; (try (with_reducible exact True.intro))); try simp only [Int.toNat_natCast, g1, hget, r1]; repeat (((with_reducible refine And.intro ?_ ?_)); (focus (first | omega | (simp only [inR]; omega) | rfl | (simp [notinId, notin]; done) | exact Or.inr rfl | (intro i hi; (repeat' (with_reducible first | apply len_cut | apply len_shift | apply len_app | apply len_copy | intro j)) <;> first | rfl | (exact len_lit _ _ (by simp) rfl _) | (simp; done))))))
      refine gs (fun h2 => ?_) (fun h2 => ?_)
      rotate_left
      · (refine ev ?_; (try (with_reducible exact True.intro)))
        repeat (((with_reducible refine And.intro ?_ ?_)); (focus (first | omega | (simp only [inR]; omega) | rfl | (simp [notinId, notin]; done) | exact Or.inr rfl | (intro i hi; (repeat' (with_reducible first | apply len_cut | apply len_shift | apply len_app | apply len_copy | intro j)) <;> first | rfl | (exact len_lit _ _ (by simp) rfl _) | (simp; done)))))
        refine SH.Sem.back 1 i 2 rfl hi g1 rfl ?_
        simp only [hset, mb]
        refine Sem.of_wpA hm ?_
        (refine ev ?_; (try (with_reducible exact True.intro)))
        repeat (((with_reducible refine And.intro ?_ ?_)); (focus (first | omega | (simp only [inR]; omega) | rfl | (simp [notinId, notin]; done) | exact Or.inr rfl | (intro i hi; (repeat' (with_reducible first | apply len_cut | apply len_shift | apply len_app | apply len_copy | intro j)) <;> first | rfl | (exact len_lit _ _ (by simp) rfl _) | (simp; done)))))
        refine ⟨i + 1, [0, 1], goOn (by rw [cy, h2, Bool.and_false]; simp), by show n - (i + 1) < n - i; omega, ?_⟩
        simp only [padA, St.le, slotsLe, heapLe, blkLe, rowLe, live, injOn, loLe, nget, nlook, ren, okA, allP, mapA, hget, ABlk.used, notin, List.map_cons, List.map_nil, true_or, or_true, false_or, or_false, true_and, and_true, and_self, AV.int.injEq, AV.bool.injEq, AV.str.injEq, AV.sl.injEq, AV.ro.injEq, AV.agg.injEq, List.cons.injEq, reduceCtorEq, ne_eq, not_false_eq_true, not_true_eq_false, -rowLe]
        exact ⟨by omega, fun x _ => rowLe_refl fun k' h' => absurd h' matB_lent⟩
      iterate 4 (try (refine ev ?_; (try (with_reducible exact True.intro))); try simp only [Int.toNat_natCast, g1, hget, r1]; repeat (((with_reducible refine And.intro ?_ ?_)); (focus (first | omega | (simp only [inR]; omega) | rfl | (simp [notinId, notin]; done) | exact Or.inr rfl | (intro i hi; (repeat' (with_reducible first | apply len_cut | apply len_shift | apply len_app | apply len_copy | intro j)) <;> first | rfl | (exact len_lit _ _ (by simp) rfl _) | (simp; done))))))
      refine gs (fun h3 => ?_) (fun h3 => ?_)
      rotate_left
      · (refine ev ?_; (try (with_reducible exact True.intro)))
        repeat (((with_reducible refine And.intro ?_ ?_)); (focus (first | omega | (simp only [inR]; omega) | rfl | (simp [notinId, notin]; done) | exact Or.inr rfl | (intro i hi; (repeat' (with_reducible first | apply len_cut | apply len_shift | apply len_app | apply len_copy | intro j)) <;> first | rfl | (exact len_lit _ _ (by simp) rfl _) | (simp; done)))))
        refine SH.Sem.back 1 i 2 rfl hi g1 rfl ?_
        simp only [hset, mb]
        refine Sem.of_wpA hm ?_
        (refine ev ?_; (try (with_reducible exact True.intro)))
        repeat (((with_reducible refine And.intro ?_ ?_)); (focus (first | omega | (simp only [inR]; omega) | rfl | (simp [notinId, notin]; done) | exact Or.inr rfl | (intro i hi; (repeat' (with_reducible first | apply len_cut | apply len_shift | apply len_app | apply len_copy | intro j)) <;> first | rfl | (exact len_lit _ _ (by simp) rfl _) | (simp; done)))))
        refine ⟨i + 1, [0, 1], goOn (by rw [cy, h3, Bool.and_false]), by show n - (i + 1) < n - i; omega, ?_⟩
        simp only [padA, St.le, slotsLe, heapLe, blkLe, rowLe, live, injOn, loLe, nget, nlook, ren, okA, allP, mapA, hget, ABlk.used, notin, List.map_cons, List.map_nil, true_or, or_true, false_or, or_false, true_and, and_true, and_self, AV.int.injEq, AV.bool.injEq, AV.str.injEq, AV.sl.injEq, AV.ro.injEq, AV.agg.injEq, List.cons.injEq, reduceCtorEq, ne_eq, not_false_eq_true, not_true_eq_false, -rowLe]
        exact ⟨by omega, fun x _ => rowLe_refl fun k' h' => absurd h' matB_lent⟩
      have hb : beatB ow pr su pl set s n = true := any_yes (f := fun q : Nat => hitB ow pr su pl set s n (q : Int)) hq (by rw [hitB, sk2, any_yes hi (by rw [cy, h1, h2, h3]; rfl)]; rfl)
      rw [hb]
      (refine ev ?_; (try (with_reducible exact True.intro)))
      repeat (((with_reducible refine And.intro ?_ ?_)); (focus (first | omega | (simp only [inR]; omega) | rfl | (simp [notinId, notin]; done) | exact Or.inr rfl | (intro i hi; (repeat' (with_reducible first | apply len_cut | apply len_shift | apply len_app | apply len_copy | intro j)) <;> first | rfl | (exact len_lit _ _ (by simp) rfl _) | (simp; done)))))
      ((repeat' (with_reducible refine And.intro ?_ ?_)) <;> first | omega | (simp [notinId]; done) | (exact fun q hq => cut_at0 q (by simpa using hq)) | (exact fun q hq => cut_at0 q (by omega)) | (exact fun _ _ => rfl))
    · obtain rfl : n = i := by omega
      (refine ev ?_; (try (with_reducible exact True.intro)))
      refine Sem.of_wpA hm ?_
      (refine ev ?_; (try (with_reducible exact True.intro)))
      repeat (((with_reducible refine And.intro ?_ ?_)); (focus (first | omega | (simp only [inR]; omega) | rfl | (simp [notinId, notin]; done) | exact Or.inr rfl | (intro i hi; (repeat' (with_reducible first | apply len_cut | apply len_shift | apply len_app | apply len_copy | intro j)) <;> first | rfl | (exact len_lit _ _ (by simp) rfl _) | (simp; done)))))
      refine ⟨q + 1, [0], goOn (by rw [hitB, any_not hi1, Bool.and_false]), by show 30001 - (q + 1) < 30001 - q; omega, ?_⟩
      simp only [padA, St.le, slotsLe, heapLe, blkLe, rowLe, live, injOn, loLe, nget, nlook, ren, okA, allP, mapA, hget, ABlk.used, notin, List.map_cons, List.map_nil, true_or, or_true, false_or, or_false, true_and, and_true, and_self, AV.int.injEq, AV.bool.injEq, AV.str.injEq, AV.sl.injEq, AV.ro.injEq, AV.agg.injEq, List.cons.injEq, reduceCtorEq, ne_eq, not_false_eq_true, not_true_eq_false]; simp
  · have hq : q = 30001 := by omega
    subst hq
    (refine ev ?_; (try (with_reducible exact True.intro)))
    refine Sem.of_wpA hm ?_
    (refine ev ?_; (try (with_reducible exact True.intro)))
    rw [show beatB ow pr su pl set s n = false from any_not hq1]
    ((repeat' (with_reducible refine And.intro ?_ ?_)) <;> first | omega | (simp [notinId]; done) | (exact fun q hq => cut_at0 q (by simpa using hq)) | (exact fun q hq => cut_at0 q (by omega)) | (exact fun _ _ => rfl))
end Go.Proofs.Ythkgnnndlocbbaa
