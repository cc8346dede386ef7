/-
  The law SolveExchange: swapped and shifted games, plain law. No condition.
-/
import Derived.Test.YthkgnnndlocbbaaSi
namespace Go.Proofs.Ythkgnnndlocbbaa
set_option linter.unusedVariables false
set_option linter.unusedSimpArgs false
open Go Go.SH Go.Parity
set_option maxRecDepth 100000
set_option maxHeartbeats 4000000
/-- Priorities in the same order, and each player's stay his. -/
theorem Para.turn {G G' : PG} {S X : Nat → Prop} {p p' : Int} (ho : ∀ v, X v → (G'.own v = p' ↔ G.own v = p)) (hs : ∀ v, X v → G'.sc v = G.sc v) (hm : ∀ a b, X a → X b → (G'.pr a ≤ G'.pr b ↔ G.pr a ≤ G.pr b)) (hq : ∀ v, X v → G'.pr v % 2 ≠ p' → G.pr v % 2 ≠ p) (h : Para G S p X) : Para G' S p' X := by
  obtain ⟨σ, a1, a2, a3, a4⟩ := h
  refine ⟨σ, a1, fun v hX o => ?_, fun v hX o t ht hS => ?_, fun q hq' => ?_⟩
  · rw [hs v hX]; exact a2 v hX ((ho v hX).1 o)
  · rw [hs v hX] at ht; exact a3 v hX (fun h => o ((ho v hX).2 h)) t ht hS
  · by_cases hex : ∃ v, X v ∧ G'.pr v = q
    · obtain ⟨v, hv, e⟩ := hex
      obtain ⟨ρ, hρ⟩ := a4 (G.pr v) (hq v hv (by rw [e]; exact hq'))
      refine ⟨ρ, fun a b ha hb hm' qa qb => ?_⟩
      obtain ⟨m1, m2⟩ := hm'
      rw [hs a ha] at m1
      have := hρ a b ha hb ⟨m1, fun h => m2 ((ho a ha).2 h)⟩ ((hm v a hv ha).1 (by rw [e]; exact qa)) ((hm v b hv hb).1 (by rw [e]; exact qb))
      refine ⟨this.1, fun e2 => this.2 ?_⟩
      have h1 := (hm v a hv ha).1 (by rw [e, e2]; exact Int.le_refl _)
      have h2 := (hm a v ha hv).1 (by rw [e, e2]; exact Int.le_refl _)
      omega
    · exact ⟨fun _ => 0, fun a b ha hb _ _ _ => ⟨Nat.le_refl _, fun e => absurd ⟨a, ha, e⟩ hex⟩⟩
def swOw (ow : List Int) : List Int := ow.map fun x => 1 - x
def swPr (pr : List Int) : List Int := pr.map fun x => x + 1
def shF (s x : Int) : Int := x + 2 * s * (1 + x.tdiv 2)
def shPr (s : Int) (pr : List Int) : List Int := pr.map (shF s)
theorem map_at (f : Int → Int) (l : List Int) (v : Nat) (h : v < l.length) : (l.map f).getD v 0 = f (l.getD v 0) := by
  rw [List.getD_eq_getElem?_getD, List.getD_eq_getElem?_getD, List.getElem?_map, List.getElem?_eq_getElem h]; rfl
theorem shF_spec {s x : Int} (h0 : 0 ≤ s) (h4 : s ≤ 4) (hx : 0 ≤ x) : shF s x = x + 2 * s * (1 + x / 2) := by
  rw [shF, Int.tdiv_eq_ediv_of_nonneg hx]
theorem shF_le {s x y : Int} (h0 : 0 ≤ s) (h4 : s ≤ 4) (hx : 0 ≤ x) (hy : 0 ≤ y) : shF s x ≤ shF s y ↔ x ≤ y := by
  rw [shF_spec h0 h4 hx, shF_spec h0 h4 hy]
  have : s = 0 ∨ s = 1 ∨ s = 2 ∨ s = 3 ∨ s = 4 := by omega
  rcases this with rfl | rfl | rfl | rfl | rfl <;> omega
theorem shF_mod {s x : Int} (h0 : 0 ≤ s) (h4 : s ≤ 4) (hx : 0 ≤ x) : shF s x % 2 = x % 2 := by
  rw [shF_spec h0 h4 hx]
  have : s = 0 ∨ s = 1 ∨ s = 2 ∨ s = 3 ∨ s = 4 := by omega
  rcases this with rfl | rfl | rfl | rfl | rfl <;> omega
theorem shF_in {s x : Int} (h0 : 0 ≤ s) (h4 : s ≤ 4) (hx : 0 ≤ x) (hm : x ≤ 1000) : 0 ≤ shF s x ∧ shF s x ≤ 30000 := by
  rw [shF_spec h0 h4 hx]
  have : s = 0 ∨ s = 1 ∨ s = 2 ∨ s = 3 ∨ s = 4 := by omega
  rcases this with rfl | rfl | rfl | rfl | rfl <;> omega
section
variable {ow pr : List Int} {su : List (List Int)} {ws ws' : List Int} {s : Int}
theorem valid_at : validB ow pr su = true ↔ ow.length ≤ 3000 ∧ pr.length = ow.length ∧ su.length = ow.length ∧ ∀ i, i < ow.length → (ow.getD i 0 = 0 ∨ ow.getD i 0 = 1) ∧ 0 ≤ pr.getD i 0 ∧ pr.getD i 0 ≤ 30000 ∧ 0 < (su.getD i []).length ∧ ∀ t ∈ su.getD i [], 0 ≤ t ∧ t < (ow.length : Int) := by
  simp only [validB, posB, Bool.and_eq_true, Bool.or_eq_true, beq_iff_eq, decide_eq_true_eq, List.all_eq_true, List.mem_range]
  constructor
  · rintro ⟨⟨⟨h1, h2⟩, h3⟩, h4⟩
    refine ⟨h1, h2, h3, fun i hi => ?_⟩
    obtain ⟨⟨⟨⟨a, b⟩, c⟩, d⟩, e⟩ := h4 i hi
    exact ⟨a, b, c, d, e⟩
  · rintro ⟨h1, h2, h3, h4⟩
    refine ⟨⟨⟨h1, h2⟩, h3⟩, fun i hi => ?_⟩
    obtain ⟨a, b, c, d, e⟩ := h4 i hi
    exact ⟨⟨⟨⟨a, b⟩, c⟩, d⟩, e⟩
theorem sw_valid (hv : validB ow pr su = true) (hb : ∀ x ∈ pr, x ≤ 1000) : validB (swOw ow) (swPr pr) su = true := by
  obtain ⟨h1, h2, h3, h4⟩ := valid_at.1 hv
  refine valid_at.2 ⟨by simpa [swOw] using h1, by simpa [swPr, swOw] using h2, by simpa [swOw] using h3, fun i hi => ?_⟩
  have hi : i < ow.length := by simpa [swOw] using hi
  obtain ⟨a, b, c, d, e⟩ := h4 i hi
  have hm := hb _ (getD_mem (show i < pr.length by omega) 0)
  rw [swOw, swPr, map_at _ _ _ hi, map_at _ _ _ (by omega), List.length_map]
  exact ⟨by omega, by omega, by omega, d, e⟩
theorem sh_valid (hv : validB ow pr su = true) (hb : ∀ x ∈ pr, x ≤ 1000) (h0 : 0 ≤ s) (hs4 : s ≤ 4) : validB ow (shPr s pr) su = true := by
  obtain ⟨h1, h2, h3, h4⟩ := valid_at.1 hv
  refine valid_at.2 ⟨h1, by simpa [shPr] using h2, h3, fun i hi => ?_⟩
  obtain ⟨a, b, c, d, e⟩ := h4 i hi
  have hm := hb _ (getD_mem (show i < pr.length by omega) 0)
  rw [shPr, map_at _ _ _ (by omega)]
  have := shF_in h0 hs4 b hm
  exact ⟨a, this.1, this.2, d, e⟩
theorem sw_para {p p' : Int} {X : Nat → Prop} (hv : validB ow pr su = true) (hp : (p = 0 ∧ p' = 1) ∨ (p = 1 ∧ p' = 0)) (h : Para (pg ow pr su) (fun v => v < ow.length) p X) : Para (pg (swOw ow) (swPr pr) su) (fun v => v < ow.length) p' X := by
  obtain ⟨h1, h2, h3, h4⟩ := valid_at.1 hv
  have a1 : ∀ v, X v → v < ow.length := by obtain ⟨_, a1, _⟩ := h; exact a1
  have eo : ∀ v, X v → (pg (swOw ow) (swPr pr) su).own v = 1 - ow.getD v 0 := fun v hX => map_at _ _ _ (a1 v hX)
  have ep : ∀ v, X v → (pg (swOw ow) (swPr pr) su).pr v = pr.getD v 0 + 1 := fun v hX => map_at _ _ _ (by have := a1 v hX; omega)
  refine Para.turn (G := pg ow pr su) (p := p) (fun v hX => ?_) (fun v hX => rfl) (fun a b ha hb => ?_) (fun v hX => ?_) h
  · rw [eo v hX]
    show _ ↔ ow.getD v 0 = p
    have := (h4 v (a1 v hX)).1
    omega
  · rw [ep a ha, ep b hb]
    show _ ↔ pr.getD a 0 ≤ pr.getD b 0
    omega
  · rw [ep v hX]
    show _ → pr.getD v 0 % 2 ≠ p
    omega
theorem sh_para {p : Int} {X : Nat → Prop} (hv : validB ow pr su = true) (h0 : 0 ≤ s) (hs4 : s ≤ 4) (h : Para (pg ow pr su) (fun v => v < ow.length) p X) : Para (pg ow (shPr s pr) su) (fun v => v < ow.length) p X := by
  obtain ⟨h1, h2, h3, h4⟩ := valid_at.1 hv
  have a1 : ∀ v, X v → v < ow.length := by obtain ⟨_, a1, _⟩ := h; exact a1
  have ep : ∀ v, X v → (pg ow (shPr s pr) su).pr v = shF s (pr.getD v 0) := fun v hX => map_at _ _ _ (by have := a1 v hX; omega)
  refine Para.turn (G := pg ow pr su) (p := p) (fun v hX => Iff.rfl) (fun v hX => rfl) (fun a b ha hb => ?_) (fun v hX => ?_) h
  · rw [ep a ha, ep b hb]
    exact shF_le h0 hs4 (h4 a (a1 a ha)).2.1 (h4 b (a1 b hb)).2.1
  · rw [ep v hX, shF_mod h0 hs4 (h4 v (a1 v hX)).2.1]
    exact fun h => h
theorem sw_wins (hv : validB ow pr su = true) (hb : ∀ x ∈ pr, x ≤ 1000) (hw : Wins ow pr su ws) (hw' : Wins (swOw ow) (swPr pr) su ws') (v : Nat) (h : v < ow.length) : ws'.getD v 0 = 1 - ws.getD v 0 := by
  have P0 := sw_para hv (.inl ⟨rfl, rfl⟩) hw.good.p0
  have P1 := sw_para hv (.inr ⟨rfl, rfl⟩) hw.good.p1
  have T := two_pg (sw_valid hv hb)
  have Q0 := hw'.good.p0
  have Q1 := hw'.good.p1
  have e : (swOw ow).length = ow.length := by simp [swOw]
  rw [e] at T Q0 Q1
  rcases hw.two v h, hw'.two v (by omega) with ⟨a | a, b | b⟩
  · exact (apart (fun v h => h) T Q0 P0 v ⟨h, b⟩ ⟨h, a⟩).elim
  · omega
  · omega
  · exact (apart (fun v h => h) T P1 Q1 v ⟨h, a⟩ ⟨h, b⟩).elim
theorem sh_wins (hv : validB ow pr su = true) (hb : ∀ x ∈ pr, x ≤ 1000) (h0 : 0 ≤ s) (hs4 : s ≤ 4) (hw : Wins ow pr su ws) (hw' : Wins ow (shPr s pr) su ws') : ws' = ws := by
  have P0 := sh_para hv h0 hs4 hw.good.p0
  have P1 := sh_para hv h0 hs4 hw.good.p1
  have T := two_pg (sh_valid hv hb h0 hs4)
  have l1 := hw.len
  have l2 := hw'.len
  refine List.ext_getElem (by omega) fun v h1 h2 => ?_
  have e1 := List.getElem_eq_getD (h := h1) 0
  have e2 := List.getElem_eq_getD (h := h2) 0
  rw [e1, e2]
  have h : v < ow.length := by omega
  rcases hw.two v h, hw'.two v h with ⟨a | a, b | b⟩
  · omega
  · exact (apart (fun v h => h) T P0 hw'.good.p1 v ⟨h, a⟩ ⟨h, b⟩).elim
  · exact (apart (fun v h => h) T hw'.good.p0 P1 v ⟨h, b⟩ ⟨h, a⟩).elim
  · omega
end
end Go.Proofs.Ythkgnnndlocbbaa
