/-
  Parity games: paradises, by ranks: plain law. No condition.
-/
import Init
namespace Go.Parity
/-- A game: owners, priorities, successors. -/
structure PG where
  own : Nat → Int
  pr : Nat → Int
  sc : Nat → List Nat
variable {G G1 G2 : PG} {S S1 S2 X Y T W : Nat → Prop} {p : Int} {N : Nat}
/-- A move that a strategy allows. -/
def PG.mv (G : PG) (p : Int) (σ : Nat → Nat) (a b : Nat) : Prop := b ∈ G.sc a ∧ (G.own a = p → b = σ a)
/-- No cycle of moves within X has a least priority that is not p's: by ranks, which fall at it. -/
def PG.fine (G : PG) (p : Int) (X : Nat → Prop) (σ : Nat → Nat) : Prop :=
  ∀ q : Int, q % 2 ≠ p → ∃ ρ : Nat → Nat, ∀ a b, X a → X b → G.mv p σ a b → q ≤ G.pr a → q ≤ G.pr b → ρ b ≤ ρ a ∧ (G.pr a = q → ρ b < ρ a)
/-- A set within which a player wins, in the game of a set of positions. -/
def Para (G : PG) (S : Nat → Prop) (p : Int) (X : Nat → Prop) : Prop :=
  ∃ σ : Nat → Nat, (∀ v, X v → S v) ∧ (∀ v, X v → G.own v = p → σ v ∈ G.sc v ∧ X (σ v)) ∧ (∀ v, X v → G.own v ≠ p → ∀ t ∈ G.sc v, S t → X t) ∧ G.fine p X σ
/-- The winners. -/
structure Good (G : PG) (S : Nat → Prop) (W0 W1 : Nat → Prop) : Prop where
  p0 : Para G S 0 W0
  p1 : Para G S 1 W1
  all : ∀ v, S v → W0 v ∨ W1 v
/-- The owners are the players. -/
def Two (G : PG) (S : Nat → Prop) : Prop := ∀ v, S v → G.own v = 0 ∨ G.own v = 1

theorem bounded (f : Nat → Nat) : ∀ N, ∃ M, ∀ v, v < N → f v ≤ M
  | 0 => ⟨0, fun v h => by omega⟩
  | N + 1 => by
    obtain ⟨M, h⟩ := bounded f N
    refine ⟨max M (f N), fun v hv => ?_⟩
    rcases Nat.lt_or_ge v N with h1 | h1
    · have := h v h1; omega
    · obtain rfl : v = N := by omega
      omega
/-- Among more numbers than there are, two are the same. -/
theorem pigeon (N : Nat) (f : Nat → Nat) (h : ∀ i, f i < N) : ∃ i j, i < j ∧ f i = f j := by
  apply Classical.byContradiction
  intro hno
  have inj : ∀ i j, f i = f j → i = j := by
    intro i j e
    rcases Nat.lt_trichotomy i j with h1 | h1 | h1
    · exact absurd ⟨i, j, h1, e⟩ hno
    · exact h1
    · exact absurd ⟨j, i, h1, e.symm⟩ hno
  have nd : ((List.range (N + 1)).map f).Nodup := by
    rw [List.Nodup, List.pairwise_map]
    exact List.nodup_range.imp fun hne e => hne (inj _ _ e)
  have := nd.length_le_of_subset (l₂ := List.range N) (fun x hx => by
    obtain ⟨i, _, rfl⟩ := List.mem_map.1 hx
    exact List.mem_range.2 (h i))
  simp at this
  omega
/-- The least of some values. -/
theorem least_at (g : Nat → Int) (i : Nat) : ∀ n, ∃ m, i ≤ m ∧ m ≤ i + n ∧ ∀ k, i ≤ k → k ≤ i + n → g m ≤ g k
  | 0 => by
    refine ⟨i, by omega, by omega, fun k h1 h2 => ?_⟩
    obtain rfl : k = i := by omega
    exact Int.le_refl _
  | n + 1 => by
    obtain ⟨m, h1, h2, h3⟩ := least_at g i n
    rcases Int.le_total (g m) (g (i + n + 1)) with h | h
    · refine ⟨m, h1, by omega, fun k h4 h5 => ?_⟩
      rcases Nat.lt_or_ge k (i + n + 1) with h6 | h6
      · exact h3 k h4 (by omega)
      · obtain rfl : k = i + n + 1 := by omega
        exact h
    · refine ⟨i + n + 1, by omega, by omega, fun k h4 h5 => ?_⟩
      rcases Nat.lt_or_ge k (i + n + 1) with h6 | h6
      · have := h3 k h4 (by omega); omega
      · obtain rfl : k = i + n + 1 := by omega
        exact Int.le_refl _
/-- No position is won by both. -/
theorem apart (hN : ∀ v, S v → v < N) (h2 : Two G S) (hX : Para G S 0 X) (hY : Para G S 1 Y) (v : Nat) (hx : X v) (hy : Y v) : False := by
  obtain ⟨σ, a1, a2, a3, a4⟩ := hX
  obtain ⟨τ, b1, b2, b3, b4⟩ := hY
  let nx : Nat → Nat := fun u => if G.own u = 0 then σ u else τ u
  have step : ∀ u, X u → Y u → X (nx u) ∧ Y (nx u) ∧ G.mv 0 σ u (nx u) ∧ G.mv 1 τ u (nx u) := by
    intro u hu hu'
    rcases h2 u (a1 u hu) with ho | ho
    · obtain ⟨c1, c2⟩ := a2 u hu ho
      have e : nx u = σ u := by simp [nx, ho]
      rw [e]
      exact ⟨c2, b3 u hu' (by omega) _ c1 (a1 _ c2), ⟨c1, fun _ => rfl⟩, ⟨c1, fun h => by omega⟩⟩
    · obtain ⟨c1, c2⟩ := b2 u hu' ho
      have e : nx u = τ u := by simp [nx, ho]
      rw [e]
      exact ⟨a3 u hu (by omega) _ c1 (b1 _ c2), c2, ⟨c1, fun h => by omega⟩, ⟨c1, fun _ => rfl⟩⟩
  let f : Nat → Nat := fun i => Nat.rec v (fun _ u => nx u) i
  have f0 : f 0 = v := rfl
  have fs : ∀ i, f (i + 1) = nx (f i) := fun i => rfl
  have inv : ∀ i, X (f i) ∧ Y (f i) := by
    intro i
    induction i with
    | zero => exact ⟨hx, hy⟩
    | succ i ih => rw [fs]; obtain ⟨c1, c2, _⟩ := step _ ih.1 ih.2; exact ⟨c1, c2⟩
  obtain ⟨i, j, hij, e⟩ := pigeon N f fun i => hN _ (a1 _ (inv i).1)
  have per : ∀ k, f (i + k) = f (j + k) := by
    intro k
    induction k with
    | zero => exact e
    | succ k ih => rw [← Nat.add_assoc, ← Nat.add_assoc, fs, fs, ih]
  obtain ⟨L, hL⟩ : ∃ L, j = i + L := ⟨j - i, by omega⟩
  have per' : ∀ k, i ≤ k → f (k + L) = f k := by
    intro k hk
    obtain ⟨d, rfl⟩ : ∃ d, k = i + d := ⟨k - i, by omega⟩
    rw [per d, hL]; congr 1; omega
  obtain ⟨m, m1, m2, m3⟩ := least_at (fun k => G.pr (f k)) i L
  have low : ∀ k, i ≤ k → G.pr (f m) ≤ G.pr (f k) := by
    have key : ∀ d k, i ≤ k → k ≤ i + d → G.pr (f m) ≤ G.pr (f k) := by
      intro d
      induction d with
      | zero => intro k h4 h5; exact m3 k h4 (by omega)
      | succ d ih =>
        intro k h4 h5
        rcases Nat.lt_or_ge (i + L) k with h6 | h6
        · have := ih (k - L) (by omega) (by omega)
          rw [← per' (k - L) (by omega), show k - L + L = k by omega] at this
          exact this
        · exact m3 k h4 h6
    intro k hk
    exact key (k - i) k hk (by omega)
  have fall : ∀ (p : Int) (σ' : Nat → Nat) (Z : Nat → Prop), G.fine p Z σ' → (∀ k, Z (f k)) → (∀ k, G.mv p σ' (f k) (f (k + 1))) → G.pr (f m) % 2 ≠ p → False := by
    intro p σ' Z hf hZ hmv hq
    obtain ⟨ρ, hρ⟩ := hf _ hq
    have down : ∀ d, ρ (f (m + 1 + d)) < ρ (f m) := by
      intro d
      induction d with
      | zero => exact (hρ (f m) (f (m + 1)) (hZ m) (hZ (m + 1)) (hmv m) (Int.le_refl _) (low (m + 1) (by omega))).2 rfl
      | succ d ih =>
        have := (hρ (f (m + 1 + d)) (f (m + 1 + d + 1)) (hZ (m + 1 + d)) (hZ (m + 1 + d + 1)) (hmv (m + 1 + d)) (low (m + 1 + d) (by omega)) (low (m + 1 + d + 1) (by omega))).1
        rw [← Nat.add_assoc]
        omega
    have hL0 : 0 < L := by omega
    have := down (L - 1)
    rw [show m + 1 + (L - 1) = m + L by omega, per' m m1] at this
    omega
  have mv0 : ∀ k, G.mv 0 σ (f k) (f (k + 1)) := fun k => by rw [fs]; exact (step _ (inv k).1 (inv k).2).2.2.1
  have mv1 : ∀ k, G.mv 1 τ (f k) (f (k + 1)) := fun k => by rw [fs]; exact (step _ (inv k).1 (inv k).2).2.2.2
  by_cases h0 : G.pr (f m) % 2 = 0
  · exact fall 1 τ Y b4 (fun k => (inv k).2) mv1 (by omega)
  · exact fall 0 σ X a4 (fun k => (inv k).1) mv0 h0
theorem Good.unique {W0 W1 V0 V1 : Nat → Prop} (hN : ∀ v, S v → v < N) (h2 : Two G S) (h : Good G S W0 W1) (k : Good G S V0 V1) (v : Nat) : (W0 v ↔ V0 v) ∧ (W1 v ↔ V1 v) := by
  have s0 : ∀ v, W0 v → S v := by obtain ⟨_, h, _⟩ := h.p0; exact h
  have s1 : ∀ v, W1 v → S v := by obtain ⟨_, h, _⟩ := h.p1; exact h
  have t0 : ∀ v, V0 v → S v := by obtain ⟨_, h, _⟩ := k.p0; exact h
  have t1 : ∀ v, V1 v → S v := by obtain ⟨_, h, _⟩ := k.p1; exact h
  refine ⟨⟨fun a => ?_, fun a => ?_⟩, ⟨fun a => ?_, fun a => ?_⟩⟩
  · rcases k.all v (s0 v a) with b | b
    · exact b
    · exact (apart hN h2 h.p0 k.p1 v a b).elim
  · rcases h.all v (t0 v a) with b | b
    · exact b
    · exact (apart hN h2 k.p0 h.p1 v a b).elim
  · rcases k.all v (s1 v a) with b | b
    · exact (apart hN h2 k.p0 h.p1 v b a).elim
    · exact b
  · rcases h.all v (t1 v a) with b | b
    · exact (apart hN h2 h.p0 k.p1 v b a).elim
    · exact b
theorem Good.not {W0 W1 : Nat → Prop} (hN : ∀ v, S v → v < N) (h2 : Two G S) (h : Good G S W0 W1) (v : Nat) (hv : S v) : W1 v ↔ ¬ W0 v := by
  refine ⟨fun a b => apart hN h2 h.p0 h.p1 v b a, fun a => ?_⟩
  rcases h.all v hv with b | b
  · exact absurd b a
  · exact b
/-- The same sets. -/
theorem Para.congr (h : Para G S p X) (e : ∀ v, X v ↔ Y v) (es : ∀ v, S v ↔ S1 v) : Para G S1 p Y := by
  have : X = Y := funext fun v => propext (e v)
  have : S = S1 := funext fun v => propext (es v)
  subst_vars; exact h
/-- What is attracted, with ranks; what is not, is a trap. -/
structure Attr (G : PG) (S : Nat → Prop) (p : Int) (T Y : Nat → Prop) : Prop where
  sub : ∀ v, Y v → S v
  tgt : ∀ v, T v → Y v
  rk : ∃ r : Nat → Nat, ∀ v, Y v → ¬ T v → (G.own v = p ∧ ∃ t ∈ G.sc v, Y t ∧ r t < r v) ∨ (G.own v ≠ p ∧ ∀ t ∈ G.sc v, S t → Y t ∧ r t < r v)
  own : ∀ v, S v → ¬ Y v → G.own v = p → ∀ t ∈ G.sc v, S t → ¬ Y t
  oth : ∀ v, S v → ¬ Y v → G.own v ≠ p → ∃ t ∈ G.sc v, S t ∧ ¬ Y t
open Classical in
/-- What is attracted to a paradise is one. -/
theorem Attr.para (h : Attr G S p X Y) (hN : ∀ v, S v → v < N) (hX : Para G S p X) : Para G S p Y := by
  obtain ⟨σ, a1, a2, a3, a4⟩ := hX
  obtain ⟨r, hr⟩ := h.rk
  have ex : ∀ v, ∃ t, Y v → ¬ X v → G.own v = p → t ∈ G.sc v ∧ Y t ∧ r t < r v := by
    intro v
    by_cases hc : Y v ∧ ¬ X v ∧ G.own v = p
    · obtain ⟨c1, c2, c3⟩ := hc
      rcases hr v c1 c2 with ⟨_, t, t1, t2⟩ | ⟨c4, _⟩
      · exact ⟨t, fun _ _ _ => ⟨t1, t2⟩⟩
      · exact absurd c3 c4
    · exact ⟨0, fun c1 c2 c3 => absurd ⟨c1, c2, c3⟩ hc⟩
  refine ⟨fun v => if X v then σ v else choose (ex v), h.sub, fun v hv ho => ?_, fun v hv ho t ht hS => ?_, fun q hq => ?_⟩
  · by_cases hx : X v
    · simp only [if_pos hx]
      exact ⟨(a2 v hx ho).1, h.tgt _ (a2 v hx ho).2⟩
    · simp only [if_neg hx]
      have := choose_spec (ex v) hv hx ho
      exact ⟨this.1, this.2.1⟩
  · by_cases hx : X v
    · exact h.tgt _ (a3 v hx ho t ht hS)
    · rcases hr v hv hx with ⟨c, _⟩ | ⟨_, c⟩
      · exact absurd c ho
      · exact (c t ht hS).1
  · obtain ⟨ρ, hρ⟩ := a4 q hq
    obtain ⟨M, hM⟩ := bounded ρ N
    refine ⟨fun v => if X v then ρ v else M + 1 + r v, fun a b ha hb hm qa qb => ?_⟩
    by_cases hx : X a
    · have hm' : G.mv p σ a b := ⟨hm.1, fun ho => by have := hm.2 ho; simpa only [if_pos hx] using this⟩
      have hxb : X b := by
        by_cases ho : G.own a = p
        · rw [hm'.2 ho]; exact (a2 a hx ho).2
        · exact a3 a hx ho b hm.1 (h.sub _ hb)
      simp only [if_pos hx, if_pos hxb]
      exact hρ a b hx hxb hm' qa qb
    · simp only [if_neg hx]
      have hlt : r b < r a := by
        by_cases ho : G.own a = p
        · have e := hm.2 ho
          simp only [if_neg hx] at e
          rw [e]; exact (choose_spec (ex a) ha hx ho).2.2
        · rcases hr a ha hx with ⟨c, _⟩ | ⟨_, c⟩
          · exact absurd c ho
          · exact (c b hm.1 (h.sub _ hb)).2
      by_cases hxb : X b
      · simp only [if_pos hxb]
        have := hM b (hN _ (h.sub _ hb))
        exact ⟨by omega, fun _ => by omega⟩
      · simp only [if_neg hxb]
        exact ⟨by omega, fun _ => by omega⟩
/-- A paradise of a trap for the other one is one of all. -/
theorem Para.up (h : Para G S1 p X) (hs : ∀ v, S1 v → S v) (ht : ∀ v, S1 v → G.own v ≠ p → ∀ t ∈ G.sc v, S t → S1 t) : Para G S p X := by
  obtain ⟨σ, a1, a2, a3, a4⟩ := h
  exact ⟨σ, fun v hv => hs v (a1 v hv), a2, fun v hv ho t hm hS => a3 v hv ho t hm (ht v (a1 v hv) ho t hm hS), a4⟩
open Classical in
/-- Two paradises, one in what the other leaves. -/
theorem Para.join (hN : ∀ v, S v → v < N) (hY : Para G S p Y) (hX : Para G (fun v => S v ∧ ¬ Y v) p X) : Para G S p (fun v => X v ∨ Y v) := by
  obtain ⟨τ, b1, b2, b3, b4⟩ := hY
  obtain ⟨σ, a1, a2, a3, a4⟩ := hX
  refine ⟨fun v => if Y v then τ v else σ v, fun v hv => ?_, fun v hv ho => ?_, fun v hv ho t ht hS => ?_, fun q hq => ?_⟩
  · rcases hv with hv | hv
    · exact (a1 v hv).1
    · exact b1 v hv
  · by_cases hy : Y v
    · simp only [if_pos hy]; exact ⟨(b2 v hy ho).1, .inr (b2 v hy ho).2⟩
    · simp only [if_neg hy]
      have hx := hv.resolve_right hy
      exact ⟨(a2 v hx ho).1, .inl (a2 v hx ho).2⟩
  · by_cases hy : Y v
    · exact .inr (b3 v hy ho t ht hS)
    · have hx := hv.resolve_right hy
      by_cases hyt : Y t
      · exact .inr hyt
      · exact .inl (a3 v hx ho t ht ⟨hS, hyt⟩)
  · obtain ⟨ρ, hρ⟩ := a4 q hq
    obtain ⟨ν, hν⟩ := b4 q hq
    obtain ⟨M, hM⟩ := bounded ν N
    refine ⟨fun v => if Y v then ν v else M + 1 + ρ v, fun a b ha hb hm qa qb => ?_⟩
    by_cases hy : Y a
    · have hm' : G.mv p τ a b := ⟨hm.1, fun ho => by have := hm.2 ho; simpa only [if_pos hy] using this⟩
      have hyb : Y b := by
        by_cases ho : G.own a = p
        · rw [hm'.2 ho]; exact (b2 a hy ho).2
        · refine b3 a hy ho b hm.1 ?_
          rcases hb with hb | hb
          · exact (a1 b hb).1
          · exact b1 b hb
      simp only [if_pos hy, if_pos hyb]
      exact hν a b hy hyb hm' qa qb
    · have hx := ha.resolve_right hy
      simp only [if_neg hy]
      by_cases hyb : Y b
      · simp only [if_pos hyb]
        have := hM b (hN _ (b1 _ hyb))
        exact ⟨by omega, fun _ => by omega⟩
      · simp only [if_neg hyb]
        have hm' : G.mv p σ a b := ⟨hm.1, fun ho => by have := hm.2 ho; simpa only [if_neg hy] using this⟩
        have := hρ a b hx (hb.resolve_right hyb) hm' qa qb
        exact ⟨by omega, fun e => by have := this.2 e; omega⟩
open Classical in
/-- All is won by the player of the least priority, if all is won outside of what is attracted to it. -/
theorem Attr.whole {least : Int} (hN : ∀ v, S v → v < N) (hsub : ∀ v, S v → ∃ t ∈ G.sc v, S t) (h : Attr G S p T Y) (hT : ∀ v, T v ↔ S v ∧ G.pr v = least) (hl : ∀ v, S v → least ≤ G.pr v) (hp : least % 2 = p)
    (hX : Para G (fun v => S v ∧ ¬ Y v) p (fun v => S v ∧ ¬ Y v)) : Para G S p S := by
  obtain ⟨σ, a1, a2, a3, a4⟩ := hX
  obtain ⟨r, hr⟩ := h.rk
  have ex : ∀ v, ∃ t, S v → G.own v = p → t ∈ G.sc v ∧ S t ∧ (Y v → ¬ T v → Y t ∧ r t < r v) ∧ (¬ Y v → t = σ v) := by
    intro v
    by_cases hc : S v ∧ G.own v = p
    · obtain ⟨c1, c2⟩ := hc
      by_cases hy : Y v
      · by_cases ht : T v
        · obtain ⟨t, t1, t2⟩ := hsub v c1
          exact ⟨t, fun _ _ => ⟨t1, t2, fun _ c => absurd ht c, fun c => absurd hy c⟩⟩
        · rcases hr v hy ht with ⟨_, t, t1, t2, t3⟩ | ⟨c4, _⟩
          · exact ⟨t, fun _ _ => ⟨t1, h.sub _ t2, fun _ _ => ⟨t2, t3⟩, fun c => absurd hy c⟩⟩
          · exact absurd c2 c4
      · obtain ⟨d1, d2⟩ := a2 v ⟨c1, hy⟩ c2
        exact ⟨σ v, fun _ _ => ⟨d1, d2.1, fun c => absurd c hy, fun _ => rfl⟩⟩
    · exact ⟨0, fun c1 c2 => absurd ⟨c1, c2⟩ hc⟩
  refine ⟨fun v => choose (ex v), fun v hv => hv, fun v hv ho => ?_, fun v hv ho t ht hS => hS, fun q hq => ?_⟩
  · have := choose_spec (ex v) hv ho
    exact ⟨this.1, this.2.1⟩
  · obtain ⟨ρ, hρ⟩ := a4 q hq
    obtain ⟨M, hM⟩ := bounded r N
    rcases Int.lt_or_le q least with hql | hql
    · refine ⟨fun _ => 0, fun a b ha hb hm qa qb => ⟨Nat.le_refl _, fun e => ?_⟩⟩
      have := hl a ha; omega
    · have hne : q ≠ least := fun e => hq (by rw [e]; exact hp)
      refine ⟨fun v => if Y v then r v else M + 1 + ρ v, fun a b ha hb hm qa qb => ?_⟩
      have hta : ¬ T a := fun c => by have := ((hT a).1 c).2; omega
      by_cases hy : Y a
      · have hyb : Y b ∧ r b < r a := by
          by_cases ho : G.own a = p
          · have e := hm.2 ho
            rw [e]; exact (choose_spec (ex a) ha ho).2.2.1 hy hta
          · rcases hr a hy hta with ⟨c, _⟩ | ⟨_, c⟩
            · exact absurd c ho
            · exact c b hm.1 hb
        simp only [if_pos hy, if_pos hyb.1]
        exact ⟨by omega, fun _ => hyb.2⟩
      · simp only [if_neg hy]
        by_cases hyb : Y b
        · simp only [if_pos hyb]
          have := hM b (hN _ hb)
          exact ⟨by omega, fun _ => by omega⟩
        · simp only [if_neg hyb]
          have hm' : G.mv p σ a b := ⟨hm.1, fun ho => by rw [hm.2 ho]; exact (choose_spec (ex a) ha ho).2.2.2 hy⟩
          have := hρ a b ⟨ha, hy⟩ ⟨hb, hyb⟩ hm' qa qb
          exact ⟨by omega, fun e => by have := this.2 e; omega⟩
open Classical in
/-- A game that looks like another one through a function: paradises are taken over. -/
theorem Para.through (f : Nat → Nat) (hS : ∀ v, S2 v → S1 (f v)) (ho : ∀ v, S2 v → G2.own v = G1.own (f v)) (hp : ∀ v, S2 v → G2.pr v = G1.pr (f v)) (he : ∀ v, S2 v → ∀ t ∈ G2.sc v, S2 t → f t ∈ G1.sc (f v)) (hb : ∀ v, S2 v → ∀ u ∈ G1.sc (f v), S1 u → ∃ t ∈ G2.sc v, S2 t ∧ f t = u)
    (h : Para G1 S1 p X) : Para G2 S2 p (fun v => S2 v ∧ X (f v)) := by
  obtain ⟨σ, a1, a2, a3, a4⟩ := h
  have ex : ∀ v, ∃ t, S2 v → X (f v) → G2.own v = p → t ∈ G2.sc v ∧ S2 t ∧ f t = σ (f v) := by
    intro v
    by_cases hc : S2 v ∧ X (f v) ∧ G2.own v = p
    · obtain ⟨c1, c2, c3⟩ := hc
      rw [ho v c1] at c3
      obtain ⟨d1, d2⟩ := a2 _ c2 c3
      obtain ⟨t, t1, t2, t3⟩ := hb v c1 _ d1 (a1 _ d2)
      exact ⟨t, fun _ _ _ => ⟨t1, t2, t3⟩⟩
    · exact ⟨0, fun c1 c2 c3 => absurd ⟨c1, c2, c3⟩ hc⟩
  refine ⟨fun v => choose (ex v), fun v hv => hv.1, fun v hv hov => ?_, fun v hv hov t ht hSt => ?_, fun q hq => ?_⟩
  · obtain ⟨c1, c2, c3⟩ := choose_spec (ex v) hv.1 hv.2 hov
    refine ⟨c1, c2, ?_⟩
    rw [c3]; exact (a2 _ hv.2 (by rw [← ho v hv.1]; exact hov)).2
  · exact ⟨hSt, a3 _ hv.2 (by rw [← ho v hv.1]; exact hov) _ (he v hv.1 t ht hSt) (hS t hSt)⟩
  · obtain ⟨ρ, hρ⟩ := a4 q hq
    refine ⟨fun v => ρ (f v), fun a b ha hb' hm qa qb => ?_⟩
    have hm' : G1.mv p σ (f a) (f b) := ⟨he a ha.1 b hm.1 hb'.1, fun hoa => by
      have e := hm.2 (by rw [ho a ha.1]; exact hoa)
      rw [e]; exact (choose_spec (ex a) ha.1 ha.2 (by rw [ho a ha.1]; exact hoa)).2.2⟩
    rw [hp a ha.1] at qa
    rw [hp b hb'.1] at qb
    rw [hp a ha.1]
    exact hρ _ _ ha.2 hb'.2 hm' qa qb
theorem Para.empty : Para G S p (fun _ => False) :=
  ⟨fun v => v, fun v h => h.elim, fun v h => h.elim, fun v h => h.elim, fun q _ => ⟨fun _ => 0, fun a b h => h.elim⟩⟩
/-- The winners, from a player's side. -/
structure GoodP (G : PG) (S : Nat → Prop) (p : Int) (A B : Nat → Prop) : Prop where
  a : Para G S p A
  b : Para G S (1 - p) B
  all : ∀ v, S v → A v ∨ B v
theorem GoodP.of0 {A B : Nat → Prop} (h : GoodP G S 0 A B) : Good G S A B := ⟨h.a, h.b, h.all⟩
theorem GoodP.of1 {A B : Nat → Prop} (h : GoodP G S 1 A B) : Good G S B A := ⟨h.b, h.a, fun v hv => (h.all v hv).symm⟩
theorem Good.to0 {A B : Nat → Prop} (h : Good G S A B) : GoodP G S 0 A B := ⟨h.p0, h.p1, h.all⟩
theorem Good.to1 {A B : Nat → Prop} (h : Good G S A B) : GoodP G S 1 B A := ⟨h.p1, h.p0, fun v hv => (h.all v hv).symm⟩
theorem step_whole {A B : Nat → Prop} {least : Int} (hN : ∀ v, S v → v < N) (hsub : ∀ v, S v → ∃ t ∈ G.sc v, S t) (h : Attr G S p T Y) (hT : ∀ v, T v ↔ S v ∧ G.pr v = least) (hl : ∀ v, S v → least ≤ G.pr v) (hp : least % 2 = p)
    (hr : GoodP G (fun v => S v ∧ ¬ Y v) p A B) (hB : ∀ v, ¬ B v) : GoodP G S p S (fun _ => False) := by
  refine ⟨h.whole hN hsub hT hl hp (hr.a.congr (fun v => ⟨fun ha => ?_, fun hv => ?_⟩) (fun v => Iff.rfl)), Para.empty, fun v hv => .inl hv⟩
  · obtain ⟨_, hs, _⟩ := hr.a
    exact hs v ha
  · exact (hr.all v hv).resolve_right (hB v)
theorem step_part {A B A' B' Z : Nat → Prop} (hN : ∀ v, S v → v < N) (h2 : Two G S) (hp : p = 0 ∨ p = 1) (h : Attr G S p T Y) (hr : GoodP G (fun v => S v ∧ ¬ Y v) p A B) (hz : Attr G S (1 - p) B Z) (hr' : GoodP G (fun v => S v ∧ ¬ Z v) p A' B') :
    GoodP G S p A' (fun v => B' v ∨ Z v) := by
  have hb : Para G S (1 - p) B := hr.b.up (fun v hv => hv.1) fun v hv ho t ht hS => ⟨hS, h.own v hv.1 hv.2 (by have := h2 v hv.1; omega) t ht hS⟩
  have hz' : Para G S (1 - p) Z := hz.para hN hb
  refine ⟨hr'.a.up (fun v hv => hv.1) fun v hv ho t ht hS => ⟨hS, hz.own v hv.1 hv.2 (by have := h2 v hv.1; omega) t ht hS⟩, Para.join hN hz' hr'.b, fun v hv => ?_⟩
  by_cases hzv : Z v
  · exact .inr (.inr hzv)
  · exact (hr'.all v ⟨hv, hzv⟩).imp (fun h => h) .inl
/-- What is attracted to a paradise is it. -/
theorem Attr.own_para {W0 W1 : Nat → Prop} (hN : ∀ v, S v → v < N) (h2 : Two G S) (hp : p = 0 ∨ p = 1) (hg : GoodP G S p W0 W1) (h : Attr G S p W0 Y) (v : Nat) (hv : Y v) : W0 v := by
  have hy := h.para hN hg.a
  rcases hg.all v (h.sub v hv) with h1 | h1
  · exact h1
  · have hb := hg.b
    rcases hp with rfl | rfl
    · exact (apart hN h2 hy hb v hv h1).elim
    · exact (apart hN h2 hb hy v h1 hv).elim
end Go.Parity
