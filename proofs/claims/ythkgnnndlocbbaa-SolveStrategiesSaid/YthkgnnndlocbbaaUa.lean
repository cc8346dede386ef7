/-
  Strategies: what ref23.Beaten computes, that a winning strategy is not beaten, and that it is among those that are tried: plain law. No condition.
-/
import Derived.Test.YthkgnnndlocbbaaSh
namespace Go.Proofs.Ythkgnnndlocbbaa
set_option linter.unusedVariables false
set_option linter.unusedSimpArgs false
open Go Go.SH Go.Parity
/-- A position of a set with a priority. -/
def prioB (pr : List Int) (set : List Bool) (q : Int) (i : Nat) : Bool := set.getD i false && (pr.getD i 0 == q)
/-- A move within a set that no less priority bars, and that a strategy allows. -/
def edgeB (ow pr : List Int) (pl : Int) (set : List Bool) (s : List Int) (q : Int) (i j : Nat) : Bool :=
  set.getD i false && set.getD j false && decide (q ≤ pr.getD i 0) && decide (q ≤ pr.getD j 0) && (ow.getD i 0 != pl || s.getD i 0 == (j : Int))
/-- The moves of a position, up to one of its successors. -/
def rowB (ow pr : List Int) (su : List (List Int)) (pl : Int) (set : List Bool) (s : List Int) (q : Int) (i k j : Nat) : Bool :=
  (((su.getD i []).take k).any fun t => t == (j : Int)) && edgeB ow pr pl set s q i j
def allB (ow pr : List Int) (su : List (List Int)) (pl : Int) (set : List Bool) (s : List Int) (q : Int) (i j : Nat) : Bool := rowB ow pr su pl set s q i (su.getD i []).length j
/-- Paths, one step of three loops after the other. -/
def fwB (R : Nat → Nat → Bool) (n : Nat) : Nat → Nat → Nat → Bool
  | 0 => R
  | t + 1 => fun a b => if a = t / n % n ∧ b = t % n then fwB R n t a b || (fwB R n t a (t / n / n) && fwB R n t (t / n / n) b) else fwB R n t a b
def skipB (pr : List Int) (pl : Int) (set : List Bool) (n : Nat) (q : Int) : Bool := !((List.range n).any (prioB pr set q)) || q.tmod 2 == pl
def cycB (ow pr : List Int) (su : List (List Int)) (pl : Int) (set : List Bool) (s : List Int) (n : Nat) (q : Int) (i : Nat) : Bool := prioB pr set q i && fwB (allB ow pr su pl set s q) n (n * n * n) i i
def hitB (ow pr : List Int) (su : List (List Int)) (pl : Int) (set : List Bool) (s : List Int) (n : Nat) (q : Int) : Bool :=
  !skipB pr pl set n q && (List.range n).any (cycB ow pr su pl set s n q)
def beatB (ow pr : List Int) (su : List (List Int)) (pl : Int) (set : List Bool) (s : List Int) (n : Nat) : Bool := (List.range 30001).any fun q => hitB ow pr su pl set s n (q : Int)
theorem fw_sound {R : Nat → Nat → Bool} {n : Nat} (rel : Nat → Nat → Prop) (tr : ∀ a b c, rel a b → rel b c → rel a c) (h0 : ∀ a b, R a b = true → rel a b) : ∀ t a b, fwB R n t a b = true → rel a b
  | 0, a, b, h => h0 a b h
  | t + 1, a, b, h => by
    have ih := fw_sound (n := n) rel tr h0 t
    simp only [fwB] at h
    split at h
    · rw [Bool.or_eq_true, Bool.and_eq_true] at h
      rcases h with h | ⟨h1, h2⟩
      · exact ih a b h
      · exact tr _ _ _ (ih _ _ h1) (ih _ _ h2)
    · exact ih a b h
theorem any_not {f : Nat → Bool} {n : Nat} (h : ∀ i, i < n → f i = false) : (List.range n).any f = false := by
  rw [← Bool.not_eq_true, List.any_eq_true]
  rintro ⟨i, h1, h2⟩
  rw [h i (List.mem_range.1 h1)] at h2; cases h2
theorem any_yes {f : Nat → Bool} {n i : Nat} (hi : i < n) (h : f i = true) : (List.range n).any f = true := List.any_eq_true.2 ⟨i, List.mem_range.2 hi, h⟩
theorem any_next (f : Nat → Bool) (i : Nat) : (List.range (i + 1)).any f = ((List.range i).any f || f i) := by rw [List.range_succ, List.any_append]; simp
section
variable {ow pr : List Int} {su : List (List Int)} {pl : Int} {set : List Bool} {s : List Int} {n : Nat}
/-- A winning strategy is not beaten. -/
theorem beat_no {σ : Nat → Nat} (hp : pl = 0 ∨ pl = 1) (hf : (pg ow pr su).fine pl (inL set) σ) (hs : ∀ i, inL set i → ow.getD i 0 = pl → s.getD i 0 = (σ i : Int)) : beatB ow pr su pl set s n = false := by
  refine any_not fun q _ => ?_
  cases hh : hitB ow pr su pl set s n (q : Int)
  · rfl
  exfalso
  rw [hitB, skipB, Bool.not_or, Bool.not_not, Bool.and_eq_true, Bool.and_eq_true] at hh
  obtain ⟨⟨h1, h2⟩, h3⟩ := hh
  obtain ⟨i, _, h4⟩ := List.any_eq_true.1 h3
  rw [cycB, prioB, Bool.and_eq_true, Bool.and_eq_true] at h4
  obtain ⟨⟨h5, h6⟩, h7⟩ := h4
  have h6 : pr.getD i 0 = (q : Int) := by simpa using h6
  have h2 : ((q : Int)) % 2 ≠ pl := by
    have h2 : ¬ (q : Int).tmod 2 = pl := by simpa using h2
    rwa [Int.tmod_eq_emod_of_nonneg (by omega)] at h2
  obtain ⟨ρ, hρ⟩ := hf q h2
  have := fw_sound (fun a b => ρ b ≤ ρ a ∧ (pr.getD a 0 = (q : Int) → ρ b < ρ a)) (fun a b c ⟨x1, x2⟩ ⟨y1, _⟩ => ⟨by omega, fun e => by have := x2 e; omega⟩) (fun a b hab => by
    rw [allB, rowB, edgeB] at hab
    simp only [Bool.and_eq_true, decide_eq_true_eq, Bool.or_eq_true, bne_iff_ne, beq_iff_eq, List.any_eq_true] at hab
    obtain ⟨⟨t, t1, t2⟩, ⟨⟨⟨e1, e2⟩, e3⟩, e4⟩, e5⟩ := hab
    rw [List.take_length] at t1
    refine hρ a b e1 e2 ⟨sc_mem.2 ⟨t, t1, by omega⟩, fun ho => ?_⟩ e3 e4
    have ho : ow.getD a 0 = pl := ho
    have := hs a e1 ho
    have := e5.resolve_left (by simpa using ho)
    omega) _ i i h7
  have := this.2 h6
  omega
end
/-- The successors that a player may choose. -/
def chK (ow : List Int) (su : List (List Int)) (pl : Int) (set : List Bool) (i k : Nat) : List Int := if (set.getD i false && (ow.getD i 0 == pl)) = true then ((su.getD i []).take k).filter fun t => set.getD t.toNat false else []
def chL (ow : List Int) (su : List (List Int)) (pl : Int) (set : List Bool) (i : Nat) : List Int := chK ow su pl set i (su.getD i []).length
def proT (cs : Nat → List Int) : Nat → Nat
  | 0 => 1
  | k + 1 => proT cs k * max (cs k).length 1
def resT (cs : Nat → List Int) (m : Nat) : Nat → Nat
  | 0 => m
  | k + 1 => if 0 < (cs k).length then resT cs m k / (cs k).length else resT cs m k
def atT (cs : Nat → List Int) (m i : Nat) : Int := if 0 < (cs i).length then (cs i).getD (resT cs m i % (cs i).length) 0 else -1
def stT (cs : Nat → List Int) (m n : Nat) : List Int := (List.range n).map (atT cs m)
theorem decode (cs : Nat → List Int) (c : Nat → Nat) (hc : ∀ i, 0 < (cs i).length → c i < (cs i).length) : ∀ k, ∃ m, m < proT cs k ∧ ∀ x, resT cs (m + proT cs k * x) k = x ∧ ∀ i, i < k → 0 < (cs i).length → resT cs (m + proT cs k * x) i % (cs i).length = c i
  | 0 => ⟨0, by simp [proT], fun x => ⟨by simp [proT, resT], fun i hi => by omega⟩⟩
  | k + 1 => by
    obtain ⟨m, h1, h2⟩ := decode cs c hc k
    rcases Nat.eq_zero_or_pos (cs k).length with h0 | h0
    · have e : proT cs (k + 1) = proT cs k := by rw [proT, h0]; simp
      rw [e]
      refine ⟨m, h1, fun x => ⟨by rw [resT, if_neg (by omega)]; exact (h2 x).1, fun i hi hl => ?_⟩⟩
      rcases Nat.lt_or_ge i k with h3 | h3
      · exact (h2 x).2 i h3 hl
      · obtain rfl : i = k := by omega
        omega
    · have e : proT cs (k + 1) = proT cs k * (cs k).length := by rw [proT, Nat.max_eq_left (by omega)]
      have hck := hc k h0
      have e2 : ∀ x, m + proT cs k * c k + proT cs (k + 1) * x = m + proT cs k * (c k + (cs k).length * x) := fun x => by
        rw [e, Nat.mul_add, Nat.mul_assoc, Nat.add_assoc]
      refine ⟨m + proT cs k * c k, ?_, fun x => ?_⟩
      · rw [e]
        have : proT cs k * (c k + 1) ≤ proT cs k * (cs k).length := Nat.mul_le_mul_left _ hck
        rw [Nat.mul_add, Nat.mul_one] at this
        omega
      · rw [e2 x]
        obtain ⟨r1, r2⟩ := h2 (c k + (cs k).length * x)
        refine ⟨?_, fun i hi hl => ?_⟩
        · rw [resT, if_pos h0, r1, Nat.add_mul_div_left _ _ h0, Nat.div_eq_of_lt hck]; omega
        · rcases Nat.lt_or_ge i k with h3 | h3
          · exact r2 i h3 hl
          · obtain rfl : i = k := by omega
            rw [r1, Nat.add_mul_mod_self_left, Nat.mod_eq_of_lt hck]
theorem proT_pos (cs : Nat → List Int) : ∀ k, 0 < proT cs k
  | 0 => by simp [proT]
  | k + 1 => by rw [proT]; exact Nat.mul_pos (proT_pos cs k) (by omega)
theorem proT_le (cs : Nat → List Int) (h : ∀ i, (cs i).length ≤ 3) : ∀ k, proT cs k ≤ 3 ^ k
  | 0 => by simp [proT]
  | k + 1 => by rw [proT, Nat.pow_succ]; exact Nat.mul_le_mul (proT_le cs h k) (by have := h k; omega)
theorem wonU_at {ws : List Int} {pl : Int} {n v : Nat} (hl : ws.length = n) : inL (wonL n ws pl) v ↔ v < n ∧ ws.getD v 0 = pl := by
  show (wonL n ws pl).getD v false = true ↔ _
  rcases Nat.lt_or_ge v n with h | h
  · rw [wonL, range_map_getD _ _ _ _ h]; simp [h, hl]
  · rw [getD_ge _ _ _ (by simpa [wonL] using h)]; simp; omega
/-- There is a strategy among those that are tried that is not beaten. -/
theorem strat_ex {ow pr : List Int} {su : List (List Int)} {ws : List Int} {pl : Int} (hv : validB ow pr su = true) (hp : pl = 0 ∨ pl = 1) (hw : Wins ow pr su ws) (n : Nat) (hn : ow.length = n) :
    (∀ i, i < n → (wonL n ws pl).getD i false = true → ow.getD i 0 = pl → 0 < (chL ow su pl (wonL n ws pl) i).length) ∧ (∀ i, i < n → (wonL n ws pl).getD i false = true → ow.getD i 0 ≠ pl → ∀ t ∈ su.getD i [], (wonL n ws pl).getD t.toNat false = true) ∧
    ∃ m, m < proT (chL ow su pl (wonL n ws pl)) n ∧ beatB ow pr su pl (wonL n ws pl) (stT (chL ow su pl (wonL n ws pl)) m n) n = false := by
  have hl : ws.length = n := hw.len.trans hn
  have e : (fun v => v < ow.length ∧ ws.getD v 0 = pl) = inL (wonL n ws pl) := funext fun v => propext (by rw [hn]; exact (wonU_at hl).symm)
  have hg : Para (pg ow pr su) (fun v => v < ow.length) pl (inL (wonL n ws pl)) := by
    rw [← e]
    rcases hp with rfl | rfl
    · exact hw.good.p0
    · exact hw.good.p1
  obtain ⟨σ, a1, a2, a3, a4⟩ := hg
  obtain ⟨set, hset⟩ : ∃ set, wonL n ws pl = set := ⟨_, rfl⟩
  rw [hset] at a1 a2 a3 a4 ⊢
  have inc : ∀ i, inL set i → ow.getD i 0 = pl → (σ i : Int) ∈ chL ow su pl set i := fun i h ho => by
    obtain ⟨b1, b2⟩ := a2 i h ho
    obtain ⟨y, y1, y2⟩ := sc_mem.1 b1
    have hi := a1 i h
    have := ((validB_spec hv).2.2.2 i hi).2.2 y y1
    have h' : set.getD i false = true := h
    rw [chL, chK, if_pos (by rw [h', ho]; simp), List.take_length, List.mem_filter]
    have : y = (σ i : Int) := by omega
    subst this
    exact ⟨y1, by rw [Int.toNat_natCast]; exact b2⟩
  refine ⟨fun i hi h ho => List.length_pos_of_mem (inc i h ho), fun i hi h ho t ht => ?_, ?_⟩
  · have := ((validB_spec hv).2.2.2 i (by omega)).2.2 t ht
    exact a3 i h ho t.toNat (sc_mem.2 ⟨t, ht, rfl⟩) (by show t.toNat < ow.length; omega)
  · let cs := chL ow su pl set
    let c : Nat → Nat := fun i => if h : (σ i : Int) ∈ cs i then (cs i).idxOf (σ i : Int) else 0
    have hc : ∀ i, 0 < (cs i).length → c i < (cs i).length := fun i hi => by
      by_cases h : (σ i : Int) ∈ cs i
      · simp only [c, dif_pos h]; exact List.idxOf_lt_length_of_mem h
      · simp only [c, dif_neg h]; exact hi
    obtain ⟨m, m1, m2⟩ := decode cs c hc n
    have m2 := (m2 0).2
    rw [Nat.mul_zero, Nat.add_zero] at m2
    refine ⟨m, m1, beat_no hp a4 fun i h ho => ?_⟩
    have hi : i < n := by have := a1 i h; omega
    have hin : (σ i : Int) ∈ cs i := inc i h ho
    have hpos : 0 < (cs i).length := List.length_pos_of_mem hin
    have hlt := List.idxOf_lt_length_of_mem hin
    have em := m2 i hi hpos
    rw [show c i = (cs i).idxOf (σ i : Int) by simp only [c, dif_pos hin]] at em
    show (stT cs m n).getD i 0 = _
    rw [stT, range_map_getD _ _ _ _ hi, atT, if_pos hpos, em, List.getD_eq_getElem?_getD, List.getElem?_eq_getElem hlt]
    simp
end Go.Proofs.Ythkgnnndlocbbaa
