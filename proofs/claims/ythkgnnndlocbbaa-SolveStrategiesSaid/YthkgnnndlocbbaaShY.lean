/-
  THE SYMBOLIC HEAP, PART Y: rows within rows: given back, and frozen. No condition.
-/
import Derived.Test.YthkgnnndlocbbaaShW
namespace Go.SH
set_option linter.unusedVariables false
set_option linter.unusedSimpArgs false
open Go Go.RowKit
section
variable {P : Program} {φ φ' : Env} {H H' : List ABlk} {w w' : World} {lo : Cx}

/-- One piece, then the next. -/
theorem Sem.seq {a b : Code} {Q : Exit → St → Prop} {st : St} (h : Sem P lo a (seqK (fun s => Sem P lo b Q s) Q) st) : Sem P lo (.seq a b) Q st := by
  intro φ0 H0 w0 φ ac w hlo hs e0
  refine wpIn_seq (wpIn_mono (h φ0 H0 w0 φ ac w hlo hs e0) fun e a' w' he => ?_)
  obtain ⟨φ', st', h1, h2, h3⟩ := he
  cases e with
  | normal => exact h1 φ0 H0 w0 φ' a' w' hlo h2 h3
  | _ => exact ⟨φ', st', h1, h2, h3⟩

/-- A loop whose round is taken piece by piece. -/
theorem Sem.loopS {b : Code} {Q : Exit → St → Prop} {st : St} {T : Type} (I : T → St) (p : T → Prop) (μ : T → Nat) (ρ : List Nat) (t0 : T) (hp : p t0) (h0 : St.le lo ρ st (I t0))
    (body : ∀ t, p t → Sem P lo b (loopK lo I p μ t Q) (I t)) : Sem P lo (.loop b) Q st := by
  intro φ0 H0 w0 φ a w hlo hs e0
  obtain ⟨φ', hs', e0'⟩ := le_sound h0 hlo hs e0
  refine loop_core (R := postS Q φ0 H0 w0) (fun n a w => ∃ t φ, p t ∧ μ t = n ∧ Sat φ (I t) a w ∧ Evo φ0 H0 w0 φ (I t).heap w) ?_ (μ t0) a w ⟨t0, φ', hp, rfl, hs', e0'⟩
  rintro n a w ⟨t, φ, hp, rfl, hs, e0⟩
  refine wpIn_mono (body t hp φ0 H0 w0 φ a w hlo hs e0) fun e a' w' he => ?_
  obtain ⟨φ', st', h1, h2, h3⟩ := he
  cases e with
  | normal =>
    obtain ⟨t', ρ', hp', hlt, hle⟩ := h1
    obtain ⟨φ'', hs'', e''⟩ := le_sound hle hlo h2 h3
    exact ⟨μ t', hlt, t', φ'', hp', rfl, hs'', e''⟩
  | _ => exact ⟨φ', st', h1, h2, h3⟩

/-- A row that was taken out is given back. -/
theorem Sem.back {c : Code} {Q : Exit → St → Prop} {s : List AV} (id i k : Nat) {n sz m : Nat} {g : Nat → MRow} {f : Nat → List AV} (hb : hget H id = .mat n g) (hi : i < n) (hg : g i = .lent k) (hk : hget H k = .vec sz m f)
    (kk : Sem P lo c Q ⟨s, hset (hset H k .dead) id (.mat n (updG g i (.row sz m f)))⟩) : Sem P lo c Q ⟨s, H⟩ := by
  refine Sem.heap (fun φ w hs => ?_) kk
  obtain ⟨h1, h2, Ls, h3, h4, h5, h6⟩ := mat_facts hs hb
  obtain ⟨cc, T, k1, k2, k3⟩ := h6 (by omega)
  have hne : k ≠ id := fun e => by rw [e, hb] at hk; cases hk
  let Ls' : Nat → Loc := fun q => if q = i then φ k else Ls q
  let g' := updG g i (.row sz m f)
  let φ' : Env := ⟨φ.loc, φ.ext, fun j b => if j = id then MatOwn Ls' n g' b else φ.more j b, φ.base⟩
  let H' := hset (hset H k .dead) id (.mat n g')
  have G1 : hget H' id = .mat n g' := hget_set_same _ _ _
  have G2 : hget H' k = .dead := by show hget (hset _ _ _) _ = _; rw [hget_set_ne _ _ _ _ hne, hget_set_same]
  have G3 : ∀ j, j ≠ k → j ≠ id → hget H' j = hget H j := fun j a b => by show hget (hset _ _ _) _ = _; rw [hget_set_ne _ _ _ _ b, hget_set_ne _ _ _ _ a]
  have hown : Own φ H id := ⟨by simp [sig, hb, ABlk.sig], by omega⟩
  have ownk : 0 < (φ k).cap → OwnB φ H k (φ k).b := fun h => ⟨⟨by simp [sig, hk, ABlk.sig], h⟩, .inl rfl⟩
  have gi : (g i).own = false := by rw [hg]; rfl
  have mo : ∀ b, MatOwn Ls' n g' b → MatOwn Ls n g b ∨ (0 < (φ k).cap ∧ (φ k).b = b) := by
    rintro b ⟨q, hq, ho, hc, rfl⟩
    by_cases he : q = i
    · subst he
      simp only [Ls', if_pos] at hc ⊢
      exact .inr ⟨hc, by trivial⟩
    · simp only [Ls', if_neg he] at hc ⊢
      exact .inl ⟨q, hq, by simpa [g', updG_ne _ _ he] using ho, hc, rfl⟩
  have up : ∀ j b, OwnB φ' H' j b → j ≠ k ∧ (OwnB φ H j b ∨ (j = id ∧ OwnB φ H k b)) := by
    rintro j b ⟨⟨a1, a2⟩, a3⟩
    by_cases hjk : j = k
    · subst hjk; rw [sig, G2] at a1; simp [ABlk.sig] at a1
    refine ⟨hjk, ?_⟩
    by_cases hj : j = id
    · subst hj
      rcases a3 with a3 | a3
      · exact .inl ⟨hown, .inl a3⟩
      · rcases mo b (by simpa [φ'] using a3) with h | ⟨hc, rfl⟩
        · exact .inl ⟨hown, .inr ((h3 b).2 h)⟩
        · exact .inr ⟨rfl, ownk hc⟩
    · rw [sig, G3 j hjk hj] at a1
      exact .inl ⟨⟨a1, a2⟩, a3.imp (fun h => h) fun h => by simpa [φ', hj] using h⟩
  have upMB : ∀ b, MBo φ' H' b → MBo φ H b := by
    rintro b ⟨j, hj⟩
    rcases (up j b hj).2 with h | ⟨_, h⟩
    · exact ⟨j, h⟩
    · exact ⟨k, h⟩
  have e : Evo φ H w φ' H' w := by
    refine ⟨rfl, rfl, rfl, Nat.le_refl _, rfl, rfl, fun _ _ _ => rfl, fun b hb => .inr (upMB b hb), fun j hj => ?_, fun j s hj hs' => ?_⟩
    · by_cases he : j = id
      · subst he; rw [G1]; rfl
      · by_cases hjk : j = k
        · subst hjk; rw [G2]; rfl
        · rw [G3 j hjk he]; exact hj
    · by_cases he : j = id
      · subst he; rw [sig, G1] at hs'; exact ⟨by rw [sig, hb]; exact hs', rfl⟩
      · by_cases hjk : j = k
        · subst hjk; rw [sig, G2] at hs'; simp [ABlk.sig] at hs'
        · rw [sig, G3 j hjk he] at hs'; exact ⟨hs', rfl⟩
  have sub : ∀ b, MB φ' H' b → MB φ H b := fun b h => h.imp (upMB b) fun h => h
  have hKB := hs.blk k
  rw [hk] at hKB
  obtain ⟨kmore, krow⟩ := hKB
  have notk : ∀ b, MatOwn Ls n g b → 0 < (φ k).cap → (φ k).b ≠ b := by
    rintro b hm hc rfl
    exact hne (hs.inj k id _ (ownk hc) ⟨hown, .inr ((h3 _).2 hm)⟩)
  refine ⟨φ', ⟨fun j => ?_, fun p q b hp hq => ?_, fun j b hj => ?_, hs.extlt⟩, e⟩
  · show BRep φ' H' w j (hget H' j)
    by_cases hj : j = id
    · subst hj
      rw [G1]
      refine ⟨h1, h2, Ls', fun b => by simp [φ'], fun h => ?_, fun p q hp hq gp gq cp cq ee => ?_, fun _ => ?_⟩
      · rcases mo _ h with h | ⟨hc, hbk⟩
        · exact h4 h
        · exact hne (hs.inj k j _ (ownk hc) ⟨hown, .inl hbk.symm⟩)
      · by_cases hpi : p = i <;> by_cases hqi : q = i
        · rw [hpi, hqi]
        · subst hpi
          simp only [Ls', if_pos, if_neg hqi] at cp cq ee
          exact absurd ee (notk _ ⟨q, hq, by simpa [g', updG_ne _ _ hqi] using gq, cq, rfl⟩ cp)
        · subst hqi
          simp only [Ls', if_pos, if_neg hpi] at cp cq ee
          exact absurd ee.symm (notk _ ⟨p, hp, by simpa [g', updG_ne _ _ hpi] using gp, cp, rfl⟩ cq)
        · simp only [Ls', if_neg hpi, if_neg hqi] at cp cq ee
          exact h5 p q hp hq (by simpa [g', updG_ne _ _ hpi] using gp) (by simpa [g', updG_ne _ _ hqi] using gq) cp cq ee
      · refine ⟨cc, T, k1, k2, fun q hq => ?_⟩
        obtain ⟨v, a1, a2⟩ := k3 q hq
        refine ⟨v, a1, ?_⟩
        by_cases hqi : q = i
        · subst hqi
          rw [hg] at a2
          obtain ⟨m', b1, b2⟩ := a2
          obtain ⟨base, cap', rfl, _, _, _, _, b3⟩ := b2.inv_sl
          have hsk : sig H k = some (sz, m) := by rw [sig, hk]; rfl
          obtain rfl := b1 sz m hsk
          obtain ⟨_, b4, b5⟩ := b3 sz m' hsk
          have hc : cap' = (φ k).cap := by omega
          subst hc
          simp only [g', updG_same, Ls', if_pos]
          exact ⟨⟨base, rfl, fun h => by simpa using b5 h⟩, krow.move (fun _ _ h => h.weaken sub) fun _ => rfl⟩
        · simp only [g', updG_ne _ _ hqi, Ls', if_neg hqi]
          exact a2.keepG (fun _ _ h => h.evo e) (fun id s h1 h2 => (e.ids id s h1 h2).1) (fun _ _ h => h.weaken sub) fun _ _ => rfl
    · by_cases hjk : j = k
      · subst hjk; rw [G2]; trivial
      · rw [G3 j hjk hj]
        exact BRep.keep e rfl (fun b => by simp [φ', hj]) (fun _ _ _ _ => rfl) (hs.blk j)
  · obtain ⟨p1, p2⟩ := up p b hp
    obtain ⟨q1, q2⟩ := up q b hq
    rcases p2 with p2 | ⟨rfl, p2⟩ <;> rcases q2 with q2 | ⟨hq2, q2⟩
    · exact hs.inj p q b p2 q2
    · exact absurd (hs.inj p k b p2 q2) p1
    · exact absurd (hs.inj q k b q2 p2) q1
    · exact hq2.symm
  · rcases (up j b hj).2 with h | ⟨_, h⟩
    · exact hs.ext j b h
    · exact hs.ext k b h

/-- A row at a place, as a value that is only read. -/
theorem row_ro {M M0 : Nat → Prop} {L : Loc} {sz n : Nat} {f : Nat → List AV} {base : Option Addr} (h : RowRep w M0 L sz n f) (hbase : 0 < L.cap → base = some ⟨L.b, L.o, none⟩) (hM : ∀ b, M b → M0 b) (hMid : 0 < n → ¬ M L.b) :
    RepG w M (.ro n f) (.slice base n L.cap) := by
  obtain ⟨hszp, hnc, hcm, hlen, hcells⟩ := h
  by_cases h0 : 0 < n
  · obtain ⟨c, T, hheap, hfit, hrep⟩ := hcells (by omega)
    have ex : ∀ i j, i < n → j < sz → ∃ v, c[L.o + i * sz + j]? = some v ∧ v.oneCell' = true ∧ ∀ av, (f i)[j]? = some av → RepG w M0 av v := by
      intro i j hi hj
      have : j < (f i).length := by rw [hlen i hi]; exact hj
      obtain ⟨v, h1, h2, h3⟩ := hrep i j _ hi (List.getElem?_eq_getElem this)
      exact ⟨v, h1, h2, fun av hav => by rw [List.getElem?_eq_getElem this] at hav; cases hav; exact h3⟩
    have div : ∀ k, k < n * sz → k / sz < n ∧ k % sz < sz ∧ k = k / sz * sz + k % sz := by
      intro k hk
      exact ⟨Nat.div_lt_of_lt_mul (by rw [Nat.mul_comm]; exact hk), Nat.mod_lt _ hszp, (Nat.div_add_mod' ..).symm⟩
    refine .ro _ _ L.b L.o sz (fun k => (c[L.o + k]?).getD undef) hnc hcm hszp (fun _ => hbase (by omega)) hMid ?_ ?_ (fun i hi => hlen i hi) ?_
    · intro k hk
      obtain ⟨d1, d2, d3⟩ := div k hk
      obtain ⟨v, h1, _⟩ := ex (k / sz) (k % sz) d1 d2
      rw [Nat.add_assoc, ← d3] at h1
      simp [World.cell?, hheap, h1]
    · intro k hk
      obtain ⟨d1, d2, d3⟩ := div k hk
      obtain ⟨v, h1, h2, _⟩ := ex (k / sz) (k % sz) d1 d2
      rw [Nat.add_assoc, ← d3] at h1
      simp [h1, h2]
    · intro i j av hi hav
      have hj : j < sz := by rw [← hlen i hi]; exact (List.getElem?_eq_some_iff.1 hav).1
      obtain ⟨v, h1, _, h3⟩ := ex i j hi hj
      have e : L.o + (i * sz + j) = L.o + i * sz + j := by omega
      rw [e, h1]
      exact (h3 av hav).weaken hM
  · have : n = 0 := by omega
    subst this
    exact .ro _ _ 0 0 1 (fun _ => undef) hnc hcm (by omega) (by simp) (by simp) (by intro k hk; omega) (by intro k hk; omega) (by intro i hi; omega) (by intro i j c hi; omega)

/-- A row of rows is given up to reading: its rows are values. -/
theorem Sem.matfrz {c : Code} {Q : Exit → St → Prop} {s : List AV} (id : Nat) {n : Nat} {g : Nat → MRow} (sz : Nat) (ms : Nat → Nat) (fs : Nat → Nat → List AV) (F : Nat → List AV) (hb : hget H id = .mat n g) (hg : ∀ i, i < n → g i = .row sz (ms i) (fs i)) (hF : ∀ i, i < n → F i = [.ro (ms i) (fs i)])
    (kk : Sem P lo c Q ⟨s, hset H id (.vec 1 n F)⟩) : Sem P lo c Q ⟨s, H⟩ := by
  refine Sem.heap (fun φ w hs => ?_) kk
  obtain ⟨h1, h2, Ls, h3, h4, h5, h6⟩ := mat_facts hs hb
  let φ' : Env := ⟨φ.loc, φ.ext, fun j b => j ≠ id ∧ φ.more j b, φ.base⟩
  let H' := hset H id (.vec 1 n F)
  have G1 : hget H' id = .vec 1 n F := hget_set_same _ _ _
  have G3 : ∀ j, j ≠ id → hget H' j = hget H j := fun j b => hget_set_ne _ _ _ _ b
  have hsH : sig H id = some (1, n) := by rw [sig, hb]; rfl
  have up : ∀ j b, OwnB φ' H' j b → OwnB φ H j b ∧ (j = id → b = (φ id).b) := by
    rintro j b ⟨⟨a1, a2⟩, a3⟩
    by_cases hj : j = id
    · subst hj
      have a3 : (φ j).b = b := a3.resolve_right fun h => h.1 rfl
      exact ⟨⟨⟨by rw [hsH]; rfl, a2⟩, .inl a3⟩, fun _ => a3.symm⟩
    · rw [sig, G3 j hj] at a1
      exact ⟨⟨⟨a1, a2⟩, a3.imp (fun h => h) fun h => h.2⟩, fun h => absurd h hj⟩
  have upMB : ∀ b, MBo φ' H' b → MBo φ H b := fun b ⟨j, hj⟩ => ⟨j, (up j b hj).1⟩
  have e : Evo φ H w φ' H' w := by
    refine ⟨rfl, rfl, rfl, Nat.le_refl _, rfl, rfl, fun _ _ _ => rfl, fun b hb => .inr (upMB b hb), fun j hj => ?_, fun j s hj hs' => ?_⟩
    · by_cases he : j = id
      · subst he; rw [G1]; rfl
      · rw [G3 j he]; exact hj
    · by_cases he : j = id
      · subst he; rw [sig, G1] at hs'; exact ⟨by rw [hsH]; exact hs', rfl⟩
      · rw [sig, G3 j he] at hs'; exact ⟨hs', rfl⟩
  have sub : ∀ b, MB φ' H' b → MB φ H b := fun b h => h.imp (upMB b) fun h => h
  refine ⟨φ', ⟨fun j => ?_, fun p q b hp hq => hs.inj p q b (up p b hp).1 (up q b hq).1, fun j b hj => hs.ext j b (up j b hj).1, hs.extlt⟩, e⟩
  show BRep φ' H' w j (hget H' j)
  by_cases hj : j = id
  · subst hj
    rw [G1]
    refine ⟨fun b h => h.1 rfl, by omega, h1, h2, fun i hi => by rw [hF i hi]; rfl, fun hc => ?_⟩
    obtain ⟨cc, T, k1, k2, k3⟩ := h6 hc
    refine ⟨cc, T, k1, by rw [Nat.mul_one]; exact k2, fun i q av hi hav => ?_⟩
    rw [hF i hi] at hav
    have hq : q = 0 := by
      have := (List.getElem?_eq_some_iff.1 hav).1
      simpa using this
    subst hq
    simp only [List.getElem?_cons_zero, Option.some.injEq] at hav
    subst hav
    obtain ⟨v, a1, a2⟩ := k3 i hi
    rw [hg i hi] at a2
    obtain ⟨⟨bo, rfl, a3⟩, a4⟩ := a2
    refine ⟨_, by rw [Nat.mul_one, Nat.add_zero]; exact a1, rfl, row_ro a4 a3 sub fun h0 => ?_⟩
    have hcap : 0 < (Ls i).cap := by have := a4.2.1; omega
    have ho : OwnB φ H j (Ls i).b := ⟨⟨by rw [hsH]; rfl, hc⟩, .inr ((h3 _).2 ⟨i, hi, by rw [hg i hi]; rfl, hcap, rfl⟩)⟩
    rintro (⟨q, hq⟩ | hx)
    · obtain ⟨b1, b2⟩ := up q _ hq
      have hqj := hs.inj q j _ b1 ho
      exact h4 (by rw [← b2 hqj]; exact ⟨i, hi, by rw [hg i hi]; rfl, hcap, rfl⟩)
    · exact hs.ext j _ ho hx
  · rw [G3 j hj]
    exact BRep.keep e rfl (fun b => by simp [φ', hj]) (fun _ _ _ _ => rfl) (hs.blk j)

/-- A row is given up to reading, in the slots and in a variable that holds it. -/
theorem Sem.freezeB {c : Code} {Q : Exit → St → Prop} {s : List AV} (id b : Nat) {sz n : Nat} {f : Nat → List AV} {cs : List AV} (hb : hget H id = .vec sz n f) (hbb : hget H b = .box cs)
    (k : Sem P lo c Q ⟨mapA (frz id n f 2) s, hset (hset H id .dead) b (.box (mapA (frz id n f 2) cs))⟩) : Sem P lo c Q ⟨s, H⟩ := by
  refine Sem.ghost (st' := ⟨mapA (frz id n f 2) s, hset (hset H id .dead) b (.box (mapA (frz id n f 2) cs))⟩) (fun φ a w hs => ?_) k
  have hne : b ≠ id := fun e => by rw [e, hb] at hbb; cases hbb
  have hu : (hget H id).used = true := by rw [hb]; rfl
  have e1 := evo_kill (φ := φ) (w := w) hu
  have hs1 := hsat_kill hs.heap hu
  have hb1 : hget (hset H id .dead) b = .box cs := by rw [hget_set_ne _ _ _ _ hne]; exact hbb
  have hB := hs.heap.blk b
  simp only at hB
  rw [hbb] at hB
  obtain ⟨k1, k0, cc, T, k2, k3⟩ := hB
  have hl : (mapA (frz id n f 2) cs).length = cs.length := by rw [mapA_eq]; simp
  have hsig : (ABlk.box (mapA (frz id n f 2) cs)).sig = sig (hset H id .dead) b := by simp [sig, hb1, ABlk.sig, hl]
  have hown : Own φ (hset H id .dead) b := ⟨by simp [sig, hb1, ABlk.sig], by omega⟩
  have e2 := evo_put (w' := w) hs1 hsig hown (fun _ => trivial) rfl rfl rfl rfl (fun b _ => rfl)
  have hs2 : HSat φ (hset (hset H id .dead) b (.box (mapA (frz id n f 2) cs))) w := by
    refine hsat_put hs1 hsig hown rfl rfl rfl rfl (fun b _ => rfl) ⟨k1, k0, cc, T, k2, fun j av hav => ?_⟩
    rw [mapA_eq] at hav
    simp only [List.getElem?_map] at hav
    cases hj : cs[j]? with
    | none => simp [hj] at hav
    | some a0 =>
      simp [hj] at hav
      subst hav
      obtain ⟨v, k4, k5⟩ := k3 j a0 hj
      exact ⟨v, k4, (frz_rep hs.heap hb 2 a0 v k5).evo e2⟩
  refine ⟨φ, ⟨hs2, by rw [mapA_eq]; simpa using hs.len, fun i => ?_, hs.marks.evo (e1.trans e2) rfl⟩, e1.trans e2⟩
  simp only
  rw [mapA_eq (frz id n f 2) s, sget_getElem?, List.getElem?_map]
  have := hs.slots i
  rw [sget_getElem?] at this
  cases hi : s[i]? with
  | none => exact .undef _
  | some av => rw [hi] at this; exact (frz_rep hs.heap hb 2 av _ this).evo e2
end
end Go.SH
