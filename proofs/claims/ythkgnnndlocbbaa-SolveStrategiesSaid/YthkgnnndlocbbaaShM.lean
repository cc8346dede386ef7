/-
  THE SYMBOLIC HEAP, PART M: a call by contract, in the middle of a run. No condition.
-/
import Derived.Test.YthkgnnndlocbbaaShL
namespace Go.SH
set_option linter.unusedVariables false
set_option linter.unusedSimpArgs false
open Go Go.RowKit
section
variable {P : Program} {φ φ' : Env} {H H' : List ABlk} {w w' : World}

def AR.list : AR → List AR1
  | .one r => [r]
  | .tup rs => rs
  | .own .. => []
def AR.isOwn : AR → Bool
  | .own .. => true
  | _ => false
theorem AR.u_eq (nid : Nat) (r : AR) (h : r.isOwn = false) : r.u nid = impU nid r.list := by
  cases r with
  | one r => cases r <;> rfl
  | tup rs => rfl
  | own => cases h
theorem AR.nv_eq (r : AR) (h : r.isOwn = false) : r.nv = nvec r.list := by
  cases r with
  | own => cases h
  | _ => rfl
theorem memless_list (r : AR) (h : r.memless) : ∀ r1 ∈ r.list, r1.memless := by
  cases r with
  | one r => intro r1 h1; simp [AR.list] at h1; subst h1; exact h
  | tup rs =>
    simp only [AR.list]
    have : ∀ l : List AR1, memlessL l → ∀ r1 ∈ l, r1.memless := by
      intro l
      induction l with
      | nil => intro _ r1 h; simp at h
      | cons x l ih =>
        intro hm r1 h1
        rcases List.mem_cons.1 h1 with rfl | h1
        · exact hm.1
        · exact ih hm.2 r1 h1
    exact this rs h
  | own => exact h.elim

theorem OB_ge {rs : List AR1} {Ls : Nat → Loc} {base : Nat} {M : Nat → Prop} {vs : List Value} (hl : rs.length = vs.length) (h : ∀ (i : Nat) r u, rs[i]? = some r → vs[i]? = some u → R1 base w M (Ls i) r u) :
    ∀ b, OB rs Ls b → base ≤ b ∧ b < w.heap.size := by
  rintro b ⟨i, r, hr, hv, hc, rfl⟩
  have hi : i < vs.length := by rw [← hl]; exact (List.getElem?_eq_some_iff.1 hr).1
  have := h i r _ hr (List.getElem?_eq_getElem hi)
  cases r with
  | val g => cases hv
  | vec sz n f =>
    obtain ⟨bo, _, _, _, _, _, h6⟩ := this
    obtain ⟨k1, _, c, T, k3, _⟩ := h6 hc
    exact ⟨k1, (Array.getElem?_eq_some_iff.1 k3).1⟩

theorem R1.weaken {base : Nat} {M M' : Nat → Prop} {L : Loc} {r : AR1} {v : Value} (h : R1 base w M L r v) (hm : (∀ b, M' b → M b) ∨ r.memless) : R1 base w M' L r v := by
  cases r with
  | val g =>
    rcases hm with hm | hm
    · exact RepG.weaken hm h
    · exact RepG.flat hm h
  | vec sz n f =>
    obtain ⟨bo, h1, h2, h3, h4, h5, h6⟩ := h
    refine ⟨bo, h1, h2, h3, h4, h5, fun hc => ?_⟩
    obtain ⟨k1, k2, c, T, k3, k4, k5⟩ := h6 hc
    refine ⟨k1, k2, c, T, k3, k4, fun p q av hp hav => ?_⟩
    obtain ⟨v, j1, j2, j3⟩ := k5 p q av hp hav
    refine ⟨v, j1, j2, ?_⟩
    rcases hm with hm | hm
    · exact j3.weaken hm
    · exact j3.scalar (hm p hp av (List.mem_of_getElem? hav))

/-- The results of a call by contract, taken over. -/
theorem import_sound {f : FuncId} {rs : List AR1} {vs : List Value} {M : Nat → Prop} {nid : Nat} (hs : HSat φ H w) (hb : Below w.heap.size w w') (hr : RRepL w.heap.size w' M rs vs)
    (hM : (M = MB φ H) ∨ ∀ r ∈ rs, r.memless) (hfr : ∀ k, k < nvec rs → hget H (nid + k) = .fresh) :
    ∃ φ', HSat φ' (applyU H (impU nid rs)) w' ∧ Evo φ H w φ' (applyU H (impU nid rs)) w' ∧ (impV nid rs).length = vs.length ∧
      ∀ (k : Nat) c u, (impV nid rs)[k]? = some c → vs[k]? = some u → Rep φ' (applyU H (impU nid rs)) w' c u := by
  obtain ⟨Ls, hl, hR, hinj⟩ := hr
  have hOB := OB_ge hl hR
  have hs1 := hsat_below hs hb
  let φ1 : Env := ⟨φ.loc, fun b => φ.ext b ∨ OB rs Ls b, φ.more, φ.base⟩
  have own1 : ∀ k, Own φ1 H k ↔ Own φ H k := fun k => Iff.rfl
  have mb1 : ∀ b, MB φ1 H b ↔ MB φ H b ∨ OB rs Ls b := fun b => by
    constructor
    · rintro (h | h | h)
      · exact .inl (.inl h)
      · exact .inl (.inr h)
      · exact .inr h
    · rintro ((h | h) | h)
      · exact .inl h
      · exact .inr (.inl h)
      · exact .inr (.inr h)
  have kept1 : Kept φ H w φ1 H w' := by
    refine ⟨fun b h _ => hb.block b h, fun b h hm => ?_, fun _ h => h, fun _ _ _ h => ⟨h, rfl⟩⟩
    rcases (mb1 b).1 hm with h1 | h1
    · exact h1
    · have := (hOB b h1).1; omega
  have hsat1 : HSat φ1 H w' := by
    refine ⟨fun k => BRep.kept kept1 rfl (fun _ => Iff.rfl) (fun b h1 h2 h3 => hb.block _ (ownB_lt hs ⟨⟨h1, h2⟩, h3⟩)) (hs.blk k), hs.inj, fun k b hk hx => ?_, fun b hx => ?_⟩
    · have h1 : b < w.heap.size := ownB_lt hs hk
      rcases hx with hx | hx
      · exact hs.ext k b hk hx
      · exact absurd (hOB _ hx).1 (by omega)
    · rcases hx with hx | hx
      · exact hs1.extlt b hx
      · exact (hOB b hx).2
  have hR1 : ∀ (k : Nat) r u, rs[k]? = some r → vs[k]? = some u → R1 w.heap.size w' (MB φ1 H) (Ls (0 + k)) r u := by
    intro k r u h1 h2
    rw [Nat.zero_add]
    refine (hR k r u h1 h2).weaken ?_
    rcases hM with rfl | hM
    · exact .inl fun b hb => (mb1 b).1 hb
    · exact .inr (hM r (List.mem_of_getElem? h1))
  have hext1 : ∀ (k : Nat) r, rs[k]? = some r → r.isVec = true → 0 < (Ls (0 + k)).cap → φ1.ext (Ls (0 + k)).b := by
    intro k r h1 h2 h3
    rw [Nat.zero_add] at h3 ⊢
    exact .inr ⟨k, r, h1, h2, h3, rfl⟩
  have hinj1 : ∀ (k l : Nat) r r', rs[k]? = some r → rs[l]? = some r' → r.isVec = true → r'.isVec = true → 0 < (Ls (0 + k)).cap → 0 < (Ls (0 + l)).cap → (Ls (0 + k)).b = (Ls (0 + l)).b → k = l := by
    intro k l r r' h1 h2 h3 h4 h5 h6 h7
    rw [Nat.zero_add] at h5 h6 h7
    rw [Nat.zero_add] at h7
    exact hinj k l r r' h1 h2 h3 h4 h5 h6 h7
  obtain ⟨g1, g2, g3, g4, g5, g6⟩ := take_all Ls w.heap.size (MB φ1 H) rs 0 nid φ1 H vs hsat1 (fun _ => Iff.rfl) hfr hl hR1 hext1 hinj1
  have hext : (impφ Ls 0 nid rs φ1).ext = φ.ext := by
    funext b
    apply propext
    rw [g6 b]
    constructor
    · rintro ⟨h1 | ⟨k, r, h1, h2, h3, rfl⟩, h4⟩
      · exact h1
      · exact absurd rfl (by have := h4 k r h1 h2; rw [Nat.zero_add] at this; exact this h3)
    · intro h
      refine ⟨.inl h, fun k r h1 h2 h3 he => ?_⟩
      rw [Nat.zero_add] at h3 he
      have := (hOB b ⟨k, r, h1, h2, h3, he.symm⟩).1
      have := hs.extlt b h
      omega
  refine ⟨impφ Ls 0 nid rs φ1, g1, ?_, g4, g5⟩
  have k2 : ∀ id, (hget H id).used = true → (hget (applyU H (impU nid rs)) id).used = true := g2.used
  have hbase : ∀ (rs : List AR1) (i nid : Nat) (φ : Env), (impφ Ls i nid rs φ).base = φ.base := by
    intro rs
    induction rs with
    | nil => intro i nid φ; rfl
    | cons r rs ih => intro i nid φ; cases r <;> simp only [impφ, ih] <;> rfl
  refine ⟨hb.os, hb.tape, hb.output, hb.size, hext, hbase rs 0 nid φ1, fun b h _ => hb.block b h, fun b hm => ?_, k2, fun id s h1 h2 => g2.ids id s h1 h2⟩
  rcases (mb1 b).1 ((g3 b).1 (.inl hm)) with h1 | h1
  · rcases h1 with h1 | h1
    · exact .inr h1
    · obtain ⟨id, hid⟩ := hm
      have := g1.ext id b hid
      rw [hext] at this
      exact absurd h1 this
  · exact .inl (hOB b h1).1

theorem roB_rep {φ φ' : Env} {H H' : List ABlk} {w : World} (hM : ∀ b, MB φ' H' b → MB φ H b) : ∀ (n : Nat) (av : AV) (v : Value), av.roB n = true → Rep φ H w av v → Rep φ' H' w av v
  | 0, av, v, hs, _ => by cases av <;> simp [AV.roB] at hs
  | n + 1, av, v, hs, h => by
    cases h with
    | g h => exact .g (h.weaken hM)
    | agg hl h => exact .agg hl fun i c u h1 h2 => roB_rep hM n c u ((allA_iff _ _).1 hs c (List.mem_of_getElem? h1)) (h i c u h1 h2)
    | tup hl h => exact .tup hl fun i c u h1 h2 => roB_rep hM n c u ((allA_iff _ _).1 hs c (List.mem_of_getElem? h1)) (h i c u h1 h2)
    | fn hl h => exact .fn hl fun i c u h1 h2 => roB_rep hM n c u ((allA_iff _ _).1 hs c (List.mem_of_getElem? h1)) (h i c u h1 h2)
    | sl => simp [AV.roB] at hs
    | ptr => simp [AV.roB] at hs
    | yld => simp [AV.roB] at hs
    | mp => simp [AV.roB] at hs
theorem own1_calls {f : FuncId} {sz m n id nid ix : Nat} {fr g : Nat → List AV} {args : List AV} (h : Own1 P f sz m fr ix args n g) (hix : args[ix]? = some (.sl id 0 m)) (hs : HSat φ H w) (hb : hget H id = .vec sz m fr) (hf : hget H nid = .fresh) {vs : Array Value} (hrep : RepAll φ H w args vs) :
    Calls P f vs w fun e w' => ∃ φ' v, e = .returned v ∧ HSat φ' (applyU H [(id, .dead), (nid, .vec sz n g)]) w' ∧ Rep φ' (applyU H [(id, .dead), (nid, .vec sz n g)]) w' (.sl nid 0 n) v ∧ Evo φ H w φ' (applyU H [(id, .dead), (nid, .vec sz n g)]) w' := by
  obtain ⟨hsc, hok, hc⟩ := h
  have hne : nid ≠ id := fun e => by rw [e, hb] at hf; cases hf
  have hnmore : ∀ b, ¬ φ.more id b := by have := hs.blk id; rw [hb] at this; exact this.1
  let φs : Env := ⟨fun _ => φ id, fun b => φ.ext b ∨ ∃ k, k ≠ id ∧ OwnB φ H k b, fun _ _ => False, φ.base⟩
  have hsig1 : sig [ABlk.vec sz m fr] 0 = some (sz, m) := rfl
  have hsigH : sig H id = some (sz, m) := by simp [sig, hb, ABlk.sig]
  have own0 : ∀ k, Own φs [.vec sz m fr] k ↔ k = 0 ∧ 0 < (φ id).cap := by
    intro k
    constructor
    · rintro ⟨h1, h2⟩
      cases k with
      | zero => exact ⟨rfl, h2⟩
      | succ k => simp [sig, hget, ABlk.sig] at h1
    · rintro ⟨rfl, h⟩; exact ⟨rfl, h⟩
  have hownid : 0 < (φ id).cap → Own φ H id := fun h => ⟨by rw [hsigH]; rfl, h⟩
  have ownB0 : ∀ k b, OwnB φs [.vec sz m fr] k b ↔ k = 0 ∧ 0 < (φ id).cap ∧ (φ id).b = b := by
    intro k b
    constructor
    · rintro ⟨h1, h2⟩
      obtain ⟨rfl, h3⟩ := (own0 k).1 h1
      exact ⟨rfl, h3, h2.resolve_right (fun h => h)⟩
    · rintro ⟨rfl, h3, h2⟩; exact ⟨(own0 0).2 ⟨rfl, h3⟩, .inl h2⟩
  have mb : ∀ b, MB φs [.vec sz m fr] b ↔ MB φ H b := by
    intro b
    constructor
    · rintro (⟨k, hk⟩ | h | ⟨k, _, hk⟩)
      · obtain ⟨_, h3, h4⟩ := (ownB0 k b).1 hk
        exact .inl ⟨id, hownid h3, .inl h4⟩
      · exact .inr h
      · exact .inl ⟨k, hk⟩
    · rintro (⟨k, hk⟩ | h)
      · by_cases he : k = id
        · subst he; exact .inl ⟨0, (ownB0 0 b).2 ⟨rfl, hk.1.2, hk.2.resolve_right (hnmore b)⟩⟩
        · exact .inr (.inr ⟨k, he, hk⟩)
      · exact .inr (.inl h)
  have hss : HSat φs [.vec sz m fr] w := by
    refine ⟨fun k => ?_, fun i j b hi hj => by rw [((ownB0 i b).1 hi).1, ((ownB0 j b).1 hj).1], fun i b hi hx => ?_, fun b hx => ?_⟩
    · cases k with
      | zero =>
        have hB := hs.blk id
        rw [hb] at hB
        obtain ⟨hnm, h1, h2, h3, h4, h5⟩ := hB
        refine ⟨fun _ h => h, h1, h2, h3, h4, fun hc => ?_⟩
        obtain ⟨c, T, h6, h7, h8⟩ := h5 hc
        refine ⟨c, T, h6, h7, fun p q av hp hav => ?_⟩
        obtain ⟨v, h9, h10, h11⟩ := h8 p q av hp hav
        exact ⟨v, h9, h10, h11.weaken fun b hb => (mb b).1 hb⟩
      | succ k => simp [hget, BRep]
    · obtain ⟨rfl, hcap, rfl⟩ := (ownB0 i b).1 hi
      rcases hx with hx | ⟨k, hk, hko⟩
      · exact hs.ext' id (hownid hcap) hx
      · exact hk (hs.inj k id _ hko ⟨hownid hcap, .inl rfl⟩)
    · rcases hx with hx | ⟨k, _, hk⟩
      · exact hs.extlt b hx
      · exact ownB_lt hs hk
  obtain ⟨hl, hr⟩ := hrep
  have hrs : RepAll φs [.vec sz m fr] w (args.set ix (.sl 0 0 m)) vs := by
    refine ⟨by simpa using hl, fun j c u h1 h2 => ?_⟩
    by_cases hj : j = ix
    · subst hj
      have hjl : j < args.length := by
        rcases Nat.lt_or_ge j args.length with h | h
        · exact h
        · rw [List.getElem?_eq_none h] at hix; cases hix
      rw [List.getElem?_set_self hjl] at h1
      simp at h1; subst h1
      obtain ⟨base, cap', rfl, _, k1, k2, k3, k4⟩ := (hr j _ u hix h2).inv_sl
      refine .sl base cap' rfl k1 k2 k3 fun sz' n' hs' => ?_
      rw [hsig1] at hs'; cases hs'
      exact k4 sz m hsigH
    · rw [List.getElem?_set_ne (fun e => hj e.symm)] at h1
      exact roB_rep (fun b hb => (mb b).1 hb) 6 c u (hsc j c hj h1) (hr j c u h1 h2)
  refine (hc φs w vs hss hrs).mono fun e w' he => ?_
  obtain ⟨res, Ho, φo, v, rfl, ⟨k, rfl, hk⟩, hso, hro, eo⟩ := he
  have hsigk : sig Ho k = some (sz, n) := by simp [sig, hk, ABlk.sig]
  have hkmore : ∀ b, ¬ φo.more k b := by have := hso.blk k; rw [hk] at this; exact this.1
  have ownk : 0 < (φo k).cap → OwnB φo Ho k (φo k).b := fun h => ⟨⟨by rw [hsigk]; rfl, h⟩, .inl rfl⟩
  -- the new row's block
  have hblk : 0 < (φo k).cap → w.heap.size ≤ (φo k).b ∨ (Own φ H id ∧ (φo k).b = (φ id).b) := by
    intro hcap
    rcases eo.blk (φo k).b ⟨k, ownk hcap⟩ with h | ⟨i, hi⟩
    · exact .inl h
    · obtain ⟨_, h3, h4⟩ := (ownB0 i _).1 hi
      exact .inr ⟨hownid h3, h4.symm⟩
  have hE : applyU H [(id, .dead), (nid, .vec sz n g)] = hset (hset H id .dead) nid (.vec sz n g) := rfl
  rw [hE]
  have g1 : hget (hset (hset H id .dead) nid (.vec sz n g)) nid = .vec sz n g := hget_set_same _ _ _
  have g2 : hget (hset (hset H id .dead) nid (.vec sz n g)) id = .dead := by rw [hget_set_ne _ _ _ _ (Ne.symm hne), hget_set_same]
  have g3 : ∀ j, j ≠ nid → j ≠ id → hget (hset (hset H id .dead) nid (.vec sz n g)) j = hget H j := fun j h1 h2 => by rw [hget_set_ne _ _ _ _ h1, hget_set_ne _ _ _ _ h2]
  have p1 : setφ φ nid (φo k) nid = φo k := setφ_same _ _ _
  have p2 : ∀ j, j ≠ nid → setφ φ nid (φo k) j = φ j := fun j h => setφ_ne _ _ h
  have own2 : ∀ j b, OwnB (setφ φ nid (φo k)) (hset (hset H id .dead) nid (.vec sz n g)) j b → (j = nid ∧ 0 < (φo k).cap ∧ (φo k).b = b) ∨ (j ≠ nid ∧ j ≠ id ∧ OwnB φ H j b) := by
    intro j b hj
    by_cases hj1 : j = nid
    · subst hj1
      obtain ⟨⟨_, h2⟩, h3⟩ := hj
      rw [p1] at h2 h3
      exact .inl ⟨rfl, h2, h3.resolve_right (setφ_none _ _ _ b)⟩
    · obtain ⟨h1, h2⟩ := ownB_kill ((ownB_set hj1).1 hj)
      exact .inr ⟨hj1, h1, h2⟩
  have mb2 : ∀ b, MB (setφ φ nid (φo k)) (hset (hset H id .dead) nid (.vec sz n g)) b → MB φo Ho b := by
    rintro b (⟨j, hj⟩ | h)
    · rcases own2 j b hj with ⟨rfl, hcap, rfl⟩ | ⟨h1, h2, h3⟩
      · exact .inl ⟨k, ownk hcap⟩
      · exact .inr (by rw [eo.ext]; exact .inr ⟨j, h2, h3⟩)
    · exact .inr (by rw [eo.ext]; exact .inl h)
  have evo : Evo φ H w (setφ φ nid (φo k)) (hset (hset H id .dead) nid (.vec sz n g)) w' := by
    refine ⟨eo.os, eo.tape, eo.output, eo.size, rfl, rfl, fun b hb' hm => eo.frame b hb' fun ⟨i, hi⟩ => ?_, ?_, fun i hi => ?_, fun i s' hi hsi => ?_⟩
    · obtain ⟨_, h3, h4⟩ := (ownB0 i b).1 hi
      exact hm ⟨id, hownid h3, .inl h4⟩
    · rintro b ⟨j, hj⟩
      rcases own2 j b hj with ⟨rfl, hcap, rfl⟩ | ⟨h1, h2, h3⟩
      · rcases hblk hcap with h | ⟨h, e⟩
        · exact .inl h
        · exact .inr ⟨id, h, .inl e.symm⟩
      · exact .inr ⟨j, h3⟩
    · by_cases h1 : i = id
      · subst h1; rw [g2]; rfl
      · by_cases h2 : i = nid
        · subst h2; rw [g1]; rfl
        · rw [g3 i h2 h1]; exact hi
    · have h2 : i ≠ nid := fun e => by rw [e, hf] at hi; cases hi
      have h1 : i ≠ id := fun e => by rw [e, sig, g2] at hsi; cases hsi
      rw [sig, g3 i h2 h1] at hsi
      exact ⟨hsi, p2 i h2⟩
  have fresh_ne : ∀ j b, j ≠ id → OwnB φ H j b → 0 < (φo k).cap → (φo k).b ≠ b := by
    intro j b hj hjo hcap he
    rcases hblk hcap with h | ⟨h, e⟩
    · have := ownB_lt hs hjo; omega
    · exact hj (hs.inj j id b hjo ⟨h, .inl (by rw [← he, e])⟩)
  refine ⟨setφ φ nid (φo k), v, rfl, ⟨fun j => ?_, fun i j b hi hj => ?_, fun i b hi => ?_, fun b hx => Nat.lt_of_lt_of_le (hs.extlt b hx) eo.size⟩, ?_, evo⟩
  · by_cases hj : j = nid
    · subst hj
      rw [g1]
      have hB := hso.blk k
      rw [hk] at hB
      obtain ⟨_, h1, h2, h3, h4, h5⟩ := hB
      refine ⟨setφ_none _ _ _, h1, by rw [p1]; exact h2, by rw [p1]; exact h3, h4, fun hc => ?_⟩
      rw [p1] at hc
      obtain ⟨c, T, h6, h7, h8⟩ := h5 hc
      refine ⟨c, T, by rw [p1]; exact h6, by rw [p1]; exact h7, fun p q av hp hav => ?_⟩
      obtain ⟨v, h9, h10, h11⟩ := h8 p q av hp hav
      exact ⟨v, by rw [p1]; exact h9, h10, h11.weaken mb2⟩
    · by_cases hj2 : j = id
      · subst hj2; rw [g2]; trivial
      · rw [g3 j hj hj2]
        refine BRep.keep evo (p2 j hj) (setφ_more _ _ hj) (fun b h1 h2 h3 => eo.frame _ (ownB_lt hs ⟨⟨h1, h2⟩, h3⟩) fun ⟨i, hi⟩ => ?_) (hs.blk j)
        obtain ⟨_, h4, h5⟩ := (ownB0 i b).1 hi
        exact hj2 (hs.inj j id b ⟨⟨h1, h2⟩, h3⟩ ⟨hownid h4, .inl h5⟩)
  · rcases own2 i b hi with ⟨rfl, c1, e1⟩ | ⟨i1, i2, i3⟩ <;> rcases own2 j b hj with ⟨rfl, c2, e2⟩ | ⟨j1, j2, j3⟩
    · rfl
    · exact absurd e1 (fresh_ne j b j2 j3 c1)
    · exact absurd e2 (fresh_ne i b i2 i3 c2)
    · exact hs.inj i j b i3 j3
  · rcases own2 i b hi with ⟨rfl, c1, rfl⟩ | ⟨i1, i2, i3⟩
    · have := hso.ext' k ⟨by rw [hsigk]; rfl, c1⟩
      rw [eo.ext] at this
      exact fun h => this (.inl h)
    · exact hs.ext i b i3
  · obtain ⟨base, cap', rfl, _, k1, k2, k3, k4⟩ := hro.inv_sl
    refine .sl base cap' (by rw [g1]; rfl) k1 k2 k3 fun sz' n' hs' => ?_
    rw [sig, g1] at hs'
    simp only [ABlk.sig, Option.some.injEq, Prod.mk.injEq] at hs'
    obtain ⟨rfl, rfl⟩ := hs'
    rw [p1]
    exact k4 sz n hsigk
theorem pure_calls {f : FuncId} {args : List AV} {r : AR} {vs : Array Value} {nid : Nat} (hp : PureCall P f args H r) (hs : HSat φ H w) (hrep : RepAll φ H w args vs) (hfr : ∀ k, k < r.nv → hget H (nid + k) = .fresh) :
    Calls P f vs w fun e w' => ∃ φ' v, e = .returned v ∧ HSat φ' (applyU H (r.u nid)) w' ∧ Rep φ' (applyU H (r.u nid)) w' (r.v nid) v ∧ Evo φ H w φ' (applyU H (r.u nid)) w' := by
  rcases hp with hp | hp
  case inr =>
    cases r with
    | one => exact hp.elim
    | tup => exact hp.elim
    | own id sz n g =>
      obtain ⟨m, fr, ix, hix, hb, ho⟩ := hp
      refine (own1_calls (nid := nid) ho hix hs hb (by have := hfr 0 (by simp [AR.nv]); simpa using this) hrep).mono fun e w' he => ?_
      obtain ⟨φ', v, h1, h2, h3, h4⟩ := he
      exact ⟨φ', v, h1, h2, h3, h4⟩
  obtain ⟨⟨hok, hc⟩, hm⟩ := hp
  have mlt : ∀ b, MB φ H b → b < w.heap.size := by
    rintro b (⟨k, hk⟩ | h)
    · exact ownB_lt hs hk
    · exact hs.extlt b h
  obtain ⟨M, hM1, hM2, hM3⟩ : ∃ M : Nat → Prop, (∀ b, M b → b < w.heap.size) ∧ RepGs w M (mapA (reify H 6) args) vs ∧ ((M = MB φ H) ∨ ∀ r1 ∈ r.list, r1.memless) := by
    obtain ⟨hl, hr⟩ := hrep
    rw [mapA_eq]
    rcases hm with hm | hm
    · refine ⟨fun _ => False, fun _ h => h.elim, ⟨by simpa using hl, fun i c u h1 h2 => ?_⟩, .inr (memless_list r hm)⟩
      simp only [List.getElem?_map] at h1
      cases hi : args[i]? with
      | none => simp [hi] at h1
      | some av => simp [hi] at h1; subst h1; exact reify_rep hs 6 av u (hr i av u hi h2) (.inl rfl)
    · refine ⟨MB φ H, mlt, ⟨by simpa using hl, fun i c u h1 h2 => ?_⟩, .inl rfl⟩
      simp only [List.getElem?_map] at h1
      cases hi : args[i]? with
      | none => simp [hi] at h1
      | some av => simp [hi] at h1; subst h1; exact reify_rep hs 6 av u (hr i av u hi h2) (.inr ⟨(allA_iff _ _).1 hm av (List.mem_of_getElem? hi), fun _ h => h⟩)
  refine (hc w M vs hM1 hM2).mono fun e w' he => ?_
  obtain ⟨v, rfl, hb, hr⟩ := he
  cases r with
  | one r1 =>
    obtain ⟨φ', g1, g2, g3, g4⟩ := import_sound (f := f) (nid := nid) hs hb hr hM3 (by rw [AR.nv_eq _ rfl] at hfr; exact hfr)
    rw [AR.u_eq _ _ rfl]
    refine ⟨φ', v, rfl, g1, ?_, g2⟩
    have := g4 0 (AR.v nid (.one r1)) v (by cases r1 <;> rfl) rfl
    exact this
  | tup rs =>
    obtain ⟨us, rfl, hr⟩ := hr
    obtain ⟨φ', g1, g2, g3, g4⟩ := import_sound (f := f) (nid := nid) hs hb hr hM3 (by rw [AR.nv_eq _ rfl] at hfr; exact hfr)
    rw [AR.u_eq _ _ rfl]
    refine ⟨φ', _, rfl, g1, ?_, g2⟩
    exact .tup (by simpa using g3) (fun i c u h1 h2 => g4 i c u h1 (by simpa using h2))
  | own => exact hr.elim

theorem hget_ge : ∀ (H : List ABlk) (k : Nat), hlen H ≤ k → hget H k = .fresh := by
  intro H
  induction H with
  | nil => intro k _; rfl
  | cons b l ih =>
    intro k hk
    cases k with
    | zero => simp [hlen] at hk
    | succ k => simp only [hget]; exact ih k (by simp only [hlen] at hk; omega)

theorem PureCall.ok {f : FuncId} {args : List AV} {r : AR} (hp : PureCall P f args H r) : CallOK P f := by
  rcases hp with hp | hp
  · exact hp.1.1
  · cases r with
    | one => exact hp.elim
    | tup => exact hp.elim
    | own id sz n g =>
      obtain ⟨m, fr, ix, hix, hb, ho⟩ := hp
      exact ho.2.1
/-- A call by contract. -/
theorem EffC.pure {f : FuncId} {args : List AV} {R : AV → List ABlk → Prop} (r : AR) (hp : PureCall P f args H r) (h : R (r.v (hlen H)) (applyU H (r.u (hlen H)))) : EffC P f args H R := by
  refine ⟨hp.ok, fun φ w vs hs hrep => ?_⟩
  refine (pure_calls (nid := hlen H) hp hs hrep (fun k _ => hget_ge H _ (by omega))).mono fun e w' he => ?_
  obtain ⟨φ', v, h1, h2, h3, h4⟩ := he
  exact ⟨_, _, φ', v, h1, h, h2, h3, h4⟩
end
end Go.SH
