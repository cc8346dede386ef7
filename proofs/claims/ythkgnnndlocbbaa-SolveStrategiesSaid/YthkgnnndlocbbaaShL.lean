/-
  THE SYMBOLIC HEAP, PART L: contracts of functions that change nothing that they were given. No condition.
-/
import Derived.Test.YthkgnnndlocbbaaShK
namespace Go.SH
set_option linter.unusedVariables false
set_option linter.unusedSimpArgs false
open Go Go.RowKit

/-- One result: an immutable value; a new row. -/
inductive AR1 where
  | val (g : AV)
  | vec (sz n : Nat) (f : Nat → List AV)
/-- 'own': the callee takes over the row that is one of its arguments, block id, and returns a row. -/
inductive AR where
  | one (r : AR1)
  | tup (rs : List AR1)
  | own (id sz n : Nat) (g : Nat → List AV)
/-- Values that name no part of the abstract heap at all. -/
def AV.roB : Nat → AV → Bool
  | 0, _ => false
  | n + 1, av =>
    match av with
    | .sl .. => false
    | .ptr .. => false
    | .mp .. => false
    | .yld .. => false
    | .agg cs => allA (AV.roB n) cs
    | .tup cs => allA (AV.roB n) cs
    | .fn _ cs => allA (AV.roB n) cs
    | _ => true
/-- What f does with a row of its own, m elements of it, its argument i, and with values that it only reads: it returns a row. -/
def Own1 (P : Program) (f : FuncId) (sz m : Nat) (fr : Nat → List AV) (i : Nat) (args : List AV) (n : Nat) (g : Nat → List AV) : Prop :=
  (∀ (j : Nat) c, j ≠ i → args[j]? = some c → c.roB 6 = true) ∧ EffC P f (args.set i (.sl 0 0 m)) [.vec sz m fr] fun res H' => ∃ k, res = .sl k 0 n ∧ hget H' k = .vec sz n g

def R1 (base : Nat) (w : World) (M : Nat → Prop) (L : Loc) : AR1 → Value → Prop
  | .val g, v => RepG w M g v
  | .vec sz n f, v => ∃ bo : Option Addr, v = .slice bo n L.cap ∧ 0 < sz ∧ n ≤ L.cap ∧ L.cap ≤ 9223372036854775807 ∧ (∀ i, i < n → (f i).length = sz) ∧
      (0 < L.cap → base ≤ L.b ∧ bo = some ⟨L.b, L.o, none⟩ ∧ ∃ c T, w.heap[L.b]? = some (.cells c T (0, 0)) ∧ L.o + L.cap * sz ≤ c.size ∧
        ∀ (i j : Nat) av, i < n → (f i)[j]? = some av → ∃ v, c[L.o + i * sz + j]? = some v ∧ v.oneCell' = true ∧ RepG w M av v)
def AR1.isVec : AR1 → Bool
  | .vec .. => true
  | _ => false
/-- The blocks of the new rows among the results. -/
def OB (rs : List AR1) (Ls : Nat → Loc) (b : Nat) : Prop := ∃ i r, rs[i]? = some r ∧ r.isVec = true ∧ 0 < (Ls i).cap ∧ (Ls i).b = b
def RRepL (base : Nat) (w : World) (M : Nat → Prop) (rs : List AR1) (vs : List Value) : Prop :=
  ∃ Ls : Nat → Loc, rs.length = vs.length ∧ (∀ (i : Nat) r u, rs[i]? = some r → vs[i]? = some u → R1 base w (fun b => M b ∨ OB rs Ls b) (Ls i) r u) ∧
    ∀ (i j : Nat) r r', rs[i]? = some r → rs[j]? = some r' → r.isVec = true → r'.isVec = true → 0 < (Ls i).cap → 0 < (Ls j).cap → (Ls i).b = (Ls j).b → i = j
def RRep (base : Nat) (w : World) (M : Nat → Prop) : AR → Value → Prop
  | .one r, v => RRepL base w M [r] [v]
  | .tup rs, v => ∃ vs : Array Value, v = .tuple vs ∧ RRepL base w M rs vs.toList
  | .own .., _ => False

def RepGs (w : World) (M : Nat → Prop) (as : List AV) (vs : Array Value) : Prop :=
  as.length = vs.size ∧ ∀ (i : Nat) c u, as[i]? = some c → vs[i]? = some u → RepG w M c u

/-- WHAT A CALL RETURNS, given values that nobody changes: nothing that was there has turned. -/
def Contract (P : Program) (f : FuncId) (args : List AV) (r : AR) : Prop :=
  CallOK P f ∧ ∀ w M vs, (∀ b, M b → b < w.heap.size) → RepGs w M args vs →
    Calls P f vs w fun e w' => ∃ v, e = .returned v ∧ Below w.heap.size w w' ∧ RRep w.heap.size w' M r v

/-- Numbers and the like, and structs of them. -/
def AV.flatB : AV → Bool
  | .agg cs => allA AV.scalar cs
  | v => v.scalar
theorem RepG.flat {w w' : World} {M M' : Nat → Prop} {av : AV} {v : Value} (hs : av.flatB = true) (h : RepG w M av v) : RepG w' M' av v := by
  cases av <;> try exact h.scalar hs
  cases h with
  | agg hl h => exact .agg hl fun i c u h1 h2 => (h i c u h1 h2).scalar ((allA_iff _ _).1 hs c (List.mem_of_getElem? h1))
def AR1.memless : AR1 → Prop
  | .val g => g.flatB = true
  | .vec _ n f => ∀ i, i < n → ∀ a ∈ f i, a.scalar = true
def memlessL : List AR1 → Prop
  | [] => True
  | r :: l => r.memless ∧ memlessL l
def AR.memless : AR → Prop
  | .one r => r.memless
  | .tup rs => memlessL rs
  | .own .. => False
/-- No part of the abstract heap is named. -/
def AV.gb : Nat → AV → Bool
  | 0, _ => false
  | n + 1, av =>
    match av with
    | .sl .. => false
    | .ptr .. => false
    | .agg cs => allA (AV.gb n) cs
    | .tup cs => allA (AV.gb n) cs
    | .fn _ cs => allA (AV.gb n) cs
    | _ => true
def nvec : List AR1 → Nat
  | [] => 0
  | .vec .. :: l => nvec l + 1
  | _ :: l => nvec l
def AR.nv : AR → Nat
  | .one r => nvec [r]
  | .tup rs => nvec rs
  | .own .. => 1
def OwnCall (P : Program) (f : FuncId) (args : List AV) (H : List ABlk) : AR → Prop
  | .own id sz n g => ∃ m fr i, args[i]? = some (.sl id 0 m) ∧ hget H id = .vec sz m fr ∧ Own1 P f sz m fr i args n g
  | _ => False
def PureCall (P : Program) (f : FuncId) (args : List AV) (H : List ABlk) (r : AR) : Prop :=
  (Contract P f (mapA (reify H 6) args) r ∧ (r.memless ∨ allA (AV.gb 6) args = true)) ∨ OwnCall P f args H r

def impV (nid : Nat) : List AR1 → List AV
  | [] => []
  | .val g :: l => g :: impV nid l
  | .vec _ n _ :: l => .sl nid 0 n :: impV (nid + 1) l
def impU (nid : Nat) : List AR1 → List (Nat × ABlk)
  | [] => []
  | .val _ :: l => impU nid l
  | .vec sz n f :: l => (nid, .vec sz n f) :: impU (nid + 1) l
def AR.v (nid : Nat) : AR → AV
  | .one (.val g) => g
  | .one (.vec _ n _) => .sl nid 0 n
  | .tup rs => .tup (impV nid rs)
  | .own _ _ n _ => .sl nid 0 n
def AR.u (nid : Nat) : AR → List (Nat × ABlk)
  | .one (.val _) => []
  | .one (.vec sz n f) => [(nid, .vec sz n f)]
  | .tup rs => impU nid rs
  | .own id sz n g => [(id, .dead), (nid, .vec sz n g)]

section
variable {P : Program} {φ φ' : Env} {H H' : List ABlk} {w w' : World}

theorem reify_rep (hs : HSat φ H w) {M : Nat → Prop} : ∀ (n : Nat) (av : AV) (v : Value), Rep φ H w av v → (M = (fun _ => False) ∨ (av.gb n = true ∧ ∀ b, M b → MB φ H b)) → RepG w M (reify H n av) v := by
  intro n
  induction n with
  | zero => intro av v _ _; exact .undef v
  | succ n ih =>
    intro av v h hM
    have hsub : ∀ b, M b → MB φ H b := by
      rcases hM with rfl | hM
      · exact fun b h => h.elim
      · exact hM.2
    have list : ∀ (cs : List AV) (vs : Array Value), cs.length = vs.size → (∀ (i : Nat) c u, cs[i]? = some c → vs[i]? = some u → Rep φ H w c u) → (M = (fun _ => False) ∨ (allA (AV.gb n) cs = true ∧ ∀ b, M b → MB φ H b)) →
        (mapA (reify H n) cs).length = vs.size ∧ ∀ (i : Nat) c u, (mapA (reify H n) cs)[i]? = some c → vs[i]? = some u → RepG w M c u := by
      intro cs vs hl hc hm
      rw [mapA_eq]
      refine ⟨by simpa using hl, fun i c u h1 h2 => ?_⟩
      simp only [List.getElem?_map] at h1
      cases hci : cs[i]? with
      | none => simp [hci] at h1
      | some c' =>
        simp [hci] at h1
        subst h1
        exact ih c' u (hc i c' u hci h2) (hm.imp id fun h => ⟨(allA_iff _ _).1 h.1 c' (List.mem_of_getElem? hci), h.2⟩)
    cases av <;> simp only [reify]
    case undef => exact .undef v
    case int => cases h.inv_int; exact .int _ _
    case bool => cases h.inv_bool; exact .bool _
    case str => cases h.inv_str; exact .str _
    case raw => cases h.inv_raw; exact .raw _
    case agg cs =>
      obtain ⟨vs, rfl, hl, hc⟩ := h.inv_agg
      obtain ⟨g1, g2⟩ := list cs vs hl hc (by simpa only [AV.gb] using hM)
      exact .agg g1 g2
    case tup cs =>
      obtain ⟨vs, rfl, hl, hc⟩ := h.inv_tup
      obtain ⟨g1, g2⟩ := list cs vs hl hc (by simpa only [AV.gb] using hM)
      exact .tup g1 g2
    case fn f cs =>
      obtain ⟨vs, rfl, hl, hc⟩ := h.inv_fn
      obtain ⟨g1, g2⟩ := list cs vs hl hc (by simpa only [AV.gb] using hM)
      exact .fn g1 g2
    case ro => exact h.inv_ro.weaken hsub
    case rop => exact h.inv_rop.weaken hsub
    case yld => exact .undef v
    case mp => exact .undef v
    case sl id off len =>
      rcases hM with rfl | hM
      · split
        · rename_i sz n' f hb
          exact sl_ro hs hb h (fun _ h => h.elim) (fun _ h => h)
        · exact .undef v
      · simp [AV.gb] at hM
    case ptr id i j =>
      rcases hM with rfl | hM
      · split
        · rename_i cs hb
          obtain ⟨rfl, hj, rfl, hcs⟩ := cells_of_box hs hb h
          have hc2 : ∀ (k : Nat) c, (dropA j (mapA (reify H n) cs))[k]? = some c → ∃ v, w.cell? ⟨(φ id).b, (φ id).o + j + k, none⟩ = some v ∧ RepG w (fun _ => False) c v := by
            intro k c hc
            rw [dropA_eq, mapA_eq, List.getElem?_drop] at hc
            simp only [List.getElem?_map] at hc
            cases hci : cs[j + k]? with
            | none => simp [hci] at hc
            | some c' =>
              simp [hci] at hc
              subst hc
              obtain ⟨v, g1, g2⟩ := hcs (j + k) c' hci
              exact ⟨v, by rw [Nat.add_assoc]; exact g1, ih c' v g2 (.inl rfl)⟩
          refine .rop _ _ (fun k => (w.cell? ⟨(φ id).b, (φ id).o + j + k, none⟩).getD undef) (fun _ h => h) (fun k hk => ?_) (fun k c hc => ?_)
          · obtain ⟨v, g1, _⟩ := hc2 k _ (List.getElem?_eq_getElem hk)
            rw [g1]; rfl
          · obtain ⟨v, g1, g2⟩ := hc2 k c hc
            rw [g1]; exact g2
        · rename_i sz n' f hb
          obtain ⟨hi, hj, hfl, rfl, hcs⟩ := cells_of_vec hs hb h
          have hB := hs.blk id
          rw [hb] at hB
          obtain ⟨_, _, hnc, _, hlen, hcells⟩ := hB
          obtain ⟨c, T, hheap, _, hrep⟩ := hcells (by omega)
          have hc2 : ∀ (k : Nat) av, (dropA j (f i))[k]? = some av → ∃ v, w.cell? ⟨(φ id).b, (φ id).o + i * sz + j + k, none⟩ = some v ∧ RepG w (fun _ => False) av v := by
            intro k av hc
            rw [dropA_eq, List.getElem?_drop] at hc
            obtain ⟨v, g1, _, g2⟩ := hrep i (j + k) av hi hc
            exact ⟨v, by simp only [World.cell?, hheap]; simpa [Nat.add_assoc] using g1, g2.weaken (fun _ h => h.elim)⟩
          refine .rop _ _ (fun k => (w.cell? ⟨(φ id).b, (φ id).o + i * sz + j + k, none⟩).getD undef) (fun _ h => h) (fun k hk => ?_) (fun k c hc => ?_)
          · obtain ⟨v, g1, _⟩ := hc2 k _ (List.getElem?_eq_getElem hk)
            rw [g1]; rfl
          · obtain ⟨v, g1, g2⟩ := hc2 k c hc
            rw [g1]; exact g2
        · exact .undef v
      · simp [AV.gb] at hM

/-- What a call that keeps all that was there leaves. -/
theorem evo_below (hs : HSat φ H w) (h : Below w.heap.size w w') : Evo φ H w φ H w' where
  os := h.os
  tape := h.tape
  output := h.output
  size := h.size
  ext := rfl
  base := rfl
  frame b hb _ := h.block b hb
  blk _ hm := .inr hm
  used _ hu := hu
  ids _ _ _ hsig := ⟨hsig, rfl⟩
theorem hsat_below (hs : HSat φ H w) (h : Below w.heap.size w w') : HSat φ H w' where
  blk id := BRep.keep (evo_below hs h) rfl (fun _ => Iff.rfl) (fun b h1 h2 h3 => h.block _ (ownB_lt hs ⟨⟨h1, h2⟩, h3⟩)) (hs.blk id)
  inj := hs.inj
  ext := hs.ext
  extlt b hb := Nat.lt_of_lt_of_le (hs.extlt b hb) h.size

/-- What must be kept for values to stand for what they stood for. -/
structure Kept (φ0 : Env) (H0 : List ABlk) (w0 : World) (φ : Env) (H : List ABlk) (w : World) : Prop where
  frame : ∀ b, b < w0.heap.size → ¬ MB φ0 H0 b → w.heap[b]? = w0.heap[b]?
  sub : ∀ b, b < w0.heap.size → MB φ H b → MB φ0 H0 b
  used : ∀ id, (hget H0 id).used = true → (hget H id).used = true
  ids : ∀ id s, (hget H0 id).used = true → sig H id = some s → sig H0 id = some s ∧ φ id = φ0 id

theorem Rep.kept {φ0 : Env} {H0 : List ABlk} {w0 : World} (e : Kept φ0 H0 w0 φ H w) {av : AV} {v : Value} (h : Rep φ0 H0 w0 av v) : Rep φ H w av v := by
  induction h with
  | g h => exact .g (h.move e.frame e.sub)
  | agg hl _ ih => exact .agg hl ih
  | tup hl _ ih => exact .tup hl ih
  | fn hl _ ih => exact .fn hl ih
  | @sl id off len base cap' hu hb hl hc h =>
    refine .sl base cap' (e.used id hu) hb hl hc fun sz n hs => ?_
    obtain ⟨h0, e0⟩ := e.ids id (sz, n) hu hs
    rw [e0]; exact h sz n h0
  | @ptr id i j a hu h =>
    refine .ptr a (e.used id hu) fun sz n hs => ?_
    obtain ⟨h0, e0⟩ := e.ids id (sz, n) hu hs
    rw [e0]; exact h sz n h0
  | @yld id l hu h =>
    refine .yld l (e.used id hu) fun s hs => ?_
    obtain ⟨h0, e0⟩ := e.ids id s hu hs
    rw [e0]; exact h s h0
  | @mp id l hu h =>
    refine .mp l (e.used id hu) fun s hs => ?_
    obtain ⟨h0, e0⟩ := e.ids id s hu hs
    rw [e0]; exact h s h0

theorem BRep.kept (e : Kept φ H w φ' H' w') {id : Nat} {blk : ABlk} (hφ : φ' id = φ id) (hmo : ∀ b, φ'.more id b ↔ φ.more id b) (hh : ∀ b, blk.sig.isSome = true → 0 < (φ id).cap → ((φ id).b = b ∨ φ.more id b) → w'.heap[b]? = w.heap[b]?) (h : BRep φ H w id blk) : BRep φ' H' w' id blk :=
  BRep.keepG (fun _ _ h => h.kept e) (fun id s h1 h2 => (e.ids id s h1 h2).1) (fun _ _ h => h.move e.frame e.sub) hφ hmo hh h

/-- A block of others' becomes one's own. -/
def takeφ (φ : Env) (nid : Nat) (L : Loc) : Env := ⟨(setφ φ nid L).loc, fun b => φ.ext b ∧ (0 < L.cap → b ≠ L.b), (setφ φ nid L).more, φ.base⟩

theorem take_ext {nid sz n : Nat} {f : Nat → List AV} {L : Loc} {v : Value} {base : Nat} {r : AR1} (hr0 : r = .vec sz n f) (hs : HSat φ H w) (hf : hget H nid = .fresh) (hL : 0 < L.cap → φ.ext L.b) (hr : R1 base w (MB φ H) L r v) :
    HSat (takeφ φ nid L) (hset H nid (.vec sz n f)) w ∧ Kept φ H w (takeφ φ nid L) (hset H nid (.vec sz n f)) w ∧ (∀ b, MB (takeφ φ nid L) (hset H nid (.vec sz n f)) b ↔ MB φ H b) ∧
      Rep (takeφ φ nid L) (hset H nid (.vec sz n f)) w (.sl nid 0 n) v := by
  subst hr0
  obtain ⟨bo, rfl, hsz, hn, hcap, hlen, hc⟩ := hr
  have ne : ∀ k, (hget H k).used = true → k ≠ nid := fun k hk he => by rw [he, hf] at hk; cases hk
  have lne : ∀ k, k ≠ nid → takeφ φ nid L k = φ k := fun k hk => setφ_ne _ _ hk
  have lsame : takeφ φ nid L nid = L := setφ_same _ _ _
  have ownOld : ∀ k b, k ≠ nid → (OwnB (takeφ φ nid L) (hset H nid (.vec sz n f)) k b ↔ OwnB φ H k b) := fun k b hk => ownB_set hk
  have ownNew : ∀ b, OwnB (takeφ φ nid L) (hset H nid (.vec sz n f)) nid b ↔ 0 < L.cap ∧ L.b = b := by
    intro b
    constructor
    · rintro ⟨⟨_, h2⟩, h3⟩
      rw [lsame] at h2 h3
      exact ⟨h2, h3.resolve_right (setφ_none φ nid L b)⟩
    · rintro ⟨h1, h2⟩
      refine ⟨⟨by rw [sig, hget_set_same]; rfl, by rw [lsame]; exact h1⟩, .inl (by rw [lsame]; exact h2)⟩
  have notown : ∀ b, ¬ OwnB φ H nid b := by
    rintro b ⟨⟨h1, _⟩, _⟩
    rw [sig, hf] at h1; simp [ABlk.sig] at h1
  have hMB : ∀ b, MB (takeφ φ nid L) (hset H nid (.vec sz n f)) b ↔ MB φ H b := by
    intro b
    constructor
    · rintro (⟨k, hk⟩ | ⟨h, _⟩)
      · by_cases he : k = nid
        · subst he
          obtain ⟨h1, rfl⟩ := (ownNew b).1 hk
          exact .inr (hL h1)
        · exact .inl ⟨k, (ownOld k b he).1 hk⟩
      · exact .inr h
    · rintro (⟨k, hk⟩ | h)
      · have he : k ≠ nid := fun he => notown b (he ▸ hk)
        exact .inl ⟨k, (ownOld k b he).2 hk⟩
      · by_cases hc : 0 < L.cap ∧ b = L.b
        · exact .inl ⟨nid, (ownNew b).2 ⟨hc.1, hc.2.symm⟩⟩
        · exact .inr ⟨h, fun h1 h2 => hc ⟨h1, h2⟩⟩
  have kept : Kept φ H w (takeφ φ nid L) (hset H nid (.vec sz n f)) w := by
    refine ⟨fun _ _ _ => rfl, fun b _ h => (hMB b).1 h, fun k hk => ?_, fun k s hk hsig => ?_⟩
    · rw [hget_set_ne _ _ _ _ (ne k hk)]; exact hk
    · rw [sig, hget_set_ne _ _ _ _ (ne k hk)] at hsig
      exact ⟨hsig, lne k (ne k hk)⟩
  refine ⟨⟨fun k => ?_, fun i j b hi hj => ?_, fun k b hk => ?_, fun b hb => hs.extlt b hb.1⟩, kept, hMB, ?_⟩
  · by_cases he : k = nid
    · subst he
      rw [hget_set_same]
      refine ⟨setφ_none φ _ L, hsz, by rw [lsame]; exact hn, by rw [lsame]; exact hcap, hlen, fun h => ?_⟩
      rw [lsame] at h ⊢
      obtain ⟨_, _, c, T, h1, h2, h3⟩ := hc h
      refine ⟨c, T, h1, h2, fun i j av hi hav => ?_⟩
      obtain ⟨v, g1, g2, g3⟩ := h3 i j av hi hav
      exact ⟨v, g1, g2, g3.weaken (fun b hb => (hMB b).1 hb)⟩
    · rw [hget_set_ne _ _ _ _ he]
      exact BRep.kept kept (lne k he) (setφ_more φ L he) (fun _ _ _ _ => rfl) (hs.blk k)
  · by_cases hi' : i = nid
    · by_cases hj' : j = nid
      · rw [hi', hj']
      · subst hi'
        obtain ⟨h1, rfl⟩ := (ownNew b).1 hi
        exact absurd (hL h1) (hs.ext j _ ((ownOld j _ hj').1 hj))
    · by_cases hj' : j = nid
      · subst hj'
        obtain ⟨h1, rfl⟩ := (ownNew b).1 hj
        exact absurd (hL h1) (hs.ext i _ ((ownOld i _ hi').1 hi))
      · exact hs.inj i j b ((ownOld i b hi').1 hi) ((ownOld j b hj').1 hj)
  · by_cases he : k = nid
    · subst he
      obtain ⟨h1, rfl⟩ := (ownNew b).1 hk
      exact fun h => h.2 h1 rfl
    · exact fun h => hs.ext k b ((ownOld k b he).1 hk) h.1
  · refine .sl _ _ (by rw [hget_set_same]; rfl) (fun h => ?_) hn hcap ?_
    · obtain ⟨_, h1, _⟩ := hc (by omega)
      rw [h1]; rfl
    · intro sz' n' hsig
      rw [sig, hget_set_same] at hsig
      simp only [ABlk.sig, Option.some.injEq, Prod.mk.injEq] at hsig
      obtain ⟨rfl, rfl⟩ := hsig
      rw [lsame]
      exact ⟨by omega, by simp, fun h => by rw [(hc h).2.1]; simp⟩

def impφ (Ls : Nat → Loc) : Nat → Nat → List AR1 → Env → Env
  | _, _, [], φ => φ
  | i, nid, .val _ :: l, φ => impφ Ls (i + 1) nid l φ
  | i, nid, .vec .. :: l, φ => impφ Ls (i + 1) (nid + 1) l (takeφ φ nid (Ls i))

theorem Kept.trans {φ0 φ1 φ2 : Env} {H0 H1 H2 : List ABlk} (h : Kept φ0 H0 w φ1 H1 w) (k : Kept φ1 H1 w φ2 H2 w) : Kept φ0 H0 w φ2 H2 w :=
  ⟨fun _ _ _ => rfl, fun b hb hm => h.sub b hb (k.sub b hb hm), fun id hu => k.used id (h.used id hu), fun id s hu hs => by
    obtain ⟨h1, e1⟩ := k.ids id s (h.used id hu) hs
    obtain ⟨h0, e0⟩ := h.ids id s hu h1
    exact ⟨h0, e1.trans e0⟩⟩

/-- All results taken over. -/
theorem take_all (Ls : Nat → Loc) (base : Nat) (MX : Nat → Prop) : ∀ (rs : List AR1) (i nid : Nat) (φ : Env) (H : List ABlk) (vs : List Value),
    HSat φ H w → (∀ b, MB φ H b ↔ MX b) → (∀ k, k < nvec rs → hget H (nid + k) = .fresh) → rs.length = vs.length →
    (∀ (k : Nat) r u, rs[k]? = some r → vs[k]? = some u → R1 base w MX (Ls (i + k)) r u) →
    (∀ (k : Nat) r, rs[k]? = some r → r.isVec = true → 0 < (Ls (i + k)).cap → φ.ext (Ls (i + k)).b) →
    (∀ (k l : Nat) r r', rs[k]? = some r → rs[l]? = some r' → r.isVec = true → r'.isVec = true → 0 < (Ls (i + k)).cap → 0 < (Ls (i + l)).cap → (Ls (i + k)).b = (Ls (i + l)).b → k = l) →
    HSat (impφ Ls i nid rs φ) (applyU H (impU nid rs)) w ∧ Kept φ H w (impφ Ls i nid rs φ) (applyU H (impU nid rs)) w ∧ (∀ b, MB (impφ Ls i nid rs φ) (applyU H (impU nid rs)) b ↔ MX b) ∧
      (impV nid rs).length = vs.length ∧ (∀ (k : Nat) c u, (impV nid rs)[k]? = some c → vs[k]? = some u → Rep (impφ Ls i nid rs φ) (applyU H (impU nid rs)) w c u) ∧
      (∀ b, (impφ Ls i nid rs φ).ext b ↔ φ.ext b ∧ ∀ (k : Nat) r, rs[k]? = some r → r.isVec = true → 0 < (Ls (i + k)).cap → b ≠ (Ls (i + k)).b) := by
  intro rs
  induction rs with
  | nil =>
    intro i nid φ H vs hs hMB _ hl _ _ _
    refine ⟨hs, ⟨fun _ _ _ => rfl, fun _ _ h => h, fun _ h => h, fun _ _ _ h => ⟨h, rfl⟩⟩, hMB, by simp only [impV]; simpa using hl, fun k c u hc => by simp [impV] at hc, fun b => by simp [impφ]⟩
  | cons r rs ih =>
    intro i nid φ H vs hs hMB hfr hl hR hext hinj
    cases vs with
    | nil => simp at hl
    | cons u vs =>
      have hR' : ∀ (k : Nat) r u, rs[k]? = some r → vs[k]? = some u → R1 base w MX (Ls (i + 1 + k)) r u := fun k r u h1 h2 => by
        have := hR (k + 1) r u (by simpa using h1) (by simpa using h2)
        rwa [show i + (k + 1) = i + 1 + k by omega] at this
      have hinj' : ∀ (k l : Nat) r r', rs[k]? = some r → rs[l]? = some r' → r.isVec = true → r'.isVec = true → 0 < (Ls (i + 1 + k)).cap → 0 < (Ls (i + 1 + l)).cap → (Ls (i + 1 + k)).b = (Ls (i + 1 + l)).b → k = l := fun k l r r' h1 h2 h3 h4 h5 h6 h7 => by
        have := hinj (k + 1) (l + 1) r r' (by simpa using h1) (by simpa using h2) h3 h4 (by rwa [show i + (k + 1) = i + 1 + k by omega]) (by rwa [show i + (l + 1) = i + 1 + l by omega])
          (by rwa [show i + (k + 1) = i + 1 + k by omega, show i + (l + 1) = i + 1 + l by omega])
        omega
      have hR0 := hR 0 r u rfl rfl
      simp only [Nat.add_zero] at hR0
      cases r with
      | val g =>
        have hext' : ∀ (k : Nat) r, rs[k]? = some r → r.isVec = true → 0 < (Ls (i + 1 + k)).cap → φ.ext (Ls (i + 1 + k)).b := fun k r h1 h2 h3 => by
          have := hext (k + 1) r (by simpa using h1) h2 (by rwa [show i + (k + 1) = i + 1 + k by omega])
          rwa [show i + (k + 1) = i + 1 + k by omega] at this
        obtain ⟨g1, g2, g3, g4, g5, g6⟩ := ih (i + 1) nid φ H vs hs hMB (fun k hk => hfr k (by simpa [nvec] using hk)) (by simpa using hl) hR' hext' hinj'
        refine ⟨g1, g2, g3, by simp [impV, g4], fun k c u' hc hu => ?_, fun b => ?_⟩
        · cases k with
          | zero =>
            simp [impV] at hc hu
            subst hc hu
            exact .g (hR0.weaken (fun b hb => (g3 b).1 hb))
          | succ k => exact g5 k c u' (by simpa [impV] using hc) (by simpa using hu)
        · simp only [impφ, g6 b]
          constructor
          · rintro ⟨h1, h2⟩
            refine ⟨h1, fun k r hk hv hc => ?_⟩
            cases k with
            | zero => simp at hk; subst hk; cases hv
            | succ k =>
              have := h2 k r (by simpa using hk) hv
              rw [show i + 1 + k = i + (k + 1) by omega] at this
              exact this hc
          · rintro ⟨h1, h2⟩
            refine ⟨h1, fun k r hk hv hc => ?_⟩
            have := h2 (k + 1) r (by simpa using hk) hv
            rw [show i + (k + 1) = i + 1 + k by omega] at this
            exact this hc
      | vec sz n f =>
        have hf0 : hget H nid = .fresh := by have := hfr 0 (by simp [nvec]); simpa using this
        have hL : 0 < (Ls i).cap → φ.ext (Ls i).b := fun h => by have := hext 0 _ rfl rfl (by simpa using h); simpa using this
        have hr1 : R1 base w (MB φ H) (Ls i) (.vec sz n f) u := by
          obtain ⟨bo, h1, h2, h3, h4, h5, h6⟩ := hR0
          refine ⟨bo, h1, h2, h3, h4, h5, fun hc => ?_⟩
          obtain ⟨k1, k2, c, T, k3, k4, k5⟩ := h6 hc
          refine ⟨k1, k2, c, T, k3, k4, fun p q av hp hav => ?_⟩
          obtain ⟨v, j1, j2, j3⟩ := k5 p q av hp hav
          exact ⟨v, j1, j2, j3.weaken (fun b hb => (hMB b).1 hb)⟩
        obtain ⟨t1, t2, t3, t4⟩ := take_ext rfl hs hf0 hL hr1
        have hext' : ∀ (k : Nat) r, rs[k]? = some r → r.isVec = true → 0 < (Ls (i + 1 + k)).cap → (takeφ φ nid (Ls i)).ext (Ls (i + 1 + k)).b := fun k r h1 h2 h3 => by
          have h4 := hext (k + 1) r (by simpa using h1) h2 (by rwa [show i + (k + 1) = i + 1 + k by omega])
          rw [show i + (k + 1) = i + 1 + k by omega] at h4
          refine ⟨h4, fun hc he => ?_⟩
          have := hinj (k + 1) 0 r _ (by simpa using h1) rfl h2 rfl (by rwa [show i + (k + 1) = i + 1 + k by omega]) (by simpa using hc) (by rw [show i + (k + 1) = i + 1 + k by omega]; simpa using he)
          omega
        have hfr' : ∀ k, k < nvec rs → hget (hset H nid (.vec sz n f)) (nid + 1 + k) = .fresh := fun k hk => by
          rw [hget_set_ne _ _ _ _ (by omega)]
          have := hfr (k + 1) (by simp [nvec]; omega)
          rwa [show nid + (k + 1) = nid + 1 + k by omega] at this
        obtain ⟨g1, g2, g3, g4, g5, g6⟩ := ih (i + 1) (nid + 1) (takeφ φ nid (Ls i)) (hset H nid (.vec sz n f)) vs t1 (fun b => (t3 b).trans (hMB b)) hfr' (by simpa using hl) hR' hext' hinj'
        refine ⟨g1, t2.trans g2, g3, by simp [impV, g4], fun k c u' hc hu => ?_, fun b => ?_⟩
        · cases k with
          | zero =>
            simp [impV] at hc hu
            subst hc hu
            exact t4.kept g2
          | succ k => exact g5 k c u' (by simpa [impV] using hc) (by simpa using hu)
        · show (impφ Ls (i + 1) (nid + 1) rs (takeφ φ nid (Ls i))).ext b ↔ _
          rw [g6 b]
          simp only [takeφ]
          constructor
          · rintro ⟨⟨h1, h1'⟩, h2⟩
            refine ⟨h1, fun k r hk hv hc => ?_⟩
            cases k with
            | zero => exact h1' (by simpa using hc)
            | succ k =>
              have := h2 k r (by simpa using hk) hv
              rw [show i + 1 + k = i + (k + 1) by omega] at this
              exact this hc
          · rintro ⟨h1, h2⟩
            refine ⟨⟨h1, fun hc => by have := h2 0 _ rfl rfl; simpa using this hc⟩, fun k r hk hv hc => ?_⟩
            have := h2 (k + 1) r (by simpa using hk) hv
            rw [show i + (k + 1) = i + 1 + k by omega] at this
            exact this hc
end
end Go.SH
