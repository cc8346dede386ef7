/-
  THE SYMBOLIC HEAP, PART E: the operations that make and write memory. No condition.
-/
import Derived.Test.YthkgnnndlocbbaaShD
import Derived.Laws.IdiomCopy
namespace Go.SH
set_option linter.unusedVariables false
set_option linter.unusedSimpArgs false
open Go Go.RowKit

def setφ (φ : Env) (i : Nat) (L : Loc) : Env := ⟨fun k => if k = i then L else φ k, φ.ext, fun k b => k ≠ i ∧ φ.more k b, φ.base⟩
theorem setφ_same (φ : Env) (i : Nat) (L : Loc) : setφ φ i L i = L := by simp [setφ]
theorem setφ_ne (φ : Env) {i k : Nat} (L : Loc) (h : k ≠ i) : setφ φ i L k = φ k := by simp [setφ, h]
theorem setφ_more (φ : Env) {i k : Nat} (L : Loc) (h : k ≠ i) (b : Nat) : (setφ φ i L).more k b ↔ φ.more k b := by simp [setφ, h]
theorem setφ_none (φ : Env) (i : Nat) (L : Loc) (b : Nat) : ¬ (setφ φ i L).more i b := by simp [setφ]

section
variable {P : Program} {φ φ' : Env} {H H' : List ABlk} {w w' : World} {a : Act} {o : Oper} {ρ : Operand → AV}

theorem RowRep.move {M M' : Nat → Prop} {L : Loc} {sz n : Nat} {f : Nat → List AV} (repg : ∀ (av : AV) (v : Value), RepG w M av v → RepG w' M' av v)
    (hh : 0 < L.cap → w'.heap[L.b]? = w.heap[L.b]?) (h : RowRep w M L sz n f) : RowRep w' M' L sz n f := by
  obtain ⟨h1, h2, h3, h4, h5⟩ := h
  refine ⟨h1, h2, h3, h4, fun hc => ?_⟩
  obtain ⟨c, T, h6, h7, h8⟩ := h5 hc
  refine ⟨c, T, by rw [hh hc]; exact h6, h7, fun i j av hi hav => ?_⟩
  obtain ⟨v, h9, h10, h11⟩ := h8 i j av hi hav
  exact ⟨v, h9, h10, repg _ _ h11⟩

theorem CRow.keepG (rep : ∀ (av : AV) (v : Value), Rep φ H w av v → Rep φ' H' w' av v) (ids : ∀ id s, (hget H id).used = true → sig H' id = some s → sig H id = some s) (repg : ∀ (av : AV) (v : Value), RepG w (MB φ H) av v → RepG w' (MB φ' H') av v)
    {L : Loc} {v : Value} {r : MRow} (hh : r.own = true → 0 < L.cap → w'.heap[L.b]? = w.heap[L.b]?) (h : CRow φ H w L v r) : CRow φ' H' w' L v r := by
  cases r with
  | row sz m f => exact ⟨h.1, h.2.move repg fun hcL => hh rfl hcL⟩
  | lent k =>
    obtain ⟨m, h12, h13⟩ := h
    obtain ⟨_, _, _, hu, _⟩ := h13.inv_sl
    exact ⟨m, fun sz n hs => h12 sz n (ids k _ hu hs), rep _ _ h13⟩
  | hole => exact h
/-- What a block says stays, if its own places do: however the rest goes on. -/
theorem BRep.keepG (rep : ∀ (av : AV) (v : Value), Rep φ H w av v → Rep φ' H' w' av v) (ids : ∀ id s, (hget H id).used = true → sig H' id = some s → sig H id = some s) (repg : ∀ (av : AV) (v : Value), RepG w (MB φ H) av v → RepG w' (MB φ' H') av v)
    {id : Nat} {blk : ABlk} (hφ : φ' id = φ id) (hmo : ∀ b, φ'.more id b ↔ φ.more id b) (hh : ∀ b, blk.sig.isSome = true → 0 < (φ id).cap → ((φ id).b = b ∨ φ.more id b) → w'.heap[b]? = w.heap[b]?) (h : BRep φ H w id blk) : BRep φ' H' w' id blk := by
  cases blk with
  | fresh => trivial
  | dead => trivial
  | box cs =>
    obtain ⟨h1, h0, c, T, h2, h3⟩ := h
    refine ⟨by rw [hφ]; exact h1, fun b hb => h0 b ((hmo b).1 hb), c, T, by rw [hφ, hh _ rfl (by omega) (.inl rfl)]; exact h2, fun j av hav => ?_⟩
    obtain ⟨v, h4, h5⟩ := h3 j av hav
    exact ⟨v, by rw [hφ]; exact h4, rep _ _ h5⟩
  | vec sz n f =>
    obtain ⟨h0, h1⟩ := h
    refine ⟨fun b hb => h0 b ((hmo b).1 hb), ?_⟩
    rw [hφ]
    exact h1.move repg fun hc => hh _ rfl hc (.inl rfl)
  | loop ps asg body s slots =>
    obtain ⟨h1, h0, r, h2, h3, h4, h5, h6, h7, h8, h9⟩ := h
    exact ⟨by rw [hφ]; exact h1, fun b hb => h0 b ((hmo b).1 hb), r, by rw [hφ, hh _ rfl (by omega) (.inl rfl)]; exact h2, h3, h4, h5, h6, h7, h8, fun i => rep _ _ (h9 i)⟩
  | map es =>
    obtain ⟨h1, h0, arr, clk, h2, h3, h4⟩ := h
    refine ⟨by rw [hφ]; exact h1, fun b hb => h0 b ((hmo b).1 hb), arr, clk, by rw [hφ, hh _ rfl (by omega) (.inl rfl)]; exact h2, h3, fun i k v hi => ?_⟩
    obtain ⟨e, h5, h6, h7⟩ := h4 i k v hi
    exact ⟨e, h5, h6, repg _ _ h7⟩
  | mat n g =>
    obtain ⟨h1, h2, Ls, h3, h4, h5, h6⟩ := h
    refine ⟨by rw [hφ]; exact h1, by rw [hφ]; exact h2, Ls, fun b => (hmo b).trans (h3 b), by rw [hφ]; exact h4, h5, fun hc => ?_⟩
    rw [hφ] at hc ⊢
    obtain ⟨c, T, h7, h8, h9⟩ := h6 hc
    refine ⟨c, T, by rw [hh _ rfl hc (.inl rfl)]; exact h7, h8, fun i hi => ?_⟩
    obtain ⟨v, h10, h11⟩ := h9 i hi
    exact ⟨v, h10, h11.keepG rep ids repg fun hg hcL => hh _ rfl hc (.inr ((h3 _).2 ⟨i, hi, hg, hcL, rfl⟩))⟩

theorem BRep.keep (e : Evo φ H w φ' H' w') {id : Nat} {blk : ABlk} (hφ : φ' id = φ id) (hmo : ∀ b, φ'.more id b ↔ φ.more id b) (hh : ∀ b, blk.sig.isSome = true → 0 < (φ id).cap → ((φ id).b = b ∨ φ.more id b) → w'.heap[b]? = w.heap[b]?) (h : BRep φ H w id blk) : BRep φ' H' w' id blk :=
  BRep.keepG (fun _ _ h => h.evo e) (fun id s h1 h2 => (e.ids id s h1 h2).1) (fun _ _ h => h.move e.frame' e.sub) hφ hmo hh h

theorem ownB_lt (hs : HSat φ H w) {id b : Nat} (h : OwnB φ H id b) : b < w.heap.size := by
  have hB := hs.blk id
  obtain ⟨⟨h1, h2⟩, hb⟩ := h
  unfold sig at h1
  generalize hget H id = blk at *
  cases blk with
  | fresh => simp [ABlk.sig] at h1
  | dead => simp [ABlk.sig] at h1
  | box cs =>
    obtain ⟨_, h0, c, T, h3, _⟩ := hB
    obtain rfl := hb.resolve_right (h0 b)
    exact (Array.getElem?_eq_some_iff.1 h3).1
  | vec sz n f =>
    obtain ⟨h0, hB⟩ := hB
    obtain rfl := hb.resolve_right (h0 b)
    obtain ⟨c, T, h3, _⟩ := hB.2.2.2.2 h2
    exact (Array.getElem?_eq_some_iff.1 h3).1
  | loop ps asg body s slots =>
    obtain ⟨_, h0, r, h3, _⟩ := hB
    obtain rfl := hb.resolve_right (h0 b)
    exact (Array.getElem?_eq_some_iff.1 h3).1
  | map es =>
    obtain ⟨_, h0, arr, clk, h3, _⟩ := hB
    obtain rfl := hb.resolve_right (h0 b)
    exact (Array.getElem?_eq_some_iff.1 h3).1
  | mat n g =>
    obtain ⟨_, _, Ls, h3, _, _, h6⟩ := hB
    obtain ⟨c, T, h7, _, h9⟩ := h6 h2
    rcases hb with rfl | hb
    · exact (Array.getElem?_eq_some_iff.1 h7).1
    · obtain ⟨i, hi, hg, hc, rfl⟩ := (h3 b).1 hb
      obtain ⟨v, _, h10⟩ := h9 i hi
      cases hgi : g i with
      | row sz m f =>
        rw [hgi] at h10
        obtain ⟨c, T, h11, _⟩ := h10.2.2.2.2.2 hc
        exact (Array.getElem?_eq_some_iff.1 h11).1
      | lent k => rw [hgi] at hg; cases hg
      | hole => rw [hgi] at hg; cases hg
theorem own_lt (hs : HSat φ H w) {id : Nat} (h : Own φ H id) : (φ id).b < w.heap.size := ownB_lt hs ⟨h, .inl rfl⟩

/-- The same heap; a draw apart. -/
structure SameHeap (w w1 : World) : Prop where
  heap : w1.heap = w.heap
  os : w1.os = w.os
  tape : w1.tape = w.tape
  output : w1.output = w.output
theorem SameHeap.refl (w : World) : SameHeap w w := ⟨rfl, rfl, rfl, rfl⟩
theorem SameHeap.drew (w : World) : SameHeap w w.drew := ⟨rfl, rfl, rfl, rfl⟩

theorem heap_alloc (w : World) (o : Obj) (b : Nat) : (w.alloc o).heap[b]? = if b = w.heap.size then some o else w.heap[b]? := by
  simp only [World.alloc, Array.getElem?_push]

theorem ownB_set {nid k b : Nat} {L : Loc} {blk : ABlk} (he : k ≠ nid) : OwnB (setφ φ nid L) (hset H nid blk) k b ↔ OwnB φ H k b := by
  unfold OwnB Own
  rw [setφ_ne _ _ he, setφ_more _ _ he, sig, hget_set_ne _ _ _ _ he]

/-- A new block. -/
theorem evo_new (hs : HSat φ H w) {nid : Nat} (hf : hget H nid = .fresh) {w1 : World} (h1 : SameHeap w w1) (ob : Obj) (blk : ABlk) (cap : Nat) :
    Evo φ H w (setφ φ nid ⟨w.heap.size, 0, cap⟩) (hset H nid blk) (w1.alloc ob) where
  os := h1.os
  tape := h1.tape
  output := h1.output
  size := by simp [h1.heap]
  ext := rfl
  base := rfl
  frame b hb _ := by rw [heap_alloc, h1.heap, if_neg (by omega)]
  blk b hm := by
    obtain ⟨id, ho⟩ := hm
    by_cases he : id = nid
    · subst he
      obtain ⟨_, hb⟩ := ho
      rw [setφ_same] at hb
      have := hb.resolve_right (setφ_none _ _ _ b)
      exact .inl (by simp only at this; omega)
    · exact .inr ⟨id, (ownB_set he).1 ho⟩
  used id hu := by
    have he : id ≠ nid := fun he => by rw [he, hf] at hu; cases hu
    rw [hget_set_ne _ _ _ _ he]; exact hu
  ids id s hu hsig := by
    have he : id ≠ nid := fun he => by rw [he, hf] at hu; cases hu
    rw [sig, hget_set_ne _ _ _ _ he] at hsig
    exact ⟨hsig, setφ_ne _ _ he⟩

theorem hsat_new (hs : HSat φ H w) {nid : Nat} (hf : hget H nid = .fresh) {w1 : World} (h1 : SameHeap w w1) (ob : Obj) (blk : ABlk) (cap : Nat)
    (hB : BRep (setφ φ nid ⟨w.heap.size, 0, cap⟩) (hset H nid blk) (w1.alloc ob) nid blk) : HSat (setφ φ nid ⟨w.heap.size, 0, cap⟩) (hset H nid blk) (w1.alloc ob) where
  blk id := by
    by_cases he : id = nid
    · subst he; rw [hget_set_same]; exact hB
    · rw [hget_set_ne _ _ _ _ he]
      refine BRep.keep (evo_new hs hf h1 ob blk cap) (setφ_ne _ _ he) (setφ_more _ _ he) (fun b hsig hc hb => ?_) (hs.blk id)
      rw [heap_alloc, h1.heap]
      have := ownB_lt hs ⟨⟨hsig, hc⟩, hb⟩
      rw [if_neg (by omega)]
  inj i j b hi hj := by
    have new : OwnB (setφ φ nid ⟨w.heap.size, 0, cap⟩) (hset H nid blk) nid b → b = w.heap.size := by
      rintro ⟨_, hb⟩
      rw [setφ_same] at hb
      exact (hb.resolve_right (setφ_none _ _ _ b)).symm
    by_cases hi' : i = nid
    · by_cases hj' : j = nid
      · rw [hi', hj']
      · have := ownB_lt hs ((ownB_set hj').1 hj)
        rw [hi'] at hi
        have := new hi
        omega
    · by_cases hj' : j = nid
      · have := ownB_lt hs ((ownB_set hi').1 hi)
        rw [hj'] at hj
        have := new hj
        omega
      · exact hs.inj i j b ((ownB_set hi').1 hi) ((ownB_set hj').1 hj)
  ext i b hi he := by
    by_cases hi' : i = nid
    · subst hi'
      obtain ⟨_, hb⟩ := hi
      rw [setφ_same] at hb
      have e := hb.resolve_right (setφ_none _ _ _ b)
      have := hs.extlt b he
      simp only at e; omega
    · exact hs.ext i b ((ownB_set hi').1 hi) he
  extlt b hb := by
    have := hs.extlt b hb
    simp [h1.heap]; omega

/-- A block given up. -/
theorem ownB_kill {id k b : Nat} (h : OwnB φ (hset H id .dead) k b) : k ≠ id ∧ OwnB φ H k b := by
  obtain ⟨⟨h1, h2⟩, h3⟩ := h
  by_cases he : k = id
  · subst he; rw [sig, hget_set_same] at h1; simp [ABlk.sig] at h1
  · rw [sig, hget_set_ne _ _ _ _ he] at h1; exact ⟨he, ⟨h1, h2⟩, h3⟩
theorem evo_kill {id : Nat} (hu : (hget H id).used = true) : Evo φ H w φ (hset H id .dead) w where
  os := rfl
  tape := rfl
  output := rfl
  size := Nat.le_refl _
  ext := rfl
  base := rfl
  frame _ _ _ := rfl
  blk b hm := by
    obtain ⟨k, hk⟩ := hm
    exact .inr ⟨k, (ownB_kill hk).2⟩
  used k hk := by
    by_cases he : k = id
    · subst he; rw [hget_set_same]; rfl
    · rw [hget_set_ne _ _ _ _ he]; exact hk
  ids k s hk hsig := by
    by_cases he : k = id
    · subst he; rw [sig, hget_set_same] at hsig; simp [ABlk.sig] at hsig
    · rw [sig, hget_set_ne _ _ _ _ he] at hsig; exact ⟨hsig, rfl⟩

theorem own_kill {id k : Nat} (h : Own φ (hset H id .dead) k) : k ≠ id ∧ Own φ H k :=
  ⟨(ownB_kill (b := (φ k).b) ⟨h, .inl rfl⟩).1, (ownB_kill (b := (φ k).b) ⟨h, .inl rfl⟩).2.1⟩

theorem hsat_kill (hs : HSat φ H w) {id : Nat} (hu : (hget H id).used = true) : HSat φ (hset H id .dead) w where
  blk k := by
    by_cases he : k = id
    · subst he; rw [hget_set_same]; trivial
    · rw [hget_set_ne _ _ _ _ he]
      exact BRep.keep (evo_kill hu) rfl (fun _ => Iff.rfl) (fun _ _ _ _ => rfl) (hs.blk k)
  inj i j b hi hj := hs.inj i j b (ownB_kill hi).2 (ownB_kill hj).2
  ext i b hi := hs.ext i b (ownB_kill hi).2
  extlt := hs.extlt

/-- A block of which some cells are written: its places stay. -/
theorem used_of_sig {blk : ABlk} (h : blk.sig.isSome = true) : blk.used = true := by
  cases blk <;> first | rfl | (simp [ABlk.sig] at h)
theorem evo_put (hs : HSat φ H w) {id : Nat} {blk : ABlk} (hsig : blk.sig = sig H id) (hown : Own φ H id) (hsame : SameHeap w w → True)
    (hos : w'.os = w.os) (htape : w'.tape = w.tape) (hout : w'.output = w.output) (hsz : w'.heap.size = w.heap.size) (hheap : ∀ b, b ≠ (φ id).b → w'.heap[b]? = w.heap[b]?) :
    Evo φ H w φ (hset H id blk) w' where
  os := hos
  tape := htape
  output := hout
  size := by omega
  ext := rfl
  base := rfl
  frame b _ hm := hheap b (fun he => hm (he ▸ hown.b))
  blk b hm := by
    obtain ⟨k, ⟨h1, h2⟩, hb⟩ := hm
    by_cases he : k = id
    · subst he; exact .inr ⟨k, hown, hb⟩
    · rw [sig, hget_set_ne _ _ _ _ he] at h1; exact .inr ⟨k, ⟨h1, h2⟩, hb⟩
  used k hk := by
    by_cases he : k = id
    · subst he
      rw [hget_set_same]
      exact used_of_sig (by rw [hsig]; exact hown.1)
    · rw [hget_set_ne _ _ _ _ he]; exact hk
  ids k s hk hs' := by
    by_cases he : k = id
    · subst he; rw [sig, hget_set_same, hsig] at hs'; exact ⟨hs', rfl⟩
    · rw [sig, hget_set_ne _ _ _ _ he] at hs'; exact ⟨hs', rfl⟩

theorem hsat_put (hs : HSat φ H w) {id : Nat} {blk : ABlk} (hsig : blk.sig = sig H id) (hown : Own φ H id)
    (hos : w'.os = w.os) (htape : w'.tape = w.tape) (hout : w'.output = w.output) (hsz : w'.heap.size = w.heap.size) (hheap : ∀ b, b ≠ (φ id).b → w'.heap[b]? = w.heap[b]?)
    (hB : BRep φ (hset H id blk) w' id blk) : HSat φ (hset H id blk) w' := by
  have key : ∀ k b, OwnB φ (hset H id blk) k b → OwnB φ H k b := by
    rintro k b ⟨⟨h1, h2⟩, h3⟩
    by_cases he : k = id
    · subst he; exact ⟨hown, h3⟩
    · rw [sig, hget_set_ne _ _ _ _ he] at h1; exact ⟨⟨h1, h2⟩, h3⟩
  refine ⟨fun k => ?_, fun i j b hi hj => hs.inj i j b (key i b hi) (key j b hj), fun k b hk => hs.ext k b (key k b hk), fun b hb => by rw [hsz]; exact hs.extlt b hb⟩
  by_cases he : k = id
  · subst he; rw [hget_set_same]; exact hB
  · rw [hget_set_ne _ _ _ _ he]
    refine BRep.keep (evo_put hs hsig hown (fun _ => trivial) hos htape hout hsz hheap) rfl (fun _ => Iff.rfl) (fun b h1 h2 h3 => hheap _ (fun hb => ?_)) (hs.blk k)
    exact he (hs.inj k id b ⟨⟨h1, h2⟩, h3⟩ ⟨hown, .inl hb.symm⟩)

/-! alloc, box -/
theorem one_rep {av : AV} {v : Value} (h : av.one = true) (hr : Rep φ H w av v) : v.oneCell' = true ∧ v.cells = #[v] := by
  cases av <;> simp only [AV.one] at h <;> try cases h
  · cases hr.inv_int; exact ⟨rfl, rfl⟩
  · cases hr.inv_bool; exact ⟨rfl, rfl⟩
  · cases hr.inv_str; exact ⟨rfl, rfl⟩
  · cases hr.inv_raw
    refine ⟨h, ?_⟩
    cases v <;> simp_all [Value.oneCell', Value.cells]
  · obtain ⟨vs, rfl, _⟩ := hr.inv_fn; exact ⟨rfl, rfl⟩
  · obtain ⟨base, cap, b, o', sz, vs, rfl, _⟩ := hr.ro_facts; exact ⟨rfl, rfl⟩
  · obtain ⟨b, o', rfl, _⟩ := cells_of_rop hr; exact ⟨rfl, rfl⟩
  · obtain ⟨base, cap', rfl, _⟩ := hr.inv_sl; exact ⟨rfl, rfl⟩
  · obtain ⟨ad, rfl, _⟩ := hr.inv_ptr; exact ⟨rfl, rfl⟩
  · obtain ⟨l, rfl, _⟩ := hr.inv_yld; exact ⟨rfl, rfl⟩
  · obtain ⟨l, rfl, _⟩ := hr.inv_mp; exact ⟨rfl, rfl⟩

/-- The cells of a value and of its abstract value. -/
theorem cells_rep {av : AV} {v : Value} (h : aggOr av = true) (hr : Rep φ H w av v) :
    (cellsA av).length = v.cells.size ∧ ∀ (i : Nat) c u, (cellsA av)[i]? = some c → v.cells[i]? = some u → Rep φ H w c u := by
  cases av with
  | agg cs =>
    obtain ⟨vs, rfl, hl, h⟩ := hr.inv_agg
    exact ⟨hl, h⟩
  | _ =>
    obtain ⟨_, e⟩ := one_rep (by simpa [aggOr] using h) hr
    rw [e]
    refine ⟨by simp [cellsA], fun i c u hc hu => ?_⟩
    cases i with
    | zero => simp [cellsA] at hc hu; subst hc hu; exact hr
    | succ i => simp [cellsA] at hc

/-- A new variable holds what it is given. -/
theorem sound_newbox {nid : Nat} {cs : List AV} {vs : Array Value} {T : TypeId} (hs : HSat φ H w) (hf : hget H nid = .fresh) (hl : cs.length = vs.size) (hpos : 0 < cs.length)
    (h : ∀ (i : Nat) c u, cs[i]? = some c → vs[i]? = some u → Rep φ H w c u) :
    ∃ φ', HSat φ' (hset H nid (.box cs)) (w.alloc (.cells vs T)) ∧ Rep φ' (hset H nid (.box cs)) (w.alloc (.cells vs T)) (.ptr nid 0 0) (.pointer (some ⟨w.heap.size, 0, none⟩)) ∧
      Evo φ H w φ' (hset H nid (.box cs)) (w.alloc (.cells vs T)) := by
  have e := evo_new hs hf (SameHeap.refl w) (.cells vs T) (.box cs) 1
  refine ⟨setφ φ nid ⟨w.heap.size, 0, 1⟩, hsat_new hs hf (SameHeap.refl w) _ _ 1 ?_, .ptr _ (by rw [hget_set_same]; rfl) ?_, e⟩
  · refine ⟨by rw [setφ_same], setφ_none _ _ _, vs, T, by rw [setφ_same, heap_alloc, if_pos rfl], fun j av hav => ?_⟩
    have lt : j < vs.size := by rw [← hl]; exact (List.getElem?_eq_some_iff.1 hav).1
    exact ⟨vs[j], by rw [setφ_same]; simp [lt], (h j av _ hav (Array.getElem?_eq_getElem lt)).evo e⟩
  · intro sz n hsig
    rw [sig, hget_set_same] at hsig
    simp only [ABlk.sig, Option.some.injEq, Prod.mk.injEq] at hsig
    obtain ⟨rfl, rfl⟩ := hsig
    exact ⟨by omega, hpos, by rw [setφ_same]; simp⟩

theorem ofC_get {vs : Array Value} {i : Nat} {c : AV} {u : Value} (hc : (vs.toList.map AV.ofC)[i]? = some c) (hu : vs[i]? = some u) : c = AV.ofC u := by
  simp only [List.getElem?_map, Array.getElem?_toList, hu, Option.map_some, Option.some.injEq] at hc
  exact hc.symm

theorem sound_alloc {nid : Nat} {t : TypeId} (ho : o.op = .alloc t) (hs : HSat φ H w) (hf : hget H nid = .fresh) : SoundEff P φ H w a o (eAlloc nid (tiOf P t)) := by
  intro hc
  obtain ⟨h1, h2, h3⟩ := hc
  obtain ⟨d, i, z, hu, hi, hz, hk, hsz, _, hzero⟩ := tiOf_info h1
  have hl : (tiOf P t).zero.length = z.cells.size := by rw [hzero]; simp
  obtain ⟨φ', g1, g2, g3⟩ := sound_newbox (T := t) (vs := z.cells) hs hf hl (by rw [← alen_eq, h2]; exact h1) (fun i c u hc hu => by
    rw [hzero] at hc; rw [ofC_get hc hu]; exact .g (repG_ofC _ u))
  exact ⟨_, _, φ', .inl (by simp [execOp, ho, Instr.alloc, zeroValue, typeInfo, hi, hz, newVar, newRow]), g1, g2, g3⟩

theorem sound_box {nid : Nat} {t : TypeId} {x : Operand} (ho : o.op = .box t x) (hs : HSat φ H w) (hf : hget H nid = .fresh) (hρ : ∀ x, Rep φ H w (ρ x) (a.eval x)) :
    SoundEff P φ H w a o (eBox nid (ρ x)) := by
  have hx := hρ x
  have run : (execOp a.eval o).run P w = .ok (.value (.pointer (some ⟨w.heap.size, 0, none⟩))) (w.alloc (.cells (a.eval x).cells t)) := by
    simp [execOp, ho, Instr.box, newVar, newRow]
  unfold eBox
  split
  · rename_i cs hX
    rw [hX] at hx
    intro hc
    obtain ⟨hl, hcells⟩ := cells_rep (by rfl) hx
    obtain ⟨φ', g1, g2, g3⟩ := sound_newbox (T := t) hs hf hl (by simp only [cellsA]; rw [← alen_eq]; exact hc.1) hcells
    exact ⟨_, _, φ', .inl run, g1, g2, g3⟩
  · rename_i hX
    intro hc
    have hagg : aggOr (ρ x) = true := by
      generalize ρ x = X at *
      cases X <;> simp_all [aggOr]
    obtain ⟨hl, hcells⟩ := cells_rep hagg hx
    have e : cellsA (ρ x) = [ρ x] := by
      generalize ρ x = X at *
      cases X <;> simp_all [cellsA]
    rw [e] at hl hcells
    obtain ⟨φ', g1, g2, g3⟩ := sound_newbox (T := t) hs hf hl (by simp) hcells
    exact ⟨_, _, φ', .inl run, g1, g2, g3⟩

/-- A new row. -/
theorem sound_newvec {nid sz n cap : Nat} {f : Nat → List AV} {c : Array Value} {T : TypeId} {w1 : World} (hs : HSat φ H w) (hf : hget H nid = .fresh) (h1 : SameHeap w w1) (hsz : 0 < sz) (hn : n ≤ cap) (hcap : cap ≤ 9223372036854775807)
    (hlen : ∀ i, i < n → (f i).length = sz) (hfit : cap * sz ≤ c.size)
    (h : ∀ (i j : Nat) av, i < n → (f i)[j]? = some av → ∃ v, c[i * sz + j]? = some v ∧ v.oneCell' = true ∧ RepG w (MB φ H) av v) :
    ∃ φ', HSat φ' (hset H nid (.vec sz n f)) (w1.alloc (.cells c T)) ∧ Rep φ' (hset H nid (.vec sz n f)) (w1.alloc (.cells c T)) (.sl nid 0 n) (.slice (some ⟨w.heap.size, 0, none⟩) n cap) ∧
      Evo φ H w φ' (hset H nid (.vec sz n f)) (w1.alloc (.cells c T)) := by
  have e := evo_new hs hf h1 (.cells c T) (.vec sz n f) cap
  refine ⟨setφ φ nid ⟨w.heap.size, 0, cap⟩, hsat_new hs hf h1 _ _ cap ?_, .sl _ _ (by rw [hget_set_same]; rfl) (fun _ => rfl) hn hcap ?_, e⟩
  · refine ⟨setφ_none _ _ _, hsz, by rw [setφ_same]; exact hn, by rw [setφ_same]; exact hcap, hlen, fun _ => ⟨c, T, ?_, by rw [setφ_same]; simpa using hfit, fun i j av hi hav => ?_⟩⟩
    · rw [setφ_same, heap_alloc, h1.heap, if_pos rfl]
    · obtain ⟨v, g1, g2, g3⟩ := h i j av hi hav
      exact ⟨v, by rw [setφ_same]; simpa using g1, g2, g3.move e.frame' e.sub⟩
  · intro sz' n' hsig
    rw [sig, hget_set_same] at hsig
    simp only [ABlk.sig, Option.some.injEq, Prod.mk.injEq] at hsig
    obtain ⟨rfl, rfl⟩ := hsig
    rw [setφ_same]
    exact ⟨by omega, by simp, fun _ => by simp⟩

theorem gone_ofC {u : Value} (h : (AV.ofC u).goneB = true) : u.oneCell' = true := by
  cases u <;> simp_all [AV.ofC, AV.goneB, Value.oneCell']

theorem sound_make {nid : Nat} {t : TypeId} {x y : Operand} (ho : o.op = .makeSlice t x y) (hs : HSat φ H w) (hf : hget H nid = .fresh) (hρ : ∀ x, Rep φ H w (ρ x) (a.eval x)) :
    SoundEff P φ H w a o (eMake P nid (tiOf P t) (ρ x) (ρ y)) := by
  have hx := hρ x
  have hy := hρ y
  unfold eMake
  split
  · rename_i e k l k' c hk hX hY
    rw [hX] at hx; rw [hY] at hy
    intro hc
    obtain ⟨h0, h1, h2, h3, h4, h5, h6⟩ := hc
    have hu := und_slice hk
    obtain ⟨d, i, z, hue, hi, hz, hke, hsz, hby, hzero⟩ := tiOf_info h4
    have run := run_make (P := P) w t e i z hu hi hz k k' l c h0 h1 (by rw [hby] at h2; omega) (by omega)
    have hzl : z.cells.size = i.size := by rw [← hsz, ← h5, alen_eq, hzero]; simp
    have hi0 : 0 < i.size := by omega
    have fit : (madeCells z.cells (c.toNat * i.size)).size = c.toNat * i.size := size_madeCells _ _
    obtain ⟨φ', g1, g2, g3⟩ := sound_newvec (T := e) (sz := (tiOf P e).size) (n := l.toNat) (cap := c.toNat) (f := constF (tiOf P e).zero) (c := madeCells z.cells (c.toNat * i.size)) hs hf (SameHeap.refl w) h4 (by omega) (by omega)
      (fun i _ => by simp only [constF]; rw [← alen_eq]; exact h5) (by rw [fit, hsz]; exact Nat.le_refl _) (fun p q av hp hav => by
        simp only [constF] at hav
        rw [hzero] at hav
        have hq : q < z.cells.size := by have := (List.getElem?_eq_some_iff.1 hav).1; simpa using this
        have lt : p * (tiOf P e).size + q < c.toNat * i.size := by rw [hsz]; exact mul_add_lt (by omega) (by omega)
        have em : (p * (tiOf P e).size + q) % z.cells.size = q := by rw [hsz, hzl, Nat.mul_comm, Nat.mul_add_mod, Nat.mod_eq_of_lt (by omega)]
        refine ⟨z.cells[q], ?_, ?_, ?_⟩
        · simp only [madeCells, Array.getElem?_map, Array.getElem?_range, lt, if_true, Option.map_some, em]
          simp [hq]
        · have hg := (allA_iff _ _).1 h6 (AV.ofC z.cells[q]) (by rw [hzero]; simp; exact ⟨_, by simp, rfl⟩)
          exact gone_ofC hg
        · rw [ofC_get hav (Array.getElem?_eq_getElem hq)]; exact repG_ofC _ _)
    refine ⟨_, _, φ', .inl ?_, g1, g2, g3⟩
    simp [execOp, ho, hx.inv_int, hy.inv_int, run]
  · trivial
end
end Go.SH
