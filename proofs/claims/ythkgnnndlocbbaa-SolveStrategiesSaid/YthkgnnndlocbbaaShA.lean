/-
  THE SYMBOLIC HEAP, PART A: abstract values, abstract blocks, and what they say of a world. No condition.
-/
import Derived.Calls
import Derived.Below
import Derived.Laws.Sem
namespace Go.SH
set_option linter.unusedVariables false
set_option linter.unusedSimpArgs false
open Go Go.RowKit

/-- Abstract values. 'ro': an immutable slice, given by its length and each element's cells; 'rop': a pointer to immutable cells; 'sl', 'ptr': into a block of the abstract heap; 'yld': what a loop over a function hands to it; 'mp': a map whose keys are ints. -/
inductive AV where
  | undef
  | int (k : IntKind) (n : Int)
  | bool (b : Bool)
  | str (s : List UInt8)
  | raw (v : Value)
  | agg (cs : List AV)
  | tup (cs : List AV)
  | fn (f : Fn) (caps : List AV)
  | ro (n : Nat) (f : Nat → List AV)
  | rop (cells : List AV)
  | sl (id off len : Nat)
  | ptr (id i j : Nat)
  | yld (id : Nat)
  | mp (id : Nat)
instance : Inhabited AV := ⟨.undef⟩

def AV.scalar : AV → Bool
  | .int .. | .bool _ | .str _ | .raw _ => true
  | _ => false

/-- A block of the abstract heap: a variable's cells; a row of n elements of sz cells each, element i being 'f i'. -/
inductive LoopSt where
  | ready
  | busy
  | done (c : Code)
  | over (c : Option Code)
def LoopSt.state : LoopSt → LoopState
  | .ready => .ready
  | .busy => .busy
  | .done _ => .done
  | .over _ => .exhausted
def LoopSt.pending : LoopSt → Option Code
  | .done c => some c
  | .over c => c
  | _ => none
/-- A row within rows: its own; held by another block; none known. -/
inductive MRow where
  | row (sz m : Nat) (f : Nat → List AV)
  | lent (id : Nat)
  | hole
inductive ABlk where
  | fresh
  | dead
  | box (cs : List AV)
  | vec (sz n : Nat) (f : Nat → List AV)
  | mat (n : Nat) (g : Nat → MRow)
  | loop (ps : List Nat) (asg body : Code) (s : LoopSt) (slots : List AV)
  | map (es : List (Int × AV))

structure Loc where
  b : Nat
  o : Nat
  cap : Nat

/-- Where the abstract blocks lie; 'ext': further blocks that may change later, by others; 'more': further blocks that are an abstract block's own; 'base': blocks from there on may bear a loop's deferred calls. -/
structure Env where
  loc : Nat → Loc
  ext : Nat → Prop
  more : Nat → Nat → Prop := fun _ _ => False
  base : Nat := 0
instance : CoeFun Env (fun _ => Nat → Loc) := ⟨Env.loc⟩

def ABlk.sig : ABlk → Option (Nat × Nat)
  | .box cs => some (cs.length, 1)
  | .vec sz n _ => some (sz, n)
  | .mat n _ => some (1, n)
  | .loop .. => some (0, 0)
  | .map _ => some (0, 2)
  | _ => none

def hget : List ABlk → Nat → ABlk
  | [], _ => .fresh
  | b :: _, 0 => b
  | _ :: l, n + 1 => hget l n

def hset : List ABlk → Nat → ABlk → List ABlk
  | [], 0, b => [b]
  | [], n + 1, b => .fresh :: hset [] n b
  | _ :: l, 0, b => b :: l
  | x :: l, n + 1, b => x :: hset l n b

def sget : List AV → Nat → AV
  | [], _ => .undef
  | a :: _, 0 => a
  | _ :: l, n + 1 => sget l n

def sput : List AV → Nat → AV → List AV
  | [], _, _ => []
  | _ :: l, 0, v => v :: l
  | a :: l, n + 1, v => a :: sput l n v

def hlen : List ABlk → Nat
  | [] => 0
  | _ :: l => hlen l + 1

theorem hlen_eq (H : List ABlk) : hlen H = H.length := by induction H <;> simp_all [hlen]

abbrev sig (H : List ABlk) (id : Nat) : Option (Nat × Nat) := (hget H id).sig

def ABlk.used : ABlk → Bool
  | .fresh => false
  | _ => true

theorem hget_set_same (H : List ABlk) (i : Nat) (b : ABlk) : hget (hset H i b) i = b := by
  induction H generalizing i with
  | nil => induction i <;> simp_all [hget, hset]
  | cons x l ih => cases i <;> simp_all [hget, hset]

theorem hget_nil_set (i j : Nat) (b : ABlk) (h : j ≠ i) : hget (hset [] i b) j = .fresh := by
  induction i generalizing j with
  | zero => cases j <;> simp_all [hget, hset]
  | succ i ih => cases j with
    | zero => simp [hget, hset]
    | succ j => simp only [hget, hset]; exact ih j (by omega)

theorem hget_set_ne (H : List ABlk) (i j : Nat) (b : ABlk) (h : j ≠ i) : hget (hset H i b) j = hget H j := by
  induction H generalizing i j with
  | nil => rw [hget_nil_set i j b h]; simp [hget]
  | cons x l ih =>
    cases i with
    | zero => cases j <;> simp_all [hget, hset]
    | succ i => cases j with
      | zero => simp [hget, hset]
      | succ j => simp only [hget, hset]; exact ih i j (by omega)

theorem sget_put_same (l : List AV) (i : Nat) (v : AV) (h : i < l.length) : sget (sput l i v) i = v := by
  induction l generalizing i with
  | nil => simp at h
  | cons x l ih => cases i with
    | zero => simp [sget, sput]
    | succ i => simp only [sget, sput]; exact ih i (by simpa using h)

theorem sget_put_ne (l : List AV) (i j : Nat) (v : AV) (h : j ≠ i) : sget (sput l i v) j = sget l j := by
  induction l generalizing i j with
  | nil => simp [sget, sput]
  | cons x l ih =>
    cases i with
    | zero => cases j <;> simp_all [sget, sput]
    | succ i => cases j with
      | zero => simp [sget, sput]
      | succ j => simp only [sget, sput]; exact ih i j (by omega)

theorem sput_length (l : List AV) (i : Nat) (v : AV) : (sput l i v).length = l.length := by
  induction l generalizing i with
  | nil => simp [sput]
  | cons x l ih => cases i <;> simp_all [sput]

theorem sget_getElem? (l : List AV) (i : Nat) : sget l i = (l[i]?).getD .undef := by
  induction l generalizing i with
  | nil => simp [sget]
  | cons x l ih => cases i <;> simp_all [sget]

/-- Values that hold no part of a block that is being changed. M: the blocks that may change. -/
inductive RepG (w : World) (M : Nat → Prop) : AV → Value → Prop
  | undef (v : Value) : RepG w M .undef v
  | int (k : IntKind) (n : Int) : RepG w M (.int k n) (.int k n)
  | bool (b : Bool) : RepG w M (.bool b) (.bool b)
  | str (s : List UInt8) : RepG w M (.str s) (.string ⟨s.toArray⟩)
  | raw (v : Value) : RepG w M (.raw v) v
  | agg {cs : List AV} {vs : Array Value} (hl : cs.length = vs.size) (h : ∀ (i : Nat) c v, cs[i]? = some c → vs[i]? = some v → RepG w M c v) : RepG w M (.agg cs) (.agg vs)
  | tup {cs : List AV} {vs : Array Value} (hl : cs.length = vs.size) (h : ∀ (i : Nat) c v, cs[i]? = some c → vs[i]? = some v → RepG w M c v) : RepG w M (.tup cs) (.tuple vs)
  | fn {f : Fn} {cs : List AV} {vs : Array Value} (hl : cs.length = vs.size) (h : ∀ (i : Nat) c v, cs[i]? = some c → vs[i]? = some v → RepG w M c v) : RepG w M (.fn f cs) (.func f #[] vs)
  | ro {n : Nat} {f : Nat → List AV} (base : Option Addr) (cap b o sz : Nat) (vs : Nat → Value) (hn : n ≤ cap) (hc : cap ≤ 9223372036854775807) (hsz : 0 < sz)
      (hbase : 0 < n → base = some ⟨b, o, none⟩) (hM : 0 < n → ¬ M b) (hcell : ∀ k, k < n * sz → w.cell? ⟨b, o + k, none⟩ = some (vs k)) (hone : ∀ k, k < n * sz → (vs k).oneCell' = true)
      (hlen : ∀ i, i < n → (f i).length = sz) (hrep : ∀ (i j : Nat) c, i < n → (f i)[j]? = some c → RepG w M c (vs (i * sz + j))) : RepG w M (.ro n f) (.slice base n cap)
  | rop {cells : List AV} (b o : Nat) (vs : Nat → Value) (hM : 0 < cells.length → ¬ M b) (hcell : ∀ k, k < cells.length → w.cell? ⟨b, o + k, none⟩ = some (vs k))
      (hrep : ∀ (j : Nat) c, cells[j]? = some c → RepG w M c (vs j)) : RepG w M (.rop cells) (.pointer (some ⟨b, o, none⟩))

def Own (φ : Env) (H : List ABlk) (id : Nat) : Prop := (sig H id).isSome ∧ 0 < (φ id).cap
/-- The blocks that are one's own. -/
def OwnB (φ : Env) (H : List ABlk) (id b : Nat) : Prop := Own φ H id ∧ ((φ id).b = b ∨ φ.more id b)
def MBo (φ : Env) (H : List ABlk) (b : Nat) : Prop := ∃ id, OwnB φ H id b
/-- The blocks that may change. -/
def MB (φ : Env) (H : List ABlk) (b : Nat) : Prop := MBo φ H b ∨ φ.ext b

def SlAt (L : Loc) (sz off len cap' n : Nat) (base : Option Addr) : Prop :=
  off + len ≤ n ∧ cap' + off = L.cap ∧ (0 < cap' → base = some ⟨L.b, L.o + off * sz, none⟩)

inductive Rep (φ : Env) (H : List ABlk) (w : World) : AV → Value → Prop
  | g {av : AV} {v : Value} (h : RepG w (MB φ H) av v) : Rep φ H w av v
  | agg {cs : List AV} {vs : Array Value} (hl : cs.length = vs.size) (h : ∀ (i : Nat) c v, cs[i]? = some c → vs[i]? = some v → Rep φ H w c v) : Rep φ H w (.agg cs) (.agg vs)
  | tup {cs : List AV} {vs : Array Value} (hl : cs.length = vs.size) (h : ∀ (i : Nat) c v, cs[i]? = some c → vs[i]? = some v → Rep φ H w c v) : Rep φ H w (.tup cs) (.tuple vs)
  | fn {f : Fn} {cs : List AV} {vs : Array Value} (hl : cs.length = vs.size) (h : ∀ (i : Nat) c v, cs[i]? = some c → vs[i]? = some v → Rep φ H w c v) : Rep φ H w (.fn f cs) (.func f #[] vs)
  | sl {id off len : Nat} (base : Option Addr) (cap' : Nat) (hu : (hget H id).used = true) (hb : 0 < len → base.isSome = true) (hl : len ≤ cap') (hc : cap' ≤ 9223372036854775807)
      (h : ∀ sz n, sig H id = some (sz, n) → SlAt (φ id) sz off len cap' n base) : Rep φ H w (.sl id off len) (.slice base len cap')
  | ptr {id i j : Nat} (a : Addr) (hu : (hget H id).used = true) (h : ∀ sz n, sig H id = some (sz, n) → i < n ∧ j < sz ∧ a = ⟨(φ id).b, (φ id).o + i * sz + j, none⟩) :
      Rep φ H w (.ptr id i j) (.pointer (some a))
  | yld {id : Nat} (l : Nat) (hu : (hget H id).used = true) (h : ∀ s, sig H id = some s → l = (φ id).b) : Rep φ H w (.yld id) (.func (.yield l) #[] #[])
  | mp {id : Nat} (l : Nat) (hu : (hget H id).used = true) (h : ∀ s, sig H id = some s → l = (φ id).b) : Rep φ H w (.mp id) (.map (some l))

/-- A row at a place. -/
def RowRep (w : World) (M : Nat → Prop) (L : Loc) (sz n : Nat) (f : Nat → List AV) : Prop :=
  0 < sz ∧ n ≤ L.cap ∧ L.cap ≤ 9223372036854775807 ∧ (∀ i, i < n → (f i).length = sz) ∧
    (0 < L.cap → ∃ c T, w.heap[L.b]? = some (.cells c T (0, 0)) ∧ L.o + L.cap * sz ≤ c.size ∧
      ∀ (i j : Nat) av, i < n → (f i)[j]? = some av → ∃ v, c[L.o + i * sz + j]? = some v ∧ v.oneCell' = true ∧ RepG w M av v)
/-- A row within rows, and its cell. -/
def CRow (φ : Env) (H : List ABlk) (w : World) (L : Loc) (v : Value) : MRow → Prop
  | .row sz m f => (∃ bo, v = .slice bo m L.cap ∧ (0 < L.cap → bo = some ⟨L.b, L.o, none⟩)) ∧ RowRep w (MB φ H) L sz m f
  | .lent k => ∃ m, (∀ sz n, sig H k = some (sz, n) → m = n) ∧ Rep φ H w (.sl k 0 m) v
  | .hole => v.oneCell' = true
def MRow.own : MRow → Bool
  | .row .. => true
  | _ => false
/-- The rows' blocks: Ls: where they lie. -/
def MatOwn (Ls : Nat → Loc) (n : Nat) (g : Nat → MRow) (b : Nat) : Prop := ∃ i, i < n ∧ (g i).own = true ∧ 0 < (Ls i).cap ∧ (Ls i).b = b
def BRep (φ : Env) (H : List ABlk) (w : World) (id : Nat) : ABlk → Prop
  | .fresh => True
  | .dead => True
  | .loop ps asg body s slots => (φ id).cap = 1 ∧ (∀ b, ¬ φ.more id b) ∧ ∃ r : Loop, w.heap[(φ id).b]? = some (.loop r) ∧ r.params.toList = ps ∧ r.assign = asg ∧ r.body = body ∧ r.state = s.state ∧ r.pending = s.pending ∧
      slots.length = r.tmps.size ∧ ∀ i, Rep φ H w (sget slots i) (r.tmps.getD i undef)
  | .map es => (φ id).cap = 1 ∧ (∀ b, ¬ φ.more id b) ∧ ∃ (arr : Array MapEntry) (clk : Nat), w.heap[(φ id).b]? = some (.map arr clk) ∧ arr.size = es.length ∧
      ∀ (i : Nat) k v, es[i]? = some (k, v) → ∃ e : MapEntry, arr[i]? = some e ∧ e.key = .int .i64 k ∧ RepG w (MB φ H) v e.val
  | .mat n g => n ≤ (φ id).cap ∧ (φ id).cap ≤ 9223372036854775807 ∧ ∃ Ls : Nat → Loc, (∀ b, φ.more id b ↔ MatOwn Ls n g b) ∧ (¬ MatOwn Ls n g (φ id).b) ∧
      (∀ i j, i < n → j < n → (g i).own = true → (g j).own = true → 0 < (Ls i).cap → 0 < (Ls j).cap → (Ls i).b = (Ls j).b → i = j) ∧
      (0 < (φ id).cap → ∃ c T, w.heap[(φ id).b]? = some (.cells c T (0, 0)) ∧ (φ id).o + (φ id).cap ≤ c.size ∧ ∀ i, i < n → ∃ v, c[(φ id).o + i]? = some v ∧ CRow φ H w (Ls i) v (g i))
  | .box cs => (φ id).cap = 1 ∧ (∀ b, ¬ φ.more id b) ∧ ∃ c T, w.heap[(φ id).b]? = some (.cells c T (0, 0)) ∧ ∀ (j : Nat) av, cs[j]? = some av → ∃ v, c[(φ id).o + j]? = some v ∧ Rep φ H w av v
  | .vec sz n f => (∀ b, ¬ φ.more id b) ∧ RowRep w (MB φ H) (φ id) sz n f

structure HSat (φ : Env) (H : List ABlk) (w : World) : Prop where
  blk : ∀ id, BRep φ H w id (hget H id)
  inj : ∀ i j b, OwnB φ H i b → OwnB φ H j b → i = j
  ext : ∀ i b, OwnB φ H i b → ¬ φ.ext b
  extlt : ∀ b, φ.ext b → b < w.heap.size

/-- What a piece of a run leaves: blocks outside the changeable ones are as they were; new ones are new. -/
structure Evo (φ0 : Env) (H0 : List ABlk) (w0 : World) (φ : Env) (H : List ABlk) (w : World) : Prop where
  os : w.os = w0.os
  tape : w.tape = w0.tape
  output : w.output = w0.output
  size : w0.heap.size ≤ w.heap.size
  ext : φ.ext = φ0.ext
  base : φ.base = φ0.base
  frame : ∀ b, b < w0.heap.size → ¬ MBo φ0 H0 b → w.heap[b]? = w0.heap[b]?
  blk : ∀ b, MBo φ H b → w0.heap.size ≤ b ∨ MBo φ0 H0 b
  used : ∀ id, (hget H0 id).used = true → (hget H id).used = true
  ids : ∀ id s, (hget H0 id).used = true → sig H id = some s → sig H0 id = some s ∧ φ id = φ0 id

theorem Evo.frame' {φ0 φ1 : Env} {H0 H1 : List ABlk} {w0 w1 : World} (h : Evo φ0 H0 w0 φ1 H1 w1) : ∀ b, b < w0.heap.size → ¬ MB φ0 H0 b → w1.heap[b]? = w0.heap[b]? :=
  fun b hb hm => h.frame b hb (fun h => hm (.inl h))
theorem Evo.sub {φ0 φ1 : Env} {H0 H1 : List ABlk} {w0 w1 : World} (h : Evo φ0 H0 w0 φ1 H1 w1) : ∀ b, b < w0.heap.size → MB φ1 H1 b → MB φ0 H0 b := by
  intro b hb hm
  rcases hm with hm | hm
  · exact .inl ((h.blk b hm).resolve_left (by omega))
  · exact .inr (h.ext ▸ hm)

theorem Evo.refl (φ : Env) (H : List ABlk) (w : World) : Evo φ H w φ H w :=
  ⟨rfl, rfl, rfl, Nat.le_refl _, rfl, rfl, fun _ _ _ => rfl, fun _ h => .inr h, fun _ h => h, fun _ _ _ h => ⟨h, rfl⟩⟩

theorem Evo.trans {φ0 φ1 φ2 : Env} {H0 H1 H2 : List ABlk} {w0 w1 w2 : World} (h : Evo φ0 H0 w0 φ1 H1 w1) (k : Evo φ1 H1 w1 φ2 H2 w2) : Evo φ0 H0 w0 φ2 H2 w2 where
  os := k.os.trans h.os
  tape := k.tape.trans h.tape
  output := k.output.trans h.output
  size := Nat.le_trans h.size k.size
  ext := k.ext.trans h.ext
  base := k.base.trans h.base
  frame b hb hm := by
    rw [k.frame b (Nat.lt_of_lt_of_le hb h.size) (fun hm1 => ?_), h.frame b hb hm]
    rcases h.blk b hm1 with h1 | h1
    · omega
    · exact hm h1
  blk b hm := by
    rcases k.blk b hm with h1 | h1
    · exact .inl (Nat.le_trans h.size h1)
    · exact h.blk b h1
  used id hu := k.used id (h.used id hu)
  ids id s hu hs := by
    obtain ⟨h1, e1⟩ := k.ids id s (h.used id hu) hs
    obtain ⟨h0, e0⟩ := h.ids id s hu h1
    exact ⟨h0, e1.trans e0⟩

theorem cell_lt {w : World} {b o : Nat} {v : Value} (h : w.cell? ⟨b, o, none⟩ = some v) : b < w.heap.size := by
  simp only [World.cell?] at h
  split at h
  · rename_i hb; exact (Array.getElem?_eq_some_iff.1 hb).1
  · cases h

theorem cell_of_block {w w' : World} {b o : Nat} (h : w'.heap[b]? = w.heap[b]?) : w'.cell? ⟨b, o, none⟩ = w.cell? ⟨b, o, none⟩ := by
  simp [World.cell?, h]

/-- Immutable values stay what they are. -/
theorem RepG.move {w w' : World} {M M' : Nat → Prop} (hk : ∀ b, b < w.heap.size → ¬ M b → w'.heap[b]? = w.heap[b]?) (hm : ∀ b, b < w.heap.size → M' b → M b)
    {av : AV} {v : Value} (h : RepG w M av v) : RepG w' M' av v := by
  induction h with
  | undef v => exact .undef v
  | int k n => exact .int k n
  | bool b => exact .bool b
  | str s => exact .str s
  | raw v => exact .raw v
  | agg hl _ ih => exact .agg hl ih
  | tup hl _ ih => exact .tup hl ih
  | fn hl _ ih => exact .fn hl ih
  | @ro n f base cap b o sz vs hn hc hsz hbase hM hcell hone hlen _ ih =>
    refine .ro base cap b o sz vs hn hc hsz hbase ?_ ?_ hone hlen ih
    · intro hpos hb
      have hp : 0 < n * sz := Nat.mul_pos hpos hsz
      exact hM hpos (hm b (cell_lt (hcell 0 hp)) hb)
    · intro k hklt
      have hpos : 0 < n := Nat.pos_of_ne_zero (fun e => by simp [e] at hklt)
      rw [cell_of_block (hk b (cell_lt (hcell k hklt)) (hM hpos)), hcell k hklt]
  | @rop cells b o vs hM hcell _ ih =>
    refine .rop b o vs ?_ ?_ ih
    · intro hpos hb
      exact hM hpos (hm b (cell_lt (hcell 0 hpos)) hb)
    · intro k hklt
      have hpos : 0 < cells.length := by omega
      rw [cell_of_block (hk b (cell_lt (hcell k hklt)) (hM hpos)), hcell k hklt]

theorem RepG.weaken {w : World} {M M' : Nat → Prop} (hm : ∀ b, M' b → M b) {av : AV} {v : Value} (h : RepG w M av v) : RepG w M' av v :=
  h.move (fun _ _ _ => rfl) (fun b _ hb => hm b hb)

theorem RepG.scalar {w w' : World} {M M' : Nat → Prop} {av : AV} {v : Value} (hs : av.scalar = true) (h : RepG w M av v) : RepG w' M' av v := by
  cases h <;> simp [AV.scalar] at hs <;> constructor

theorem Rep.evo {φ0 φ : Env} {H0 H : List ABlk} {w0 w : World} (e : Evo φ0 H0 w0 φ H w) {av : AV} {v : Value} (h : Rep φ0 H0 w0 av v) : Rep φ H w av v := by
  induction h with
  | g h => exact .g (h.move e.frame' e.sub)
  | agg hl _ ih => exact .agg hl ih
  | tup hl _ ih => exact .tup hl ih
  | fn hl _ ih => exact .fn hl ih
  | @sl id off len base cap' hu hb hl hc h =>
    refine .sl base cap' (e.used id hu) hb hl hc fun sz n hs => ?_
    obtain ⟨h0, e0⟩ := e.ids id (sz, n) hu hs
    rw [e0]; exact h sz n h0
  | @ptr id i j a hu h =>
    refine .ptr a (e.used id hu) fun sz n hs => ?_
    obtain ⟨h0, e0⟩ := e.ids id (sz, n) hu hs
    rw [e0]; exact h sz n h0
  | @yld id l hu h =>
    refine .yld l (e.used id hu) fun s hs => ?_
    obtain ⟨h0, e0⟩ := e.ids id s hu hs
    rw [e0]; exact h s h0
  | @mp id l hu h =>
    refine .mp l (e.used id hu) fun s hs => ?_
    obtain ⟨h0, e0⟩ := e.ids id s hu hs
    rw [e0]; exact h s h0

theorem Rep.undef {φ : Env} {H : List ABlk} {w : World} (v : Value) : Rep φ H w .undef v := .g (.undef v)
theorem Rep.int {φ : Env} {H : List ABlk} {w : World} (k : IntKind) (n : Int) : Rep φ H w (.int k n) (.int k n) := .g (.int k n)
theorem Rep.bool {φ : Env} {H : List ABlk} {w : World} (b : Bool) : Rep φ H w (.bool b) (.bool b) := .g (.bool b)
theorem Rep.str {φ : Env} {H : List ABlk} {w : World} (s : List UInt8) : Rep φ H w (.str s) (.string ⟨s.toArray⟩) := .g (.str s)
theorem Rep.raw {φ : Env} {H : List ABlk} {w : World} (v : Value) : Rep φ H w (.raw v) v := .g (.raw v)

section inv
variable {φ : Env} {H : List ABlk} {w : World} {v : Value}
theorem Rep.inv_int {k : IntKind} {n : Int} (h : Rep φ H w (.int k n) v) : v = .int k n := by cases h with | g h => cases h; rfl
theorem Rep.inv_bool {b : Bool} (h : Rep φ H w (.bool b) v) : v = .bool b := by cases h with | g h => cases h; rfl
theorem Rep.inv_str {s : List UInt8} (h : Rep φ H w (.str s) v) : v = .string ⟨s.toArray⟩ := by cases h with | g h => cases h; rfl
theorem Rep.inv_raw {u : Value} (h : Rep φ H w (.raw u) v) : v = u := by cases h with | g h => cases h; rfl
theorem Rep.inv_agg {cs : List AV} (h : Rep φ H w (.agg cs) v) : ∃ vs : Array Value, v = .agg vs ∧ cs.length = vs.size ∧ ∀ (i : Nat) c u, cs[i]? = some c → vs[i]? = some u → Rep φ H w c u := by
  cases h with
  | g h => cases h with | agg hl h => exact ⟨_, rfl, hl, fun i c u a b => .g (h i c u a b)⟩
  | agg hl h => exact ⟨_, rfl, hl, h⟩
theorem Rep.inv_tup {cs : List AV} (h : Rep φ H w (.tup cs) v) : ∃ vs : Array Value, v = .tuple vs ∧ cs.length = vs.size ∧ ∀ (i : Nat) c u, cs[i]? = some c → vs[i]? = some u → Rep φ H w c u := by
  cases h with
  | g h => cases h with | tup hl h => exact ⟨_, rfl, hl, fun i c u a b => .g (h i c u a b)⟩
  | tup hl h => exact ⟨_, rfl, hl, h⟩
theorem Rep.inv_fn {f : Fn} {cs : List AV} (h : Rep φ H w (.fn f cs) v) : ∃ vs : Array Value, v = .func f #[] vs ∧ cs.length = vs.size ∧ ∀ (i : Nat) c u, cs[i]? = some c → vs[i]? = some u → Rep φ H w c u := by
  cases h with
  | g h => cases h with | fn hl h => exact ⟨_, rfl, hl, fun i c u a b => .g (h i c u a b)⟩
  | fn hl h => exact ⟨_, rfl, hl, h⟩
theorem Rep.inv_sl {id off len : Nat} (h : Rep φ H w (.sl id off len) v) : ∃ base cap', v = .slice base len cap' ∧ (hget H id).used = true ∧ (0 < len → base.isSome = true) ∧ len ≤ cap' ∧ cap' ≤ 9223372036854775807 ∧ ∀ sz n, sig H id = some (sz, n) → SlAt (φ id) sz off len cap' n base := by
  cases h with
  | g h => cases h
  | sl base cap' hu hb hl hc h => exact ⟨base, cap', rfl, hu, hb, hl, hc, h⟩
theorem Rep.inv_ptr {id i j : Nat} (h : Rep φ H w (.ptr id i j) v) : ∃ a, v = .pointer (some a) ∧ (hget H id).used = true ∧ ∀ sz n, sig H id = some (sz, n) → i < n ∧ j < sz ∧ a = ⟨(φ id).b, (φ id).o + i * sz + j, none⟩ := by
  cases h with
  | g h => cases h
  | ptr a hu h => exact ⟨a, rfl, hu, h⟩
theorem Rep.inv_yld {id : Nat} (h : Rep φ H w (.yld id) v) : ∃ l, v = .func (.yield l) #[] #[] ∧ (hget H id).used = true ∧ ∀ s, sig H id = some s → l = (φ id).b := by
  cases h with
  | g h => cases h
  | yld l hu h => exact ⟨l, rfl, hu, h⟩
theorem Rep.inv_mp {id : Nat} (h : Rep φ H w (.mp id) v) : ∃ l, v = .map (some l) ∧ (hget H id).used = true ∧ ∀ s, sig H id = some s → l = (φ id).b := by
  cases h with
  | g h => cases h
  | mp l hu h => exact ⟨l, rfl, hu, h⟩
theorem HSat.inj' (hs : HSat φ H w) : ∀ i j, Own φ H i → Own φ H j → (φ i).b = (φ j).b → i = j := fun i j hi hj e => hs.inj i j (φ i).b ⟨hi, .inl rfl⟩ ⟨hj, .inl e.symm⟩
theorem HSat.ext' (hs : HSat φ H w) : ∀ i, Own φ H i → ¬ φ.ext (φ i).b := fun i hi => hs.ext i _ ⟨hi, .inl rfl⟩
theorem Own.b {id : Nat} (h : Own φ H id) : MBo φ H (φ id).b := ⟨id, h, .inl rfl⟩
theorem Rep.inv_ro {n : Nat} {f : Nat → List AV} (h : Rep φ H w (.ro n f) v) : RepG w (MB φ H) (.ro n f) v := by cases h with | g h => exact h
theorem Rep.inv_rop {cs : List AV} (h : Rep φ H w (.rop cs) v) : RepG w (MB φ H) (.rop cs) v := by cases h with | g h => exact h
end inv

theorem AV.scalar_rep {φ : Env} {H : List ABlk} {w : World} {av : AV} {v : Value} (hs : av.scalar = true) (h : Rep φ H w av v) {w' : World} {M' : Nat → Prop} : RepG w' M' av v := by
  cases h with
  | g h => exact h.scalar hs
  | _ => simp [AV.scalar] at hs
end Go.SH
