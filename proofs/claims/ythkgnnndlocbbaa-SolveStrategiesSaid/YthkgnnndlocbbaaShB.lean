/-
  THE SYMBOLIC HEAP, PART B: what each operation does to abstract values: definitions alone. No condition.
-/
import Derived.Test.YthkgnnndlocbbaaShA
import Derived.Laws.StructEq
namespace Go.SH
set_option linter.unusedVariables false
set_option linter.unusedSimpArgs false
open Go Go.RowKit

/-! lists, by structural recursion, so that simp reckons them -/
def alen : List AV → Nat
  | [] => 0
  | _ :: l => alen l + 1
def takeA : Nat → List AV → List AV
  | 0, _ => []
  | _ + 1, [] => []
  | n + 1, a :: l => a :: takeA n l
def dropA : Nat → List AV → List AV
  | 0, l => l
  | _ + 1, [] => []
  | n + 1, _ :: l => dropA n l
def spliceA : List AV → Nat → List AV → List AV
  | [], _, _ => []
  | cs, 0, [] => cs
  | _ :: cs, 0, v :: vs => v :: spliceA cs 0 vs
  | c :: cs, j + 1, vs => c :: spliceA cs j vs
def mapA (g : AV → AV) : List AV → List AV
  | [] => []
  | a :: l => g a :: mapA g l
def allA (p : AV → Bool) : List AV → Bool
  | [] => true
  | a :: l => p a && allA p l
def lget : List (List AV) → Nat → List AV
  | [], _ => []
  | a :: _, 0 => a
  | _ :: l, n + 1 => lget l n
def oget : List Operand → Nat → Operand
  | [], _ => .const undef
  | a :: _, 0 => a
  | _ :: l, n + 1 => oget l n
def pget : List (Nat × Nat × Nat) → Nat → Nat × Nat × Nat
  | [], _ => (0, 0, 0)
  | a :: _, 0 => a
  | _ :: l, n + 1 => pget l n
def tget : List TypeId → Nat → TypeId
  | [], _ => 0
  | a :: _, 0 => a
  | _ :: l, n + 1 => tget l n

theorem alen_eq (l : List AV) : alen l = l.length := by induction l <;> simp_all [alen]
theorem takeA_eq (n : Nat) (l : List AV) : takeA n l = l.take n := by
  induction n generalizing l with
  | zero => simp [takeA]
  | succ n ih => cases l <;> simp_all [takeA]
theorem dropA_eq (n : Nat) (l : List AV) : dropA n l = l.drop n := by
  induction n generalizing l with
  | zero => simp [dropA]
  | succ n ih => cases l <;> simp_all [dropA]
theorem mapA_eq (g : AV → AV) (l : List AV) : mapA g l = l.map g := by induction l <;> simp_all [mapA]
theorem allA_iff (p : AV → Bool) (l : List AV) : allA p l = true ↔ ∀ a ∈ l, p a = true := by induction l <;> simp_all [allA]
theorem spliceA_length (cs : List AV) (j : Nat) (vs : List AV) : (spliceA cs j vs).length = cs.length := by
  fun_induction spliceA cs j vs <;> simp_all
theorem spliceA_get (cs : List AV) (j : Nat) (vs : List AV) (i : Nat) (hi : i < cs.length) :
    (spliceA cs j vs)[i]? = if j ≤ i ∧ i < j + vs.length then vs[i - j]? else cs[i]? := by
  fun_induction spliceA cs j vs generalizing i with
  | case1 => simp at hi
  | case2 cs h => simp
  | case3 c cs v vs ih =>
    cases i with
    | zero => simp
    | succ i => simp only [List.getElem?_cons_succ]; rw [ih i (by simpa using hi)]; simp
  | case4 c cs j vs ih =>
    cases i with
    | zero => simp
    | succ i =>
      simp only [List.getElem?_cons_succ]
      rw [ih i (by simpa using hi)]
      have e : i + 1 - (j + 1) = i - j := by omega
      rw [e]
      by_cases h : j ≤ i ∧ i < j + vs.length
      · rw [if_pos h, if_pos (by omega)]
      · rw [if_neg h, if_neg (by omega)]

/-! rows as functions -/
def shiftF (k : Nat) (f : Nat → List AV) : Nat → List AV := fun i => f (k + i)
def appF (n : Nat) (f g : Nat → List AV) : Nat → List AV := fun i => if i < n then f i else g (i - n)
def updF (f : Nat → List AV) (k : Nat) (c : List AV) : Nat → List AV := fun i => if i = k then c else f i
def copyF (f : Nat → List AV) (o n : Nat) (g : Nat → List AV) : Nat → List AV := fun i => if o ≤ i ∧ i < o + n then g (i - o) else f i
def updG (g : Nat → MRow) (k : Nat) (r : MRow) : Nat → MRow := fun i => if i = k then r else g i
theorem updG_same (g : Nat → MRow) (k : Nat) (r : MRow) : updG g k r k = r := by simp [updG]
theorem updG_ne (g : Nat → MRow) {k i : Nat} (r : MRow) (h : i ≠ k) : updG g k r i = g i := by simp [updG, h]
def litF (l : List (List AV)) (z : List AV) : Nat → List AV := fun i => if i < l.length then lget l i else z
def constF (c : List AV) : Nat → List AV := fun _ => c
def cutF (n l m : Nat) (f : Nat → List AV) : Nat → List AV := fun i => if i < m then f (l + i) else f n
/-- The rows of typed lists: beyond the end lies the default. -/
def encL {α : Type} (e : α → List AV) (d : α) (xs : List α) : Nat → List AV := fun i => e (xs.getD i d)
def cInt (k : IntKind) (n : Int) : List AV := [.int k n]
def cBool (b : Bool) : List AV := [.bool b]
def cStr (s : List UInt8) : List AV := [.str s]
def cByte (b : UInt8) : List AV := [.int .u8 b.toNat]
def cRow {α : Type} (e : α → List AV) (d : α) (r : List α) : List AV := [.ro r.length (encL e d r)]
abbrev strF (s : List UInt8) : Nat → List AV := encL cByte 0 s
/-- The bytes of a row of byte cells. -/
def byteOf : List AV → UInt8
  | [.int .u8 n] => n.toNat.toUInt8
  | _ => 0
def strOf (n : Nat) (f : Nat → List AV) : List UInt8 := (List.range n).map fun i => byteOf (f i)

theorem shiftF_zero (f : Nat → List AV) : shiftF 0 f = f := by funext i; simp [shiftF]

/-! types -/
inductive TK where
  | int (k : IntKind)
  | bool
  | str
  | slice (e : TypeId)
  | array (n : Nat) (e : TypeId)
  | struct (fs : List (Nat × Nat × Nat))   -- offset, type, cells
  | map (k e : TypeId)
  | func
  | ptr (e : TypeId)
  | other
structure TI where
  kind : TK
  size : Nat
  bytes : Nat
  zero : List AV
  eqs : List (Nat × TK)      -- where two structs may be compared cell by cell: offset and kind of each field
  zv : AV                    -- the zero, as one value

def AV.ofC : Value → AV
  | .int k n => .int k n
  | .bool b => .bool b
  | .string s => .str s.data.toList
  | v => .raw v
def AV.ofV : Value → AV
  | .int k n => .int k n
  | .bool b => .bool b
  | .string s => .str s.data.toList
  | .agg cs => .agg (cs.toList.map AV.ofC)
  | v => .raw v

def tkOf (P : Program) : TypeDesc → TK
  | .int k => .int k
  | .bool => .bool
  | .string => .str
  | .slice e => .slice e
  | .array n e => .array n e
  | .struct fs => .struct (fs.toList.map fun f => (f.offset, f.type, P.cellsOf f.type))
  | .map k e => .map k e
  | .func .. => .func
  | .pointer e => .ptr e
  | _ => .other
def TK.flat : TK → Bool
  | .int _ | .bool | .str => true
  | _ => false
def eqsOf (P : Program) (t : TypeId) : List (Nat × TK) :=
  match P.underlying t with
  | some (.struct fs) =>
    if P.stoodInHeld t = false ∧ P.eqGuardType P.depth t = false ∧ fs.toList.all (fun f => f.name != "_" && (match P.underlying f.type with | some d => (tkOf P d).flat | none => false)) = true then
      fs.toList.map fun f => (f.offset, match P.underlying f.type with | some d => tkOf P d | none => .other)
    else []
  | _ => []
def tiOf (P : Program) (t : TypeId) : TI :=
  match P.underlying t, P.info? t with
  | some d, some i =>
    match i.zero with
    | some z => ⟨tkOf P d, i.size, i.bytes, z.cells.toList.map AV.ofC, eqsOf P t, AV.ofV z⟩
    | none => ⟨.other, 0, 0, [], [], .undef⟩
  | _, _ => ⟨.other, 0, 0, [], [], .undef⟩
def TK.isAgg : TK → Bool
  | .array .. | .struct .. => true
  | _ => false

/-! effects -/
structure E where
  cond : Prop
  val : AV
  upds : List (Nat × ABlk)
  reads : List Nat
inductive Eff where
  | ok (e : E)
  | call (f : FuncId) (args : List AV)
  | yield (id : Nat) (args : List AV)
  | bad
def applyU : List ABlk → List (Nat × ABlk) → List ABlk
  | H, [] => H
  | H, (i, b) :: l => applyU (hset H i b) l
abbrev E.pure (c : Prop) (v : AV) : Eff := .ok ⟨c, v, [], []⟩

def evalA (s : List AV) : Operand → AV
  | .tmp t => sget s t
  | .const v => AV.ofV v
  | .func f => .fn (.func f) []
  | .global _ => .undef

def inR : IntKind → Int → Prop
  | .i8, x => -128 ≤ x ∧ x ≤ 127
  | .i16, x => -32768 ≤ x ∧ x ≤ 32767
  | .i32, x => -2147483648 ≤ x ∧ x ≤ 2147483647
  | .i64, x => -9223372036854775808 ≤ x ∧ x ≤ 9223372036854775807
  | .u8, x => 0 ≤ x ∧ x ≤ 255
  | .u16, x => 0 ≤ x ∧ x ≤ 65535
  | .u32, x => 0 ≤ x ∧ x ≤ 4294967295
  | .u64, x => 0 ≤ x ∧ x ≤ 18446744073709551615

def cellsA : AV → List AV
  | .agg cs => cs
  | v => [v]
/-- What may lie in one cell. -/
def AV.one : AV → Bool
  | .int .. | .bool _ | .str _ | .fn .. | .ro .. | .rop _ | .sl .. | .ptr .. | .yld _ | .mp _ => true
  | .raw v => v.oneCell'
  | _ => false
/-- The same, and no part of it may change later: a row is given up for it. -/
def AV.goneB : AV → Bool
  | .int .. | .bool _ | .str _ | .ro .. | .rop _ | .sl .. => true
  | .raw v => v.oneCell'
  | .fn _ [] => true
  | _ => false
def partA (ti : TI) (cs : List AV) (off : Nat) : AV :=
  match ti.kind.isAgg with
  | true => .agg (takeA ti.size (dropA off cs))
  | false => sget cs off
def partC (ti : TI) (cs : List AV) (off : Nat) : Prop :=
  match ti.kind.isAgg with
  | true => True
  | false => off < alen cs ∧ ti.size = 1

/-- A value as others see it: rows and variables as what they hold now. -/
def reify (H : List ABlk) : Nat → AV → AV
  | 0, _ => .undef
  | n + 1, av =>
    match av with
    | .sl id off len => match hget H id with
      | .vec _ n f => .ro len (cutF n off len f)
      | _ => .undef
    | .ptr id i j => match hget H id with
      | .box cs => .rop (dropA j (mapA (reify H n) cs))
      | .vec _ _ f => .rop (dropA j (f i))
      | _ => .undef
    | .agg cs => .agg (mapA (reify H n) cs)
    | .tup cs => .tup (mapA (reify H n) cs)
    | .fn f cs => .fn f (mapA (reify H n) cs)
    | .yld _ => .undef
    | .mp _ => .undef
    | av => av
/-- What is given up becomes immutable. -/
def gnd (H : List ABlk) : AV → AV
  | .sl id off len => match hget H id with
    | .vec _ n f => .ro len (cutF n off len f)
    | _ => .undef
  | av => av
def kills : List AV → List (Nat × ABlk)
  | [] => []
  | .sl id _ _ :: l => (id, .dead) :: kills l
  | _ :: l => kills l
def killIds : List AV → List Nat
  | [] => []
  | .sl id _ _ :: l => id :: killIds l
  | _ :: l => killIds l
def liveAll (H : List ABlk) : List AV → Prop
  | [] => True
  | .sl id _ _ :: l => (∃ sz n f, hget H id = .vec sz n f) ∧ liveAll H l
  | _ :: l => liveAll H l

def eqSc : TK → AV → AV → Bool
  | .int _, .int _ a, .int _ b => a == b
  | .bool, .bool a, .bool b => a == b
  | .str, .str a, .str b => a == b
  | _, _, _ => false
def eqScC : TK → AV → AV → Prop
  | .int _, .int k _, .int k' _ => k = k'
  | .bool, .bool _, .bool _ => True
  | .str, .str _, .str _ => True
  | _, _, _ => False
def eqFs : List (Nat × TK) → List AV → List AV → Bool
  | [], _, _ => true
  | (o, t) :: l, xs, ys => eqSc t (sget xs o) (sget ys o) && eqFs l xs ys
def eqFsC : List (Nat × TK) → List AV → List AV → Prop
  | [], _, _ => True
  | (o, t) :: l, xs, ys => (o < alen xs ∧ o < alen ys ∧ eqScC t (sget xs o) (sget ys o)) ∧ eqFsC l xs ys

def eEq (ti : TI) (x y : AV) : Eff :=
  match x, y with
  | .bool a, .bool b => match ti.kind with
    | .bool => E.pure True (.bool (a == b))
    | _ => .bad
  | .agg xs, .agg ys => match ti.eqs with
    | [] => .bad
    | e => E.pure (eqFsC e xs ys) (.bool (eqFs e xs ys))
  | .ro n _, .raw (.slice none 0 0) => match ti.kind with
    | .slice _ => E.pure (0 < n) (.bool false)
    | _ => .bad
  | .sl _ _ n, .raw (.slice none 0 0) => match ti.kind with
    | .slice _ => E.pure (0 < n) (.bool false)
    | _ => .bad
  | .raw (.slice b _ _), .raw (.slice none 0 0) => match ti.kind with
    | .slice _ => E.pure True (.bool b.isNone)
    | _ => .bad
  | .fn _ _, .raw .nilFunc => match ti.kind with
    | .func => E.pure True (.bool false)
    | _ => .bad
  | .raw .nilFunc, .raw .nilFunc => match ti.kind with
    | .func => E.pure True (.bool true)
    | _ => .bad
  | _, _ => .bad
def Eff.only : Eff → Eff
  | .ok e => .ok e
  | _ => .bad
def Eff.notB : Eff → Eff
  | .ok ⟨c, .bool b, u, r⟩ => .ok ⟨c, .bool (!b), u, r⟩
  | _ => .bad

def eBin (op : BinOp) (ti : TI) (x y : AV) : Eff :=
  match x, y with
  | .int k a, .int k' b =>
    match op with
    | .add => E.pure (k = k' ∧ inR k (a + b)) (.int k (a + b))
    | .sub => E.pure (k = k' ∧ inR k (a - b)) (.int k (a - b))
    | .mul => E.pure (k = k' ∧ inR k (a * b)) (.int k (a * b))
    | .quo => E.pure (k = k' ∧ b ≠ 0 ∧ inR k (a.tdiv b)) (.int k (a.tdiv b))
    | .rem => E.pure (k = k' ∧ b ≠ 0) (.int k (a.tmod b))
    | .and => E.pure (k = k') (.int k (k.wrap (BitVec.ofInt k.bits a &&& BitVec.ofInt k.bits b).toNat))
    | .or => E.pure (k = k') (.int k (k.wrap (BitVec.ofInt k.bits a ||| BitVec.ofInt k.bits b).toNat))
    | .xor => E.pure (k = k') (.int k (k.wrap (BitVec.ofInt k.bits a ^^^ BitVec.ofInt k.bits b).toNat))
    | .shl => E.pure (0 ≤ b ∧ b ≤ k.bits ∧ inR k (a * 2 ^ b.toNat)) (.int k (a * 2 ^ b.toNat))
    | .shr => E.pure (0 ≤ b ∧ b ≤ k.bits) (.int k (a.fdiv (2 ^ b.toNat)))
    | .eql => E.pure (k = k') (.bool (a == b))
    | .neq => E.pure (k = k') (.bool (a != b))
    | .lss => E.pure (k = k') (.bool (decide (a < b)))
    | .leq => E.pure (k = k') (.bool (decide (a ≤ b)))
    | .gtr => E.pure (k = k') (.bool (decide (b < a)))
    | .geq => E.pure (k = k') (.bool (decide (b ≤ a)))
    | .andNot => .bad
  | .str a, .str b =>
    match op with
    | .add => E.pure (a.length + b.length ≤ 9223372036854775807) (.str (a ++ b))
    | .eql => E.pure True (.bool (a == b))
    | .neq => E.pure True (.bool (a != b))
    | .lss => E.pure True (.bool (Op.bytesLess a b))
    | _ => .bad
  | x, y =>
    match op with
    | .eql => (eEq ti x y).only
    | .neq => (eEq ti x y).notB
    | _ => .bad

def eUn (op : UnOp) (x : AV) : Eff :=
  match op, x with
  | .not, .bool b => E.pure True (.bool (!b))
  | .neg, .int k n => E.pure (inR k (0 - n)) (.int k (0 - n))
  | _, _ => .bad

def IntKind.uns : IntKind → Option Int
  | .u8 => some 256
  | .u16 => some 65536
  | .u32 => some 4294967296
  | .u64 => some 18446744073709551616
  | _ => none

def eConv (P : Program) (H : List ABlk) (src dst : TK) (x : AV) : Eff :=
  match dst, x with
  | .int k, .int _ n => match IntKind.uns k with
    | some m => E.pure (src.flat = true) (.int k (n % m))
    | none => E.pure (src.flat = true ∧ inR k n) (.int k n)
  | .str, .str s => E.pure (src.flat = true) (.str s)
  | .str, .ro n f => match src with
    | .slice e => match (tiOf P e).kind with
      | .int .u8 => E.pure ((tiOf P e).size = 1 ∧ ∀ i, i < n → f i = strF (strOf n f) i) (.str (strOf n f))
      | _ => .bad
    | _ => .bad
  | .str, .sl id off len => match src with
    | .slice e => match (tiOf P e).kind with
      | .int .u8 => match hget H id with
        | .vec sz n f => .ok ⟨sz = 1 ∧ ∀ i, i < len → cutF n off len f i = strF (strOf len (cutF n off len f)) i, .str (strOf len (cutF n off len f)), [], [id]⟩
        | _ => .bad
      | _ => .bad
    | _ => .bad
  | _, _ => .bad

def nilish : AV → AV
  | .raw (.slice none 0 0) => .ro 0 (constF [])
  | .raw (.slice (some a) 0 c) => bif decide (c ≤ 9223372036854775807) then .ro 0 (constF []) else .raw (.slice (some a) 0 c)
  | v => v

/-! maps whose keys are ints: in the order in which the keys came -/
def mget : List (Int × AV) → Int → Option AV
  | [], _ => none
  | (k, v) :: l, x => if k = x then some v else mget l x
def mput : List (Int × AV) → Int → AV → List (Int × AV)
  | [], x, v => [(x, v)]
  | (k, u) :: l, x, v => if k = x then (k, v) :: l else (k, u) :: mput l x v
def lookV : Bool → AV → Bool → AV
  | true, v, b => .tup [v, .bool b]
  | false, v, _ => v
def optN : Option AV → Eff → Eff
  | none, e => e
  | some _, _ => .bad
def eMakeMap (nid : Nat) (r : Option AV) : Eff :=
  optN r (.ok ⟨True, .mp nid, [(nid, .map [])], []⟩)
def eMapUpdate (P : Program) (H : List ABlk) (ti : TI) (m k v : AV) : Eff :=
  match ti.kind, m, k with
  | .map kt _, .mp id, .int .i64 n => match (tiOf P kt).kind with
    | .int .i64 => match hget H id with
      | .map es => .ok ⟨v.scalar = true, .undef, [(id, .map (mput es n v))], [id]⟩
      | _ => .bad
    | _ => .bad
  | _, _, _ => .bad
def eLookup (P : Program) (H : List ABlk) (ti : TI) (x k : AV) (ok : Bool) : Eff :=
  match ti.kind, k with
  | .map kt e, .int .i64 n => match (tiOf P kt).kind with
    | .int .i64 => match x with
      | .mp id => match hget H id with
        | .map es => .ok ⟨0 < (tiOf P e).size, lookV ok ((mget es n).getD (tiOf P e).zv) (mget es n).isSome, [], [id]⟩
        | _ => .bad
      | _ => .bad
    | _ => .bad
  | _, _ => .bad

def eLen (H : List ABlk) (ti : TI) (x : AV) : Eff :=
  match ti.kind with
  | .slice _ => match nilish x with
    | .ro n _ => E.pure True (.int .i64 n)
    | .sl _ _ n => E.pure True (.int .i64 n)
    | _ => .bad
  | .str => match x with
    | .str s => E.pure True (.int .i64 s.length)
    | _ => .bad
  | .array n _ => E.pure True (.int .i64 n)
  | .map .. => match x with
    | .raw (.map none) => E.pure True (.int .i64 0)
    | .mp id => match hget H id with
      | .map es => .ok ⟨True, .int .i64 es.length, [], [id]⟩
      | _ => .bad
    | _ => .bad
  | _ => .bad

def eMin (x y : AV) : Eff :=
  match x, y with
  | .int k a, .int k' b => E.pure (k = k') (.int k (min a b))
  | _, _ => .bad
def eMax (x y : AV) : Eff :=
  match x, y with
  | .int k a, .int k' b => E.pure (k = k') (.int k (max a b))
  | _, _ => .bad

def eField (P : Program) (ti : TI) (x : AV) (f : Nat) : Eff :=
  match ti.kind, x with
  | .struct fs, .agg cs => match pget fs f with
    | (off, t, _) => E.pure (f < fs.length ∧ partC (tiOf P t) cs off) (partA (tiOf P t) cs off)
  | _, _ => .bad

/-- Does a place lie within the element that is pointed into? -/
def inBlk (H : List ABlk) (id j : Nat) : Prop :=
  match hget H id with
  | .box cs => j < alen cs
  | .vec sz _ _ => j < sz
  | _ => False

def eFieldAddr (H : List ABlk) (ti : TI) (x : AV) (f : Nat) : Eff :=
  match ti.kind with
  | .struct fs => match pget fs f with
    | (off, _, n) => match x with
      | .ptr id i j => .ok ⟨f < fs.length ∧ n ≠ 0 ∧ inBlk H id (j + off), .ptr id i (j + off), [], [id]⟩
      | .rop cs => E.pure (f < fs.length ∧ n ≠ 0 ∧ off < alen cs) (.rop (dropA off cs))
      | _ => .bad
  | _ => .bad

def eIndex (P : Program) (ti : TI) (x i : AV) : Eff :=
  match ti.kind, x, i with
  | .str, .str s, .int _ k => E.pure (0 ≤ k ∧ k < s.length) (.int .u8 (s.getD k.toNat 0).toNat)
  | .array n e, .agg cs, .int _ k => E.pure (0 ≤ k ∧ k < n ∧ partC (tiOf P e) cs (k.toNat * (tiOf P e).size)) (partA (tiOf P e) cs (k.toNat * (tiOf P e).size))
  | _, _, _ => .bad

def eIndexAddr (P : Program) (H : List ABlk) (ti : TI) (x i : AV) : Eff :=
  match ti.kind, x, i with
  | .slice e, .ro n f, .int _ k => E.pure (0 ≤ k ∧ k < n ∧ alen (f k.toNat) = (tiOf P e).size ∧ 0 < (tiOf P e).size) (.rop (f k.toNat))
  | .slice e, .sl id off n, .int _ k => match hget H id with
    | .vec sz _ _ => .ok ⟨0 ≤ k ∧ k < n ∧ sz = (tiOf P e).size, .ptr id (off + k.toNat) 0, [], [id]⟩
    | .mat _ _ => .ok ⟨0 ≤ k ∧ k < n ∧ 1 = (tiOf P e).size, .ptr id (off + k.toNat) 0, [], [id]⟩
    | _ => .bad
  | .array n e, .ptr id m j, .int _ k => .ok ⟨0 ≤ k ∧ k < n ∧ 1 < n ∧ 0 < (tiOf P e).size ∧ inBlk H id (j + k.toNat * (tiOf P e).size), .ptr id m (j + k.toNat * (tiOf P e).size), [], [id]⟩
  | .array n e, .rop cs, .int _ k => E.pure (0 ≤ k ∧ k < n ∧ 1 < n ∧ 0 < (tiOf P e).size ∧ k.toNat * (tiOf P e).size < alen cs) (.rop (dropA (k.toNat * (tiOf P e).size) cs))
  | _, _, _ => .bad

def natA : AV → Nat
  | .int _ k => k.toNat
  | _ => 0
def natC : AV → Prop
  | .int _ k => 0 ≤ k
  | _ => False
def loN : Option AV → Nat
  | none => 0
  | some v => natA v
def hiN (n : Nat) : Option AV → Nat
  | none => n
  | some v => natA v
def optC : Option AV → Prop
  | none => True
  | some v => natC v
def roCut (n : Nat) (f : Nat → List AV) (l : Nat) : Option AV → AV
  | none => .ro (n - l) (shiftF l f)
  | some v => .ro (natA v - l) (cutF n l (natA v - l) f)

def eSlice (P : Program) (H : List ABlk) (ti : TI) (x : AV) (lo hi mx : Option AV) : Eff :=
  match mx with
  | some _ => .bad
  | none => match ti.kind with
    | .slice e => match nilish x with
      | .ro n f => E.pure (optC lo ∧ optC hi ∧ loN lo ≤ hiN n hi ∧ hiN n hi ≤ n ∧ 0 < (tiOf P e).size ∧ (n = 0 ∨ alen (f 0) = (tiOf P e).size)) (roCut n f (loN lo) hi)
      | .sl id off n => match hget H id with
        | .vec sz _ _ => .ok ⟨optC lo ∧ optC hi ∧ loN lo ≤ hiN n hi ∧ hiN n hi ≤ n ∧ sz = (tiOf P e).size, .sl id (off + loN lo) (hiN n hi - loN lo), [], [id]⟩
        | _ => .bad
      | _ => .bad
    | .str => match x with
      | .str s => E.pure (optC lo ∧ optC hi ∧ loN lo ≤ hiN s.length hi ∧ hiN s.length hi ≤ s.length) (.str ((s.take (hiN s.length hi)).drop (loN lo)))
      | _ => .bad
    | _ => .bad

/-- What a load finds at cells. -/
def loadP (ti : TI) (cs : List AV) : AV :=
  match ti.kind.isAgg with
  | true => .agg (takeA ti.size cs)
  | false => sget cs 0
def loadC (ti : TI) (cs : List AV) : Prop :=
  match ti.kind.isAgg with
  | true => ti.size ≤ alen cs
  | false => 0 < alen cs ∧ ti.size = 1
def eLoad (H : List ABlk) (ti : TI) (x : AV) : Eff :=
  match x with
  | .rop cs => E.pure (loadC ti cs) (loadP ti cs)
  | .ptr id i j => match hget H id with
    | .box cs => .ok ⟨loadC ti (dropA j cs), loadP ti (dropA j cs), [], [id]⟩
    | .vec _ _ f => .ok ⟨loadC ti (dropA j (f i)), loadP ti (dropA j (f i)), [], [id]⟩
    | .mat n g => match g i with
      | .lent k => match hget H k with
        | .vec _ m _ => .ok ⟨j = 0 ∧ ti.kind.isAgg = false ∧ ti.size = 1, .sl k 0 m, [], [id, k]⟩
        | _ => .bad
      | _ => .bad
    | _ => .bad
  | _ => .bad

def eStore (H : List ABlk) (ti : TI) (x v : AV) : Eff :=
  match x with
  | .ptr id i j => match hget H id with
    | .box cs => .ok ⟨0 < ti.size ∧ alen (cellsA v) = ti.size ∧ allA AV.one (cellsA v) = true ∧ j + alen (cellsA v) ≤ alen cs, .undef, [(id, .box (spliceA cs j (cellsA v)))], [id]⟩
    | .vec sz n f => .ok ⟨0 < ti.size ∧ alen (cellsA v) = ti.size ∧ allA AV.goneB (cellsA v) = true ∧ j + alen (cellsA v) ≤ sz ∧ id ∉ killIds (cellsA v) ∧ liveAll H (cellsA v), .undef,
        kills (cellsA v) ++ [(id, .vec sz n (updF f i (spliceA (f i) j (mapA (gnd H) (cellsA v)))))], id :: killIds (cellsA v)⟩
    | .mat n g => match v with
      | .sl k 0 m => match hget H k with
        | .vec _ m' _ => .ok ⟨j = 0 ∧ m = m' ∧ ti.kind.isAgg = false ∧ ti.size = 1, .undef, [(id, .mat n (updG g i (.lent k)))], [id, k]⟩
        | _ => .bad
      | _ => .bad
    | _ => .bad
  | _ => .bad

def eAlloc (nid : Nat) (ti : TI) : Eff :=
  .ok ⟨0 < ti.size ∧ alen ti.zero = ti.size ∧ allA AV.one ti.zero = true, .ptr nid 0 0, [(nid, .box ti.zero)], []⟩
def eBox (nid : Nat) (x : AV) : Eff :=
  match x with
  | .agg cs => .ok ⟨0 < alen cs ∧ allA AV.one cs = true, .ptr nid 0 0, [(nid, .box cs)], []⟩
  | v => .ok ⟨v.one = true, .ptr nid 0 0, [(nid, .box [v])], []⟩

def aggOr : AV → Bool
  | .agg _ => true
  | v => v.one
def fillA (place : Nat → Nat × Nat) : List AV → List (Nat × AV) → List AV
  | cs, [] => cs
  | cs, (i, v) :: l => fillA place (spliceA cs (place i).1 (cellsA v)) l
def fillC (place : Nat → Nat × Nat) (ok : Nat → Prop) (n : Nat) : List (Nat × AV) → Prop
  | [] => True
  | (i, v) :: l => (ok i ∧ aggOr v = true ∧ alen (cellsA v) = (place i).2 ∧ (place i).1 + alen (cellsA v) ≤ n) ∧ fillC place ok n l
def allPos : List (Nat × Nat × Nat) → Prop
  | [] => True
  | (_, _, n) :: l => 0 < n ∧ allPos l
def eBuild (P : Program) (ti : TI) (parts : List (Nat × AV)) : Eff :=
  match ti.kind with
  | .struct fs => E.pure (allPos fs ∧ fillC (fun i => ((pget fs i).1, (pget fs i).2.2)) (· < fs.length) (alen ti.zero) parts) (.agg (fillA (fun i => ((pget fs i).1, (pget fs i).2.2)) ti.zero parts))
  | .array n e => E.pure (0 < (tiOf P e).size ∧ fillC (fun i => (i * (tiOf P e).size, (tiOf P e).size)) (fun _ => True) (alen ti.zero) parts) (.agg (fillA (fun i => (i * (tiOf P e).size, (tiOf P e).size)) ti.zero parts))
  | _ => .bad

/-- The elements of a literal, in their order. -/
def partsC (sz : Nat) : Nat → List (Nat × AV) → Prop
  | _, [] => True
  | k, (i, v) :: l => (i = k ∧ alen (cellsA v) = sz ∧ allA AV.goneB (cellsA v) = true) ∧ partsC sz (k + 1) l
def partsCells (H : List ABlk) : List (Nat × AV) → List (List AV)
  | [] => []
  | (_, v) :: l => mapA (gnd H) (cellsA v) :: partsCells H l
def partsAll : List (Nat × AV) → List AV
  | [] => []
  | (_, v) :: l => cellsA v ++ partsAll l
def eBuildSlice (P : Program) (H : List ABlk) (nid : Nat) (ti : TI) (len : Nat) (parts : List (Nat × AV)) : Eff :=
  match ti.kind with
  | .slice e => .ok ⟨partsC (tiOf P e).size 0 parts ∧ parts.length = len ∧ 0 < (tiOf P e).size ∧ alen (tiOf P e).zero = (tiOf P e).size ∧ len * (tiOf P e).size ≤ 16777216 ∧ liveAll H (partsAll parts) ∧ nid ∉ killIds (partsAll parts) ∧ (killIds (partsAll parts)).Nodup,
      .sl nid 0 len, kills (partsAll parts) ++ [(nid, .vec (tiOf P e).size len (litF (partsCells H parts) (tiOf P e).zero))], killIds (partsAll parts)⟩
  | _ => .bad

def eMake (P : Program) (nid : Nat) (ti : TI) (l c : AV) : Eff :=
  match ti.kind, l, c with
  | .slice e, .int _ a, .int _ b => .ok ⟨0 ≤ a ∧ a ≤ b ∧ (tiOf P e).bytes * b ≤ 281474976710656 ∧ b ≤ 9223372036854775807 ∧ 0 < (tiOf P e).size ∧ alen (tiOf P e).zero = (tiOf P e).size ∧ allA AV.goneB (tiOf P e).zero = true,
      .sl nid 0 a.toNat, [(nid, .vec (tiOf P e).size a.toNat (constF (tiOf P e).zero))], []⟩
  | _, _, _ => .bad

/-- What is appended, or copied from: how many, the rows, the cells of each, the blocks read. -/
def srcOf (H : List ABlk) (ti : TI) (x : AV) : Option (Nat × (Nat → List AV) × List Nat) :=
  match ti.kind, nilish x with
  | .slice _, .ro m g => some (m, g, [])
  | .slice _, .sl id off m => match hget H id with
    | .vec _ n f => some (m, cutF n off m f, [id])
    | _ => none
  | .str, .str s => some (s.length, strF s, [])
  | _, _ => none
def eAppend (P : Program) (H : List ABlk) (nid : Nat) (ti ti' : TI) (s x : AV) : Eff :=
  match ti.kind, srcOf H ti' x with
  | .slice e, some (m, g, rd) => match s with
    | .sl id off len => match hget H id with
      | .vec sz n f => .ok ⟨(len + m) * (tiOf P e).bytes ≤ 140737488355328 ∧ len + m ≤ 9223372036854775807 ∧ sz = (tiOf P e).size ∧ (tiOf P e).zero.length = sz ∧ (∀ i, i < m → (g i).length = sz),
          .sl nid 0 (len + m), [(id, .dead), (nid, .vec sz (len + m) (appF len (cutF n off len f) g))], id :: rd⟩
      | _ => .bad
    | .raw (.slice none 0 0) => .ok ⟨m * (tiOf P e).bytes ≤ 140737488355328 ∧ m ≤ 9223372036854775807 ∧ 0 < (tiOf P e).size ∧ (tiOf P e).zero.length = (tiOf P e).size ∧ (∀ i, i < m → (g i).length = (tiOf P e).size),
        .sl nid 0 m, [(nid, .vec (tiOf P e).size m g)], rd⟩
    | _ => .bad
  | _, _ => .bad
def eCopy (P : Program) (H : List ABlk) (ti ti' : TI) (d x : AV) : Eff :=
  match ti.kind, srcOf H ti' x with
  | .slice e, some (m, g, rd) => match d with
    | .sl id off len => match hget H id with
      | .vec sz n f => .ok ⟨sz = (tiOf P e).size ∧ (∀ i, i < m → (g i).length = sz), .int .i64 (min m len : Nat), [(id, .vec sz n (copyF f off (min m len) g))], id :: rd⟩
      | _ => .bad
    | _ => .bad
  | _, _ => .bad

def eNil (x : AV) : Eff :=
  match x with
  | .ptr .. | .rop _ => E.pure True x
  | .fn (.func f) cs => E.pure True (.fn (.func f) cs)
  | _ => .bad
def ePick (x a b : AV) : Eff :=
  match x with
  | .bool true => E.pure True a
  | .bool false => E.pure True b
  | _ => .bad
def eExtract (x : AV) (i : Nat) : Eff :=
  match x with
  | .tup cs => E.pure (i < alen cs) (sget cs i)
  | _ => .bad

def mapO (ρ : Operand → AV) : List Operand → List AV
  | [] => []
  | a :: l => ρ a :: mapO ρ l
def mapP (ρ : Operand → AV) : List (Nat × Operand) → List (Nat × AV)
  | [] => []
  | (i, a) :: l => (i, ρ a) :: mapP ρ l

/-- What an operation does: P the program (its types alone are looked at), H the abstract heap, nid the number of the block that it may make. -/
def eff (P : Program) (H : List ABlk) (nid : Nat) (ρ : Operand → AV) (o : Oper) : Eff :=
  match o.op with
  | .move x | .assign x => E.pure True (ρ x)
  | .pick c a b => ePick (ρ c) (ρ a) (ρ b)
  | .binOp op t x y _ => eBin op (tiOf P t) (ρ x) (ρ y)
  | .unOp op _ x => eUn op (ρ x)
  | .convert s d x => eConv P H (tiOf P s).kind (tiOf P d).kind (ρ x)
  | .extract x i => eExtract (ρ x) i
  | .field t x f => eField P (tiOf P t) (ρ x) f
  | .fieldAddr t x f => eFieldAddr H (tiOf P t) (ρ x) f
  | .index t x i => eIndex P (tiOf P t) (ρ x) (ρ i)
  | .indexAddr t x i => eIndexAddr P H (tiOf P t) (ρ x) (ρ i)
  | .slice t x lo hi mx => eSlice P H (tiOf P t) (ρ x) (lo.map ρ) (hi.map ρ) (mx.map ρ)
  | .load t a => eLoad H (tiOf P t) (ρ a)
  | .store t a v => eStore H (tiOf P t) (ρ a) (ρ v)
  | .alloc t => eAlloc nid (tiOf P t)
  | .box _ x => eBox nid (ρ x)
  | .build t ps => eBuild P (tiOf P t) (mapP ρ ps.toList)
  | .buildSlice t n ps => eBuildSlice P H nid (tiOf P t) n (mapP ρ ps.toList)
  | .makeSlice t l c => eMake P nid (tiOf P t) (ρ l) (ρ c)
  | .makeFunc f first caps => match first.toList with
    | [] => E.pure True (.fn f (mapO ρ caps.toList))
    | _ => .bad
  | .nilCheck x => eNil (ρ x)
  | .makeMap _ r => eMakeMap nid (r.map ρ)
  | .mapUpdate t m k v => eMapUpdate P H (tiOf P t) (ρ m) (ρ k) (ρ v)
  | .lookup t x k ok => eLookup P H (tiOf P t) (ρ x) (ρ k) ok
  | .call c => match c.callee with
    | .builtin b => match b with
      | .len => match c.argTypes.toList, c.args.toList with
        | [t], [x] => eLen H (tiOf P t) (ρ x)
        | _, _ => .bad
      | .append => match c.argTypes.toList, c.args.toList with
        | [t, t'], [x, y] => eAppend P H nid (tiOf P t) (tiOf P t') (ρ x) (ρ y)
        | _, _ => .bad
      | .copy => match c.argTypes.toList, c.args.toList with
        | [t, t'], [x, y] => eCopy P H (tiOf P t) (tiOf P t') (ρ x) (ρ y)
        | _, _ => .bad
      | .min => match c.args.toList with
        | [x, y] => eMin (ρ x) (ρ y)
        | _ => .bad
      | .max => match c.args.toList with
        | [x, y] => eMax (ρ x) (ρ y)
        | _ => .bad
      | _ => .bad
    | .value f => match ρ f with
      | .fn (.func g) caps => .call g (mapO ρ c.args.toList ++ caps)
      | .yld id => .yield id (mapO ρ c.args.toList)
      | _ => .bad
    | _ => .bad
  | _ => .bad
end Go.SH
