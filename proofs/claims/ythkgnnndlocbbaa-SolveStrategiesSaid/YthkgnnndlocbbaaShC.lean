/-
  THE SYMBOLIC HEAP, PART C: each operation does in the model what part B says: those that make and write no memory. No condition.
-/
import Derived.Test.YthkgnnndlocbbaaShB
import Derived.MapKept
import Derived.Laws.AppendOwn
import Derived.Laws.CopyRow
import Derived.Laws.MakeOwn
import Derived.Laws.Slices
import Derived.Laws.BytesString
namespace Go.SH
set_option linter.unusedVariables false
set_option linter.unusedSimpArgs false
open Go Go.RowKit

def Runs (P : Program) (a : Act) (w : World) (o : Oper) (v : Value) (w' : World) : Prop :=
  (execOp a.eval o).run P w = .ok (.value v) w' ∨ ((execOp a.eval o).run P w = .ok .skip w' ∧ v = undef)
def SoundE (P : Program) (φ : Env) (H : List ABlk) (w : World) (a : Act) (o : Oper) (e : E) : Prop :=
  e.cond → ∃ v w' φ', Runs P a w o v w' ∧ HSat φ' (applyU H e.upds) w' ∧ Rep φ' (applyU H e.upds) w' e.val v ∧ Evo φ H w φ' (applyU H e.upds) w'
def RepAll (φ : Env) (H : List ABlk) (w : World) (as : List AV) (vs : Array Value) : Prop :=
  as.length = vs.size ∧ ∀ (i : Nat) c u, as[i]? = some c → vs[i]? = some u → Rep φ H w c u
def SoundEff (P : Program) (φ : Env) (H : List ABlk) (w : World) (a : Act) (o : Oper) : Eff → Prop
  | .ok e => SoundE P φ H w a o e
  | .call f args => ∃ vs, (execOp a.eval o).run P w = (callFunc f vs).run P w ∧ RepAll φ H w args vs
  | .yield id args => ∃ vs l, (execOp a.eval o).run P w = (Instr.yield l vs).run P w ∧ RepAll φ H w args vs ∧ Rep φ H w (.yld id) (.func (.yield l) #[] #[])
  | .bad => True

section
variable {P : Program} {φ : Env} {H : List ABlk} {w : World} {a : Act} {o : Oper} {ρ : Operand → AV}

theorem SoundEff.pure {c : Prop} {val : AV} (hs : HSat φ H w) (h : c → ∃ v, (execOp a.eval o).run P w = .ok (.value v) w ∧ Rep φ H w val v) : SoundEff P φ H w a o (E.pure c val) := by
  intro hc
  obtain ⟨v, hr, hv⟩ := h hc
  exact ⟨v, w, φ, .inl hr, hs, hv, Evo.refl φ H w⟩
theorem SoundEff.quiet {c : Prop} {val : AV} {rd : List Nat} (hs : HSat φ H w) (h : c → ∃ v, (execOp a.eval o).run P w = .ok (.value v) w ∧ Rep φ H w val v) : SoundEff P φ H w a o (.ok ⟨c, val, [], rd⟩) := by
  intro hc
  obtain ⟨v, hr, hv⟩ := h hc
  exact ⟨v, w, φ, .inl hr, hs, hv, Evo.refl φ H w⟩

/-! types -/
theorem tiOf_kind {t : TypeId} {k : TK} (h : (tiOf P t).kind = k) (hk : k ≠ .other) :
    ∃ d i z, P.underlying t = some d ∧ P.info? t = some i ∧ i.zero = some z ∧ tkOf P d = k ∧ (tiOf P t).size = i.size ∧ (tiOf P t).bytes = i.bytes ∧ (tiOf P t).zero = z.cells.toList.map AV.ofC := by
  unfold tiOf at h ⊢
  cases hu : P.underlying t with
  | none => simp [hu] at h; exact absurd h.symm hk
  | some d =>
    cases hi : P.info? t with
    | none => simp [hu, hi] at h; exact absurd h.symm hk
    | some i =>
      cases hz : i.zero with
      | none => simp [hu, hi, hz] at h; exact absurd h.symm hk
      | some z =>
        simp only [hu, hi, hz] at h ⊢
        exact ⟨d, i, z, rfl, rfl, hz, h, rfl, rfl, rfl⟩
theorem tiOf_info {t : TypeId} (h : 0 < (tiOf P t).size) :
    ∃ d i z, P.underlying t = some d ∧ P.info? t = some i ∧ i.zero = some z ∧ tkOf P d = (tiOf P t).kind ∧ (tiOf P t).size = i.size ∧ (tiOf P t).bytes = i.bytes ∧ (tiOf P t).zero = z.cells.toList.map AV.ofC := by
  unfold tiOf at h ⊢
  cases hu : P.underlying t with
  | none => simp [hu] at h
  | some d =>
    cases hi : P.info? t with
    | none => simp [hu, hi] at h
    | some i =>
      cases hz : i.zero with
      | none => simp [hu, hi, hz] at h
      | some z =>
        simp only [hu, hi, hz] at h ⊢
        exact ⟨d, i, z, rfl, rfl, hz, rfl, rfl, rfl, rfl⟩
theorem tiOf_zv {t : TypeId} (h : 0 < (tiOf P t).size) : ∃ i z, P.info? t = some i ∧ i.zero = some z ∧ (tiOf P t).zv = AV.ofV z := by
  unfold tiOf at h ⊢
  cases hu : P.underlying t with
  | none => simp [hu] at h
  | some d =>
    cases hi : P.info? t with
    | none => simp [hu, hi] at h
    | some i =>
      cases hz : i.zero with
      | none => simp [hu, hi, hz] at h
      | some z => exact ⟨i, z, rfl, hz, by simp only [hu, hi, hz]⟩
theorem tkOf_slice {d : TypeDesc} {e : TypeId} (h : tkOf P d = .slice e) : d = .slice e := by cases d <;> simp_all [tkOf]
theorem tkOf_array {d : TypeDesc} {n : Nat} {e : TypeId} (h : tkOf P d = .array n e) : d = .array n e := by cases d <;> simp_all [tkOf]
theorem tkOf_int {d : TypeDesc} {k : IntKind} (h : tkOf P d = .int k) : d = .int k := by cases d <;> simp_all [tkOf]
theorem tkOf_bool {d : TypeDesc} (h : tkOf P d = .bool) : d = .bool := by cases d <;> simp_all [tkOf]
theorem tkOf_str {d : TypeDesc} (h : tkOf P d = .str) : d = .string := by cases d <;> simp_all [tkOf]
theorem tkOf_func {d : TypeDesc} (h : tkOf P d = .func) : ∃ p r v, d = .func p r v := by cases d <;> simp_all [tkOf]
theorem tkOf_map {d : TypeDesc} {k e : TypeId} (h : tkOf P d = .map k e) : d = .map k e := by cases d <;> simp_all [tkOf]
theorem tkOf_struct {d : TypeDesc} {fs : List (Nat × Nat × Nat)} (h : tkOf P d = .struct fs) : ∃ f, d = .struct f ∧ fs = f.toList.map fun f => (f.offset, f.type, P.cellsOf f.type) := by
  cases d <;> simp_all [tkOf]
theorem und_slice {t e : TypeId} (h : (tiOf P t).kind = .slice e) : P.underlying t = some (.slice e) := by
  obtain ⟨d, i, z, hu, _, _, hk, _⟩ := tiOf_kind h (by simp); rw [hu, tkOf_slice hk]
theorem und_str {t : TypeId} (h : (tiOf P t).kind = .str) : P.underlying t = some .string := by
  obtain ⟨d, i, z, hu, _, _, hk, _⟩ := tiOf_kind h (by simp); rw [hu, tkOf_str hk]
theorem und_bool {t : TypeId} (h : (tiOf P t).kind = .bool) : P.underlying t = some .bool := by
  obtain ⟨d, i, z, hu, _, _, hk, _⟩ := tiOf_kind h (by simp); rw [hu, tkOf_bool hk]
theorem und_int {t : TypeId} {k : IntKind} (h : (tiOf P t).kind = .int k) : P.underlying t = some (.int k) := by
  obtain ⟨d, i, z, hu, _, _, hk, _⟩ := tiOf_kind h (by simp); rw [hu, tkOf_int hk]
theorem und_array {t e : TypeId} {n : Nat} (h : (tiOf P t).kind = .array n e) : P.underlying t = some (.array n e) := by
  obtain ⟨d, i, z, hu, _, _, hk, _⟩ := tiOf_kind h (by simp); rw [hu, tkOf_array hk]
theorem und_map {t k e : TypeId} (h : (tiOf P t).kind = .map k e) : P.underlying t = some (.map k e) := by
  obtain ⟨d, i, z, hu, _, _, hk, _⟩ := tiOf_kind h (by simp); rw [hu, tkOf_map hk]
theorem und_func {t : TypeId} (h : (tiOf P t).kind = .func) : ∃ p r v, P.underlying t = some (.func p r v) := by
  obtain ⟨d, i, z, hu, _, _, hk, _⟩ := tiOf_kind h (by simp)
  obtain ⟨p, r, v, e⟩ := tkOf_func hk
  exact ⟨p, r, v, by rw [hu, e]⟩
theorem und_struct {t : TypeId} {fs : List (Nat × Nat × Nat)} (h : (tiOf P t).kind = .struct fs) : ∃ f, P.underlying t = some (.struct f) ∧ fs = f.toList.map fun f => (f.offset, f.type, P.cellsOf f.type) := by
  obtain ⟨d, i, z, hu, _, _, hk, _⟩ := tiOf_kind h (by simp)
  obtain ⟨f, e, e'⟩ := tkOf_struct hk
  exact ⟨f, by rw [hu, e], e'⟩
theorem run_sizeOf' {t : TypeId} (h : 0 < (tiOf P t).size) (w : World) : (sizeOf t).run P w = .ok (tiOf P t).size w := by
  obtain ⟨d, i, z, _, hi, _, _, hs, _⟩ := tiOf_info h
  simp [sizeOf, typeInfo, hi, hs]
theorem run_isAgg' {t : TypeId} (h : 0 < (tiOf P t).size ∨ (tiOf P t).kind.isAgg = true) (w : World) : (isAgg t).run P w = .ok (tiOf P t).kind.isAgg w := by
  have : ∃ d, P.underlying t = some d ∧ tkOf P d = (tiOf P t).kind := by
    rcases h with h | h
    · obtain ⟨d, i, z, hu, _, _, hk, _⟩ := tiOf_info h; exact ⟨d, hu, hk⟩
    · obtain ⟨d, i, z, hu, _, _, hk, _⟩ := tiOf_kind (P := P) (t := t) rfl (by intro e; rw [e] at h; simp [TK.isAgg] at h); exact ⟨d, hu, hk⟩
  obtain ⟨d, hu, hk⟩ := this
  rw [← hk]
  cases d <;> simp [isAgg, run_underlying hu, tkOf, TK.isAgg]

theorem inR_wrap {k : IntKind} {x : Int} (h : inR k x) : k.wrap x = x := by
  cases k <;> simp only [inR] at h <;> simp only [IntKind.wrap, IntKind.signed, IntKind.bits] <;> simp <;> omega
theorem uns_wrap {k : IntKind} {m : Int} (h : IntKind.uns k = some m) (x : Int) : k.wrap x = x % m := by
  cases k <;> simp [IntKind.uns] at h <;> subst h <;> simp [IntKind.wrap, IntKind.signed, IntKind.bits]

theorem repG_ofC (M : Nat → Prop) (v : Value) : RepG w M (AV.ofC v) v := by
  cases v <;> simp only [AV.ofC] <;> first | exact .int _ _ | exact .bool _ | exact .raw _ | exact .str _
theorem repG_ofV (M : Nat → Prop) (v : Value) : RepG w M (AV.ofV v) v := by
  cases v <;> simp only [AV.ofV] <;> first | exact .int _ _ | exact .bool _ | exact .raw _ | exact .str _ | skip
  refine .agg (by simp) fun i c u hc hu => ?_
  simp only [List.getElem?_map, Array.getElem?_toList, hu, Option.map_some, Option.some.injEq] at hc
  subst hc
  exact repG_ofC M u
theorem sget_some {l : List AV} {i : Nat} (h : i < alen l) : l[i]? = some (sget l i) := by
  rw [alen_eq] at h
  rw [sget_getElem?, List.getElem?_eq_getElem h]; rfl

theorem rep_part {t : TypeId} {cs : List AV} {vs : Array Value} {off : Nat} (hl : cs.length = vs.size) (h : ∀ (i : Nat) c u, cs[i]? = some c → vs[i]? = some u → Rep φ H w c u)
    (hc : partC (tiOf P t) cs off) : ∃ v, (part t vs off).run P w = .ok v w ∧ Rep φ H w (partA (tiOf P t) cs off) v := by
  unfold partC at hc
  unfold partA
  cases hk : (tiOf P t).kind.isAgg with
  | true =>
    simp only [part, Sem.run_bind, run_isAgg' (.inr hk), Result.andThen_ok, hk, if_true]
    have hsz : ∃ n, (sizeOf t).run P w = .ok n w ∧ (tiOf P t).size = n := by
      obtain ⟨d, i, z, hu, hi, _, _, hs, _⟩ := tiOf_kind (P := P) (t := t) rfl (by intro e; rw [e] at hk; simp [TK.isAgg] at hk)
      exact ⟨i.size, by simp [sizeOf, typeInfo, hi], hs⟩
    obtain ⟨n, hn, he⟩ := hsz
    simp only [hn, Result.andThen_ok, Sem.run_pure, he]
    refine ⟨_, rfl, .agg ?_ ?_⟩
    · rw [takeA_eq, dropA_eq]; simp [hl]
      omega
    · intro i c u hc hu
      rw [takeA_eq, dropA_eq, List.getElem?_take] at hc
      rw [Array.getElem?_extract] at hu
      split at hc
      · split at hu
        · rw [List.getElem?_drop] at hc
          exact h _ c u hc hu
        · cases hu
      · cases hc
  | false =>
    simp only [hk] at hc
    have hu := sget_some hc.1
    have : off < vs.size := by rw [← hl, ← alen_eq]; exact hc.1
    simp only [part, Sem.run_bind, run_isAgg' (.inl (by omega : 0 < (tiOf P t).size)), Result.andThen_ok, hk, Bool.false_eq_true, if_false, Array.getElem?_eq_getElem this, Sem.run_pure]
    exact ⟨_, rfl, h off _ _ hu (Array.getElem?_eq_getElem this)⟩

theorem run_eqGuard_int (op : BinOp) (t : TypeId) (x y : Operand) (k : IntKind) (n : Int) (v : Value) : (eqGuard op t x y (.int k n) v).run P w = .ok () w := by
  cases op <;> simp [eqGuard]
theorem run_eqGuard_str (op : BinOp) (t : TypeId) (x y : Operand) (s : ByteArray) (v : Value) : (eqGuard op t x y (.string s) v).run P w = .ok () w := by
  cases op <;> simp [eqGuard]
theorem run_eqGuard_bool (op : BinOp) (t : TypeId) (x y : Operand) (s : Bool) (v : Value) : (eqGuard op t x y (.bool s) v).run P w = .ok () w := by
  cases op <;> simp [eqGuard]
theorem run_eqGuard_slice (op : BinOp) (t : TypeId) (x y : Operand) (b : Option Addr) (n c : Nat) (v : Value) : (eqGuard op t x y (.slice b n c) v).run P w = .ok () w := by
  cases op <;> simp [eqGuard]
theorem run_eqGuard_func (op : BinOp) (t : TypeId) (x y : Operand) (f : Fn) (c d : Array Value) (v : Value) : (eqGuard op t x y (.func f c d) v).run P w = .ok () w := by
  cases op <;> simp [eqGuard]
theorem run_eqGuard_nilFunc (op : BinOp) (t : TypeId) (x y : Operand) (v : Value) : (eqGuard op t x y .nilFunc v).run P w = .ok () w := by
  cases op <;> simp [eqGuard]

theorem bits_le (k : IntKind) : k.bits ≤ 64 := by cases k <;> simp [IntKind.bits]

theorem sound_bin_int {op : BinOp} {t : TypeId} {x y : Operand} {t' : TypeId} (ho : o.op = .binOp op t x y t') (hs : HSat φ H w) {k k' : IntKind} {m n : Int}
    (hx : a.eval x = .int k m) (hy : a.eval y = .int k' n) : SoundEff P φ H w a o (eBin op (tiOf P t) (.int k m) (.int k' n)) := by
  have hrun : (execOp a.eval o).run P w = ((binOp op t (.int k m) (.int k' n)).run P w).andThen fun v w' => .ok (.value v) w' := by
    simp only [execOp, ho, hx, hy, Sem.run_bind, run_eqGuard_int, Result.andThen_ok, Sem.run_pure]
  cases op <;> simp only [eBin] <;> first | exact True.intro | refine SoundEff.pure hs fun hc => ?_
  case add => obtain ⟨rfl, hr⟩ := hc; exact ⟨.int k (m + n), by rw [hrun]; simp [binOp, Op.intArith, inR_wrap hr], .int _ _⟩
  case sub => obtain ⟨rfl, hr⟩ := hc; exact ⟨.int k (m - n), by rw [hrun]; simp [binOp, Op.intArith, inR_wrap hr], .int _ _⟩
  case mul => obtain ⟨rfl, hr⟩ := hc; exact ⟨.int k (m * n), by rw [hrun]; simp [binOp, Op.intArith, inR_wrap hr], .int _ _⟩
  case quo => obtain ⟨rfl, h0, hr⟩ := hc; exact ⟨.int k (m.tdiv n), by rw [hrun]; simp [binOp, Op.intDiv, h0, inR_wrap hr], .int _ _⟩
  case rem => obtain ⟨rfl, h0⟩ := hc; exact ⟨.int k (m.tmod n), by rw [hrun]; simp [binOp, Op.intDiv, h0], .int _ _⟩
  case and => subst hc; exact ⟨_, by rw [hrun]; simp only [binOp, Op.intBits]; simp, .int _ _⟩
  case or => subst hc; exact ⟨_, by rw [hrun]; simp only [binOp, Op.intBits]; simp, .int _ _⟩
  case xor => subst hc; exact ⟨_, by rw [hrun]; simp only [binOp, Op.intBits]; simp, .int _ _⟩
  case shl =>
    obtain ⟨h0, h1, hr⟩ := hc
    have e : min n.toNat k.bits = n.toNat := by omega
    exact ⟨_, by rw [hrun]; simp [binOp, Op.shift, show ¬ n < 0 by omega, e, inR_wrap hr], .int _ _⟩
  case shr =>
    obtain ⟨h0, h1⟩ := hc
    have e : min n.toNat k.bits = n.toNat := by omega
    exact ⟨_, by rw [hrun]; simp [binOp, Op.shift, show ¬ n < 0 by omega, e], .int _ _⟩
  all_goals (subst hc; exact ⟨_, by rw [hrun]; simp [binOp, Op.intCmp], .bool _⟩)

theorem toList_mk (s : List UInt8) : (ByteArray.mk s.toArray).toList = s := by rw [ByteArray.toList_eq]
theorem size_mk (s : List UInt8) : (ByteArray.mk s.toArray).size = s.length := by simp [ByteArray.size]

theorem sound_bin_str {op : BinOp} {t : TypeId} {x y : Operand} {t' : TypeId} (ho : o.op = .binOp op t x y t') (hs : HSat φ H w) {m n : List UInt8}
    (hx : a.eval x = .string ⟨m.toArray⟩) (hy : a.eval y = .string ⟨n.toArray⟩) : SoundEff P φ H w a o (eBin op (tiOf P t) (.str m) (.str n)) := by
  have hrun : (execOp a.eval o).run P w = ((binOp op t (.string ⟨m.toArray⟩) (.string ⟨n.toArray⟩)).run P w).andThen fun v w' => .ok (.value v) w' := by
    simp only [execOp, ho, hx, hy, Sem.run_bind, run_eqGuard_str, Result.andThen_ok, Sem.run_pure]
  cases op <;> simp only [eBin] <;> first | exact True.intro | refine SoundEff.pure hs fun hc => ?_
  case add =>
    refine ⟨.string ⟨(m ++ n).toArray⟩, ?_, .str _⟩
    rw [hrun]
    have : ¬ (((ByteArray.mk m.toArray).size + (ByteArray.mk n.toArray).size : Nat) : Int) > IntKind.i64.max := by
      rw [size_mk, size_mk]; simp only [IntKind.max, IntKind.signed, IntKind.bits]; simp; omega
    simp only [binOp, Op.stringOp, this, if_false, Sem.run_pure, Result.andThen_ok]
    congr 3
  all_goals exact ⟨_, by rw [hrun]; simp [binOp, Op.stringOp, toList_mk, bne], .bool _⟩

/-- An equation between two values that are no numbers and no strings. -/
theorem eqFs_run : ∀ (fs : List Field) (d : Nat) (xs ys : List AV) (us vs : Array Value), xs.length = us.size → ys.length = vs.size →
    (∀ (i : Nat) c u, xs[i]? = some c → us[i]? = some u → Rep φ H w c u) → (∀ (i : Nat) c u, ys[i]? = some c → vs[i]? = some u → Rep φ H w c u) →
    fs.all (fun f => f.name != "_" && (match P.underlying f.type with | some d => (tkOf P d).flat | none => false)) = true →
    eqFsC (fs.map fun f => (f.offset, match P.underlying f.type with | some d => tkOf P d | none => .other)) xs ys →
    (Op.eqFields (d + 1) us vs fs).run P w = .ok (eqFs (fs.map fun f => (f.offset, match P.underlying f.type with | some d => tkOf P d | none => .other)) xs ys) w := by
  intro fs
  induction fs with
  | nil => intros; simp [Op.eqFields, eqFs]
  | cons f fs ih =>
    intro d xs ys us vs hx hy rx ry hall hc
    simp only [List.all_cons, Bool.and_eq_true, bne_iff_ne] at hall
    obtain ⟨⟨hn, hf⟩, hall⟩ := hall
    simp only [List.map_cons, eqFsC] at hc
    obtain ⟨⟨h1, h2, h3⟩, hc⟩ := hc
    cases hu : P.underlying f.type with
    | none => simp [hu] at hf
    | some td =>
      simp only [hu] at hf h3
      have sx := sget_some h1
      have sy := sget_some h2
      have lx : f.offset < us.size := by rw [← hx, ← alen_eq]; exact h1
      have ly : f.offset < vs.size := by rw [← hy, ← alen_eq]; exact h2
      have vx := rx _ _ _ sx (Array.getElem?_eq_getElem lx)
      have vy := ry _ _ _ sy (Array.getElem?_eq_getElem ly)
      have hagg : (isAgg f.type).run P w = .ok false w := by
        cases td <;> simp [tkOf, TK.flat] at hf <;> simp [isAgg, run_underlying hu]
      have px : (part f.type us f.offset).run P w = .ok us[f.offset] w := by
        simp [part, hagg, Array.getElem?_eq_getElem lx]
      have py : (part f.type vs f.offset).run P w = .ok vs[f.offset] w := by
        simp [part, hagg, Array.getElem?_eq_getElem ly]
      have hfin : (Op.equalIn (d + 1) f.type us[f.offset] vs[f.offset]).run P w = .ok (eqSc (tkOf P td) (sget xs f.offset) (sget ys f.offset)) w := by
        generalize us[f.offset] = u at *
        generalize vs[f.offset] = v at *
        generalize sget xs f.offset = ax at *
        generalize sget ys f.offset = ay at *
        cases td <;> simp [tkOf, TK.flat] at hf <;> cases ax <;> cases ay <;> simp only [tkOf, eqScC] at h3
        · cases vx.inv_bool; cases vy.inv_bool; simp only [eqSc, tkOf]; exact run_equalIn_bool' w d f.type _ _ hu
        · cases vx.inv_int; cases vy.inv_int; subst h3; simp only [eqSc, tkOf]; exact run_equalIn_int w d f.type _ _ _ _ hu
        · cases vx.inv_str; cases vy.inv_str; simp only [eqSc, tkOf]
          rw [run_equalIn_string w d f.type _ _ hu, toList_mk, toList_mk]
      simp only [Op.eqFields, hn, ne_eq, not_false_eq_true, if_true, Sem.run_bind, px, py, hfin, Result.andThen_ok, List.map_cons, eqFs, Sem.run_ite, hu]
      cases eqSc (tkOf P td) (sget xs f.offset) (sget ys f.offset) with
      | false => simp
      | true => simp only [Bool.not_true, Bool.false_eq_true, if_false, Bool.true_and]; exact ih d xs ys us vs hx hy rx ry hall hc

theorem eqs_facts {t : TypeId} (h : (tiOf P t).eqs ≠ []) : ∃ fs : Array Field, P.underlying t = some (.struct fs) ∧ P.stoodInHeld t = false ∧ P.eqGuardType P.depth t = false ∧
    fs.toList.all (fun f => f.name != "_" && (match P.underlying f.type with | some d => (tkOf P d).flat | none => false)) = true ∧
    (tiOf P t).eqs = fs.toList.map fun f => (f.offset, match P.underlying f.type with | some d => tkOf P d | none => .other) := by
  have h1 : (tiOf P t).eqs = eqsOf P t := by
    unfold tiOf at h ⊢
    cases hu : P.underlying t <;> cases hi : P.info? t <;> simp only [hu, hi] at h ⊢ <;> first | exact absurd rfl h | skip
    rename_i d i
    cases hz : i.zero <;> simp only [hz] at h ⊢
    exact absurd rfl h
  rw [h1] at h ⊢
  unfold eqsOf at h ⊢
  split at h
  · rename_i fs hu
    split at h
    · rename_i hc
      simp only [hu]
      rw [if_pos hc]
      exact ⟨fs, rfl, hc.1, hc.2.1, hc.2.2, rfl⟩
    · exact absurd rfl h
  · exact absurd rfl h

theorem equal_both {t : TypeId} {u v : Value} {b : Bool} (h : ∀ d, (Op.equalIn (d + 1) t u v).run P w = .ok b w) (hu : match u with | .slice .. => True | .func .. => True | .nilFunc => True | _ => False) (hv : match v with | .slice .. => True | .func .. => True | .nilFunc => True | _ => False) :
    (binOp .eql t u v).run P w = .ok (.bool b) w ∧ (binOp .neq t u v).run P w = .ok (.bool (!b)) w := by
  have h' : (Op.equal t u v).run P w = .ok b w := h 9999
  constructor
  · cases u <;> simp at hu <;> cases v <;> simp at hv <;> simp [binOp, h']
  · cases u <;> simp at hu <;> cases v <;> simp at hv <;> simp [binOp, h']
theorem equalIn_slice_nil {t e : TypeId} (hu : P.underlying t = some (.slice e)) (a : Addr) (n c : Nat) (d : Nat) : (Op.equalIn (d + 1) t (.slice (some a) n c) (.slice none 0 0)).run P w = .ok false w := by
  simp only [Op.equalIn, Sem.run_bind, run_underlying hu, Result.andThen_ok, Sem.run_pure]
theorem equalIn_nil_nil {t e : TypeId} (hu : P.underlying t = some (.slice e)) (n c : Nat) (d : Nat) : (Op.equalIn (d + 1) t (.slice none n c) (.slice none 0 0)).run P w = .ok true w := by
  simp only [Op.equalIn, Sem.run_bind, run_underlying hu, Result.andThen_ok, Sem.run_pure, Option.isNone]
theorem equalIn_func_nil {t : TypeId} {p r : Array TypeId} {vv : Bool} (hu : P.underlying t = some (.func p r vv)) (f : Fn) (x y : Array Value) (d : Nat) : (Op.equalIn (d + 1) t (.func f x y) .nilFunc).run P w = .ok false w := by
  simp only [Op.equalIn, Sem.run_bind, run_underlying hu, Result.andThen_ok, Sem.run_pure]
theorem equalIn_nilf_nilf {t : TypeId} {p r : Array TypeId} {vv : Bool} (hu : P.underlying t = some (.func p r vv)) (d : Nat) : (Op.equalIn (d + 1) t .nilFunc .nilFunc).run P w = .ok true w := by
  simp only [Op.equalIn, Sem.run_bind, run_underlying hu, Result.andThen_ok, Sem.run_pure]

theorem eEq_run {t : TypeId} {x y : AV} {u v : Value} (hx : Rep φ H w x u) (hy : Rep φ H w y v) {e : E} (he : eEq (tiOf P t) x y = .ok e) (hc : e.cond) :
    ∃ b : Bool, e.val = .bool b ∧ e.upds = [] ∧ (binOp .eql t u v).run P w = .ok (.bool b) w ∧ (binOp .neq t u v).run P w = .ok (.bool (!b)) w ∧
      (∀ op x y, (eqGuard op t x y u v).run P w = .ok () w) := by
  unfold eEq at he
  split at he
  · rename_i b1 b2
    split at he
    · rename_i hk
      injection he with he; subst he
      cases hx.inv_bool; cases hy.inv_bool
      have hu := und_bool hk
      exact ⟨b1 == b2, rfl, rfl, by simp [binOp, run_equal_bool w t b1 b2 hu], by simp [binOp, run_equal_bool w t b1 b2 hu], fun op x y => run_eqGuard_bool op t x y b1 _⟩
    · cases he
  · rename_i xs ys
    split at he
    · cases he
    · rename_i e' hne
      injection he with he; subst he
      have hne' : (tiOf P t).eqs ≠ [] := fun h => hne h
      obtain ⟨fs, hu, hp, hg, hall, heq⟩ := eqs_facts hne'
      obtain ⟨us, rfl, lx, rx⟩ := hx.inv_agg
      obtain ⟨vs, rfl, ly, ry⟩ := hy.inv_agg
      have hf : P.fieldsOf t = fs := by simp [Program.fieldsOf, hu]
      simp only [heq] at hc
      have hr := eqFs_run (w := w) fs.toList 9998 xs ys us vs lx ly rx ry hall hc
      have hst := run_equalIn_struct (P := P) w 9999 t us vs (by rw [hf]; exact hu) hp
      rw [hf, hr] at hst
      refine ⟨eqFs _ xs ys, rfl, rfl, ?_, ?_, fun op x y => run_eqGuard_agg w op t x y us vs hg⟩
      · rw [run_eql_struct, hst, heq]; rfl
      · rw [run_neq_struct, hst, heq]; rfl
  · rename_i n f
    split at he
    · rename_i e' hk
      injection he with he; subst he
      have hu := und_slice hk
      cases hy.inv_raw
      cases hx.inv_ro with
      | ro base cap b o sz vs hn hcap hsz hbase hM hcell hone hlen hrep =>
        rw [hbase hc]
        have := equal_both (fun d => equalIn_slice_nil (w := w) hu ⟨b, o, none⟩ n cap d) trivial trivial
        exact ⟨false, rfl, rfl, this.1, this.2, fun op x y => run_eqGuard_slice op t x y _ _ _ _⟩
    · cases he
  · rename_i id off n
    split at he
    · rename_i e' hk
      injection he with he; subst he
      have hu := und_slice hk
      cases hy.inv_raw
      obtain ⟨base, cap', rfl, _, hb, _⟩ := hx.inv_sl
      obtain ⟨ad, rfl⟩ := Option.isSome_iff_exists.1 (hb hc)
      have := equal_both (fun d => equalIn_slice_nil (w := w) hu ad n cap' d) trivial trivial
      exact ⟨false, rfl, rfl, this.1, this.2, fun op x y => run_eqGuard_slice op t x y _ _ _ _⟩
    · cases he
  · split at he
    · rename_i e' hk
      injection he with he; subst he
      have hu := und_slice hk
      cases hx.inv_raw
      cases hy.inv_raw
      rename_i b n c _
      cases b with
      | none =>
        have := equal_both (fun d => equalIn_nil_nil (w := w) hu n c d) trivial trivial
        exact ⟨true, rfl, rfl, this.1, this.2, fun op x y => run_eqGuard_slice op t x y _ _ _ _⟩
      | some ad =>
        have := equal_both (fun d => equalIn_slice_nil (w := w) hu ad n c d) trivial trivial
        exact ⟨false, rfl, rfl, this.1, this.2, fun op x y => run_eqGuard_slice op t x y _ _ _ _⟩
    · cases he
  · rename_i f cs
    split at he
    · rename_i hk
      injection he with he; subst he
      obtain ⟨p, r, vv, hu⟩ := und_func hk
      obtain ⟨vs, rfl, _, _⟩ := hx.inv_fn
      cases hy.inv_raw
      have := equal_both (fun d => equalIn_func_nil (w := w) hu f #[] vs d) trivial trivial
      exact ⟨false, rfl, rfl, this.1, this.2, fun op x y => run_eqGuard_func op t x y _ _ _ _⟩
    · cases he
  · split at he
    · rename_i hk
      injection he with he; subst he
      obtain ⟨p, r, vv, hu⟩ := und_func hk
      cases hx.inv_raw
      cases hy.inv_raw
      have := equal_both (fun d => equalIn_nilf_nilf (w := w) hu d) trivial trivial
      exact ⟨true, rfl, rfl, this.1, this.2, fun op x y => run_eqGuard_nilFunc op t x y _⟩
    · cases he
  · cases he

theorem sound_bin {op : BinOp} {t : TypeId} {x y : Operand} {t' : TypeId} (ho : o.op = .binOp op t x y t') (hs : HSat φ H w) (hρ : ∀ x, Rep φ H w (ρ x) (a.eval x)) :
    SoundEff P φ H w a o (eBin op (tiOf P t) (ρ x) (ρ y)) := by
  have hx := hρ x
  have hy := hρ y
  generalize hX : ρ x = X at *
  generalize hY : ρ y = Y at *
  unfold eBin
  split
  · rename_i k m k' n
    have := sound_bin_int (P := P) (φ := φ) (H := H) (w := w) (a := a) ho hs hx.inv_int hy.inv_int
    unfold eBin at this
    exact this
  · rename_i m n
    have := sound_bin_str (P := P) (φ := φ) (H := H) (w := w) (a := a) ho hs hx.inv_str hy.inv_str
    unfold eBin at this
    exact this
  · split
    · cases he : eEq (tiOf P t) X Y with
      | ok e =>
        intro hc
        obtain ⟨b, h1, h1u, h2, h3, h4⟩ := eEq_run hx hy he hc
        rw [h1, h1u]
        refine ⟨.bool b, w, φ, .inl ?_, hs, .bool b, Evo.refl φ H w⟩
        simp only [execOp, ho, Sem.run_bind, h4, Result.andThen_ok, h2, Sem.run_pure]
      | call => trivial
      | yield => trivial
      | bad => trivial
    · cases he : eEq (tiOf P t) X Y with
      | ok e =>
        obtain ⟨ec, ev, eu, er⟩ := e
        cases ev <;> try trivial
        rename_i b0
        simp only [Eff.notB]
        intro hc
        obtain ⟨b, h1, h1u, h2, h3, h4⟩ := eEq_run hx hy he hc
        simp only [AV.bool.injEq] at h1 h1u
        subst h1 h1u
        refine ⟨.bool (!b0), w, φ, .inl ?_, hs, .bool _, Evo.refl φ H w⟩
        simp only [execOp, ho, Sem.run_bind, h4, Result.andThen_ok, h3, Sem.run_pure]
      | call => trivial
      | yield => trivial
      | bad => trivial
    · trivial
end
end Go.SH
