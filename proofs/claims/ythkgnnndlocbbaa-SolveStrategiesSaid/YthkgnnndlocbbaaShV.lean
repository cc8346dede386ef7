/-
  THE SYMBOLIC HEAP, PART V: the rules by which conditions are reckoned: they wait until a state is there. No condition.
-/
import Derived.Test.YthkgnnndlocbbaaShW
namespace Go.SH
set_option linter.unusedVariables false
set_option linter.unusedSimpArgs false
open Go Go.RowKit
section
variable {P : Program} {lo : Cx} {Q : Exit → St → Prop} {x : AV} {s : List AV} {H : List ABlk}

theorem w_skip : wpA P lo .skip Q ⟨x :: s, H⟩ = Q .normal ⟨x :: s, H⟩ := rfl
theorem w_reg {id : Nat} {ops : Array Oper} : wpA P lo (.region id ops false) Q ⟨x :: s, H⟩ = vcOps P ops.toList ops.toList (Q .normal) ⟨x :: s, H⟩ := rfl
theorem w_regd {id : Nat} {ops : Array Oper} : wpA P lo (.region id ops true) Q ⟨x :: s, H⟩ = vcDr P ops (hlen H) (hlen H + countA ops.toList) ops.toList (hlen H) [] (Q .normal) ⟨x :: s, H⟩ := rfl
theorem w_seq {a b : Code} : wpA P lo (.seq a b) Q ⟨x :: s, H⟩ = wpA P lo a (seqK (wpA P lo b Q) Q) ⟨x :: s, H⟩ := rfl
theorem w_cond {c : Operand} {a b : Code} : wpA P lo (.cond c a b) Q ⟨x :: s, H⟩ = (match evalA (x :: s) c with
      | .bool t => gsplit t (condK (wpA P lo a Q) (wpA P lo b Q) ⟨x :: s, H⟩)
      | _ => False) := rfl
theorem w_block {i : Nat} {b : Code} : wpA P lo (.block i b) Q ⟨x :: s, H⟩ = wpA P lo b (blockK i Q) ⟨x :: s, H⟩ := rfl
theorem w_loop {b : Code} : wpA P lo (.loop b) Q ⟨x :: s, H⟩ = Sem P lo (.loop b) Q ⟨x :: s, H⟩ := rfl
theorem w_rf {g : Operand} {ps : Array TypeId} {y b : Code} : wpA P lo (.rangeFunc g ps y b) Q ⟨x :: s, H⟩ = Sem P lo (.rangeFunc g ps y b) Q ⟨x :: s, H⟩ := rfl
theorem w_exit {i : Nat} : wpA P lo (.exit i) Q ⟨x :: s, H⟩ = Q (.exit i) ⟨x :: s, H⟩ := rfl
theorem w_ret : wpA P lo .ret Q ⟨x :: s, H⟩ = Q .ret ⟨x :: s, H⟩ := rfl

section
variable {id : Nat} {R : Bool → List ABlk → Prop} {bd : Code} {y : AV} {b : ABlk}
theorem a_normal : asgK P lo id bd R .normal ⟨x :: s, H⟩ = (match hget H id with
    | .loop ps asg body .ready sl => Sem P lo bd (roundK id R) ⟨x :: s, hset H id (.loop ps asg body .busy sl)⟩
    | _ => False) := rfl
theorem r_normal : roundK id R .normal ⟨x :: s, H⟩ = (match hget H id with
    | .loop ps asg body .busy sl => R true (hset H id (.loop ps asg body .ready sl))
    | _ => False) := rfl
theorem r_ret : roundK id R .ret ⟨x :: s, H⟩ = (match hget H id with
    | .loop ps asg body .busy sl => R false (hset H id (.loop ps asg body (.done .ret) sl))
    | _ => False) := rfl
theorem r_exit {i : Nat} : roundK id R (.exit i) ⟨x :: s, H⟩ = (match hget H id with
    | .loop ps asg body .busy sl => R false (hset H id (.loop ps asg body (.done (.exit i)) sl))
    | _ => False) := rfl
theorem rg_cons : rangeK id (x :: s) Q (b :: H) = (match hget (b :: H) id with
  | .loop _ _ _ .ready _ => Q .normal ⟨x :: s, hset (b :: H) id .dead⟩
  | .loop _ _ _ (.done .ret) _ => Q .ret ⟨x :: s, hset (b :: H) id .dead⟩
  | .loop _ _ _ (.done (.exit i)) _ => Q (.exit i) ⟨x :: s, hset (b :: H) id .dead⟩
  | _ => False) := rfl
end
section
variable {T : Type} {I : T → St} {p : T → Prop} {μ : T → Nat} {t : T} {st : St}
theorem l_exit {i : Nat} : loopK lo I p μ t Q (.exit i) st = Q (.exit i) st := rfl
theorem l_ret : loopK lo I p μ t Q .ret st = Q .ret st := rfl
end
theorem gsd {q : Prop} [Decidable q] {f : Bool → Prop} (h1 : q → f true) (h2 : ¬ q → f false) : gsplit (decide q) f := ⟨fun h => h1 (of_decide_eq_true h), fun h => h2 (of_decide_eq_false h)⟩
theorem gs {b : Bool} {f : Bool → Prop} (h1 : b = true → f true) (h2 : b = false → f false) : gsplit b f := ⟨h1, h2⟩
/-- What waits for a call's result. -/
def cK (o : Oper) (K : St → Prop) (st : St) (res : AV) (H : List ABlk) : Prop := K ⟨putA st.slots o.dst res, H⟩
/-- What waits for a round's word. -/
def yK (o : Oper) (K : St → Prop) (st : St) (b : Bool) (H : List ABlk) : Prop := K ⟨putA st.slots o.dst (.bool b), H⟩
/-- What waits for a guard's worth. -/
def gK (P : Program) (all : List Oper) (o : Oper) (os : List Oper) (K : St → Prop) (d : Nat) (st : St) (want t : Bool) : Prop :=
  bsel t want
    (effK P o (vcOps P all os K) ⟨sput st.slots d (.bool t), st.heap⟩ (eff P st.heap (hlen st.heap) (evalA (sput st.slots d (.bool t))) o))
    (vcOps P all os K ⟨putA (sput st.slots d (.bool t)) o.dst (.raw (.tuple #[])), st.heap⟩)
section
variable {all os : List Oper} {o : Oper} {K : St → Prop}
theorem f_ok {st : St} {c : Prop} {v : AV} {u : List (Nat × ABlk)} {r : List Nat} : effK P o K st (.ok ⟨c, v, u, r⟩) = (c ∧ K ⟨putA st.slots o.dst v, applyU st.heap u⟩) := rfl
theorem f_call {st : St} {f : FuncId} {args : List AV} : effK P o K st (.call f args) = EffC P f args st.heap (cK o K st) := rfl
theorem f_yield {st : St} {id : Nat} {args : List AV} : effK P o K st (.yield id args) = EffY P id args st.heap (yK o K st) := rfl
theorem yK_cons {st : St} {v : Bool} {b : ABlk} {l : List ABlk} : yK o K st v (b :: l) = K ⟨putA st.slots o.dst (.bool v), b :: l⟩ := rfl
theorem f_bad {st : St} : effK P o K st .bad = False := rfl
theorem cK_nil {st : St} {v : AV} : cK o K st v [] = K ⟨putA st.slots o.dst v, []⟩ := rfl
theorem cK_cons {st : St} {v : AV} {b : ABlk} {l : List ABlk} : cK o K st v (b :: l) = K ⟨putA st.slots o.dst v, b :: l⟩ := rfl
theorem v_nil : vcOps P all [] K ⟨x :: s, H⟩ = K ⟨x :: s, H⟩ := rfl
theorem v_cons : vcOps P all (o :: os) K ⟨x :: s, H⟩ = (match o.guard with
    | none => effK P o (vcOps P all os K) ⟨x :: s, H⟩ (eff P H (hlen H) (evalA (x :: s)) o)
    | some (g, want) => match glook all g with
      | none => False
      | some d => match sget (x :: s) d with
        | .bool b => gsplit b (gK P all o os K d ⟨x :: s, H⟩ want)
        | .raw (.tuple _) => vcOps P all os K ⟨putA (x :: s) o.dst (.raw (.tuple #[])), H⟩
        | _ => False) := rfl
theorem gK_tt {d : Nat} : gK P all o os K d ⟨x :: s, H⟩ true true = effK P o (vcOps P all os K) ⟨sput (x :: s) d (.bool true), H⟩ (eff P H (hlen H) (evalA (sput (x :: s) d (.bool true))) o) := rfl
theorem gK_ff {d : Nat} : gK P all o os K d ⟨x :: s, H⟩ false false = effK P o (vcOps P all os K) ⟨sput (x :: s) d (.bool false), H⟩ (eff P H (hlen H) (evalA (sput (x :: s) d (.bool false))) o) := rfl
theorem gK_tf {d : Nat} : gK P all o os K d ⟨x :: s, H⟩ true false = vcOps P all os K ⟨putA (sput (x :: s) d (.bool false)) o.dst (.raw (.tuple #[])), H⟩ := rfl
theorem gK_ft {d : Nat} : gK P all o os K d ⟨x :: s, H⟩ false true = vcOps P all os K ⟨putA (sput (x :: s) d (.bool true)) o.dst (.raw (.tuple #[])), H⟩ := rfl
end
/-- The same in a drawn region. -/
def gD (P : Program) (ops : Array Oper) (base top : Nat) (o : Oper) (os : List Oper) (cnt : Nat) (tr : List (List Nat × List Nat)) (K : St → Prop) (d : Nat) (st : St) (want t : Bool) : Prop :=
  bsel t want
    (match isAlloc o with
      | true => effDK P o cnt (fun y st' => vcDr P ops base top os (cnt + 2) (y :: tr) K st') ⟨sput st.slots d (.bool t), st.heap⟩
      | false => effDK P o top (fun y st' => vcDr P ops base top os cnt (y :: tr) K st') ⟨sput st.slots d (.bool t), st.heap⟩)
    (match isAlloc o with
      | true => vcDr P ops base top os (cnt + 2) (([], []) :: tr) K ⟨putA (sput st.slots d (.bool t)) o.dst (.raw (.tuple #[])), st.heap⟩
      | false => vcDr P ops base top os cnt (([], []) :: tr) K ⟨putA (sput st.slots d (.bool t)) o.dst (.raw (.tuple #[])), st.heap⟩)
/-- What goes on behind an operation of a drawn region. -/
def dK (P : Program) (ops : Array Oper) (base top : Nat) (os : List Oper) (cnt : Nat) (tr : List (List Nat × List Nat)) (K : St → Prop) : List Nat × List Nat → St → Prop :=
  fun y st' => vcDr P ops base top os cnt (y :: tr) K st'
section
variable {ops : Array Oper} {base top cnt : Nat} {os : List Oper} {o : Oper} {tr : List (List Nat × List Nat)} {K : St → Prop}
theorem dK_go {y : List Nat × List Nat} : dK P ops base top os cnt tr K y ⟨x :: s, H⟩ = vcDr P ops base top os cnt (y :: tr) K ⟨x :: s, H⟩ := rfl
theorem d_nil : vcDr P ops base top [] cnt tr K ⟨x :: s, H⟩ = (checkD ops base tr.reverse = true ∧ K ⟨x :: s, H⟩) := rfl
theorem d_cons : vcDr P ops base top (o :: os) cnt tr K ⟨x :: s, H⟩ = (match o.guard with
    | none => match isAlloc o with
      | true => effDK P o cnt (dK P ops base top os (cnt + 2) tr K) ⟨x :: s, H⟩
      | false => effDK P o top (dK P ops base top os cnt tr K) ⟨x :: s, H⟩
    | some (g, want) =>
      match glook ops.toList g with
      | none => False
      | some d =>
        match sget (x :: s) d with
        | .bool b => gsplit b (gD P ops base top o os cnt tr K d ⟨x :: s, H⟩ want)
        | .raw (.tuple _) => match isAlloc o with
          | true => vcDr P ops base top os (cnt + 2) (([], []) :: tr) K ⟨putA (x :: s) o.dst (.raw (.tuple #[])), H⟩
          | false => vcDr P ops base top os cnt (([], []) :: tr) K ⟨putA (x :: s) o.dst (.raw (.tuple #[])), H⟩
        | _ => False) := rfl
theorem gD_tt {d : Nat} : gD P ops base top o os cnt tr K d ⟨x :: s, H⟩ true true = (match isAlloc o with
      | true => effDK P o cnt (dK P ops base top os (cnt + 2) tr K) ⟨sput (x :: s) d (.bool true), H⟩
      | false => effDK P o top (dK P ops base top os cnt tr K) ⟨sput (x :: s) d (.bool true), H⟩) := rfl
theorem gD_ff {d : Nat} : gD P ops base top o os cnt tr K d ⟨x :: s, H⟩ false false = (match isAlloc o with
      | true => effDK P o cnt (dK P ops base top os (cnt + 2) tr K) ⟨sput (x :: s) d (.bool false), H⟩
      | false => effDK P o top (dK P ops base top os cnt tr K) ⟨sput (x :: s) d (.bool false), H⟩) := rfl
theorem gD_tf {d : Nat} : gD P ops base top o os cnt tr K d ⟨x :: s, H⟩ true false = (match isAlloc o with
      | true => vcDr P ops base top os (cnt + 2) (([], []) :: tr) K ⟨putA (sput (x :: s) d (.bool false)) o.dst (.raw (.tuple #[])), H⟩
      | false => vcDr P ops base top os cnt (([], []) :: tr) K ⟨putA (sput (x :: s) d (.bool false)) o.dst (.raw (.tuple #[])), H⟩) := rfl
theorem gD_ft {d : Nat} : gD P ops base top o os cnt tr K d ⟨x :: s, H⟩ false true = (match isAlloc o with
      | true => vcDr P ops base top os (cnt + 2) (([], []) :: tr) K ⟨putA (sput (x :: s) d (.bool true)) o.dst (.raw (.tuple #[])), H⟩
      | false => vcDr P ops base top os cnt (([], []) :: tr) K ⟨putA (sput (x :: s) d (.bool true)) o.dst (.raw (.tuple #[])), H⟩) := rfl
def eDC (o : Oper) (nid : Nat) (k : List Nat × List Nat → St → Prop) (st : St) (ids : List Nat) (r : AR) : Prop :=
  k (ids, upIds (r.u nid)) ⟨putA st.slots o.dst (r.v nid), applyU st.heap (r.u nid)⟩
def eDE (o : Oper) (k : List Nat × List Nat → St → Prop) (st : St) : Eff → Prop
  | .ok e => e.cond ∧ k (e.reads, upIds e.upds) ⟨putA st.slots o.dst e.val, applyU st.heap e.upds⟩
  | _ => False
theorem eC_one {k : List Nat × List Nat → St → Prop} {nid : Nat} {st : St} {ids : List Nat} {r : AR1} : eDC o nid k st ids (.one r) = k (ids, upIds ((AR.one r).u nid)) ⟨putA st.slots o.dst ((AR.one r).v nid), applyU st.heap ((AR.one r).u nid)⟩ := rfl
theorem eC_tup {k : List Nat × List Nat → St → Prop} {nid : Nat} {st : St} {ids : List Nat} {r : List AR1} : eDC o nid k st ids (.tup r) = k (ids, upIds ((AR.tup r).u nid)) ⟨putA st.slots o.dst ((AR.tup r).v nid), applyU st.heap ((AR.tup r).u nid)⟩ := rfl
theorem eC_own {k : List Nat × List Nat → St → Prop} {nid : Nat} {st : St} {ids : List Nat} {a b c : Nat} {d : Nat → List AV} : eDC o nid k st ids (.own a b c d) = k (ids, upIds ((AR.own a b c d).u nid)) ⟨putA st.slots o.dst ((AR.own a b c d).v nid), applyU st.heap ((AR.own a b c d).u nid)⟩ := rfl
theorem eE_ok {k : List Nat × List Nat → St → Prop} {st : St} {c : Prop} {v : AV} {u : List (Nat × ABlk)} {r : List Nat} : eDE o k st (.ok ⟨c, v, u, r⟩) = (c ∧ k (r, upIds u) ⟨putA st.slots o.dst v, applyU st.heap u⟩) := rfl
theorem eE_bad {k : List Nat × List Nat → St → Prop} {st : St} : eDE o k st .bad = False := rfl
/-- An operation of a drawn region. -/
theorem eD {k : List Nat × List Nat → St → Prop} {nid : Nat} : effDK P o nid k ⟨x :: s, H⟩ = (match callOf (evalA (x :: s)) o with
  | some (f, args) => ExCall P f args H (eDC o nid k ⟨x :: s, H⟩ (idsM (idsR H 6) args))
  | none => eDE o k ⟨x :: s, H⟩ (eff P H nid (evalA (x :: s)) o)) := rfl
end
end
/-! cells of typed rows, at places that the program reckoned -/
section
variable {k : Int} {m : Nat}
theorem en_byte (d : UInt8) (xs : List UInt8) : encL cByte d xs (Int.toNat k) = [.int .u8 ((xs.getD (Int.toNat k) d).toNat : Nat)] := rfl
theorem en_byte' (d : UInt8) (xs : List UInt8) : encL cByte d xs (m + Int.toNat k) = [.int .u8 ((xs.getD (m + Int.toNat k) d).toNat : Nat)] := rfl
theorem en_int (q : IntKind) (d : Int) (xs : List Int) : encL (cInt q) d xs (Int.toNat k) = [.int q (xs.getD (Int.toNat k) d)] := rfl
theorem en_int' (q : IntKind) (d : Int) (xs : List Int) : encL (cInt q) d xs (m + Int.toNat k) = [.int q (xs.getD (m + Int.toNat k) d)] := rfl
theorem en_bool (d : Bool) (xs : List Bool) : encL cBool d xs (Int.toNat k) = [.bool (xs.getD (Int.toNat k) d)] := rfl
theorem en_bool' (d : Bool) (xs : List Bool) : encL cBool d xs (m + Int.toNat k) = [.bool (xs.getD (m + Int.toNat k) d)] := rfl
theorem en_str (d : List UInt8) (xs : List (List UInt8)) : encL cStr d xs (Int.toNat k) = [.str (xs.getD (Int.toNat k) d)] := rfl
theorem en_str' (d : List UInt8) (xs : List (List UInt8)) : encL cStr d xs (m + Int.toNat k) = [.str (xs.getD (m + Int.toNat k) d)] := rfl
theorem en_row {α : Type} (e : α → List AV) (d0 : α) (d : List α) (xs : List (List α)) : encL (cRow e d0) d xs (Int.toNat k) = [.ro (xs.getD (Int.toNat k) d).length (encL e d0 (xs.getD (Int.toNat k) d))] := rfl
theorem en_row' {α : Type} (e : α → List AV) (d0 : α) (d : List α) (xs : List (List α)) : encL (cRow e d0) d xs (m + Int.toNat k) = [.ro (xs.getD (m + Int.toNat k) d).length (encL e d0 (xs.getD (m + Int.toNat k) d))] := rfl
theorem sh_at (f : Nat → List AV) : shiftF m f (Int.toNat k) = f (m + Int.toNat k) := rfl
theorem sh_at' (f : Nat → List AV) (q : Nat) : shiftF m f (q + Int.toNat k) = f (m + q + Int.toNat k) := by simp [shiftF, Nat.add_assoc]
end
/-! how many cells an element has -/
section
variable {n l m k : Nat} {f g : Nat → List AV}
theorem len_cut (h : ∀ j, (f j).length = k) (i : Nat) : (cutF n l m f i).length = k := by unfold cutF; split <;> exact h _
theorem len_shift (h : ∀ j, (f j).length = k) (i : Nat) : (shiftF l f i).length = k := h _
theorem len_app (h : ∀ j, (f j).length = k) (h' : ∀ j, (g j).length = k) (i : Nat) : (appF n f g i).length = k := by unfold appF; split; exact h _; exact h' _
theorem len_copy (h : ∀ j, (f j).length = k) (h' : ∀ j, (g j).length = k) (i : Nat) : (copyF f l n g i).length = k := by unfold copyF; split; exact h' _; exact h _
theorem len_const (c : List AV) (h : c.length = k) (i : Nat) : (constF c i).length = k := h
theorem len_byte (d : UInt8) (xs : List UInt8) (i : Nat) : (encL cByte d xs i).length = 1 := rfl
theorem len_int (q : IntKind) (d : Int) (xs : List Int) (i : Nat) : (encL (cInt q) d xs i).length = 1 := rfl
theorem len_row {α : Type} (e : α → List AV) (d0 : α) (d : List α) (xs : List (List α)) (i : Nat) : (encL (cRow e d0) d xs i).length = 1 := rfl
theorem len_lit (xs : List (List AV)) (z : List AV) (h : ∀ x ∈ xs, x.length = k) (hz : z.length = k) (i : Nat) : (litF xs z i).length = k := by
  have key : ∀ (xs : List (List AV)) (i : Nat), (∀ x ∈ xs, x.length = k) → i < xs.length → (lget xs i).length = k := by
    intro xs
    induction xs with
    | nil => intro i _ h; simp at h
    | cons x xs ih =>
      intro i h hi
      cases i with
      | zero => exact h x (by simp)
      | succ i => exact ih i (fun y hy => h y (by simp [hy])) (by simpa using hi)
  unfold litF
  split
  · exact key xs i h (by assumption)
  · exact hz
/-- A literal's rows. -/
theorem lit_enc {α : Type} {e : α → List AV} {d : α} (l : List (List AV)) (z : List AV) (xs : List α) (h : l = xs.map e) (i : Nat) (hi : i < l.length) : litF l z i = encL e d xs i := by
  subst h
  have key : ∀ (xs : List α) (i : Nat), i < xs.length → lget (xs.map e) i = encL e d xs i := by
    intro xs
    induction xs with
    | nil => intro i h; simp at h
    | cons x xs ih =>
      intro i hi
      cases i with
      | zero => rfl
      | succ i => exact ih i (by simpa using hi)
  unfold litF
  rw [if_pos hi]
  exact key xs i (by simpa using hi)
theorem cut_at (i : Nat) (h : i < m) : cutF n l m f i = f (l + i) := by simp [cutF, h]
theorem cut_at0 (i : Nat) (h : i < m) : cutF n 0 m f i = f i := by simp [cutF, h]
end
/-! rows put together -/
section
variable {α : Type} {e : α → List AV} {d : α} {n m : Nat} {f g : Nat → List AV} {xs ys : List α}
theorem app_enc (hn : n = xs.length) (hf : ∀ i, i < n → f i = encL e d xs i) (hg : ∀ i, i < m → g i = encL e d ys i) (i : Nat) (hi : i < n + m) : appF n f g i = encL e d (xs ++ ys) i := by
  rw [encL_append, ← hn]
  unfold appF
  split
  · exact hf i (by assumption)
  · exact hg _ (by omega)
theorem memless_byte {d : UInt8} {n : Nat} (xs : List UInt8) : AR.memless (.one (.vec 1 n (encL cByte d xs))) := memless_vec (sz := 1) xs rfl cByte_scalar
theorem cutF_self (i : Nat) (h : i < m) (hf : ∀ i, i < m → f i = g i) : cutF n 0 m f i = g i := by rw [cut_at0 i h, hf i h]
end
/-! rows as typed lists: equal as functions -/
section
variable {α : Type} {e : α → List AV} {d : α} {n m l k : Nat} {xs ys : List α}
theorem encL_ge (i : Nat) (h : xs.length ≤ i) : encL e d xs i = e d := by
  simp [encL, List.getD_eq_getElem?_getD, List.getElem?_eq_none h]
theorem cutF_all (h : n = xs.length) : cutF n 0 n (encL e d xs) = encL e d xs := by
  funext i
  unfold cutF
  split
  · rw [Nat.zero_add]
  · rw [encL_ge n (by omega), encL_ge i (by omega)]
theorem cutF_enc (h : xs.length ≤ n) : cutF n l m (encL e d xs) = encL e d ((xs.drop l).take m) := by
  funext i
  unfold cutF
  split
  · rw [encL_take _ _ _ (by assumption), encL_drop]
  · rw [encL_ge n h, encL_ge i (by simp only [List.length_take]; omega)]
theorem appF_enc (h : n = xs.length) : appF n (encL e d xs) (encL e d ys) = encL e d (xs ++ ys) := by
  funext i
  unfold appF
  rw [encL_append, ← h]
theorem appF_zero (f g : Nat → List AV) : appF 0 f g = g := by funext i; simp [appF]
theorem shiftF_enc : shiftF l (encL e d xs) = encL e d (xs.drop l) := by
  funext i
  rw [encL_drop]; rfl
theorem shiftF_0 (f : Nat → List AV) : shiftF 0 f = f := shiftF_zero f
theorem updF_enc (x : α) (h : k < xs.length) : updF (encL e d xs) k (e x) = encL e d (xs.set k x) := by
  funext i
  unfold updF
  by_cases hi : i < xs.length
  · rw [encL_set _ _ _ _ hi]
  · rw [if_neg (by omega), encL_ge i (by omega), encL_ge i (by simp; omega)]
theorem constF_enc (n : Nat) : constF (e d) = encL e d (List.replicate n d) := by
  funext i
  by_cases h : i < n
  · rw [encL_get _ _ (by simpa using h)]; simp [constF]
  · rw [encL_ge i (by simp; omega)]; rfl
theorem copyF_enc (o c : Nat) (h : o + c ≤ xs.length) (hc : c ≤ ys.length) : copyF (encL e d xs) o c (encL e d ys) = encL e d (xs.take o ++ (ys.take c ++ xs.drop (o + c))) := by
  funext i
  unfold copyF
  rw [encL_append, encL_append]
  simp only [List.length_take]
  rw [Nat.min_eq_left (by omega), Nat.min_eq_left hc]
  by_cases h1 : i < o
  · rw [if_neg (by omega), if_pos h1, encL_take _ _ _ h1]
  · rw [if_neg h1]
    by_cases h2 : i < o + c
    · rw [if_pos ⟨by omega, h2⟩, if_pos (by omega), encL_take _ _ _ (by omega)]
    · rw [if_neg (by omega), if_neg (by omega), encL_drop]
      congr 1; omega
theorem litF_enc (l : List (List AV)) (z : List AV) (h : l = xs.map e) (hz : z = e d) : litF l z = encL e d xs := by
  funext i
  by_cases hi : i < l.length
  · exact lit_enc l z xs h i hi
  · unfold litF
    rw [if_neg hi, encL_ge i (by subst h; simpa using hi), hz]
theorem lit_nil (z : List AV) (h : z = e d) : litF [] z = encL e d [] := litF_enc [] z rfl h
theorem lit_byte : litF [] [.int .u8 0] = encL cByte 0 [] := lit_nil _ rfl

theorem cell_byte {k : Int} (h : 0 ≤ k) : [AV.int .u8 (k % 256)] = cByte k.toNat.toUInt8 := by
  simp only [cByte, List.cons.injEq, AV.int.injEq, true_and, and_true]
  have : k.toNat.toUInt8.toNat = k.toNat % 256 := by simp
  omega

end
theorem lit1 {α : Type} {e : α → List AV} {d : α} {c z : List AV} (x : α) (h : c = e x) (i : Nat) (hi : i < 1) : cutF 1 0 1 (litF [c] z) i = encL e d [x] i := by
  rw [cut_at0 i hi]
  exact lit_enc [c] z [x] (by rw [h]; rfl) i hi
theorem lit_cut {α : Type} {e : α → List AV} {d : α} {l : List (List AV)} {z : List AV} {n : Nat} (xs : List α) (h : l = xs.map e) (hn : n = l.length) (i : Nat) (hi : i < n) : cutF n 0 n (litF l z) i = encL e d xs i := by
  rw [cut_at0 i hi]
  exact lit_enc l z xs h i (by omega)

theorem strOf_enc {n : Nat} {xs : List UInt8} (h : n = xs.length) : strOf n (encL cByte 0 xs) = xs := strOf_eq xs h (fun _ _ => rfl)

/-! the same at literal places -/
theorem en_byteL (n : Nat) (d : UInt8) (xs : List UInt8) : encL cByte d xs (no_index (OfNat.ofNat n)) = [.int .u8 ((xs.getD (OfNat.ofNat n) d).toNat : Nat)] := rfl
theorem en_intL (n : Nat) (q : IntKind) (d : Int) (xs : List Int) : encL (cInt q) d xs (no_index (OfNat.ofNat n)) = [.int q (xs.getD (OfNat.ofNat n) d)] := rfl
theorem en_rowL {α : Type} (e : α → List AV) (d0 : α) (n : Nat) (d : List α) (xs : List (List α)) : encL (cRow e d0) d xs (no_index (OfNat.ofNat n)) = [.ro (xs.getD (OfNat.ofNat n) d).length (encL e d0 (xs.getD (OfNat.ofNat n) d))] := rfl

end Go.SH
