/-
  THE SYMBOLIC HEAP, PART K: conditions for whole pieces of code, and that they suffice. No condition.
-/
import Derived.Test.YthkgnnndlocbbaaShJ
import Derived.OrdersIn
import Derived.RangeFuncCalls
namespace Go.SH
set_option linter.unusedVariables false
set_option linter.unusedSimpArgs false
open Go Go.RowKit

structure St where
  slots : List AV
  heap : List ABlk
def putA (s : List AV) (d : Option Tmp) (v : AV) : List AV :=
  match d with
  | some i => sput s i v
  | none => s

/-- Where a piece of code runs: the first blocks are others'; in a round of a loop, or not. -/
structure Cx where
  n : Nat
  ro : Option Nat
def FR (ro : Option Nat) : Fence := { fn := fun _ => True, depth := none, alive := false, round := ro }
theorem callsIn_FR {P : Program} {ro : Option Nat} {n : Nat} {f : FuncId} {args : Array Value} {w : World} {R : Ending → World → Prop} : CallsIn (FR ro) n P f args w R ↔ Calls P f args w R := by
  cases ro with
  | none => exact callsIn_wide
  | some l => exact ⟨fun h => (callsIn_wide (n := n)).1 (CallsIn.outOfRound (F := Fence.wide) (l := l) h), fun h => CallsIn.inRound (F := Fence.wide) l (callsIn_wide.2 h)⟩
theorem roundIn_FR {P : Program} {ro : Option Nat} {n l : Nat} {f : FuncId} {ts : Array Value} {asg body : Code} {w : World} {R : Ending → World → Prop} (h : RoundIn Fence.wide n P l f ts asg body w R) : RoundIn (FR ro) n P l f ts asg body w R := h
/-- The marks of loops over functions among the deferred calls. -/
def Marks (φ : Env) (H : List ABlk) (a : Act) (w : World) : Prop :=
  φ.base ≤ w.heap.size ∧ ∃ Ds : List Nat, a.defers = Ds.map (fun D => ({ target := .collected D, args := #[] } : Deferred)) ∧ Ds.Nodup ∧ ∀ D ∈ Ds, w.heap[D]? = some (.deferred (some [])) ∧ φ.base ≤ D ∧ ¬ MBo φ H D
theorem Marks.evo {φ φ' : Env} {H H' : List ABlk} {w w' : World} {a a' : Act} (e : Evo φ H w φ' H' w') (ha : a'.defers = a.defers) (h : Marks φ H a w) : Marks φ' H' a' w' := by
  obtain ⟨h0, Ds, h1, h2, h3⟩ := h
  refine ⟨by rw [e.base]; exact Nat.le_trans h0 e.size, Ds, by rw [ha, h1], h2, fun D hD => ?_⟩
  obtain ⟨g1, g2, g3⟩ := h3 D hD
  have hlt := (Array.getElem?_eq_some_iff.1 g1).1
  refine ⟨by rw [e.frame D hlt g3]; exact g1, by rw [e.base]; exact g2, fun hm => ?_⟩
  rcases e.blk D hm with h | h
  · omega
  · exact g3 h

structure Sat (φ : Env) (st : St) (a : Act) (w : World) : Prop where
  heap : HSat φ st.heap w
  len : st.slots.length = a.tmps.size
  slots : ∀ i, Rep φ st.heap w (sget st.slots i) (a.tmps.getD i undef)
  marks : Marks φ st.heap a w

def CallOK (P : Program) (f : FuncId) : Prop := ∀ args w, (callFunc f args).run P w = .ok (.enter f args) w

/-- What a call of f does: R, of the result and of the heap behind it. -/
def EffC (P : Program) (f : FuncId) (args : List AV) (H : List ABlk) (R : AV → List ABlk → Prop) : Prop :=
  CallOK P f ∧ ∀ φ w vs, HSat φ H w → RepAll φ H w args vs →
    Calls P f vs w fun e w' => ∃ res H' φ' v, e = .returned v ∧ R res H' ∧ HSat φ' H' w' ∧ Rep φ' H' w' res v ∧ Evo φ H w φ' H' w'

/-- What a round of a loop over a function does. -/
def EffY (P : Program) (id : Nat) (args : List AV) (H : List ABlk) (R : Bool → List ABlk → Prop) : Prop :=
  ∀ φ w vs l, HSat φ H w → RepAll φ H w args vs → Rep φ H w (.yld id) (.func (.yield l) #[] #[]) →
    ∃ f ts asg body, (Instr.yield l vs).run P w = .ok (.round l f ts asg body) w ∧ RoundIn Fence.wide 0 P l f ts asg body w fun e w' => ∃ b H' φ', e = .returned (.bool b) ∧ R b H' ∧ HSat φ' H' w' ∧ Evo φ H w φ' H' w'

def glook : List Oper → Nat → Option Tmp
  | [], _ => none
  | o :: _, 0 => o.dst
  | _ :: l, n + 1 => glook l n

/-- Both ways of a test. -/
def gsplit (b : Bool) (f : Bool → Prop) : Prop := (b = true → f true) ∧ (b = false → f false)
theorem gsplit_true (f : Bool → Prop) : gsplit true f = f true := by simp [gsplit]
theorem gsplit_false (f : Bool → Prop) : gsplit false f = f false := by simp [gsplit]
@[congr] theorem gsplit_congr {b b' : Bool} (f : Bool → Prop) (h : b = b') : gsplit b f = gsplit b' f := by rw [h]
def bsel : Bool → Bool → Prop → Prop → Prop
  | true, true, x, _ => x
  | false, false, x, _ => x
  | _, _, _, y => y

def effK (P : Program) (o : Oper) (K : St → Prop) (st : St) : Eff → Prop
  | .ok e => e.cond ∧ K ⟨putA st.slots o.dst e.val, applyU st.heap e.upds⟩
  | .call f args => EffC P f args st.heap fun res H' => K ⟨putA st.slots o.dst res, H'⟩
  | .yield id args => EffY P id args st.heap fun b H' => K ⟨putA st.slots o.dst (.bool b), H'⟩
  | .bad => False
def vcOps (P : Program) (all : List Oper) : List Oper → (St → Prop) → St → Prop
  | [], K, st => K st
  | o :: os, K, st =>
    match o.guard with
    | none => effK P o (vcOps P all os K) st (eff P st.heap (hlen st.heap) (evalA st.slots) o)
    | some (g, want) =>
      match glook all g with
      | none => False
      | some d =>
        match sget st.slots d with
        | .bool b => gsplit b fun t => bsel t want
            (effK P o (vcOps P all os K) ⟨sput st.slots d (.bool t), st.heap⟩ (eff P st.heap (hlen st.heap) (evalA (sput st.slots d (.bool t))) o))
            (vcOps P all os K ⟨putA (sput st.slots d (.bool t)) o.dst (.raw (.tuple #[])), st.heap⟩)
        | .raw (.tuple _) => vcOps P all os K ⟨putA st.slots o.dst (.raw (.tuple #[])), st.heap⟩
        | _ => False

section
variable {P : Program} {φ φ' : Env} {H H' : List ABlk} {w w' : World} {a : Act} {st : St}

theorem hget_hlen (H : List ABlk) : hget H (hlen H) = .fresh := by
  induction H with
  | nil => rfl
  | cons b l ih => simpa [hlen, hget] using ih

theorem Sat.eval (h : Sat φ st a w) (x : Operand) : Rep φ st.heap w (evalA st.slots x) (a.eval x) := by
  cases x with
  | tmp t => exact h.slots t
  | const v => exact .g (repG_ofV _ v)
  | global g => exact .undef _
  | func f => exact .g (.fn (by rfl) (fun i c u hc => by simp at hc))

theorem Sat.put (h : Sat φ st a w) (e : Evo φ st.heap w φ' H' w') (hs : HSat φ' H' w') {val : AV} {v : Value} (hv : Rep φ' H' w' val v) (d : Option Tmp) :
    Sat φ' ⟨putA st.slots d val, H'⟩ (a.put d v) w' := by
  cases d with
  | none => exact ⟨hs, h.len, fun i => (h.slots i).evo e, h.marks.evo e rfl⟩
  | some d =>
    refine ⟨hs, by simp [putA, sput_length, Act.put, h.len], fun i => ?_, h.marks.evo e rfl⟩
    simp only [putA, Act.put]
    by_cases hi : i = d
    · subst hi
      by_cases hl : i < st.slots.length
      · rw [sget_put_same _ _ _ hl]
        rw [h.len] at hl
        simp [Array.getD_eq_getD_getElem?, hl]; exact hv
      · have e1 : sget (sput st.slots i val) i = .undef := by
          rw [sget_getElem?, List.getElem?_eq_none (by rw [sput_length]; omega)]; rfl
        rw [e1]; exact .undef _
    · rw [sget_put_ne _ _ _ _ hi]
      have : (a.tmps.setIfInBounds d v).getD i undef = a.tmps.getD i undef := by
        simp [Array.getD_eq_getD_getElem?, Array.getElem?_setIfInBounds_ne (Ne.symm hi)]
      rw [this]
      exact (h.slots i).evo e

/-- The same state, a slot known better. -/
theorem Sat.know (h : Sat φ st a w) {d : Nat} {b t : Bool} (hd : sget st.slots d = .bool b) (hb : b = t) : Sat φ ⟨sput st.slots d (.bool t), st.heap⟩ a w := by
  subst hb
  refine ⟨h.heap, by simp [sput_length, h.len], fun i => ?_, h.marks⟩
  by_cases hi : i = d
  · subst hi
    by_cases hl : i < st.slots.length
    · simp only; rw [sget_put_same _ _ _ hl, ← hd]; exact h.slots i
    · have e1 : sget (sput st.slots i (.bool b)) i = .undef := by
        rw [sget_getElem?, List.getElem?_eq_none (by rw [sput_length]; omega)]; rfl
      simp only; rw [e1]; exact .undef _
  · simp only; rw [sget_put_ne _ _ _ _ hi]; exact h.slots i

theorem glook_eq (l : List Oper) (g : Nat) : glook l g = (l[g]?).bind (·.dst) := by
  induction l generalizing g with
  | nil => simp [glook]
  | cons o l ih => cases g <;> simp [glook, ih]

theorem yielded_of (h : Sat φ st a w) {ops : Array Oper} {g d : Nat} {b : Bool} (hg : glook ops.toList g = some d) (hd : sget st.slots d = .bool b) : yielded ops a.tmps g = some b := by
  rw [glook_eq, Array.getElem?_toList] at hg
  have hr := h.slots d
  rw [hd] at hr
  have hv := hr.inv_bool
  have hl : d < a.tmps.size := by
    rw [← h.len]
    rcases Nat.lt_or_ge d st.slots.length with h | h
    · exact h
    · rw [sget_getElem?, List.getElem?_eq_none h] at hd; simp at hd
  unfold yielded
  rw [hg]
  simp only [Option.bind_some]
  rw [Array.getElem?_eq_getElem hl]
  simp [Array.getD_eq_getD_getElem?, hl] at hv
  rw [hv]

theorem yielded_nov (h : Sat φ st a w) {ops : Array Oper} {g d : Nat} {b : Array Value} (hg : glook ops.toList g = some d) (hd : sget st.slots d = .raw (.tuple b)) : yielded ops a.tmps g = none := by
  rw [glook_eq, Array.getElem?_toList] at hg
  have hr := h.slots d
  rw [hd] at hr
  have hv := hr.inv_raw
  have hl : d < a.tmps.size := by
    rw [← h.len]
    rcases Nat.lt_or_ge d st.slots.length with h | h
    · exact h
    · rw [sget_getElem?, List.getElem?_eq_none h] at hd; simp at hd
  unfold yielded
  rw [hg]
  simp only [Option.bind_some]
  rw [Array.getElem?_eq_getElem hl]
  simp [Array.getD_eq_getD_getElem?, hl] at hv
  rw [hv]

theorem eff_defer (nid : Nat) (ρ : Operand → AV) {o : Oper} {c : Call} (h : o.op = .defer c) : eff P H nid ρ o = .bad := by
  unfold eff
  rw [h]
theorem sem_FR (ro : Option Nat) (nid : Nat) (ρ : Operand → AV) {ρ' : Operand → Value} {o : Oper} (h : eff P H nid ρ o ≠ .bad) : o.semAt (FR ro).round ρ' = execOp ρ' o :=
  Oper.semAt_eq _ _ _ fun _ hc => h (eff_defer nid ρ hc)
/-- One operation. -/
theorem effK_sound {ro : Option Nat} {Q : Exit → Act → World → Prop} {o : Oper} {K : St → Prop} {nid : Nat} {φ0 : Env} {H0 : List ABlk} {w0 : World} (hs : Sat φ st a w) (e0 : Evo φ0 H0 w0 φ st.heap w) (hf : hget st.heap nid = .fresh)
    (next : Act → World → Prop) (hnext : ∀ φ' st' a' w', K st' → Sat φ' st' a' w' → Evo φ0 H0 w0 φ' st'.heap w' → next a' w')
    (h : effK P o K st (eff P st.heap nid (evalA st.slots) o)) : o.wpIn (FR ro) 0 P a w next Q := by
  have hsound := eff_sound (P := P) (a := a) (o := o) nid hs.heap hf hs.eval
  have hsem := sem_FR (P := P) (H := st.heap) (ρ' := a.eval) (o := o) ro nid (evalA st.slots) (fun e => by rw [e] at h; exact h)
  generalize eff P st.heap nid (evalA st.slots) o = ef at *
  unfold Oper.wpIn
  refine ⟨fun _ _ => trivial, ?_⟩
  rw [hsem]
  cases ef with
  | ok e =>
    obtain ⟨hc, hk⟩ := h
    obtain ⟨v, w', φ', hr, h1, h2, h3⟩ := hsound hc
    have hsat := hs.put h3 h1 h2 o.dst
    rcases hr with hr | ⟨hr, rfl⟩
    · rw [hr]; exact hnext φ' _ _ _ hk hsat (e0.trans h3)
    · rw [hr]; exact hnext φ' _ _ _ hk hsat (e0.trans h3)
  | call f args =>
    obtain ⟨vs, hr, hrep⟩ := hsound
    obtain ⟨hok, hcall⟩ := h
    rw [hr, hok vs w]
    simp only [Oper.uponIn]
    refine ⟨fun h => by simp [FR] at h, callsIn_FR.2 ((hcall φ w vs hs.heap hrep).mono fun e w' he => ?_)⟩
    obtain ⟨res, H', φ', v, rfl, hR, h1, h2, h3⟩ := he
    exact hnext φ' _ _ _ hR (hs.put h3 h1 h2 o.dst) (e0.trans h3)
  | yield id args =>
    obtain ⟨vs, l, hr, hrep, hl⟩ := hsound
    obtain ⟨f, ts, asg, body, hy, hround⟩ := h φ w vs l hs.heap hrep hl
    rw [hr, hy]
    simp only [Oper.uponIn]
    refine ⟨fun h => by simp [FR] at h, roundIn_FR (hround.mono fun e w' he => ?_)⟩
    obtain ⟨b, H', φ', rfl, hR, h1, h3⟩ := he
    exact hnext φ' _ _ _ hR (hs.put h3 h1 (.bool b) o.dst) (e0.trans h3)
  | bad => exact h.elim

theorem vcOps_sound {ro : Option Nat} {Q : Exit → Act → World → Prop} {ops : Array Oper} {K : St → Prop} {φ0 : Env} {H0 : List ABlk} {w0 : World}
    (hQ : ∀ φ' st' a' w', K st' → Sat φ' st' a' w' → Evo φ0 H0 w0 φ' st'.heap w' → Q .normal a' w') :
    ∀ (os : List Oper) (k : Nat), (∀ i, ops[k + i]? = os[i]?) → ∀ φ st a w, vcOps P ops.toList os K st → Sat φ st a w → Evo φ0 H0 w0 φ st.heap w → wpOpsIn (FR ro) 0 P ops Q (List.range' k os.length) a w := by
  intro os
  induction os with
  | nil => intro k _ φ st a w h hs e0; exact hQ φ st a w h hs e0
  | cons o os ih =>
    intro k hk φ st a w h hs e0
    have hk0 : ops[k]? = some o := by have := hk 0; simpa using this
    have hks : ∀ i, ops[k + 1 + i]? = os[i]? := by intro i; have := hk (i + 1); rw [show k + (i + 1) = k + 1 + i by omega] at this; simpa using this
    simp only [List.length_cons, List.range'_succ, wpOpsIn, hk0]
    simp only [vcOps] at h
    split at h
    · rename_i hg
      have hw : Region.wanted o (yielded ops a.tmps) = true := by simp [Region.wanted, hg]
      rw [if_pos hw]
      exact (effK_sound hs e0 (hget_hlen _) _ (fun φ' st' a' w' h1 h2 h3 => ih (k + 1) hks φ' st' a' w' h1 h2 h3) h)
    · rename_i g want hg
      split at h
      · exact h.elim
      · rename_i d hd
        split at h
        · rename_i b hb
          have hy := yielded_of hs hd hb
          have hw : Region.wanted o (yielded ops a.tmps) = (b == want) := by simp only [Region.wanted, hg, hy]; cases b <;> cases want <;> rfl
          rw [hw]
          have hsp : bsel b want
            (effK P o (vcOps P ops.toList os K) ⟨sput st.slots d (.bool b), st.heap⟩ (eff P st.heap (hlen st.heap) (evalA (sput st.slots d (.bool b))) o))
            (vcOps P ops.toList os K ⟨putA (sput st.slots d (.bool b)) o.dst (.raw (.tuple #[])), st.heap⟩) := by
            cases b
            · exact h.2 rfl
            · exact h.1 rfl
          have hs' := hs.know hb rfl
          have run : effK P o (vcOps P ops.toList os K) ⟨sput st.slots d (.bool b), st.heap⟩ (eff P st.heap (hlen st.heap) (evalA (sput st.slots d (.bool b))) o) →
              o.wpIn (FR ro) 0 P a w (wpOpsIn (FR ro) 0 P ops Q (List.range' (k + 1) os.length)) Q :=
            fun h => effK_sound (st := ⟨sput st.slots d (.bool b), st.heap⟩) hs' e0 (hget_hlen _) _ (fun φ' st' a' w' h1 h2 h3 => ih (k + 1) hks φ' st' a' w' h1 h2 h3) h
          have skip : vcOps P ops.toList os K ⟨putA (sput st.slots d (.bool b)) o.dst (.raw (.tuple #[])), st.heap⟩ → wpOpsIn (FR ro) 0 P ops Q (List.range' (k + 1) os.length) (a.put o.dst undef) w :=
            fun h => ih (k + 1) hks φ _ _ _ h (hs'.put (Evo.refl φ st.heap w) hs'.heap (.g (.raw undef)) o.dst) e0
          cases b <;> cases want <;> simp only [bsel] at hsp <;> simp
          · exact run hsp
          · exact ⟨fun _ _ => trivial, skip hsp⟩
          · exact ⟨fun _ _ => trivial, skip hsp⟩
          · exact run hsp
        · rename_i b hb
          have hy := yielded_nov hs hd hb
          have hw : Region.wanted o (yielded ops a.tmps) = false := by simp only [Region.wanted, hg, hy]; cases want <;> rfl
          rw [hw]
          simp only [Bool.false_eq_true, if_false]
          exact ⟨fun _ _ => trivial, ih (k + 1) hks φ _ _ _ h (hs.put (Evo.refl φ st.heap w) hs.heap (.g (.raw undef)) o.dst) e0⟩
        · exact h.elim

theorem region_sound {ro : Option Nat} {Q : Exit → Act → World → Prop} {ops : Array Oper} {K : St → Prop} {φ0 : Env} {H0 : List ABlk} {w0 : World} {id : Nat} (hs : Sat φ st a w) (e0 : Evo φ0 H0 w0 φ st.heap w)
    (hQ : ∀ φ' st' a' w', K st' → Sat φ' st' a' w' → Evo φ0 H0 w0 φ' st'.heap w' → Q .normal a' w') (h : vcOps P ops.toList ops.toList K st) : (Code.region id ops false).wpIn (FR ro) 0 P Q a w := by
  apply wpIn_region
  have := vcOps_sound (ro := ro) (Q := Q) (ops := ops) hQ ops.toList 0 (fun i => by simp) φ st a w h hs e0
  rw [List.range_eq_range']
  simpa using this
end
end Go.SH
