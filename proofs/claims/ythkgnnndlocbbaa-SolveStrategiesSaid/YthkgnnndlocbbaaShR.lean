/-
  THE SYMBOLIC HEAP, PART R: whole pieces of code; loops; contracts. No condition.
-/
import Derived.Test.YthkgnnndlocbbaaShQ
namespace Go.SH
set_option linter.unusedVariables false
set_option linter.unusedSimpArgs false
open Go Go.RowKit

def postS (Q : Exit → St → Prop) (φ0 : Env) (H0 : List ABlk) (w0 : World) (ex : Exit) (a : Act) (w : World) : Prop :=
  ∃ φ st, Q ex st ∧ Sat φ st a w ∧ Evo φ0 H0 w0 φ st.heap w
/-- What a piece of code does from a state: lo: the first blocks are others'; in a round, or not. -/
def Sem (P : Program) (lo : Cx) (c : Code) (Q : Exit → St → Prop) (st : St) : Prop :=
  ∀ φ0 H0 w0 φ a w, (∀ id, lo.n ≤ id → hget H0 id = .fresh) → Sat φ st a w → Evo φ0 H0 w0 φ st.heap w → c.wpIn (FR lo.ro) 0 P (postS Q φ0 H0 w0) a w
@[congr] theorem Sem_congr {P : Program} {lo : Cx} (c : Code) (Q : Exit → St → Prop) {st st' : St} (h : st = st') : Sem P lo c Q st = Sem P lo c Q st' := by rw [h]
@[congr] theorem EffC_congr {P : Program} {f : FuncId} {args args' : List AV} {H H' : List ABlk} (R : AV → List ABlk → Prop) (h1 : args = args') (h2 : H = H') : EffC P f args H R = EffC P f args' H' R := by rw [h1, h2]

def seqK (k : St → Prop) (Q : Exit → St → Prop) : Exit → St → Prop
  | .normal, s => k s
  | e, s => Q e s
def blockK (i : Nat) (Q : Exit → St → Prop) : Exit → St → Prop
  | .exit j, s => if j = i then Q .normal s else Q (.exit j) s
  | e, s => Q e s
def condK (x y : St → Prop) (st : St) : Bool → Prop
  | true => x st
  | false => y st
def wpA (P : Program) (lo : Cx) : Code → (Exit → St → Prop) → St → Prop
  | .skip, Q, st => Q .normal st
  | .region _ ops draw, Q, st => match draw with
    | true => vcDraw P ops (Q .normal) st
    | false => vcOps P ops.toList ops.toList (Q .normal) st
  | .seq a b, Q, st => wpA P lo a (seqK (wpA P lo b Q) Q) st
  | .cond c a b, Q, st => match evalA st.slots c with
    | .bool t => gsplit t (condK (wpA P lo a Q) (wpA P lo b Q) st)
    | _ => False
  | .block i b, Q, st => wpA P lo b (blockK i Q) st
  | .loop b, Q, st => Sem P lo (.loop b) Q st
  | .rangeFunc g ps x b, Q, st => Sem P lo (.rangeFunc g ps x b) Q st
  | .exit i, Q, st => Q (.exit i) st
  | .ret, Q, st => Q .ret st
  | _, _, _ => False

section
variable {P : Program} {lo : Cx}

theorem Sem.mono {c : Code} {Q Q' : Exit → St → Prop} {st : St} (h : Sem P lo c Q st) (hq : ∀ e s, Q e s → Q' e s) : Sem P lo c Q' st :=
  fun φ0 H0 w0 φ a w hlo hs e0 => wpIn_mono (h φ0 H0 w0 φ a w hlo hs e0) fun e a w ⟨φ', st', h1, h2, h3⟩ => ⟨φ', st', hq e st' h1, h2, h3⟩

theorem wpA_sound (hm : P.follows .mixedOrders = true) : ∀ (c : Code) (Q : Exit → St → Prop) (st : St), wpA P lo c Q st → Sem P lo c Q st := by
  intro c
  induction c with
  | skip => intro Q st h φ0 H0 w0 φ a w _ hs e0; exact wpIn_skip ⟨φ, st, h, hs, e0⟩
  | region id ops draw =>
    intro Q st h φ0 H0 w0 φ a w _ hs e0
    cases draw with
    | true => exact draw_sound hm hs e0 (fun φ' st' a' w' h1 h2 h3 => ⟨φ', st', h1, h2, h3⟩) h
    | false => exact region_sound hs e0 (fun φ' st' a' w' h1 h2 h3 => ⟨φ', st', h1, h2, h3⟩) h
  | seq x y ihx ihy =>
    intro Q st h φ0 H0 w0 φ a w hlo hs e0
    refine wpIn_seq (wpIn_mono (ihx _ st h φ0 H0 w0 φ a w hlo hs e0) fun e a' w' he => ?_)
    obtain ⟨φ', st', h1, h2, h3⟩ := he
    cases e with
    | normal => exact ihy Q st' h1 φ0 H0 w0 φ' a' w' hlo h2 h3
    | _ => exact ⟨φ', st', h1, h2, h3⟩
  | cond c x y ihx ihy =>
    intro Q st h φ0 H0 w0 φ a w hlo hs e0
    simp only [wpA] at h
    split at h
    · rename_i t ht
      have hv := hs.eval c
      rw [ht] at hv
      refine wpIn_cond_split hv.inv_bool (fun e => ?_) (fun e => ?_)
      · exact ihx Q st (h.1 e) φ0 H0 w0 φ a w hlo hs e0
      · exact ihy Q st (h.2 e) φ0 H0 w0 φ a w hlo hs e0
    · exact h.elim
  | block i x ih =>
    intro Q st h φ0 H0 w0 φ a w hlo hs e0
    refine wpIn_block (wpIn_mono (ih _ st h φ0 H0 w0 φ a w hlo hs e0) fun e a' w' he => ?_)
    obtain ⟨φ', st', h1, h2, h3⟩ := he
    cases e with
    | exit j =>
      simp only [blockK] at h1
      simp only [Exit.inBlock]
      split
      · rename_i hj; rw [if_pos hj] at h1; exact ⟨φ', st', h1, h2, h3⟩
      · rename_i hj; rw [if_neg hj] at h1; exact ⟨φ', st', h1, h2, h3⟩
    | _ => exact ⟨φ', st', h1, h2, h3⟩
  | loop x _ => intro Q st h; exact h
  | rangeFunc g ps x y _ _ => intro Q st h; exact h
  | exit i => intro Q st h φ0 H0 w0 φ a w _ hs e0; exact wpIn_exit ⟨φ, st, h, hs, e0⟩
  | ret => intro Q st h φ0 H0 w0 φ a w _ hs e0; exact wpIn_ret ⟨φ, st, h, hs, e0⟩
  | scope x _ => intro Q st h; exact h.elim
  | label l => intro Q st h; exact h.elim
  | goto l => intro Q st h; exact h.elim
  | refuse s => intro Q st h; exact h.elim

theorem loop_core {F : Fence} {n0 : Nat} {c : Code} {R : Exit → Act → World → Prop} (Inv : Nat → Act → World → Prop) (round : ∀ n a w, Inv n a w → c.wpIn F n0 P (Exit.then (fun a' w' => ∃ m, m < n ∧ Inv m a' w') R) a w) :
    ∀ n a w, Inv n a w → (Code.loop c).wpIn F n0 P R a w := by
  intro n a w hI b k cs hro hb hr
  have key : ∀ n a w, Inv n a w → ∃ e a' w', R e a' w' ∧ ArrivesIn (Machine.fenced P F) P (lone (b.atR a (.code c :: .inLoop c :: k)) cs w) b k cs e a' w' := by
    intro n
    induction n using Nat.strongRecOn with
    | _ n ih =>
      intro a w hI
      obtain ⟨e, a₁, w₁, hq, harr⟩ := round n a w hI b (.inLoop c :: k) cs hro hb hr
      cases e with
      | normal =>
        obtain ⟨m, hlt, hI₁⟩ := hq
        obtain ⟨e₂, a₂, w₂, hq₂, harr₂⟩ := ih m hlt a₁ w₁ hI₁
        exact ⟨e₂, a₂, w₂, hq₂, .of_steps (StepsIn.trans harr (.one (fenced_calm hb hr rfl) stepR_inLoop)) harr₂⟩
      | exit id => exact ⟨_, a₁, w₁, hq, .pass (x := .inLoop c) rfl (fun _ _ => .inl (by simp)) harr⟩
      | goto l => exact ⟨_, a₁, w₁, hq, .pass (x := .inLoop c) rfl (fun _ _ => .inl (by simp)) harr⟩
      | ret => exact ⟨_, a₁, w₁, hq, .pass (x := .inLoop c) rfl (fun _ _ => .inl (by simp)) harr⟩
      | panic ch => exact ⟨_, a₁, w₁, hq, .pass (x := .inLoop c) rfl (fun _ _ => .inl (by simp)) harr⟩
      | outgrown => exact ⟨_, a₁, w₁, hq, .pass (x := .inLoop c) rfl (fun _ _ => .inl (by simp)) harr⟩
  obtain ⟨e, a', w', hq, harr⟩ := key n a w hI
  exact ⟨e, a', w', hq, .of_steps (.one (fenced_calm hb hr rfl) stepR_loop) harr⟩

/-! what may be forgotten -/
def nlook : List Nat → Nat → Option Nat
  | [], _ => none
  | a :: _, 0 => some a
  | _ :: l, n + 1 => nlook l n
def nget (ρ : List Nat) (i : Nat) : Nat :=
  match nlook ρ i with
  | some x => x
  | none => i
def ren (ρ : List Nat) : Nat → AV → AV
  | 0, av => av
  | n + 1, av =>
    match av with
    | .sl id o l => .sl (nget ρ id) o l
    | .ptr id i j => .ptr (nget ρ id) i j
    | .agg cs => .agg (mapA (ren ρ n) cs)
    | .tup cs => .tup (mapA (ren ρ n) cs)
    | .fn f cs => .fn f (mapA (ren ρ n) cs)
    | .yld id => .yld (nget ρ id)
    | .mp id => .mp (nget ρ id)
    | av => av
def allP (p : AV → Prop) : List AV → Prop
  | [] => True
  | a :: l => p a ∧ allP p l
def okA (H : List ABlk) : Nat → AV → Prop
  | 0, _ => False
  | n + 1, av =>
    match av with
    | .sl id _ _ => (hget H id).used = true
    | .ptr id _ _ => (hget H id).used = true
    | .yld id => (hget H id).used = true
    | .mp id => (hget H id).used = true
    | .agg cs => allP (okA H n) cs
    | .tup cs => allP (okA H n) cs
    | .fn _ cs => allP (okA H n) cs
    | _ => True
def slotsLe (ρ : List Nat) (H : List ABlk) : List AV → List AV → Prop
  | [], [] => True
  | s :: ss, i :: is => (i = .undef ∨ (s = ren ρ 4 i ∧ okA H 4 i)) ∧ slotsLe ρ H ss is
  | _, _ => False
def rowLe (ρ : List Nat) (H : List ABlk) : MRow → MRow → Prop
  | .row sz m f, .row sz' m' f' => sz = sz' ∧ m = m' ∧ ∀ i, i < m' → f i = f' i
  | .lent k, .lent k' => k = nget ρ k' ∧ (hget H k').used = true
  | .lent _, .hole => True
  | .hole, .hole => True
  | _, _ => False
def blkLe (ρ : List Nat) (H : List ABlk) : ABlk → ABlk → Prop
  | _, .fresh => True
  | _, .dead => True
  | .box cs', .box cs => slotsLe ρ H cs' cs
  | .vec sz n f, .vec sz' n' f' => sz = sz' ∧ n = n' ∧ ∀ i, i < n' → f i = f' i
  | .mat n g, .mat n' g' => n = n' ∧ ∀ i, i < n' → rowLe ρ H (g i) (g' i)
  | .loop ps asg body s slots, .loop ps' asg' body' s' slots' => ps = ps' ∧ asg = asg' ∧ body = body' ∧ s = s' ∧ slotsLe ρ H slots slots'
  | .map es, .map es' => es = es'
  | _, _ => False
def heapLe (ρ : List Nat) (Hs H : List ABlk) : List ABlk → Nat → Prop
  | [], _ => True
  | b :: l, k => blkLe ρ H (hget Hs (nget ρ k)) b ∧ heapLe ρ Hs H l (k + 1)
def live : List ABlk → Nat → List Nat
  | [], _ => []
  | .box _ :: l, k => k :: live l (k + 1)
  | .vec .. :: l, k => k :: live l (k + 1)
  | .mat .. :: l, k => k :: live l (k + 1)
  | .loop .. :: l, k => k :: live l (k + 1)
  | .map _ :: l, k => k :: live l (k + 1)
  | _ :: l, k => live l (k + 1)
def notin (a : Nat) : List Nat → Prop
  | [] => True
  | b :: l => a ≠ b ∧ notin a l
def injOn (ρ : List Nat) : List Nat → Prop
  | [] => True
  | a :: l => (notin (nget ρ a) (l.map (nget ρ))) ∧ injOn ρ l
def loLe (ρ : List Nat) (Hs H : List ABlk) : Nat → Prop
  | 0 => True
  | n + 1 => (nget ρ n = n ∧ ((hget Hs n).used = true → (hget H n).used = true)) ∧ loLe ρ Hs H n
/-- The state 'inv' says less than 'st'; ρ: where its blocks stand. -/
def St.le (lo : Cx) (ρ : List Nat) (st inv : St) : Prop :=
  slotsLe ρ inv.heap st.slots inv.slots ∧ heapLe ρ st.heap inv.heap inv.heap 0 ∧ injOn ρ (live inv.heap 0) ∧ loLe ρ st.heap inv.heap lo.n

theorem notin_spec {a : Nat} {l : List Nat} (h : notin a l) : a ∉ l := by
  induction l with
  | nil => simp
  | cons b l ih => intro hm; rcases List.mem_cons.1 hm with rfl | hm; exact h.1 rfl; exact ih h.2 hm
theorem injOn_spec {ρ : List Nat} {l : List Nat} (h : injOn ρ l) : ∀ i ∈ l, ∀ j ∈ l, nget ρ i = nget ρ j → i = j := by
  induction l with
  | nil => intro i hi; simp at hi
  | cons a l ih =>
    intro i hi j hj he
    have hn := notin_spec h.1
    rcases List.mem_cons.1 hi with e1 | h1 <;> rcases List.mem_cons.1 hj with e2 | h2
    · rw [e1, e2]
    · rw [e1] at he ⊢; exact absurd (List.mem_map.2 ⟨j, h2, he.symm⟩) hn
    · rw [e2] at he ⊢; exact absurd (List.mem_map.2 ⟨i, h1, he⟩) hn
    · exact ih h.2 i h1 j h2 he
theorem live_spec : ∀ (l : List ABlk) (k i : Nat), (hget l i).sig.isSome = true → k + i ∈ live l k := by
  intro l
  induction l with
  | nil => intro k i h; simp [hget, ABlk.sig] at h
  | cons b l ih =>
    intro k i h
    cases i with
    | zero => cases b <;> simp [hget, ABlk.sig, live] at h ⊢
    | succ i =>
      have := ih (k + 1) i h
      have e : k + (i + 1) = k + 1 + i := by omega
      rw [e]
      cases b <;> simp only [live] <;> first | exact this | exact List.mem_cons_of_mem _ this
theorem heapLe_spec {ρ : List Nat} {Hs H : List ABlk} : ∀ (l : List ABlk) (k : Nat), heapLe ρ Hs H l k → ∀ i, blkLe ρ H (hget Hs (nget ρ (k + i))) (hget l i) := by
  intro l
  induction l with
  | nil => intro k _ i; simp only [hget, blkLe]
  | cons b l ih =>
    intro k h i
    cases i with
    | zero => exact h.1
    | succ i =>
      have := ih (k + 1) h.2 i
      have e : k + (i + 1) = k + 1 + i := by omega
      rw [e]; exact this
theorem slotsLe_len {ρ : List Nat} {H : List ABlk} : ∀ (a b : List AV), slotsLe ρ H a b → a.length = b.length := by
  intro a
  induction a with
  | nil => intro b h; cases b <;> simp_all [slotsLe]
  | cons x a ih => intro b h; cases b with
    | nil => simp [slotsLe] at h
    | cons y b => simp [ih b h.2]
theorem slotsLe_get {ρ : List Nat} {H : List ABlk} : ∀ (a b : List AV), slotsLe ρ H a b → ∀ (i : Nat) y, b[i]? = some y → y = .undef ∨ (a[i]? = some (ren ρ 4 y) ∧ okA H 4 y) := by
  intro a
  induction a with
  | nil => intro b h i y hy; cases b with
    | nil => simp at hy
    | cons y b => simp [slotsLe] at h
  | cons x a ih => intro b h i y hy; cases b with
    | nil => simp at hy
    | cons z b =>
      cases i with
      | zero =>
        simp at hy; subst hy
        rcases h.1 with h1 | h1
        · exact .inl h1
        · exact .inr ⟨by simp [h1.1], h1.2⟩
      | succ i => simpa using ih b h.2 i y (by simpa using hy)
theorem loLe_spec {ρ : List Nat} {Hs H : List ABlk} : ∀ lo, loLe ρ Hs H lo → ∀ n, n < lo → nget ρ n = n ∧ ((hget Hs n).used = true → (hget H n).used = true) := by
  intro lo
  induction lo with
  | zero => intro _ n h; omega
  | succ lo ih =>
    intro h n hn
    rcases Nat.lt_or_ge n lo with h1 | h1
    · exact ih h.2 n h1
    · obtain rfl : n = lo := by omega
      exact h.1
theorem allP_iff {p : AV → Prop} {l : List AV} : allP p l ↔ ∀ a ∈ l, p a := by
  induction l with
  | nil => simp [allP]
  | cons a l ih => simp [allP, ih]

theorem le_sound {ρ : List Nat} {st inv : St} {φ0 φ : Env} {H0 : List ABlk} {w0 : World} {a : Act} {w : World} (h : St.le lo ρ st inv) (hlo : ∀ id, lo.n ≤ id → hget H0 id = .fresh) (hs : Sat φ st a w) (e0 : Evo φ0 H0 w0 φ st.heap w) :
    ∃ φ', Sat φ' inv a w ∧ Evo φ0 H0 w0 φ' inv.heap w := by
  obtain ⟨h1, h2, h3, h4⟩ := h
  let φ' : Env := ⟨fun k => φ (nget ρ k), φ.ext, fun k b => φ.more (nget ρ k) b, φ.base⟩
  have hb : ∀ i, blkLe ρ inv.heap (hget st.heap (nget ρ i)) (hget inv.heap i) := fun i => by have := heapLe_spec _ 0 h2 i; rwa [Nat.zero_add] at this
  have hsig : ∀ i s, sig inv.heap i = some s → sig st.heap (nget ρ i) = some s := by
    intro i s hsi
    have := hb i
    unfold sig at hsi ⊢
    generalize hget inv.heap i = bi at *
    generalize hget st.heap (nget ρ i) = bs at *
    cases bi <;> simp [ABlk.sig] at hsi
    · rename_i cs
      cases bs <;> simp only [blkLe] at this
      rename_i cs'
      simp [ABlk.sig, slotsLe_len _ _ this, hsi]
    · rename_i sz n f
      cases bs <;> simp only [blkLe] at this
      obtain ⟨rfl, rfl, _⟩ := this
      simp [ABlk.sig, hsi]
    · rename_i n g
      cases bs <;> simp only [blkLe] at this
      obtain ⟨rfl, _⟩ := this
      simp [ABlk.sig, hsi]
    · cases bs <;> simp only [blkLe] at this
      simp [ABlk.sig, hsi]
    · cases bs <;> simp only [blkLe] at this
      simp [ABlk.sig, hsi]
  have hownB : ∀ i b, OwnB φ' inv.heap i b → OwnB φ st.heap (nget ρ i) b := by
    intro i b ⟨⟨h5, h6⟩, h7⟩
    obtain ⟨s, hs'⟩ := Option.isSome_iff_exists.1 h5
    exact ⟨⟨by rw [hsig i s hs']; rfl, h6⟩, h7⟩
  have hmb : ∀ b, MB φ' inv.heap b → MB φ st.heap b := fun b hb => hb.imp (fun ⟨k, hk⟩ => ⟨nget ρ k, hownB k b hk⟩) (fun h => h)
  have hrep : ∀ (n : Nat) (av : AV) (v : Value), okA inv.heap n av → Rep φ st.heap w (ren ρ n av) v → Rep φ' inv.heap w av v := by
    intro n
    induction n with
    | zero => intro av v h _; exact h.elim
    | succ n ih =>
      intro av v hok h
      have list : ∀ (cs : List AV) (vs : Array Value), allP (okA inv.heap n) cs → (mapA (ren ρ n) cs).length = vs.size → (∀ (i : Nat) c u, (mapA (ren ρ n) cs)[i]? = some c → vs[i]? = some u → Rep φ st.heap w c u) →
          cs.length = vs.size ∧ ∀ (i : Nat) c u, cs[i]? = some c → vs[i]? = some u → Rep φ' inv.heap w c u := by
        intro cs vs hp hl hc
        rw [mapA_eq] at hl hc
        refine ⟨by simpa using hl, fun i c u h5 h6 => ih c u (allP_iff.1 hp c (List.mem_of_getElem? h5)) (hc i _ u (by simp [h5]) h6)⟩
      cases av <;> simp only [ren, okA] at h hok
      case undef => exact .undef v
      case int => rw [h.inv_int]; exact .int _ _
      case bool => rw [h.inv_bool]; exact .bool _
      case str => rw [h.inv_str]; exact .str _
      case raw => rw [h.inv_raw]; exact .raw _
      case agg cs =>
        obtain ⟨vs, rfl, hl, hc⟩ := h.inv_agg
        obtain ⟨k1, k2⟩ := list cs vs hok hl hc
        exact .agg k1 k2
      case tup cs =>
        obtain ⟨vs, rfl, hl, hc⟩ := h.inv_tup
        obtain ⟨k1, k2⟩ := list cs vs hok hl hc
        exact .tup k1 k2
      case fn f cs =>
        obtain ⟨vs, rfl, hl, hc⟩ := h.inv_fn
        obtain ⟨k1, k2⟩ := list cs vs hok hl hc
        exact .fn k1 k2
      case ro => exact .g (h.inv_ro.weaken hmb)
      case rop => exact .g (h.inv_rop.weaken hmb)
      case sl id off len =>
        obtain ⟨base, cap', rfl, _, k1, k2, k3, k4⟩ := h.inv_sl
        exact .sl base cap' hok k1 k2 k3 fun sz m hs' => k4 sz m (hsig id _ hs')
      case ptr id i j =>
        obtain ⟨ad, rfl, _, k4⟩ := h.inv_ptr
        exact .ptr ad hok fun sz m hs' => k4 sz m (hsig id _ hs')
      case yld id =>
        obtain ⟨l, rfl, _, k4⟩ := h.inv_yld
        exact .yld l hok fun s hs' => k4 s (hsig id _ hs')
      case mp id =>
        obtain ⟨l, rfl, _, k4⟩ := h.inv_mp
        exact .mp l hok fun s hs' => k4 s (hsig id _ hs')
  have hcells : ∀ (cs' cs : List AV), slotsLe ρ inv.heap cs' cs → ∀ (i : Nat) y v, cs[i]? = some y → (∀ x, cs'[i]? = some x → Rep φ st.heap w x v) → Rep φ' inv.heap w y v := by
    intro cs' cs hle i y v hy hx
    rcases slotsLe_get _ _ hle i y hy with rfl | ⟨h5, h6⟩
    · exact .undef v
    · exact hrep 4 y v h6 (hx _ h5)
  have hslots : ∀ (cs' cs : List AV) (vs : Array Value), slotsLe ρ inv.heap cs' cs → (∀ i, Rep φ st.heap w (sget cs' i) (vs.getD i undef)) → ∀ i, Rep φ' inv.heap w (sget cs i) (vs.getD i undef) := by
    intro cs' cs vs hle hsl i
    by_cases hi : i < cs.length
    · have h5 := List.getElem?_eq_getElem hi
      have e : sget cs i = cs[i] := by rw [sget_getElem?, h5]; rfl
      rw [e]
      refine hcells _ _ hle i _ _ h5 fun x hx => ?_
      have e2 : sget cs' i = x := by rw [sget_getElem?, hx]; rfl
      rw [← e2]; exact hsl i
    · have e : sget cs i = .undef := by rw [sget_getElem?, List.getElem?_eq_none (by omega)]; rfl
      rw [e]; exact .undef _
  have hlt : ∀ id, (hget H0 id).used = true → id < lo.n := fun id hu => by
    rcases Nat.lt_or_ge id lo.n with h | h
    · exact h
    · rw [hlo id h] at hu; cases hu
  have evo : Evo φ0 H0 w0 φ' inv.heap w := by
    refine ⟨e0.os, e0.tape, e0.output, e0.size, e0.ext, e0.base, e0.frame, fun b ⟨k, hk⟩ => e0.blk b ⟨nget ρ k, hownB k b hk⟩, fun id hu => (loLe_spec lo.n h4 id (hlt id hu)).2 (e0.used id hu), fun id s hu hsi => ?_⟩
    have h5 := hsig id s hsi
    have h6 := (loLe_spec lo.n h4 id (hlt id hu)).1
    have h7 : φ' id = φ id := by show φ (nget ρ id) = φ id; rw [h6]
    rw [h6] at h5
    rw [h7]
    exact e0.ids id s hu h5
  refine ⟨φ', ⟨⟨fun i => ?_, fun i j b hi hj => ?_, fun i b hi => hs.heap.ext _ b (hownB i b hi), hs.heap.extlt⟩, ?_, ?_, ?_⟩, evo⟩
  · have h5 := hb i
    have h6 := hs.heap.blk (nget ρ i)
    generalize hget inv.heap i = bi at *
    generalize hget st.heap (nget ρ i) = bs at *
    cases bi with
    | fresh => trivial
    | dead => trivial
    | box cs =>
      cases bs <;> simp only [blkLe] at h5
      rename_i cs'
      obtain ⟨k1, k0, c, T, k2, k3⟩ := h6
      refine ⟨k1, k0, c, T, k2, fun j av hav => ?_⟩
      have hl := slotsLe_len _ _ h5
      have hj : j < cs'.length := by rw [hl]; exact (List.getElem?_eq_some_iff.1 hav).1
      obtain ⟨v, k4, k5⟩ := k3 j _ (List.getElem?_eq_getElem hj)
      exact ⟨v, k4, hcells cs' cs h5 j av v hav (fun x hx => by rw [List.getElem?_eq_getElem hj] at hx; cases hx; exact k5)⟩
    | vec sz n f =>
      cases bs <;> simp only [blkLe] at h5
      obtain ⟨rfl, rfl, hf⟩ := h5
      obtain ⟨k0, k1, k2, k3, k4, k5⟩ := h6
      refine ⟨k0, k1, k2, k3, fun q hq => by rw [← hf q hq]; exact k4 q hq, fun hc => ?_⟩
      obtain ⟨c, T, k6, k7, k8⟩ := k5 hc
      refine ⟨c, T, k6, k7, fun p q av hp hav => ?_⟩
      obtain ⟨v, k9, k10, k11⟩ := k8 p q av hp (by rw [hf p hp]; exact hav)
      exact ⟨v, k9, k10, k11.weaken hmb⟩
    | mat n g =>
      cases bs <;> simp only [blkLe] at h5
      rename_i n0 g0
      obtain ⟨rfl, hg⟩ := h5
      obtain ⟨k1, k2, Ls, k3, k4, k5, k6⟩ := h6
      have hown : ∀ q, q < n0 → (g q).own = (g0 q).own := by
        intro q hq
        have := hg q hq
        cases h7 : g0 q <;> cases h8 : g q <;> rw [h7, h8] at this <;> simp only [rowLe] at this <;> rfl
      have hmo : ∀ b, MatOwn Ls n0 g b ↔ MatOwn Ls n0 g0 b := fun b => exists_congr fun q => by
        constructor
        · rintro ⟨q1, q2, q3⟩; exact ⟨q1, by rw [← hown q q1]; exact q2, q3⟩
        · rintro ⟨q1, q2, q3⟩; exact ⟨q1, by rw [hown q q1]; exact q2, q3⟩
      refine ⟨k1, k2, Ls, fun b => (k3 b).trans (hmo b).symm, fun h => k4 ((hmo _).1 h), fun p q hp hq h7 h8 => k5 p q hp hq (by rw [← hown p hp]; exact h7) (by rw [← hown q hq]; exact h8), fun hc => ?_⟩
      obtain ⟨c, T, k7, k8, k9⟩ := k6 hc
      refine ⟨c, T, k7, k8, fun q hq => ?_⟩
      obtain ⟨v, k10, k11⟩ := k9 q hq
      refine ⟨v, k10, ?_⟩
      have := hg q hq
      cases h7 : g0 q <;> cases h8 : g q <;> rw [h7, h8] at this <;> simp only [rowLe] at this <;> rw [h7] at k11
      · obtain ⟨rfl, rfl, hf⟩ := this
        obtain ⟨j1, j2, j3, j4, j5, j6⟩ := k11
        refine ⟨j1, j2, j3, j4, fun q hq => by rw [← hf q hq]; exact j5 q hq, fun hc => ?_⟩
        obtain ⟨c, T, k6, k7, k8⟩ := j6 hc
        refine ⟨c, T, k6, k7, fun p q av hp hav => ?_⟩
        obtain ⟨v, k9, k10, k11⟩ := k8 p q av hp (by rw [hf p hp]; exact hav)
        exact ⟨v, k9, k10, k11.weaken hmb⟩
      · obtain ⟨rfl, hu⟩ := this
        obtain ⟨m, j1, j2⟩ := k11
        exact ⟨m, fun sz n hs' => j1 sz n (hsig _ _ hs'), hrep 4 _ _ hu j2⟩
      · obtain ⟨m, _, j2⟩ := k11
        obtain ⟨base, cap', rfl, _⟩ := j2.inv_sl
        rfl
      · exact k11
    | loop ps asg body s slots =>
      cases bs <;> simp only [blkLe] at h5
      obtain ⟨rfl, rfl, rfl, rfl, hsl⟩ := h5
      obtain ⟨k1, k0, r, k2, k3, k4, k5, k6, k7, k8, k9⟩ := h6
      exact ⟨k1, k0, r, k2, k3, k4, k5, k6, k7, by rw [← slotsLe_len _ _ hsl]; exact k8, hslots _ _ _ hsl k9⟩
    | map es =>
      cases bs <;> simp only [blkLe] at h5
      subst h5
      obtain ⟨k1, k0, arr, clk, k2, k3, k4⟩ := h6
      refine ⟨k1, k0, arr, clk, k2, k3, fun i k v hi => ?_⟩
      obtain ⟨e, k5, k6, k7⟩ := k4 i k v hi
      exact ⟨e, k5, k6, k7.weaken hmb⟩
  · have e := hs.heap.inj _ _ b (hownB i b hi) (hownB j b hj)
    exact injOn_spec h3 i (by have := live_spec inv.heap 0 i hi.1.1; rwa [Nat.zero_add] at this) j (by have := live_spec inv.heap 0 j hj.1.1; rwa [Nat.zero_add] at this) e
  · rw [← slotsLe_len _ _ h1]; exact hs.len
  · exact hslots _ _ _ h1 hs.slots
  · obtain ⟨g0, Ds, g1, g2, g3⟩ := hs.marks
    exact ⟨g0, Ds, g1, g2, fun D hD => ⟨(g3 D hD).1, (g3 D hD).2.1, fun ⟨k, hk⟩ => (g3 D hD).2.2 ⟨nget ρ k, hownB k D hk⟩⟩⟩

/-- A loop, by what holds at each round's head. -/
def loopK {T : Type} (lo : Cx) (I : T → St) (p : T → Prop) (μ : T → Nat) (t : T) (Q : Exit → St → Prop) : Exit → St → Prop
  | .normal, s => ∃ (t' : T) (ρ : List Nat), p t' ∧ μ t' < μ t ∧ St.le lo ρ s (I t')
  | e, s => Q e s
theorem Sem.loop (hm : P.follows .mixedOrders = true) {b : Code} {Q : Exit → St → Prop} {st : St} {T : Type} (I : T → St) (p : T → Prop) (μ : T → Nat) (ρ : List Nat) (t0 : T) (hp : p t0) (h0 : St.le lo ρ st (I t0))
    (body : ∀ t, p t → wpA P lo b (loopK lo I p μ t Q) (I t)) : Sem P lo (.loop b) Q st := by
  intro φ0 H0 w0 φ a w hlo hs e0
  obtain ⟨φ', hs', e0'⟩ := le_sound h0 hlo hs e0
  refine loop_core (R := postS Q φ0 H0 w0) (fun n a w => ∃ t φ, p t ∧ μ t = n ∧ Sat φ (I t) a w ∧ Evo φ0 H0 w0 φ (I t).heap w) ?_ (μ t0) a w ⟨t0, φ', hp, rfl, hs', e0'⟩
  rintro n a w ⟨t, φ, hp, rfl, hs, e0⟩
  refine wpIn_mono (wpA_sound hm b _ (I t) (body t hp) φ0 H0 w0 φ a w hlo hs e0) fun e a' w' he => ?_
  obtain ⟨φ', st', h1, h2, h3⟩ := he
  cases e with
  | normal =>
    obtain ⟨t', ρ', hp', hlt, hle⟩ := h1
    obtain ⟨φ'', hs'', e''⟩ := le_sound hle hlo h2 h3
    exact ⟨μ t', hlt, t', φ'', hp', rfl, hs'', e''⟩
  | _ => exact ⟨φ', st', h1, h2, h3⟩
end
end Go.SH
