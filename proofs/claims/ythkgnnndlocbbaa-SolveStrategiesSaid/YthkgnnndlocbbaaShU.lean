/-
  THE SYMBOLIC HEAP, PART U: steps of a proof that no code takes; calls up to likeness; rows of typed lists. No condition.
-/
import Derived.Test.YthkgnnndlocbbaaShS
namespace Go.SH
set_option linter.unusedVariables false
set_option linter.unusedSimpArgs false
open Go Go.RowKit

section
variable {P : Program} {lo : Cx} {φ φ' : Env} {H H' : List ABlk} {w w' : World}

theorem Sem.ghost {c : Code} {Q : Exit → St → Prop} {st st' : St} (h : ∀ φ a w, Sat φ st a w → ∃ φ', Sat φ' st' a w ∧ Evo φ st.heap w φ' st'.heap w) (k : Sem P lo c Q st') : Sem P lo c Q st := by
  intro φ0 H0 w0 φ a w hlo hs e0
  obtain ⟨φ', h1, h2⟩ := h φ a w hs
  exact k φ0 H0 w0 φ' a w hlo h1 (e0.trans h2)
/-- A state that says less. -/
theorem Sem.less {c : Code} {Q : Exit → St → Prop} {st : St} (ρ : List Nat) (inv : St) (h : St.le lo ρ st inv) (k : Sem P lo c Q inv) : Sem P lo c Q st := by
  intro φ0 H0 w0 φ a w hlo hs e0
  obtain ⟨φ', h1, h2⟩ := le_sound h hlo hs e0
  exact k φ0 H0 w0 φ' a w hlo h1 h2
theorem Sem.of_wpA (hm : P.follows .mixedOrders = true) {c : Code} {Q : Exit → St → Prop} {st : St} (h : wpA P lo c Q st) : Sem P lo c Q st := wpA_sound hm c Q st h
/-- The first piece alone. -/
theorem Sem.step (hm : P.follows .mixedOrders = true) {a b : Code} {Q : Exit → St → Prop} {st : St} (h : wpA P lo a (seqK (fun s => Sem P lo b Q s) Q) st) : Sem P lo (.seq a b) Q st := by
  intro φ0 H0 w0 φ ac w hlo hs e0
  refine wpIn_seq (wpIn_mono (wpA_sound hm a _ st h φ0 H0 w0 φ ac w hlo hs e0) fun e a' w' he => ?_)
  obtain ⟨φ', st', h1, h2, h3⟩ := he
  cases e with
  | normal => exact h1 φ0 H0 w0 φ' a' w' hlo h2 h3
  | _ => exact ⟨φ', st', h1, h2, h3⟩
theorem Sem.block {i : Nat} {b : Code} {Q : Exit → St → Prop} {st : St} (h : Sem P lo b (blockK i Q) st) : Sem P lo (.block i b) Q st := by
  intro φ0 H0 w0 φ a w hlo hs e0
  refine wpIn_block (wpIn_mono (h φ0 H0 w0 φ a w hlo hs e0) fun e a' w' he => ?_)
  obtain ⟨φ', st', h1, h2, h3⟩ := he
  cases e with
  | exit j =>
    simp only [blockK] at h1
    simp only [Exit.inBlock]
    split
    · rename_i hj; rw [if_pos hj] at h1; exact ⟨φ', st', h1, h2, h3⟩
    · rename_i hj; rw [if_neg hj] at h1; exact ⟨φ', st', h1, h2, h3⟩
  | _ => exact ⟨φ', st', h1, h2, h3⟩

/-! a row of nothing becomes one's own -/
theorem Sem.adopt {c : Code} {Q : Exit → St → Prop} {s : List AV} (t sz : Nat) (f : Nat → List AV) (h0 : 0 < sz) (ht : sget s t = .raw (.slice none 0 0)) (k : Sem P lo c Q ⟨sput s t (.sl (hlen H) 0 0), hset H (hlen H) (.vec sz 0 f)⟩) : Sem P lo c Q ⟨s, H⟩ := by
  refine Sem.ghost (st' := ⟨sput s t (.sl (hlen H) 0 0), hset H (hlen H) (.vec sz 0 f)⟩) (fun φ a w hs => ?_) k
  have hr : R1 0 w (MB φ H) ⟨0, 0, 0⟩ (.vec sz 0 f) (.slice none 0 0) := ⟨none, rfl, h0, Nat.le_refl _, by simp, fun i hi => by omega, fun h => by simp at h⟩
  obtain ⟨t1, t2, t3, t4⟩ := take_ext rfl hs.heap (hget_hlen H) (L := ⟨0, 0, 0⟩) (fun h => by simp at h) hr
  have hext : (takeφ φ (hlen H) ⟨0, 0, 0⟩).ext = φ.ext := by funext b; simp [takeφ]
  have e : Evo φ H w (takeφ φ (hlen H) ⟨0, 0, 0⟩) (hset H (hlen H) (.vec sz 0 f)) w := by
    refine ⟨rfl, rfl, rfl, Nat.le_refl _, hext, rfl, fun _ _ _ => rfl, fun b hb => ?_, t2.used, t2.ids⟩
    rcases (t3 b).1 (.inl hb) with h | h
    · exact .inr h
    · obtain ⟨i, hi⟩ := hb
      exact absurd (by rw [hext]; exact h) (t1.ext i b hi)
  refine ⟨_, ⟨t1, by simp [sput_length, hs.len], fun i => ?_, hs.marks.evo e rfl⟩, e⟩
  by_cases hi : i = t
  · subst hi
    by_cases hl : i < s.length
    · simp only; rw [sget_put_same _ _ _ hl]
      have := hs.slots i
      rw [ht] at this
      rw [this.inv_raw]; exact t4
    · have e1 : sget (sput s i (.sl (hlen H) 0 0)) i = .undef := by
        rw [sget_getElem?, List.getElem?_eq_none (by rw [sput_length]; omega)]; rfl
      simp only; rw [e1]; exact .undef _
  · simp only; rw [sget_put_ne _ _ _ _ hi]; exact (hs.slots i).evo e

/-- A row of nothing, as one that nobody changes. -/
theorem Sem.nilro {c : Code} {Q : Exit → St → Prop} {s : List AV} (t : Nat) (f : Nat → List AV) (ht : sget s t = .raw (.slice none 0 0)) (k : Sem P lo c Q ⟨sput s t (.ro 0 f), H⟩) : Sem P lo c Q ⟨s, H⟩ := by
  refine Sem.ghost (st' := ⟨sput s t (.ro 0 f), H⟩) (fun φ a w hs => ⟨φ, ⟨hs.heap, by simp [sput_length, hs.len], fun i => ?_, hs.marks⟩, Evo.refl φ H w⟩) k
  by_cases hi : i = t
  · subst hi
    by_cases hl : i < s.length
    · simp only; rw [sget_put_same _ _ _ hl]
      have := hs.slots i
      rw [ht] at this
      rw [this.inv_raw]
      exact .g (.ro none 0 0 0 1 (fun _ => Go.undef) (Nat.le_refl _) (by simp) (by simp) (fun h => by simp at h) (fun h => by simp at h) (fun k h => by simp at h) (fun k h => by simp at h) (fun i h => by omega) (fun i j c h => by omega))
    · have e1 : sget (sput s i (.ro 0 f)) i = .undef := by
        rw [sget_getElem?, List.getElem?_eq_none (by rw [sput_length]; omega)]; rfl
      simp only; rw [e1]; exact .undef _
  · simp only; rw [sget_put_ne _ _ _ _ hi]; exact hs.slots i

/-! a row is given up: it changes no more -/
def frz (id n : Nat) (f : Nat → List AV) : Nat → AV → AV
  | 0, av => av
  | k + 1, av =>
    match av with
    | .sl i off len => match i == id with
      | true => .ro len (cutF n off len f)
      | false => .sl i off len
    | .agg cs => .agg (mapA (frz id n f k) cs)
    | .tup cs => .tup (mapA (frz id n f k) cs)
    | av => av
theorem frz_rep {id sz n : Nat} {f : Nat → List AV} (hs : HSat φ H w) (hb : hget H id = .vec sz n f) : ∀ (k : Nat) (av : AV) (v : Value), Rep φ H w av v → Rep φ (hset H id .dead) w (frz id n f k av) v := by
  have hu : (hget H id).used = true := by rw [hb]; rfl
  have e := evo_kill (φ := φ) (w := w) hu
  have sub : ∀ b, MB φ (hset H id .dead) b → MB φ H b := fun b hb => hb.imp (fun ⟨k, hk⟩ => ⟨k, (ownB_kill hk).2⟩) (fun h => h)
  intro k
  induction k with
  | zero => intro av v h; exact h.evo e
  | succ k ih =>
    intro av v h
    have list : ∀ (cs : List AV) (vs : Array Value), cs.length = vs.size → (∀ (i : Nat) c u, cs[i]? = some c → vs[i]? = some u → Rep φ H w c u) →
        (mapA (frz id n f k) cs).length = vs.size ∧ ∀ (i : Nat) c u, (mapA (frz id n f k) cs)[i]? = some c → vs[i]? = some u → Rep φ (hset H id .dead) w c u := by
      intro cs vs hl hc
      rw [mapA_eq]
      refine ⟨by simpa using hl, fun i c u h1 h2 => ?_⟩
      simp only [List.getElem?_map] at h1
      cases hci : cs[i]? with
      | none => simp [hci] at h1
      | some c' => simp [hci] at h1; subst h1; exact ih c' u (hc i c' u hci h2)
    cases av <;> simp only [frz] <;> try exact h.evo e
    case agg cs =>
      obtain ⟨vs, rfl, hl, hc⟩ := h.inv_agg
      obtain ⟨g1, g2⟩ := list cs vs hl hc
      exact .agg g1 g2
    case tup cs =>
      obtain ⟨vs, rfl, hl, hc⟩ := h.inv_tup
      obtain ⟨g1, g2⟩ := list cs vs hl hc
      exact .tup g1 g2
    case sl i off len =>
      by_cases hi : i = id
      · subst hi
        simp only [beq_self_eq_true]
        refine .g (sl_ro hs hb h sub fun hlen hmb => ?_)
        obtain ⟨base, cap', hv, hus, hbs, hl, hcm, hat⟩ := h.inv_sl
        obtain ⟨hoff, hcap, hbase⟩ := hat sz n (by simp [sig, hb, ABlk.sig])
        have own : Own φ H i := ⟨by simp [sig, hb, ABlk.sig], by omega⟩
        rcases hmb with ⟨j, hj⟩ | hext
        · obtain ⟨g1, g2⟩ := ownB_kill hj
          exact g1 (hs.inj j i _ g2 ⟨own, .inl rfl⟩)
        · exact hs.ext' i own hext
      · rw [beq_false_of_ne hi]; exact h.evo e
theorem Sem.freeze {c : Code} {Q : Exit → St → Prop} {s : List AV} (id : Nat) {sz n : Nat} {f : Nat → List AV} (hb : hget H id = .vec sz n f) (k : Sem P lo c Q ⟨mapA (frz id n f 2) s, hset H id .dead⟩) : Sem P lo c Q ⟨s, H⟩ := by
  refine Sem.ghost (st' := ⟨mapA (frz id n f 2) s, hset H id .dead⟩) (fun φ a w hs => ?_) k
  have hu : (hget H id).used = true := by rw [hb]; rfl
  have e := evo_kill (φ := φ) (w := w) hu
  have hs' := hsat_kill hs.heap hu
  refine ⟨φ, ⟨hs', by rw [mapA_eq]; simpa using hs.len, fun i => ?_, hs.marks.evo e rfl⟩, e⟩
  simp only
  rw [mapA_eq, sget_getElem?, List.getElem?_map]
  have := hs.slots i
  rw [sget_getElem?] at this
  cases hi : s[i]? with
  | none => exact .undef _
  | some av => rw [hi] at this; exact frz_rep hs.heap hb 2 av _ this
/-- A row is given up for a call. -/
theorem EffC.freeze {g : FuncId} {args : List AV} {R : AV → List ABlk → Prop} (id : Nat) {sz n : Nat} {f : Nat → List AV} (hb : hget H id = .vec sz n f) (k : EffC P g (mapA (frz id n f 2) args) (hset H id .dead) R) : EffC P g args H R := by
  refine ⟨k.1, fun φ w vs hs hrep => ?_⟩
  have hu : (hget H id).used = true := by rw [hb]; rfl
  refine (k.2 φ w vs (hsat_kill hs hu) ⟨by rw [mapA_eq]; simpa using hrep.1, fun i c u h1 h2 => ?_⟩).mono fun e w' he => ?_
  · rw [mapA_eq] at h1
    simp only [List.getElem?_map] at h1
    cases hi : args[i]? with
    | none => simp [hi] at h1
    | some av => simp [hi] at h1; subst h1; exact frz_rep hs hb 2 av u (hrep.2 i av u hi h2)
  · obtain ⟨res, H', φ', v, h1, h2, h3, h4, h5⟩ := he
    exact ⟨res, H', φ', v, h1, h2, h3, h4, (evo_kill hu).trans h5⟩

/-! calls -/
def likeAll : List AV → List AV → Prop
  | [], [] => True
  | a :: l, b :: m => like a b ∧ likeAll l m
  | _, _ => False
theorem likeAll_get : ∀ (as bs : List AV), likeAll as bs → as.length = bs.length ∧ ∀ (i : Nat) b, bs[i]? = some b → ∃ a, as[i]? = some a ∧ like a b := by
  intro as
  induction as with
  | nil => intro bs h; cases bs with
    | nil => exact ⟨rfl, fun i b h => by simp at h⟩
    | cons b bs => exact h.elim
  | cons a as ih => intro bs h; cases bs with
    | nil => exact h.elim
    | cons b bs =>
      obtain ⟨h1, h2⟩ := ih bs h.2
      refine ⟨by simp [h1], fun i c hc => ?_⟩
      cases i with
      | zero => simp at hc; subst hc; exact ⟨a, rfl, h.1⟩
      | succ i => simpa using h2 i c (by simpa using hc)
theorem Contract.like {f : FuncId} {args args' : List AV} {r : AR} (hc : Contract P f args' r) (hl : likeAll args args') : Contract P f args r := by
  refine ⟨hc.1, fun w M vs hM hrep => hc.2 w M vs hM ?_⟩
  obtain ⟨h1, h2⟩ := likeAll_get _ _ hl
  refine ⟨h1 ▸ hrep.1, fun i c u h3 h4 => ?_⟩
  obtain ⟨a, h5, h6⟩ := h2 i c h3
  exact (hrep.2 i a u h5 h4).like h6
/-- A row of nothing: nil, or not. -/
theorem Contract.ro0 {f : FuncId} {r : AR} {g : Nat → List AV} (h1 : Contract P f [.raw (.slice none 0 0)] r) (h2 : ∀ c, Contract P f [.raw (.slice none 0 (c + 1))] r) (h3 : ∀ a c, c ≤ 9223372036854775807 → Contract P f [.raw (.slice (some a) 0 c)] r) : Contract P f [.ro 0 g] r := by
  refine ⟨h1.1, fun w M vs hM hrep => ?_⟩
  obtain ⟨hl, hr⟩ := hrep
  have hv := hr 0 _ (vs[0]'(by simp at hl; omega)) rfl (Array.getElem?_eq_getElem _)
  have all : ∀ v, vs[0]'(by simp at hl; omega) = v → RepGs w M [.raw v] vs := by
    intro v he
    refine ⟨hl, fun i c u hi hu => ?_⟩
    cases i with
    | zero =>
      simp at hi; subst hi
      rw [Array.getElem?_eq_getElem (by simp at hl; omega)] at hu
      cases hu; rw [he]; exact .raw _
    | succ i => simp at hi
  generalize hx : vs[0]'(by simp at hl; omega) = x at hv
  cases hv with
  | ro base cap b o sz vs' hn hc hsz hbase hM' hcell hone hlen hrep =>
    cases base with
    | none => cases cap with
      | zero => exact h1.2 w M vs hM (all _ hx)
      | succ c => exact (h2 c).2 w M vs hM (all _ hx)
    | some a => exact (h3 a cap hc).2 w M vs hM (all _ hx)
theorem PureCall.of {f : FuncId} {args args' : List AV} {r : AR} (hc : Contract P f args' r) (hl : likeAll (mapA (reify H 6) args) args') (hm : r.memless ∨ allA (AV.gb 6) args = true) : PureCall P f args H r := .inl ⟨hc.like hl, hm⟩
theorem EffC.use {f : FuncId} {args args' : List AV} {R : AV → List ABlk → Prop} {r : AR} (hc : Contract P f args' r) (hl : likeAll (mapA (reify H 6) args) args') (hm : r.memless ∨ allA (AV.gb 6) args = true)
    (h : R (r.v (hlen H)) (applyU H (r.u (hlen H)))) : EffC P f args H R := EffC.pure r (PureCall.of hc hl hm) h
theorem ExCall.use {f : FuncId} {args args' : List AV} {k : AR → Prop} {r : AR} (hc : Contract P f args' r) (hl : likeAll (mapA (reify H 6) args) args') (hm : r.memless ∨ allA (AV.gb 6) args = true) (hk : k r) (hn : Nat.ble r.nv 2 = true := by rfl) : ExCall P f args H k :=
  ExCall.mk r (PureCall.of hc hl hm) (Nat.le_of_ble_eq_true hn) hk

/-- A callee's body walked in its caller's heap. -/
def retR (P : Program) (R : AV → List ABlk → Prop) (st : St) : List RS → Prop
  | [t] => R (rsV P st t) st.heap
  | ts => R (.tup (mapT P st ts)) st.heap
def retI (P : Program) (ts : List RS) (R : AV → List ABlk → Prop) : Exit → St → Prop
  | .normal, st => allT P st ts ∧ retR P R st ts
  | .ret, st => allT P st ts ∧ retR P R st ts
  | _, _ => False
def Env.rebase (φ : Env) (b : Nat) : Env := ⟨φ.loc, φ.ext, φ.more, b⟩
theorem Rep.rebase {b : Nat} {av : AV} {v : Value} (h : Rep φ H w av v) : Rep (φ.rebase b) H w av v := by
  induction h with
  | g h => exact .g h
  | agg hl _ ih => exact .agg hl ih
  | tup hl _ ih => exact .tup hl ih
  | fn hl _ ih => exact .fn hl ih
  | sl base cap' hu hb hl hcm h => exact .sl base cap' hu hb hl hcm h
  | ptr a hu h => exact .ptr a hu h
  | yld l hu h => exact .yld l hu h
  | mp l hu h => exact .mp l hu h
theorem HSat.rebase {b : Nat} (h : HSat φ H w) : HSat (φ.rebase b) H w :=
  ⟨fun id => BRep.keepG (fun _ _ h => h.rebase) (fun _ _ _ h => h) (fun _ _ h => h) rfl (fun _ => Iff.rfl) (fun _ _ _ _ => rfl) (h.blk id), h.inj, h.ext, h.extlt⟩
theorem Evo.rebase {b : Nat} (h : Evo φ H w φ' H' w') : Evo (φ.rebase b) H w (φ'.rebase b) H' w' :=
  ⟨h.os, h.tape, h.output, h.size, h.ext, rfl, h.frame, h.blk, h.used, h.ids⟩
theorem EffC.inline {f : FuncId} {fn : Func} {body : Code} {args : List AV} {R : AV → List ABlk → Prop} (nt : Nat) (ts : List RS) (hc : CallOK P f) (hf : P.funcs[f]? = some fn) (hb : fn.body = some body) (hres : fn.results.toList = ts.map RS.rv)
    (hnt : fn.ntmps = nt) (h : Sem P ⟨hlen H, none⟩ body (retI P ts R) ⟨padA args nt, H⟩) : EffC P f args H R := by
  subst hnt
  refine ⟨hc, fun φ w vs hs hrep => ?_⟩
  have hsat := padA_sat (φ := φ.rebase w.heap.size) (n := fn.ntmps) hs.rebase (Nat.le_refl _) hrep.1 (fun i c u h1 h2 => (hrep.2 i c u h1 h2).rebase)
  refine (callsIn_wide (n := 0)).1 (callsIn_of_wp_marks hf hb trivial (wpIn_mono (h _ H w _ _ _ (fun id hid => hget_ge H id hid) hsat (Evo.refl _ _ _)) fun ex a w' he => ?_))
  obtain ⟨φ', st, h1, h2, h3⟩ := he
  have fin : allT P st ts ∧ retR P R st ts →
      LeavesInM Fence.wide 0 P fn a.tmps (fun e w' => ∃ res H' φ' v', e = .returned v' ∧ R res H' ∧ HSat φ' H' w' ∧ Rep φ' H' w' res v' ∧ Evo φ H w φ' H' w') a.defers .returning w' := by
    rintro ⟨h0, h1⟩
    refine ending_sound hres h2 h3 (by rw [h3.base]; exact Nat.le_refl _) h0 fun us w'' hs'' e'' r2 r3 => ?_
    have e3 : Evo φ H w (φ'.rebase φ.base) st.heap w'' := e''.rebase (b := φ.base)
    have hs3 : HSat (φ'.rebase φ.base) st.heap w'' := hs''.rebase
    have r3' : ∀ (i : Nat) av v, (mapT P st ts)[i]? = some av → us[i]? = some v → Rep (φ'.rebase φ.base) st.heap w'' av v := fun i av v g1 g2 => (r3 i av v g1 g2).rebase
    have tup : Rep (φ'.rebase φ.base) st.heap w'' (.tup (mapT P st ts)) (.tuple us.toArray) := .tup (by simp [mapT_eq, r2]) fun i c u g1 g2 => r3' i c u g1 (by simpa using g2)
    clear hres h h0 r3
    rcases ts with _ | ⟨t, _ | ⟨t', ts⟩⟩
    · match us, r2, tup with
      | [], _, tup => exact ⟨_, _, _, _, rfl, h1, hs3, tup, e3⟩
    · match us, r2, r3' with
      | [u], _, r3' => exact ⟨_, _, _, _, rfl, h1, hs3, r3' 0 _ _ rfl rfl, e3⟩
    · match us, r2, tup with
      | u :: u' :: us, _, tup => exact ⟨_, _, _, _, rfl, h1, hs3, tup, e3⟩
  cases ex with
  | normal => exact fin h1
  | ret => exact fin h1
  | _ => exact h1.elim
end

/-! rows of typed lists -/
section
variable {α : Type} {e : α → List AV} {d : α}
theorem encL_append (xs ys : List α) (i : Nat) : encL e d (xs ++ ys) i = if i < xs.length then encL e d xs i else encL e d ys (i - xs.length) := by
  simp only [encL, List.getD_eq_getElem?_getD, List.getElem?_append]
  split <;> rfl
theorem encL_drop (xs : List α) (k i : Nat) : encL e d (xs.drop k) i = encL e d xs (k + i) := by
  simp only [encL, List.getD_eq_getElem?_getD, List.getElem?_drop]
theorem encL_take (xs : List α) (k i : Nat) (h : i < k) : encL e d (xs.take k) i = encL e d xs i := by
  simp only [encL, List.getD_eq_getElem?_getD, List.getElem?_take, if_pos h]
theorem encL_zero (x : α) (xs : List α) : encL e d (x :: xs) 0 = e x := rfl
theorem encL_succ (x : α) (xs : List α) (i : Nat) : encL e d (x :: xs) (i + 1) = encL e d xs i := rfl
theorem encL_get (xs : List α) (i : Nat) (h : i < xs.length) : encL e d xs i = e xs[i] := by
  simp only [encL, List.getD_eq_getElem?_getD, List.getElem?_eq_getElem h, Option.getD_some]
theorem encL_set (xs : List α) (k : Nat) (x : α) (i : Nat) (h : i < xs.length) : encL e d (xs.set k x) i = if i = k then e x else encL e d xs i := by
  rw [encL_get _ _ (by simpa using h), encL_get _ _ h, List.getElem_set]
  by_cases hk : k = i
  · subst hk; simp
  · rw [if_neg hk, if_neg (by omega)]
theorem byteOf_cByte (b : UInt8) : byteOf (cByte b) = b := by simp [byteOf, cByte]
theorem strOf_eq (xs : List UInt8) {n : Nat} {f : Nat → List AV} (hn : n = xs.length) (h : ∀ i, i < n → f i = encL cByte 0 xs i) : strOf n f = xs := by
  subst hn
  apply List.ext_getElem
  · simp [strOf]
  · intro i h1 h2
    simp only [strOf, List.getElem_map, List.getElem_range]
    rw [h i h2, encL_get _ _ h2, byteOf_cByte]
theorem memless_vec {n : Nat} {f : Nat → List AV} {sz : Nat} (xs : List α) (hf : f = encL e d xs) (h : ∀ x, ∀ a ∈ e x, a.scalar = true) : AR1.memless (.vec sz n f) := by
  subst hf
  intro i _ a ha
  exact h _ a ha
theorem cByte_scalar (b : UInt8) : ∀ a ∈ cByte b, a.scalar = true := by simp [cByte, AV.scalar]
theorem cInt_scalar (k : IntKind) (b : Int) : ∀ a ∈ cInt k b, a.scalar = true := by simp [cInt, AV.scalar]
theorem byte_toNat (n : Nat) : (n.toUInt8).toNat = n % 256 := by simp
end
end Go.SH
