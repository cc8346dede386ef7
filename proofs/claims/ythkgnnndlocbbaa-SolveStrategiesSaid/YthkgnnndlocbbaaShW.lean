/-
  THE SYMBOLIC HEAP, PART W: loops over functions; rows within rows. No condition.
-/
import Derived.Test.YthkgnnndlocbbaaShU
namespace Go.SH
set_option linter.unusedVariables false
set_option linter.unusedSimpArgs false
open Go Go.RowKit

section
variable {P : Program} {lo : Cx} {φ φ' : Env} {H H' : List ABlk} {w w' : World}

/-- What is put into slots, one after another. -/
def putL : List AV → List Nat → List AV → List AV
  | s, [], _ => s
  | s, _ :: _, [] => s
  | s, p :: ps, a :: as => putL (sput s p a) ps as
theorem putL_length : ∀ (ps : List Nat) (as : List AV) (s : List AV), (putL s ps as).length = s.length := by
  intro ps
  induction ps with
  | nil => intro as s; simp [putL]
  | cons p ps ih => intro as s; cases as with
    | nil => rfl
    | cons a as => simp only [putL, ih, sput_length]
theorem putL_rep : ∀ (ps : List Nat) (as : List AV) (us : List Value) (s : List AV) (vs : Array Value), as.length = us.length → (∀ (i : Nat) c u, as[i]? = some c → us[i]? = some u → Rep φ H w c u) → s.length = vs.size → (∀ i, Rep φ H w (sget s i) (vs.getD i undef)) →
    ((ps.zip us).foldl (fun t (p : Nat × Value) => t.setIfInBounds p.1 p.2) vs).size = vs.size ∧ ∀ i, Rep φ H w (sget (putL s ps as) i) (((ps.zip us).foldl (fun t (p : Nat × Value) => t.setIfInBounds p.1 p.2) vs).getD i undef) := by
  intro ps
  induction ps with
  | nil => intro as us s vs _ _ _ h; simp only [putL]; exact ⟨rfl, h⟩
  | cons p ps ih =>
    intro as us s vs hl hr hs h
    cases as with
    | nil => cases us with
      | nil => exact ⟨rfl, h⟩
      | cons u us => simp at hl
    | cons a as => cases us with
      | nil => simp at hl
      | cons u us =>
        simp only [List.zip_cons_cons, List.foldl_cons, putL]
        obtain ⟨g1, g2⟩ := ih as us (sput s p a) (vs.setIfInBounds p u) (by simpa using hl) (fun i c x h1 h2 => hr (i + 1) c x (by simpa using h1) (by simpa using h2)) (by simp [sput_length, hs]) (fun i => by
          by_cases hi : i = p
          · subst hi
            by_cases hlt : i < s.length
            · rw [sget_put_same _ _ _ hlt]
              rw [hs] at hlt
              simp only [Array.getD_eq_getD_getElem?, Array.getElem?_setIfInBounds_self_of_lt hlt, Option.getD_some]
              exact hr 0 a u rfl rfl
            · have e1 : sget (sput s i a) i = .undef := by
                rw [sget_getElem?, List.getElem?_eq_none (by rw [sput_length]; omega)]; rfl
              rw [e1]; exact .undef _
          · rw [sget_put_ne _ _ _ _ hi]
            have : (vs.setIfInBounds p u).getD i undef = vs.getD i undef := by
              simp [Array.getD_eq_getD_getElem?, Array.getElem?_setIfInBounds_ne (Ne.symm hi)]
            rw [this]; exact h i)
        exact ⟨by rw [g1]; simp, g2⟩

/-- The record of a loop over a function goes on. -/
theorem loop_put {id : Nat} {ps : List Nat} {asg body : Code} {s s' : LoopSt} {slots : List AV} {r r' : Loop} (hs : HSat φ H w) (hb : hget H id = .loop ps asg body s slots) (hr : w.heap[(φ id).b]? = some (.loop r))
    (h1 : r'.params = r.params) (h2 : r'.assign = r.assign) (h3 : r'.body = r.body) (h4 : r'.tmps = r.tmps) (h5 : r'.state = s'.state) (h6 : r'.pending = s'.pending) :
    HSat φ (hset H id (.loop ps asg body s' slots)) (w.putObj (φ id).b (.loop r')) ∧ Evo φ H w φ (hset H id (.loop ps asg body s' slots)) (w.putObj (φ id).b (.loop r')) := by
  have hB := hs.blk id
  rw [hb] at hB
  obtain ⟨k1, k0, r0, k2, k3, k4, k5, k6, k7, k8, k9⟩ := hB
  rw [hr] at k2
  cases k2
  have hsig : (ABlk.loop ps asg body s' slots).sig = sig H id := by simp [sig, hb, ABlk.sig]
  have hown : Own φ H id := ⟨by simp [sig, hb, ABlk.sig], by omega⟩
  have hlt := (Array.getElem?_eq_some_iff.1 hr).1
  have e := evo_put (w' := w.putObj (φ id).b (.loop r')) hs hsig hown (fun _ => trivial) rfl rfl rfl World.putObj_size (fun b hb => World.putObj_heap_other hb)
  refine ⟨hsat_put hs hsig hown rfl rfl rfl World.putObj_size (fun b hb => World.putObj_heap_other hb) ?_, e⟩
  refine ⟨k1, k0, r', World.putObj_heap_same hlt, by rw [h1]; exact k3, by rw [h2]; exact k4, by rw [h3]; exact k5, h5, h6, by rw [h4]; exact k8, fun i => by rw [h4]; exact (k9 i).evo e⟩

/-- At a round's end. -/
def roundK (id : Nat) (R : Bool → List ABlk → Prop) : Exit → St → Prop
  | .normal, st => match hget st.heap id with
    | .loop ps asg body .busy sl => R true (hset st.heap id (.loop ps asg body .ready sl))
    | _ => False
  | .ret, st => match hget st.heap id with
    | .loop ps asg body .busy sl => R false (hset st.heap id (.loop ps asg body (.done .ret) sl))
    | _ => False
  | .exit i, st => match hget st.heap id with
    | .loop ps asg body .busy sl => R false (hset st.heap id (.loop ps asg body (.done (.exit i)) sl))
    | _ => False
  | _, _ => False
/-- Behind the assignment to a loop's variables. -/
def asgK (P : Program) (lo : Cx) (id : Nat) (bd : Code) (R : Bool → List ABlk → Prop) : Exit → St → Prop
  | .normal, st => match hget st.heap id with
    | .loop ps asg body .ready sl => Sem P lo bd (roundK id R) ⟨st.slots, hset st.heap id (.loop ps asg body .busy sl)⟩
    | _ => False
  | _, _ => False

theorem loop_at {id : Nat} {ps : List Nat} {asg body : Code} {s : LoopSt} {slots : List AV} (hs : HSat φ H w) (hb : hget H id = .loop ps asg body s slots) : ∃ r : Loop, w.heap[(φ id).b]? = some (.loop r) ∧ r.params.toList = ps ∧ r.assign = asg ∧ r.body = body ∧ r.state = s.state ∧ r.pending = s.pending ∧ slots.length = r.tmps.size ∧ ∀ i, Rep φ H w (sget slots i) (r.tmps.getD i undef) := by
  have hB := hs.blk id
  rw [hb] at hB
  exact hB.2.2

/-- WHAT A ROUND OF A LOOP OVER A FUNCTION DOES, by its body's walk. -/
theorem EffY.intro {id : Nat} {args : List AV} {R : Bool → List ABlk → Prop} {ps : List Nat} {asg body : Code} {slots : List AV} (hb : hget H id = .loop ps asg body .ready slots) (hl : args.length = ps.length)
    (h : ∀ l, Sem P ⟨hlen H, some l⟩ asg (asgK P ⟨hlen H, some l⟩ id body R) ⟨putL slots ps args, H⟩) : EffY P id args H R := by
  intro φ0 w vs l hs0 hrep0 hyld
  have hs : HSat (φ0.rebase 0) H w := hs0.rebase
  have hrep : RepAll (φ0.rebase 0) H w args vs := ⟨hrep0.1, fun i c u h1 h2 => (hrep0.2 i c u h1 h2).rebase⟩
  have back : ∀ {φ' : Env} {H' : List ABlk} {w' : World}, HSat φ' H' w' → Evo (φ0.rebase 0) H w φ' H' w' → HSat (φ'.rebase φ0.base) H' w' ∧ Evo φ0 H w (φ'.rebase φ0.base) H' w' := fun h1 h2 => ⟨h1.rebase, h2.rebase (b := φ0.base)⟩
  obtain ⟨l', hl', hu, hlb⟩ := hyld.inv_yld
  simp only [Value.func.injEq, Fn.yield.injEq] at hl'
  obtain ⟨rfl, _⟩ := hl'
  obtain rfl : l = (φ0 id).b := hlb (0, 0) (by simp [sig, hb, ABlk.sig])
  generalize hφ : φ0.rebase 0 = φ at *
  have hφb : (φ0 id).b = (φ id).b := by rw [← hφ]; rfl
  have hbase : φ.base = 0 := by rw [← hφ]; rfl
  rw [hφb]
  obtain ⟨r, k2, k3, k4, k5, k6, k7, k8, k9⟩ := loop_at hs hb
  have hy := run_yield (P := P) (args := vs) k2 (by have e := congrArg List.length k3; rw [Array.length_toList] at e; rw [e, ← hl]; exact hrep.1.symm)
  refine ⟨_, _, _, _, hy, ?_⟩
  have hx := putL_rep (φ := φ) (H := H) (w := w) ps args vs.toList slots r.tmps (by simpa using hrep.1) (fun i c u h1 h2 => hrep.2 i c u h1 (by simpa using h2)) k8 k9
  have hz : (r.params.zip vs).foldl (fun tmps (t, a) => tmps.setIfInBounds t a) r.tmps = (ps.zip vs.toList).foldl (fun t (p : Nat × Value) => t.setIfInBounds p.1 p.2) r.tmps := by
    rw [← k3, ← Array.foldl_toList]; simp
  rw [hz, k4, k5]
  refine roundIn_of_wpIn trivial ?_
  have hsat : Sat φ ⟨putL slots ps args, H⟩ { tmps := (ps.zip vs.toList).foldl (fun t (p : Nat × Value) => t.setIfInBounds p.1 p.2) r.tmps, defers := [] } w :=
    ⟨hs, by rw [putL_length, k8]; exact hx.1.symm, hx.2, ⟨by omega, [], rfl, List.nodup_nil, fun D hD => by simp at hD⟩⟩
  refine wpIn_mono (h (φ id).b φ H w φ _ w (fun i hi => hget_ge H i hi) hsat (Evo.refl _ _ _)) fun ex a1 w1 he => ?_
  obtain ⟨φ1, st1, h1, h2, h3⟩ := he
  cases ex with
  | normal =>
    simp only [asgK] at h1
    split at h1
    · rename_i ps1 asg1 body1 sl1 hb1
      have e1 : φ1 id = φ id := (h3.ids id (0, 0) hu (by simp [sig, hb1, ABlk.sig])).2
      obtain ⟨r1, j2, j3, j4, j5, j6, j7, j8, j9⟩ := loop_at h2.heap hb1
      rw [e1] at j2
      refine ⟨_, run_beginRound j2 (by rw [j6]; rfl), ?_⟩
      rw [← e1] at j2 ⊢
      obtain ⟨g1, g2⟩ := loop_put (s' := .busy) (r' := { r1 with state := .busy }) h2.heap hb1 j2 rfl rfl rfl rfl rfl (by simp [j7, LoopSt.pending])
      rw [e1] at g1 g2 ⊢
      have hsat2 : Sat φ1 ⟨st1.slots, hset st1.heap id (.loop ps1 asg1 body1 .busy sl1)⟩ a1 (w1.putObj (φ id).b (.loop { r1 with state := .busy })) := ⟨g1, h2.len, fun i => (h2.slots i).evo g2, h2.marks.evo g2 rfl⟩
      refine wpIn_mono (h1 φ H w φ1 a1 _ (fun i hi => hget_ge H i hi) hsat2 (h3.trans g2)) fun ex2 a2 w2 he2 => ?_
      obtain ⟨φ2, st2, m1, m2, m3⟩ := he2
      have fin : ∀ (jump : Option Code) (s' : LoopSt) (b : Bool), b = jump.isNone → s'.state = (if jump.isNone then .ready else .done) → s'.pending = jump →
          (match hget st2.heap id with
            | .loop ps asg body .busy sl => R b (hset st2.heap id (.loop ps asg body s' sl))
            | _ => False) → ∃ v w', (Instr.endRound (φ id).b jump).run P w2 = .ok v w' ∧ ∃ b H' φ', Ending.returned v = .returned (.bool b) ∧ R b H' ∧ HSat φ' H' w' ∧ Evo φ0 H w φ' H' w' := by
        intro jump s' b hb' hs1 hs2 hm
        split at hm
        · rename_i ps2 asg2 body2 sl2 hb2
          have e2 : φ2 id = φ id := (m3.ids id (0, 0) hu (by simp [sig, hb2, ABlk.sig])).2
          obtain ⟨r2, n2, n3, n4, n5, n6, n7, n8, n9⟩ := loop_at m2.heap hb2
          obtain ⟨q1, q2⟩ := loop_put (s' := s') (r' := { r2 with state := if jump.isNone then .ready else .done, pending := jump }) m2.heap hb2 n2 rfl rfl rfl rfl hs1.symm hs2.symm
          rw [e2] at n2 q1 q2
          obtain ⟨q3, q4⟩ := back q1 (m3.trans q2)
          exact ⟨_, _, run_endRound jump n2, b, _, _, by rw [hb'], hm, q3, q4⟩
        · exact hm.elim
      cases ex2 with
      | normal => exact fin none .ready true rfl rfl rfl m1
      | ret => exact fin (some .ret) (.done .ret) false rfl rfl rfl m1
      | exit i => exact fin (some (.exit i)) (.done (.exit i)) false rfl rfl rfl m1
      | goto t => exact m1.elim
      | panic ch => exact m1.elim
      | outgrown => exact m1.elim
    · exact h1.elim
  | ret => exact h1.elim
  | exit i => exact h1.elim
  | goto t => exact h1.elim
  | panic ch => exact h1.elim
  | outgrown => exact h1.elim

theorem EffY.introV {id : Nat} {args : List AV} {R : Bool → List ABlk → Prop} {ps : List Nat} {A B asg body : Code} {slots : List AV} (hA : A = asg) (hB : B = body) (hb : hget H id = .loop ps A B .ready slots) (hl : args.length = ps.length)
    (h : ∀ l, Sem P ⟨hlen H, some l⟩ asg (asgK P ⟨hlen H, some l⟩ id body R) ⟨putL slots ps args, H⟩) : EffY P id args H R := by
  subst hA hB; exact EffY.intro hb hl h

/-- Behind a function that was ranged over: whether a jump is pending. -/
def rangeK (id : Nat) (s : List AV) (Q : Exit → St → Prop) (H : List ABlk) : Prop :=
  match hget H id with
  | .loop _ _ _ .ready _ => Q .normal ⟨s, hset H id .dead⟩
  | .loop _ _ _ (.done .ret) _ => Q .ret ⟨s, hset H id .dead⟩
  | .loop _ _ _ (.done (.exit i)) _ => Q (.exit i) ⟨s, hset H id .dead⟩
  | _ => False

theorem sat_marks {st : St} {a a' : Act} (h : Sat φ st a w) (ha : a'.tmps = a.tmps) (hm : Marks φ st.heap a' w) : Sat φ st a' w := ⟨h.heap, by rw [ha]; exact h.len, fun i => by rw [ha]; exact h.slots i, hm⟩

/-- A LOOP OVER A FUNCTION: a call of the function, with the loop's record. -/
theorem Sem.rangeFunc {n : Nat} {g : Operand} {ps : Array Tmp} {asg body : Code} {Q : Exit → St → Prop} {s : List AV} {f : FuncId} {caps : List AV} (hg : evalA s g = .fn (.func f) caps)
    (h : EffC P f (.yld (hlen H) :: caps) (hset H (hlen H) (.loop ps.toList asg body .ready s)) fun _ H' => rangeK (hlen H) s Q H') : Sem P ⟨n, none⟩ (.rangeFunc g ps asg body) Q ⟨s, H⟩ := by
  intro φ0 H0 w0 φ a w hlo hs e0
  obtain ⟨hok, hcall⟩ := h
  refine wpIn_rangeFunc fun fn _ => ?_
  have hgv := hs.eval g
  rw [hg] at hgv
  obtain ⟨lb, hlb, hl1, hl2⟩ := hgv.inv_fn
  -- the block for deferred calls
  let w1 := w.alloc (.deferred (some []))
  have hb1 : Below w.heap.size w w1 := (Below.refl _ w).alloc (Nat.le_refl _) _
  have hs1 : HSat φ H w1 := hsat_below hs.heap hb1
  have e1 : Evo φ H w φ H w1 := evo_below hs.heap hb1
  let r : Loop := { state := .ready, pending := none, fn := fn, tmps := a.tmps, params := ps, assign := asg, body := body, defers := w.heap.size }
  have hf : hget H (hlen H) = .fresh := hget_hlen H
  have e2 := evo_new (w := w1) hs1 hf (SameHeap.refl w1) (.loop r) (.loop ps.toList asg body .ready s) 1
  have hsz1 : w1.heap.size = w.heap.size + 1 := by simp [w1]
  have hs2 : HSat (setφ φ (hlen H) ⟨w1.heap.size, 0, 1⟩) (hset H (hlen H) (.loop ps.toList asg body .ready s)) (w1.alloc (.loop r)) := by
    refine hsat_new hs1 hf (SameHeap.refl w1) _ _ 1 ⟨by rw [setφ_same], setφ_none _ _ _, r, by rw [setφ_same, heap_alloc, if_pos rfl], rfl, rfl, rfl, rfl, rfl, hs.len, fun i => ((hs.slots i).evo e1).evo e2⟩
  have hφl : setφ φ (hlen H) ⟨w1.heap.size, 0, 1⟩ (hlen H) = ⟨w1.heap.size, 0, 1⟩ := setφ_same _ _ _
  have hrep : RepAll (setφ φ (hlen H) ⟨w1.heap.size, 0, 1⟩) (hset H (hlen H) (.loop ps.toList asg body .ready s)) (w1.alloc (.loop r)) (.yld (hlen H) :: caps) (#[.func (.yield (w.heap.size + 1)) #[] #[]] ++ lb) := by
    refine ⟨by simp [hl1]; omega, fun i c u h1 h2 => ?_⟩
    cases i with
    | zero =>
      simp at h1; subst h1
      rw [Array.getElem?_append_left (by simp)] at h2
      simp at h2; subst h2
      refine .yld _ (by rw [hget_set_same]; rfl) fun s _ => by rw [hφl]; exact hsz1.symm
    | succ i =>
      simp only [List.getElem?_cons_succ] at h1
      rw [Array.getElem?_append_right (by simp)] at h2
      exact ((hl2 i c u h1 (by simpa using h2)).evo e1).evo e2
  have hc := hcall _ _ _ hs2 hrep
  refine ⟨w.heap.size + 1, [{ target := .collected w.heap.size, args := #[] }], w1.alloc (.loop r), { target := .fn (.func f) lb, args := #[.func (.yield (w.heap.size + 1)) #[] #[]] }, w1.alloc (.loop r), f,
    #[.func (.yield (w.heap.size + 1)) #[] #[]] ++ lb, w1.alloc (.loop r), run_enterLoop_outer _ _ _ _ _, ?_, fun _ _ => trivial, ?_, fun h => by simp [FR] at h, ?_⟩
  · simp only [resolve, hlb]
    simp [Deferred.ofValue, Act.eval]
  · exact hok _ _
  · refine (callsIn_wide (n := 0 - 1)).2 (hc.mono fun e w3 he => ?_)
    obtain ⟨res, H', φ', v, rfl, hR, g1, g2, g3⟩ := he
    have hmark : w3.heap[w.heap.size]? = some (.deferred (some [])) := by
      rw [g3.frame _ (by simp [w1]; omega) ?_]
      · rw [heap_alloc, if_neg (by omega)]; show (w.alloc (.deferred (some []))).heap[w.heap.size]? = _; rw [heap_alloc, if_pos rfl]
      · rintro ⟨k, hk⟩
        by_cases he : k = hlen H
        · subst he
          have := hk.2.resolve_right (setφ_none _ _ _ _)
          rw [hφl] at this
          simp only at this; omega
        · have := ownB_lt hs.heap ((ownB_set he).1 hk)
          omega
    have eall : Evo φ H w φ' H' w3 := e1.trans (e2.trans g3)
    -- what lies at the record
    have key : ∀ {ps' : List Nat} {asg' body' : Code} {s' : LoopSt} {sl' : List AV}, hget H' (hlen H) = .loop ps' asg' body' s' sl' → s'.state ≠ .busy → ∃ w4, (Instr.endLoop (w.heap.size + 1)).run P w3 = .ok s'.pending w4 ∧
        Sat φ' ⟨s, hset H' (hlen H) .dead⟩ { a with defers := [{ target := .collected w.heap.size, args := #[] }] ++ a.defers } w4 ∧ Evo φ H w φ' (hset H' (hlen H) .dead) w4 := by
      intro ps' asg' body' s' sl' hb' hst
      obtain ⟨r1, j2, j3, j4, j5, j6, j7, j8, j9⟩ := loop_at g1 hb'
      have e5 : φ' (hlen H) = ⟨w1.heap.size, 0, 1⟩ := by
        rw [(g3.ids (hlen H) (0, 0) (by rw [hget_set_same]; rfl) (by simp [sig, hb', ABlk.sig])).2, hφl]
      have hlocb : (φ' (hlen H)).b = w.heap.size + 1 := by rw [e5]; exact hsz1
      have hrun := run_endLoop (P := P) j2 (by rw [j6]; exact hst)
      obtain ⟨q1, q2⟩ := loop_put (s' := .over r1.pending) (r' := { r1 with state := .exhausted }) g1 hb' j2 rfl rfl rfl rfl rfl rfl
      have hu : (hget (hset H' (hlen H) (.loop ps' asg' body' (.over r1.pending) sl')) (hlen H)).used = true := by rw [hget_set_same]; rfl
      have q3 := hsat_kill q1 hu
      have q4 := q2.trans (evo_kill (φ := φ') (w := w3.putObj (φ' (hlen H)).b (.loop { r1 with state := .exhausted })) hu)
      have hss : ∀ k, hget (hset (hset H' (hlen H) (.loop ps' asg' body' (.over r1.pending) sl')) (hlen H) .dead) k = hget (hset H' (hlen H) .dead) k := by
        intro k
        by_cases hk : k = hlen H
        · subst hk; rw [hget_set_same, hget_set_same]
        · rw [hget_set_ne _ _ _ _ hk, hget_set_ne _ _ _ _ hk, hget_set_ne _ _ _ _ hk]
      have q5 : HSat φ' (hset H' (hlen H) .dead) _ := hsat_ext (fun k => (hss k).symm) q3
      have q6 : Evo φ' H' w3 φ' (hset H' (hlen H) .dead) _ := q4.trans (evo_ext fun k => (hss k).symm)
      rw [hlocb] at hrun q5 q6
      refine ⟨_, by rw [← j7]; exact hrun, ?_, eall.trans q6⟩
      have ew := eall.trans q6
      refine ⟨q5, hs.len, fun i => (hs.slots i).evo ew, ?_⟩
      obtain ⟨m0, Ds, m1, m2, m3⟩ := hs.marks
      obtain ⟨m0', Ds', m1', m2', m3'⟩ := hs.marks.evo ew rfl
      refine ⟨m0', w.heap.size :: Ds, by simp [m1], List.nodup_cons.2 ⟨fun hm => ?_, m2⟩, fun D hD => ?_⟩
      · have := (Array.getElem?_eq_some_iff.1 (m3 _ hm).1).1
        omega
      · rcases List.mem_cons.1 hD with rfl | hD
        · refine ⟨by rw [World.putObj_heap_other (by omega)]; exact hmark, by rw [ew.base]; exact m0, ?_⟩
          rintro ⟨k, hk⟩
          obtain ⟨k1, k2⟩ := ownB_kill hk
          rcases g3.blk _ ⟨k, k2⟩ with h | ⟨q, hq⟩
          · simp [w1] at h; omega
          · by_cases he : q = hlen H
            · subst he
              have := hq.2.resolve_right (setφ_none _ _ _ _)
              rw [hφl] at this
              simp only at this; omega
            · have := ownB_lt hs.heap ((ownB_set he).1 hq)
              omega
        · have : Ds' = Ds := by
            have h5 : Ds'.map (fun D => ({ target := .collected D, args := #[] } : Deferred)) = Ds.map (fun D => ({ target := .collected D, args := #[] } : Deferred)) := by rw [← m1, ← m1']
            have h6 := congrArg (List.map fun d : Deferred => match d.target with | .collected D => D | _ => 0) h5
            simpa [List.map_map, Function.comp_def] using h6
          subst this
          exact m3' D hD
    simp only [rangeK] at hR
    split at hR
    · rename_i hb'
      obtain ⟨w4, k1, k2, k3⟩ := key hb' (by simp [LoopSt.state])
      exact ⟨none, w4, k1, φ', _, hR, k2, e0.trans k3⟩
    · rename_i hb'
      obtain ⟨w4, k1, k2, k3⟩ := key hb' (by simp [LoopSt.state])
      exact ⟨some .ret, w4, k1, wpIn_ret ⟨φ', _, hR, k2, e0.trans k3⟩⟩
    · rename_i i hb'
      obtain ⟨w4, k1, k2, k3⟩ := key hb' (by simp [LoopSt.state])
      exact ⟨some (.exit _), w4, k1, wpIn_exit ⟨φ', _, hR, k2, e0.trans k3⟩⟩
    · exact hR.elim

/-- The same, the loop's code under names. -/
theorem Sem.rangeFuncV {n : Nat} {g : Operand} {ps : Array Tmp} {asg body : Code} {Q : Exit → St → Prop} {s : List AV} {f : FuncId} {caps : List AV} (hg : evalA s g = .fn (.func f) caps)
    (h : ∀ A B, A = asg → B = body → EffC P f (.yld (hlen H) :: caps) (hset H (hlen H) (.loop ps.toList A B .ready s)) fun _ H' => rangeK (hlen H) s Q H') : Sem P ⟨n, none⟩ (.rangeFunc g ps asg body) Q ⟨s, H⟩ :=
  Sem.rangeFunc hg (h _ _ rfl rfl)

/-! steps that no code takes: the heap is said in other words -/
theorem Sem.heap {c : Code} {Q : Exit → St → Prop} {s : List AV} (h : ∀ φ w, HSat φ H w → ∃ φ', HSat φ' H' w ∧ Evo φ H w φ' H' w) (k : Sem P lo c Q ⟨s, H'⟩) : Sem P lo c Q ⟨s, H⟩ :=
  Sem.ghost (st' := ⟨s, H'⟩) (fun φ a w hs => by
    obtain ⟨φ', h1, h2⟩ := h φ w hs.heap
    exact ⟨φ', ⟨h1, hs.len, fun i => (hs.slots i).evo h2, hs.marks.evo h2 rfl⟩, h2⟩) k
theorem box_restate {id : Nat} {cs cs' : List AV} (hs : HSat φ H w) (hb : hget H id = .box cs) (hl : cs'.length = cs.length) (h : ∀ (j : Nat) av av' v, cs'[j]? = some av' → cs[j]? = some av → Rep φ H w av v → Rep φ H w av' v) :
    HSat φ (hset H id (.box cs')) w ∧ Evo φ H w φ (hset H id (.box cs')) w := by
  have hB := hs.blk id
  rw [hb] at hB
  obtain ⟨k1, k0, c, T, k2, k3⟩ := hB
  have hsig : (ABlk.box cs').sig = sig H id := by simp [sig, hb, ABlk.sig, hl]
  have hown : Own φ H id := ⟨by simp [sig, hb, ABlk.sig], by omega⟩
  have e := evo_put (w' := w) hs hsig hown (fun _ => trivial) rfl rfl rfl rfl (fun b _ => rfl)
  refine ⟨hsat_put hs hsig hown rfl rfl rfl rfl (fun b _ => rfl) ⟨k1, k0, c, T, k2, fun j av hav => ?_⟩, e⟩
  have hj : j < cs.length := by rw [← hl]; exact (List.getElem?_eq_some_iff.1 hav).1
  obtain ⟨v, k4, k5⟩ := k3 j _ (List.getElem?_eq_getElem hj)
  exact ⟨v, k4, (h j _ av v hav (List.getElem?_eq_getElem hj) k5).evo e⟩
theorem take_nil {sz : Nat} (f : Nat → List AV) (h0 : 0 < sz) (hs : HSat φ H w) : ∃ φ', HSat φ' (hset H (hlen H) (.vec sz 0 f)) w ∧ Evo φ H w φ' (hset H (hlen H) (.vec sz 0 f)) w ∧ Rep φ' (hset H (hlen H) (.vec sz 0 f)) w (.sl (hlen H) 0 0) (.slice none 0 0) := by
  have hr : R1 0 w (MB φ H) ⟨0, 0, 0⟩ (.vec sz 0 f) (.slice none 0 0) := ⟨none, rfl, h0, Nat.le_refl _, by simp, fun i hi => by omega, fun h => by simp at h⟩
  obtain ⟨t1, t2, t3, t4⟩ := take_ext rfl hs (hget_hlen H) (L := ⟨0, 0, 0⟩) (fun h => by simp at h) hr
  have hext : (takeφ φ (hlen H) ⟨0, 0, 0⟩).ext = φ.ext := by funext b; simp [takeφ]
  refine ⟨_, t1, ⟨rfl, rfl, rfl, Nat.le_refl _, hext, rfl, fun _ _ _ => rfl, fun b hb => ?_, t2.used, t2.ids⟩, t4⟩
  rcases (t3 b).1 (.inl hb) with h | h
  · exact .inr h
  · obtain ⟨i, hi⟩ := hb
    exact absurd (by rw [hext]; exact h) (t1.ext i b hi)
/-- A row of nothing in a variable becomes one's own. -/
theorem Sem.adoptB {c : Code} {Q : Exit → St → Prop} {s : List AV} (id j sz : Nat) (f : Nat → List AV) (h0 : 0 < sz) {cs : List AV} (hb : hget H id = .box cs) (hj : sget cs j = .raw (.slice none 0 0)) (k : Sem P lo c Q ⟨s, hset (hset H (hlen H) (.vec sz 0 f)) id (.box (sput cs j (.sl (hlen H) 0 0)))⟩) : Sem P lo c Q ⟨s, H⟩ := by
  refine Sem.heap (fun φ w hs => ?_) k
  obtain ⟨φ1, h1, h2, h3⟩ := take_nil (sz := sz) f h0 hs
  have hne : id ≠ hlen H := fun e => by rw [e, hget_hlen] at hb; cases hb
  have hb1 : hget (hset H (hlen H) (.vec sz 0 f)) id = .box cs := by rw [hget_set_ne _ _ _ _ hne]; exact hb
  obtain ⟨g1, g2⟩ := box_restate (cs' := sput cs j (.sl (hlen H) 0 0)) h1 hb1 (sput_length _ _ _) (fun i av av' v hav' hav hr => by
    have e1 : sget (sput cs j (.sl (hlen H) 0 0)) i = av' := by rw [sget_getElem?, hav']; rfl
    have e2 : sget cs i = av := by rw [sget_getElem?, hav]; rfl
    by_cases hi : i = j
    · subst hi
      rw [sget_put_same _ _ _ (List.getElem?_eq_some_iff.1 hav).1] at e1
      subst e1
      rw [hj] at e2
      subst e2
      rw [hr.inv_raw]; exact h3
    · rw [sget_put_ne _ _ _ _ hi, e2] at e1
      subst e1; exact hr)
  exact ⟨φ1, g1, h2.trans g2⟩

/-! rows within rows -/
/-- A row of rows of nothing. -/
theorem Sem.tomat {c : Code} {Q : Exit → St → Prop} {s : List AV} (id : Nat) {n : Nat} {f : Nat → List AV} (sz : Nat) (z : Nat → List AV) (h0 : 0 < sz) (hb : hget H id = .vec 1 n f) (hf : ∀ i, i < n → f i = [.raw (.slice none 0 0)]) (k : Sem P lo c Q ⟨s, hset H id (.mat n fun _ => .row sz 0 z)⟩) : Sem P lo c Q ⟨s, H⟩ := by
  refine Sem.heap (fun φ w hs => ?_) k
  have hB := hs.blk id
  rw [hb] at hB
  obtain ⟨k0, k1, k2, k3, k4, k5⟩ := hB
  have nown : ∀ b, ¬ MatOwn (fun _ => ⟨0, 0, 0⟩) n (fun _ => MRow.row sz 0 z) b := by rintro b ⟨i, _, _, h, _⟩; simp at h
  have hsig : (ABlk.mat n fun _ => MRow.row sz 0 z).sig = sig H id := by simp [sig, hb, ABlk.sig]
  have hu : (hget H id).used = true := by rw [hb]; rfl
  have up : ∀ j b, OwnB φ (hset H id (.mat n fun _ => .row sz 0 z)) j b → OwnB φ H j b := by
    rintro j b ⟨⟨g1, g2⟩, g3⟩
    by_cases he : j = id
    · subst he; exact ⟨⟨by simp [sig, hb, ABlk.sig], g2⟩, g3⟩
    · rw [sig, hget_set_ne _ _ _ _ he] at g1; exact ⟨⟨g1, g2⟩, g3⟩
  have e : Evo φ H w φ (hset H id (.mat n fun _ => .row sz 0 z)) w := by
    refine ⟨rfl, rfl, rfl, Nat.le_refl _, rfl, rfl, fun _ _ _ => rfl, fun b ⟨j, hj⟩ => .inr ⟨j, up j b hj⟩, fun j hj => ?_, fun j s hj hs' => ?_⟩
    · by_cases he : j = id
      · subst he; rw [hget_set_same]; rfl
      · rw [hget_set_ne _ _ _ _ he]; exact hj
    · by_cases he : j = id
      · subst he; rw [sig, hget_set_same, hsig] at hs'; exact ⟨hs', rfl⟩
      · rw [sig, hget_set_ne _ _ _ _ he] at hs'; exact ⟨hs', rfl⟩
  refine ⟨φ, ⟨fun j => ?_, fun p q b hp hq => hs.inj p q b (up p b hp) (up q b hq), fun j b hj => hs.ext j b (up j b hj), hs.extlt⟩, e⟩
  by_cases he : j = id
  · subst he
    rw [hget_set_same]
    refine ⟨k2, k3, fun _ => ⟨0, 0, 0⟩, fun b => ⟨fun h => absurd h (k0 b), fun h => absurd h (nown b)⟩, nown _, fun _ _ _ _ _ _ h => by simp at h, fun hc => ?_⟩
    obtain ⟨c, T, g1, g2, g3⟩ := k5 hc
    refine ⟨c, T, g1, by simpa using g2, fun i hi => ?_⟩
    obtain ⟨v, g4, g5, g6⟩ := g3 i 0 (.raw (.slice none 0 0)) hi (by rw [hf i hi]; rfl)
    cases g6
    exact ⟨_, by simpa using g4, ⟨none, rfl, fun h => by simp at h⟩, h0, Nat.le_refl _, by simp, fun i hi => by omega, fun h => by simp at h⟩
  · rw [hget_set_ne _ _ _ _ he]
    exact BRep.keep e rfl (fun _ => Iff.rfl) (fun _ _ _ _ => rfl) (hs.blk j)

theorem mat_facts {id n : Nat} {g : Nat → MRow} (hs : HSat φ H w) (hb : hget H id = .mat n g) : n ≤ (φ id).cap ∧ (φ id).cap ≤ 9223372036854775807 ∧ ∃ Ls : Nat → Loc, (∀ b, φ.more id b ↔ MatOwn Ls n g b) ∧ (¬ MatOwn Ls n g (φ id).b) ∧
      (∀ i j, i < n → j < n → (g i).own = true → (g j).own = true → 0 < (Ls i).cap → 0 < (Ls j).cap → (Ls i).b = (Ls j).b → i = j) ∧
      (0 < (φ id).cap → ∃ c T, w.heap[(φ id).b]? = some (.cells c T (0, 0)) ∧ (φ id).o + (φ id).cap ≤ c.size ∧ ∀ i, i < n → ∃ v, c[(φ id).o + i]? = some v ∧ CRow φ H w (Ls i) v (g i)) := by
  have hB := hs.blk id
  rw [hb] at hB
  exact hB

/-- A row within rows is taken out: it is a row of its own till it is given back. -/
theorem Sem.lend {c : Code} {Q : Exit → St → Prop} {s : List AV} (id i : Nat) {n sz m : Nat} {g : Nat → MRow} {f : Nat → List AV} (hb : hget H id = .mat n g) (hi : i < n) (hg : g i = .row sz m f)
    (k : Sem P lo c Q ⟨s, hset (hset H id (.mat n (updG g i (.lent (hlen H))))) (hlen H) (.vec sz m f)⟩) : Sem P lo c Q ⟨s, H⟩ := by
  refine Sem.heap (fun φ w hs => ?_) k
  obtain ⟨h1, h2, Ls, h3, h4, h5, h6⟩ := mat_facts hs hb
  obtain ⟨cc, T, k1, k2, k3⟩ := h6 (by omega)
  have hf0 := hget_hlen H
  generalize hlen H = nid at *
  have hne : nid ≠ id := fun e => by rw [e, hb] at hf0; cases hf0
  let φ' : Env := ⟨fun j => if j = nid then Ls i else φ j, φ.ext, fun j b => j ≠ nid ∧ (if j = id then MatOwn Ls n (updG g i (.lent nid)) b else φ.more j b), φ.base⟩
  let H' := hset (hset H id (.mat n (updG g i (.lent nid)))) nid (.vec sz m f)
  have G1 : hget H' nid = .vec sz m f := hget_set_same _ _ _
  have G2 : hget H' id = .mat n (updG g i (.lent nid)) := by show hget (hset _ _ _) _ = _; rw [hget_set_ne _ _ _ _ (Ne.symm hne), hget_set_same]
  have G3 : ∀ j, j ≠ nid → j ≠ id → hget H' j = hget H j := fun j a b => by show hget (hset _ _ _) _ = _; rw [hget_set_ne _ _ _ _ a, hget_set_ne _ _ _ _ b]
  have L1 : φ' nid = Ls i := by simp [φ']
  have L2 : ∀ j, j ≠ nid → φ' j = φ j := fun j h => by simp [φ', h]
  have hown : Own φ H id := ⟨by simp [sig, hb, ABlk.sig], by omega⟩
  have msub : ∀ b, MatOwn Ls n (updG g i (.lent nid)) b → MatOwn Ls n g b := by
    rintro b ⟨q, hq, ho, hc, rfl⟩
    by_cases he : q = i
    · subst he; rw [updG_same] at ho; cases ho
    · rw [updG_ne _ _ he] at ho; exact ⟨q, hq, ho, hc, rfl⟩
  have mi : 0 < (Ls i).cap → MatOwn Ls n g (Ls i).b := fun h => ⟨i, hi, by rw [hg]; rfl, h, rfl⟩
  have nmi : 0 < (Ls i).cap → ¬ MatOwn Ls n (updG g i (.lent nid)) (Ls i).b := by
    rintro h ⟨q, hq, ho, hc, he⟩
    by_cases hqi : q = i
    · subst hqi; rw [updG_same] at ho; cases ho
    · rw [updG_ne _ _ hqi] at ho; exact hqi (h5 q i hq hi ho (by rw [hg]; rfl) hc h he)
  -- what is owned now was owned
  have up : ∀ j b, OwnB φ' H' j b → (j = nid ∧ 0 < (Ls i).cap ∧ (Ls i).b = b) ∨ (j ≠ nid ∧ OwnB φ H j b ∧ (j = id → 0 < (Ls i).cap → b ≠ (Ls i).b)) := by
    rintro j b ⟨⟨g1, g2⟩, g3⟩
    by_cases hj : j = nid
    · subst hj
      rw [L1] at g2 g3
      exact .inl ⟨rfl, g2, g3.resolve_right fun h => h.1 rfl⟩
    · rw [L2 j hj] at g2 g3
      refine .inr ⟨hj, ?_, ?_⟩
      · by_cases hj2 : j = id
        · subst hj2; exact ⟨hown, g3.imp (fun h => h) fun h => (h3 b).2 (msub b (by simpa using h.2))⟩
        · rw [sig, G3 j hj hj2] at g1; exact ⟨⟨g1, g2⟩, g3.imp (fun h => h) fun h => by simpa [hj2] using h.2⟩
      · rintro rfl hc rfl
        rcases g3 with g3 | ⟨_, g3⟩
        · exact h4 (by rw [g3]; exact mi hc)
        · exact nmi hc (by simpa using g3)
  have own0 : 0 < (Ls i).cap → OwnB φ H id (Ls i).b := fun h => ⟨hown, .inr ((h3 _).2 (mi h))⟩
  have upMB : ∀ b, MBo φ' H' b → MBo φ H b := by
    rintro b ⟨j, hj⟩
    rcases up j b hj with ⟨_, h, rfl⟩ | ⟨_, h, _⟩
    · exact ⟨id, own0 h⟩
    · exact ⟨j, h⟩
  have e : Evo φ H w φ' H' w := by
    refine ⟨rfl, rfl, rfl, Nat.le_refl _, rfl, rfl, fun _ _ _ => rfl, fun b hb => .inr (upMB b hb), fun j hj => ?_, fun j s hj hs' => ?_⟩
    · by_cases he : j = id
      · subst he; rw [G2]; rfl
      · rw [G3 j (fun h => by rw [h, hf0] at hj; cases hj) he]; exact hj
    · have hjn : j ≠ nid := fun h => by rw [h, hf0] at hj; cases hj
      by_cases he : j = id
      · subst he; rw [sig, G2] at hs'; exact ⟨by rw [sig, hb]; exact hs', L2 j hjn⟩
      · rw [sig, G3 j hjn he] at hs'; exact ⟨hs', L2 j hjn⟩
  have sub : ∀ b, MB φ' H' b → MB φ H b := fun b h => h.imp (upMB b) fun h => h
  refine ⟨φ', ⟨fun j => ?_, fun p q b hp hq => ?_, fun j b hj => ?_, hs.extlt⟩, e⟩
  · show BRep φ' H' w j (hget H' j)
    by_cases hj : j = nid
    · subst hj
      rw [G1]
      obtain ⟨v, _, k4⟩ := k3 i hi
      rw [hg] at k4
      refine ⟨fun b h => h.1 rfl, ?_⟩
      rw [L1]
      exact k4.2.move (fun _ _ h => h.weaken sub) fun _ => rfl
    · by_cases hj2 : j = id
      · subst hj2
        rw [G2]
        refine ⟨by rw [L2 j hj]; exact h1, by rw [L2 j hj]; exact h2, Ls, fun b => by simp [φ', hj], by rw [L2 j hj]; exact fun h => h4 (msub _ h), fun p q hp hq gp gq cp cq e => ?_, fun _ => ?_⟩
        · have hp' : p ≠ i := fun e => by subst e; rw [updG_same] at gp; cases gp
          have hq' : q ≠ i := fun e => by subst e; rw [updG_same] at gq; cases gq
          rw [updG_ne _ _ hp'] at gp
          rw [updG_ne _ _ hq'] at gq
          exact h5 p q hp hq gp gq cp cq e
        · rw [L2 j hj]
          refine ⟨cc, T, k1, k2, fun q hq => ?_⟩
          obtain ⟨v, g1, g2⟩ := k3 q hq
          refine ⟨v, g1, ?_⟩
          by_cases hqi : q = i
          · subst hqi
            rw [updG_same]
            rw [hg] at g2
            obtain ⟨⟨bo, rfl, g3⟩, g4⟩ := g2
            refine ⟨m, fun sz' n' h => by rw [sig, G1] at h; simp [ABlk.sig] at h; exact h.2, .sl bo _ (by rw [G1]; rfl) (fun h => ?_) g4.2.1 g4.2.2.1 fun sz' n' h => ?_⟩
            · rw [g3 (by have := g4.2.1; omega)]; rfl
            · rw [sig, G1] at h
              simp only [ABlk.sig, Option.some.injEq, Prod.mk.injEq] at h
              obtain ⟨rfl, rfl⟩ := h
              rw [L1]
              exact ⟨by omega, by omega, fun hc => by rw [g3 hc]; simp⟩
          · rw [updG_ne _ _ hqi]
            exact g2.keepG (fun _ _ h => h.evo e) (fun id s h1 h2 => (e.ids id s h1 h2).1) (fun _ _ h => h.weaken sub) fun _ _ => rfl
      · rw [G3 j hj hj2]
        exact BRep.keep e (L2 j hj) (fun b => by simp [φ', hj, hj2]) (fun _ _ _ _ => rfl) (hs.blk j)
  · rcases up p b hp with ⟨rfl, a1, a0⟩ | ⟨a1, a2, a3⟩ <;> rcases up q b hq with ⟨rfl, b1, b2⟩ | ⟨b1, b2, b3⟩
    · rfl
    · have := hs.inj q id _ b2 (a0 ▸ own0 a1)
      exact absurd a0.symm (b3 this a1)
    · have := hs.inj p id _ a2 (b2 ▸ own0 b1)
      exact absurd b2.symm (a3 this b1)
    · exact hs.inj p q b a2 b2
  · rcases up j b hj with ⟨rfl, a1, rfl⟩ | ⟨_, a2, _⟩
    · exact hs.ext id _ (own0 a1)
    · exact hs.ext j b a2
end
end Go.SH
