/-
  THE SYMBOLIC HEAP, PART O: a region that draws its order: one order is enough where a check of numbers holds. No condition.
-/
import Derived.Test.YthkgnnndlocbbaaShN
namespace Go.SH
set_option linter.unusedVariables false
set_option linter.unusedSimpArgs false
open Go Go.RowKit

def isAlloc (o : Oper) : Bool :=
  match o.op with
  | .alloc _ | .box .. | .buildSlice .. | .makeSlice .. => true
  | .call c => match c.callee with
    | .value _ => true
    | .builtin .append => true
    | _ => false
  | _ => false
def countA : List Oper → Nat
  | [] => 0
  | o :: l => (match isAlloc o with | true => 2 | false => 0) + countA l
/-- The number that operation i may give to a new block. -/
def nidOf (all : List Oper) (base : Nat) (i : Nat) : Nat :=
  match all[i]? with
  | some o => match isAlloc o with
    | true => base + countA (all.take i)
    | false => base + countA all
  | none => base + countA all
def upIds : List (Nat × ABlk) → List Nat
  | [] => []
  | (i, _) :: l => i :: upIds l
def disj (x y : List Nat × List Nat) : Bool := x.2.all (fun i => !y.1.contains i && !y.2.contains i) && y.2.all (fun i => !x.1.contains i)
def maskStep (acc : List Nat) (o : Oper) : Nat :=
  o.after.toList.foldl (fun m e => bif Region.binds .any e then m ||| (1 <<< e.on) ||| acc.getD e.on 0 else m) 0
def masks : List Oper → List Nat → List Nat
  | [], acc => acc
  | o :: os, acc => masks os (acc ++ [maskStep acc o])
def checkPair (ops : Array Oper) (ms : List Nat) (base : Nat) (tr : List (List Nat × List Nat)) (i j : Nat) : Bool :=
  i == j || (((ms.getD j 0).testBit i || (!((tr.getD j ([], [])).2.contains (nidOf ops.toList base i)) && !((tr.getD j ([], [])).2.contains (nidOf ops.toList base i + 1)))) &&
    (!(decide (j < i)) || (ms.getD i 0).testBit j || ((ops.getD j default).apart ops (ops.getD i default) && disj (tr.getD j ([], [])) (tr.getD i ([], [])))))
/-- The check: which operations are free to change places; tr: what each read and wrote. -/
def checkD (ops : Array Oper) (base : Nat) (tr : List (List Nat × List Nat)) : Bool :=
  (ops.toList.zipIdx.all fun (o, i) => o.after.toList.all fun e => !(Region.binds .any e) || decide (e.on < i)) &&
  (List.range ops.size).all fun i => (List.range ops.size).all fun j => checkPair ops (masks ops.toList []) base tr i j

/-- A call by contract, its result to be named. -/
def ExCall (P : Program) (f : FuncId) (args : List AV) (H : List ABlk) (k : AR → Prop) : Prop := ∃ r, (PureCall P f args H r ∧ r.nv ≤ 2) ∧ k r
@[congr] theorem ExCall_congr {P : Program} {f : FuncId} {args args' : List AV} {H H' : List ABlk} (k : AR → Prop) (h1 : args = args') (h2 : H = H') : ExCall P f args H k = ExCall P f args' H' k := by rw [h1, h2]
theorem ExCall.mk {P : Program} {f : FuncId} {args : List AV} {H : List ABlk} {k : AR → Prop} (r : AR) (h : PureCall P f args H r) (hn : r.nv ≤ 2) (hk : k r) : ExCall P f args H k := ⟨r, ⟨h, hn⟩, hk⟩

def effDK (P : Program) (o : Oper) (nid : Nat) (k : List Nat × List Nat → St → Prop) (st : St) : Prop :=
  match callOf (evalA st.slots) o with
  | some (f, args) => ExCall P f args st.heap fun r => k (idsM (idsR st.heap 6) args, upIds (r.u nid)) ⟨putA st.slots o.dst (r.v nid), applyU st.heap (r.u nid)⟩
  | none => match eff P st.heap nid (evalA st.slots) o with
    | .ok e => e.cond ∧ k (e.reads, upIds e.upds) ⟨putA st.slots o.dst e.val, applyU st.heap e.upds⟩
    | _ => False
/-- The conditions of a region in the text's order; cnt, top: the numbers of new blocks; tr: what was read and written. -/
def vcDr (P : Program) (ops : Array Oper) (base top : Nat) : List Oper → Nat → List (List Nat × List Nat) → (St → Prop) → St → Prop
  | [], _, tr, K, st => checkD ops base tr.reverse = true ∧ K st
  | o :: os, cnt, tr, K, st =>
    match o.guard with
    | none => match isAlloc o with
      | true => effDK P o cnt (fun x st' => vcDr P ops base top os (cnt + 2) (x :: tr) K st') st
      | false => effDK P o top (fun x st' => vcDr P ops base top os cnt (x :: tr) K st') st
    | some (g, want) =>
      match glook ops.toList g with
      | none => False
      | some d =>
        match sget st.slots d with
        | .bool b => gsplit b fun t => bsel t want
            (match isAlloc o with
              | true => effDK P o cnt (fun x st' => vcDr P ops base top os (cnt + 2) (x :: tr) K st') ⟨sput st.slots d (.bool t), st.heap⟩
              | false => effDK P o top (fun x st' => vcDr P ops base top os cnt (x :: tr) K st') ⟨sput st.slots d (.bool t), st.heap⟩)
            (match isAlloc o with
              | true => vcDr P ops base top os (cnt + 2) (([], []) :: tr) K ⟨putA (sput st.slots d (.bool t)) o.dst (.raw (.tuple #[])), st.heap⟩
              | false => vcDr P ops base top os cnt (([], []) :: tr) K ⟨putA (sput st.slots d (.bool t)) o.dst (.raw (.tuple #[])), st.heap⟩)
        | .raw (.tuple _) => match isAlloc o with
          | true => vcDr P ops base top os (cnt + 2) (([], []) :: tr) K ⟨putA st.slots o.dst (.raw (.tuple #[])), st.heap⟩
          | false => vcDr P ops base top os cnt (([], []) :: tr) K ⟨putA st.slots o.dst (.raw (.tuple #[])), st.heap⟩
        | _ => False
def vcDraw (P : Program) (ops : Array Oper) (K : St → Prop) (st : St) : Prop :=
  vcDr P ops (hlen st.heap) (hlen st.heap + countA ops.toList) ops.toList (hlen st.heap) [] K st

/-! what was done -/
abbrev Done := Option (AR × E)
def effE (P : Program) (H : List ABlk) (nid : Nat) (ρ : Operand → AV) (o : Oper) (r : AR) : Option E :=
  match callOf ρ o with
  | some (f, args) => some ⟨PureCall P f args H r ∧ r.nv ≤ 2, r.v nid, r.u nid, idsM (idsR H 6) args⟩
  | none => match eff P H nid ρ o with
    | .ok e => some e
    | _ => none
def appD (o : Oper) (d : Done) (st : St) : St :=
  match d with
  | none => ⟨putA st.slots o.dst (.raw (.tuple #[])), st.heap⟩
  | some (_, e) => ⟨putA st.slots o.dst e.val, applyU st.heap e.upds⟩
def fpD : Done → List Nat × List Nat
  | none => ([], [])
  | some (_, e) => (e.reads, upIds e.upds)
def Did (P : Program) (ops : Array Oper) (base : Nat) (st : St) (i : Nat) (o : Oper) : Done → Prop
  | none => ∃ g want d, o.guard = some (g, want) ∧ glook ops.toList g = some d ∧ ((∃ b, sget st.slots d = .bool b ∧ b ≠ want) ∨ ∃ x, sget st.slots d = .raw (.tuple x))
  | some (r, e) => (match o.guard with | none => True | some (g, want) => ∃ d, glook ops.toList g = some d ∧ sget st.slots d = .bool want) ∧
      effE P st.heap (nidOf ops.toList base i) (evalA st.slots) o r = some e ∧ e.cond
def RunD (P : Program) (ops : Array Oper) (base : Nat) : List (Nat × Done) → St → St → Prop
  | [], s, s' => s = s'
  | (i, d) :: L, s, s' => ∃ o, ops[i]? = some o ∧ Did P ops base s i o d ∧ RunD P ops base L (appD o d s) s'

section
variable {P : Program} {ops : Array Oper} {base : Nat}

theorem hset_comm (H : List ABlk) {i j : Nat} (b c : ABlk) (h : i ≠ j) : hset (hset H i b) j c = hset (hset H j c) i b := by
  induction H generalizing i j with
  | nil =>
    induction i generalizing j with
    | zero => cases j with
      | zero => exact absurd rfl h
      | succ j => simp [hset]
    | succ i ih => cases j with
      | zero => simp [hset]
      | succ j => simp only [hset]; rw [ih (by omega)]
  | cons x l ih =>
    cases i with
    | zero => cases j with
      | zero => exact absurd rfl h
      | succ j => simp [hset]
    | succ i => cases j with
      | zero => simp [hset]
      | succ j => simp only [hset]; rw [ih (by omega)]
theorem applyU_hset (H : List ABlk) (u : List (Nat × ABlk)) {i : Nat} (b : ABlk) (h : i ∉ upIds u) : applyU (hset H i b) u = hset (applyU H u) i b := by
  induction u generalizing H with
  | nil => rfl
  | cons p u ih =>
    obtain ⟨j, c⟩ := p
    simp only [upIds, List.mem_cons, not_or] at h
    simp only [applyU]
    rw [hset_comm _ _ _ h.1, ih _ h.2]
theorem applyU_comm (H : List ABlk) (u v : List (Nat × ABlk)) (h : ∀ i ∈ upIds u, i ∉ upIds v) : applyU (applyU H u) v = applyU (applyU H v) u := by
  induction u generalizing H with
  | nil => rfl
  | cons p u ih =>
    obtain ⟨j, c⟩ := p
    simp only [upIds, List.mem_cons] at h
    simp only [applyU]
    rw [ih _ (fun i hi => h i (.inr hi)), applyU_hset _ _ _ (h j (.inl rfl))]
theorem applyU_get (H : List ABlk) (u : List (Nat × ABlk)) {i : Nat} (h : i ∉ upIds u) : hget (applyU H u) i = hget H i := by
  induction u generalizing H with
  | nil => rfl
  | cons p u ih =>
    obtain ⟨j, c⟩ := p
    simp only [upIds, List.mem_cons, not_or] at h
    simp only [applyU]
    rw [ih _ h.2, hget_set_ne _ _ _ _ h.1]
theorem putA_comm (s : List AV) {x y : Option Tmp} (v u : AV) (h : ∀ d, x = some d → y ≠ some d) : putA (putA s x v) y u = putA (putA s y u) x v := by
  cases x with
  | none => rfl
  | some d =>
    cases y with
    | none => rfl
    | some e =>
      have hne : d ≠ e := fun he => h d rfl (he ▸ rfl)
      simp only [putA]
      clear h
      induction s generalizing d e with
      | nil => simp [sput]
      | cons a s ih =>
        cases d with
        | zero => cases e with
          | zero => exact absurd rfl hne
          | succ e => simp [sput]
        | succ d => cases e with
          | zero => simp [sput]
          | succ e => simp only [sput]; rw [ih _ _ (fun h => hne (by rw [h]))]
theorem putA_eval (s : List AV) {x : Option Tmp} (v : AV) {y : Operand} (h : ∀ d, x = some d → y ≠ .tmp d) : evalA (putA s x v) y = evalA s y := by
  cases x with
  | none => rfl
  | some d =>
    cases y with
    | tmp t => simp only [putA, evalA]; exact sget_put_ne _ _ _ _ (fun e => h d rfl (by rw [e]))
    | _ => rfl
theorem putA_get (s : List AV) {x : Option Tmp} (v : AV) {t : Nat} (h : x ≠ some t) : sget (putA s x v) t = sget s t := by
  cases x with
  | none => rfl
  | some d => exact sget_put_ne _ _ _ _ (fun e => h (by rw [e]))

theorem effE_local {H H' : List ABlk} {ρ ρ' : Operand → AV} {nid : Nat} {o : Oper} {r : AR} {e : E} (h : effE P H nid ρ o r = some e) (hρ : ∀ x ∈ o.op.operands, ρ x = ρ' x) (hr : ∀ i ∈ e.reads, hget H i = hget H' i) :
    ∃ e', effE P H' nid ρ' o r = some e' ∧ e'.val = e.val ∧ e'.upds = e.upds ∧ e'.reads = e.reads ∧ (e.cond → e'.cond) := by
  unfold effE at h ⊢
  rw [← callOf_congr hρ]
  split at h
  · rename_i f args hc
    simp only [Option.some.injEq] at h
    subst h
    simp only at hr
    have h2 := pureCall_congr (P := P) (f := f) (r := r) hr
    have h3 : ∀ (n : Nat) (av : AV), (∀ i ∈ idsR H n av, hget H i = hget H' i) → idsR H n av = idsR H' n av := by
      intro n
      induction n with
      | zero => intro av _; rfl
      | succ n ih =>
        intro av h
        have list : ∀ cs : List AV, (∀ i ∈ idsM (idsR H n) cs, hget H i = hget H' i) → idsM (idsR H n) cs = idsM (idsR H' n) cs := by
          intro cs
          induction cs with
          | nil => intro _; rfl
          | cons c cs ihc =>
            intro hcs
            simp only [idsM, List.mem_append] at hcs ⊢
            rw [ih c (fun i hi => hcs i (.inl hi)), ihc (fun i hi => hcs i (.inr hi))]
        cases av <;> simp only [idsR]
        case ptr id i j =>
          simp only [idsR] at h
          cases hb : hget H id with
          | box cs =>
            simp only [hb] at h
            rw [← h id (by simp), hb]
            simp only
            rw [list cs (fun i hi => h i (by simp [hi]))]
          | _ =>
            simp only [hb] at h
            rw [← h id (by simp), hb]
        case agg cs => simp only [idsR] at h; exact list cs h
        case tup cs => simp only [idsR] at h; exact list cs h
        case fn f cs => simp only [idsR] at h; exact list cs h
    have h4 : ∀ cs : List AV, (∀ i ∈ idsM (idsR H 6) cs, hget H i = hget H' i) → idsM (idsR H 6) cs = idsM (idsR H' 6) cs := by
      intro cs
      induction cs with
      | nil => intro _; rfl
      | cons c cs ihc =>
        intro hcs
        simp only [idsM, List.mem_append] at hcs ⊢
        rw [h3 6 c (fun i hi => hcs i (.inl hi)), ihc (fun i hi => hcs i (.inr hi))]
    exact ⟨_, rfl, rfl, rfl, (h4 args hr).symm, fun ⟨h1, h5⟩ => ⟨h2 ▸ h1, h5⟩⟩
  · rename_i hc
    split at h
    · rename_i e0 he
      simp only [Option.some.injEq] at h
      subst h
      rw [eff_congr nid hρ] at he
      rw [eff_heap nid he hr]
      exact ⟨e0, rfl, rfl, rfl, rfl, id⟩
    · cases h

theorem disj_spec {x y : List Nat × List Nat} (h : disj x y = true) : (∀ i ∈ x.2, i ∉ y.1) ∧ (∀ i ∈ x.2, i ∉ y.2) ∧ (∀ i ∈ y.2, i ∉ x.1) := by
  simp only [disj, Bool.and_eq_true, List.all_eq_true, Bool.not_eq_true', List.contains_eq_mem, decide_eq_false_iff_not] at h
  exact ⟨fun i hi => (h.1 i hi).1, fun i hi => (h.1 i hi).2, h.2⟩

theorem upd_guard {st : St} {o o' : Oper} {d' : Done} (h : ∀ t, o'.dst = some t → t ∉ o.looksAt ops) {g : Nat} {want : Bool} (hg : o.guard = some (g, want)) {t : Nat} (ht : glook ops.toList g = some t) :
    sget (appD o' d' st).slots t = sget st.slots t := by
  have ht' : (ops[g]?).bind (·.dst) = some t := by rw [glook_eq, Array.getElem?_toList] at ht; exact ht
  have : o'.dst ≠ some t := fun he => h t he (by simp [Oper.looksAt, hg, ht'])
  cases d' with
  | none => exact putA_get _ _ this
  | some x => exact putA_get _ _ this

theorem did_move {st : St} {i : Nat} {o o' : Oper} {d d' : Done} (hap : ∀ t, o'.dst = some t → t ∉ o.looksAt ops) (hw : ∀ k ∈ (fpD d').2, k ∉ (fpD d).1) :
    (Did P ops base st i o d → ∃ d1, Did P ops base (appD o' d' st) i o d1 ∧ fpD d1 = fpD d ∧ ∀ s, appD o d1 s = appD o d s) ∧
    (Did P ops base (appD o' d' st) i o d → ∃ d1, Did P ops base st i o d1 ∧ fpD d1 = fpD d ∧ ∀ s, appD o d1 s = appD o d s) := by
  have hops : ∀ x ∈ o.op.operands, evalA (appD o' d' st).slots x = evalA st.slots x := by
    intro x hx
    have : ∀ t, o'.dst = some t → x ≠ .tmp t := fun t ht he => by
      subst he
      exact hap t ht (by simp [Oper.looksAt]; exact .inl ⟨_, hx, rfl⟩)
    cases d' with
    | none => exact putA_eval _ _ this
    | some y => exact putA_eval _ _ this
  have hheap : ∀ k, k ∉ (fpD d').2 → hget (appD o' d' st).heap k = hget st.heap k := by
    intro k hk
    cases d' with
    | none => rfl
    | some y => exact applyU_get _ _ hk
  cases d with
  | none =>
    constructor
    · rintro ⟨g, want, t, h1, h2, h3⟩
      exact ⟨none, ⟨g, want, t, h1, h2, by rw [upd_guard hap h1 h2]; exact h3⟩, rfl, fun _ => rfl⟩
    · rintro ⟨g, want, t, h1, h2, h3⟩
      exact ⟨none, ⟨g, want, t, h1, h2, by rw [upd_guard hap h1 h2] at h3; exact h3⟩, rfl, fun _ => rfl⟩
  | some x =>
    obtain ⟨r, e⟩ := x
    have hguard : (match o.guard with | none => True | some (g, want) => ∃ d, glook ops.toList g = some d ∧ sget (appD o' d' st).slots d = .bool want) ↔
        (match o.guard with | none => True | some (g, want) => ∃ d, glook ops.toList g = some d ∧ sget st.slots d = .bool want) := by
      cases hg : o.guard with
      | none => simp
      | some p =>
        obtain ⟨g, want⟩ := p
        simp only
        constructor
        · rintro ⟨t, h1, h2⟩; exact ⟨t, h1, by rw [upd_guard hap hg h1] at h2; exact h2⟩
        · rintro ⟨t, h1, h2⟩; exact ⟨t, h1, by rw [upd_guard hap hg h1]; exact h2⟩
    constructor
    · rintro ⟨h1, h2, h3⟩
      obtain ⟨e', k1, k2, k3, k4, k5⟩ := effE_local h2 (fun x hx => (hops x hx).symm) (fun k hk => (hheap k (fun h => hw k h hk)).symm)
      exact ⟨some (r, e'), ⟨hguard.2 h1, k1, k5 h3⟩, by simp [fpD, k3, k4], fun s => by simp [appD, k2, k3]⟩
    · rintro ⟨h1, h2, h3⟩
      obtain ⟨e', k1, k2, k3, k4, k5⟩ := effE_local h2 hops (fun k hk => hheap k (fun h => hw k h hk))
      exact ⟨some (r, e'), ⟨hguard.1 h1, k1, k5 h3⟩, by simp [fpD, k3, k4], fun s => by simp [appD, k2, k3]⟩

theorem appD_comm {st : St} {o o' : Oper} {d d' : Done} (h1 : ∀ t, o.dst = some t → o'.dst ≠ some t) (h2 : ∀ k ∈ (fpD d).2, k ∉ (fpD d').2) : appD o' d' (appD o d st) = appD o d (appD o' d' st) := by
  cases d with
  | none =>
    cases d' with
    | none => simp only [appD]; rw [putA_comm _ _ _ h1]
    | some y => simp only [appD]; rw [putA_comm _ _ _ h1]
  | some x =>
    cases d' with
    | none => simp only [appD]; rw [putA_comm _ _ _ h1]
    | some y => simp only [appD]; rw [putA_comm _ _ _ h1, applyU_comm _ _ _ h2]

/-- Two free neighbours change places. -/
def FreeP (ops : Array Oper) (j i : Nat) (dj di : Done) : Prop := (∀ oj oi, ops[j]? = some oj → ops[i]? = some oi → oj.apart ops oi = true) ∧ disj (fpD dj) (fpD di) = true

theorem run_front {fin : St} {i : Nat} {di : Done} : ∀ (pre : List (Nat × Done)) (post : List (Nat × Done)) (st : St), RunD P ops base (pre ++ (i, di) :: post) st fin → (∀ p ∈ pre, FreeP ops p.1 i p.2 di) →
    ∃ di' pre' post', RunD P ops base ((i, di') :: (pre' ++ post')) st fin ∧ fpD di' = fpD di ∧ pre'.map (fun p => (p.1, fpD p.2)) = pre.map (fun p => (p.1, fpD p.2)) ∧ post' = post := by
  intro pre
  induction pre with
  | nil => intro post st h _; exact ⟨di, [], post, by simpa using h, rfl, rfl, rfl⟩
  | cons p pre ih =>
    obtain ⟨j, dj⟩ := p
    intro post st h hfree
    simp only [List.cons_append, RunD] at h
    obtain ⟨oj, hoj, hdj, hrun⟩ := h
    obtain ⟨di1, pre1, post1, hr1, hf1, hp1, hpost⟩ := ih post _ hrun (fun q hq => hfree q (by simp [hq]))
    simp only [RunD] at hr1
    obtain ⟨oi, hoi, hdi, hr1⟩ := hr1
    obtain ⟨hap, hdis⟩ := hfree (j, dj) (by simp)
    obtain ⟨a1, a2, a3⟩ := Oper.apart_spec (hap oj oi hoj hoi)
    obtain ⟨d1, d2, d3⟩ := disj_spec hdis
    simp only at d1 d2 d3
    -- i before j
    obtain ⟨di2, k1, k2, k3⟩ := (did_move (P := P) (base := base) (st := st) (i := i) (o := oi) (o' := oj) (d := di1) (d' := dj) a1 (by rw [hf1]; exact d1)).2 hdi
    obtain ⟨dj2, m1, m2, m3⟩ := (did_move (P := P) (base := base) (st := st) (i := j) (o := oj) (o' := oi) (d := dj) (d' := di2) a3 (by rw [k2, hf1]; exact d3)).1 hdj
    refine ⟨di2, (j, dj2) :: pre1, post1, ⟨oi, hoi, k1, oj, hoj, m1, ?_⟩, by rw [k2, hf1], by simp [hp1, m2], hpost⟩
    rw [m3, k3, ← appD_comm a2 (by rw [k2, hf1] at *; exact d2), ← k3]
    have e1 : appD oi di2 (appD oj dj st) = appD oi di1 (appD oj dj st) := k3 _
    rw [e1]
    exact hr1
end
end Go.SH
