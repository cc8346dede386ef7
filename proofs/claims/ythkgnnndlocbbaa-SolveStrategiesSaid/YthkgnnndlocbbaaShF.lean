/-
  THE SYMBOLIC HEAP, PART F: store, literals of slices and structs. No condition.
-/
import Derived.Test.YthkgnnndlocbbaaShE
namespace Go.SH
set_option linter.unusedVariables false
set_option linter.unusedSimpArgs false
open Go Go.RowKit
section
variable {P : Program} {φ φ' : Env} {H H' : List ABlk} {w w' : World} {a : Act} {o : Oper} {ρ : Operand → AV}

def deadAll (H : List ABlk) : List Nat → List ABlk
  | [] => H
  | i :: l => deadAll (hset H i .dead) l
theorem applyU_append (H : List ABlk) (x y : List (Nat × ABlk)) : applyU H (x ++ y) = applyU (applyU H x) y := by
  induction x generalizing H with
  | nil => rfl
  | cons p x ih => obtain ⟨i, b⟩ := p; simp only [List.cons_append, applyU]; exact ih _
theorem applyU_kills (l : List AV) : ∀ H, applyU H (kills l) = deadAll H (killIds l) := by
  induction l with
  | nil => intro H; rfl
  | cons x l ih => intro H; cases x <;> simp [kills, killIds, applyU, deadAll, ih]
theorem deadAll_get (l : List Nat) : ∀ (H : List ABlk) (k : Nat), k ∉ l → hget (deadAll H l) k = hget H k := by
  induction l with
  | nil => intros; rfl
  | cons i l ih =>
    intro H k hk
    simp only [deadAll]
    rw [ih _ _ (fun h => hk (List.mem_cons_of_mem _ h)), hget_set_ne _ _ _ _ (fun h => hk (by rw [h]; exact List.mem_cons_self ..))]
theorem deadAll_ok (l : List Nat) : ∀ H, HSat φ H w → (∀ i ∈ l, (hget H i).used = true) →
    HSat φ (deadAll H l) w ∧ Evo φ H w φ (deadAll H l) w ∧ ∀ k, Own φ (deadAll H l) k → k ∉ l ∧ Own φ H k := by
  induction l with
  | nil => intro H hs _; exact ⟨hs, Evo.refl φ H w, fun k h => ⟨by simp, h⟩⟩
  | cons i l ih =>
    intro H hs hu
    have h1 := hsat_kill hs (hu i (by simp))
    have e1 := evo_kill (φ := φ) (w := w) (hu i (by simp))
    obtain ⟨h2, e2, h3⟩ := ih (hset H i .dead) h1 (fun j hj => e1.used j (hu j (by simp [hj])))
    refine ⟨h2, e1.trans e2, fun k hk => ?_⟩
    obtain ⟨g1, g2⟩ := h3 k hk
    obtain ⟨g3, g4⟩ := own_kill g2
    exact ⟨by simp [g1, g3], g4⟩

theorem live_used : ∀ (l : List AV), liveAll H l → ∀ i ∈ killIds l, ∃ sz n f, hget H i = .vec sz n f := by
  intro l
  induction l with
  | nil => intro _ i hi; simp [killIds] at hi
  | cons x l ih =>
    intro h i hi
    cases x <;> simp only [killIds, liveAll, List.mem_cons] at h hi
    case sl id off len =>
      rcases hi with rfl | hi
      · exact h.1
      · exact ih h.2 i hi
    all_goals exact ih h i hi

theorem mem_killIds {l : List AV} {id off len : Nat} (h : AV.sl id off len ∈ l) : id ∈ killIds l := by
  induction l with
  | nil => simp at h
  | cons x l ih =>
    rcases List.mem_cons.1 h with e | h'
    · subst e; simp [killIds]
    · cases x <;> simp [killIds, ih h']

/-- What is given up becomes immutable. -/
theorem gnd_rep {l : List AV} {av : AV} {v : Value} (hs : HSat φ H w) (hlive : liveAll H l) (hm : av ∈ l) (hg : av.goneB = true) (h : Rep φ H w av v) :
    v.oneCell' = true ∧ RepG w (MB φ (deadAll H (killIds l))) (gnd H av) v := by
  have hu := live_used l hlive
  obtain ⟨h2, e2, h3⟩ := deadAll_ok (φ := φ) (w := w) (killIds l) H hs (fun i hi => by obtain ⟨sz, n, f, hb⟩ := hu i hi; rw [hb]; rfl)
  have sub : ∀ b, MB φ (deadAll H (killIds l)) b → MB φ H b := fun b hb => hb.imp (fun ⟨k, hk, hb⟩ => ⟨k, (h3 k hk).2, hb⟩) (fun h => h)
  have gcase : ∀ {av : AV} {v : Value}, RepG w (MB φ H) av v → RepG w (MB φ (deadAll H (killIds l))) av v := fun h => h.weaken sub
  cases av <;> simp only [AV.goneB] at hg <;> try cases hg
  · cases h.inv_int; exact ⟨rfl, .int _ _⟩
  · cases h.inv_bool; exact ⟨rfl, .bool _⟩
  · cases h.inv_str; exact ⟨rfl, .str _⟩
  · cases h.inv_raw; exact ⟨hg, .raw _⟩
  · rename_i f cs
    cases cs with
    | nil =>
      obtain ⟨vs, rfl, hl, _⟩ := h.inv_fn
      exact ⟨rfl, .fn hl (fun i c u hc => by simp at hc)⟩
    | cons c cs => simp [AV.goneB] at hg
  · obtain ⟨base, cap, b, o', sz, vs, rfl, _⟩ := h.ro_facts; exact ⟨rfl, gcase h.inv_ro⟩
  · obtain ⟨b, o', rfl, _⟩ := cells_of_rop h; exact ⟨rfl, gcase h.inv_rop⟩
  · rename_i id off len
    obtain ⟨base, cap', rfl, _⟩ := h.inv_sl
    obtain ⟨sz, n, f, hb⟩ := hu id (mem_killIds hm)
    refine ⟨rfl, ?_⟩
    simp only [gnd, hb]
    refine sl_ro hs hb h sub fun hlen hmb => ?_
    obtain ⟨base, cap', hv, hus, hbs, hl, hcm, hat⟩ := h.inv_sl
    obtain ⟨hoff, hcap, hbase⟩ := hat sz n (by simp [sig, hb, ABlk.sig])
    have own : Own φ H id := ⟨by simp [sig, hb, ABlk.sig], by omega⟩
    rcases hmb with ⟨k, hk, hkb⟩ | hext
    · obtain ⟨g1, g2⟩ := h3 k hk
      have e := hs.inj k id _ ⟨g2, hkb⟩ ⟨own, .inl rfl⟩
      subst e
      exact g1 (mem_killIds hm)
    · exact hs.ext' id own hext

theorem toList_cells {av : AV} {v : Value} (h : aggOr av = true) (hr : Rep φ H w av v) : (cellsA av).length = v.cells.toList.length := by
  have := (cells_rep h hr).1; simpa using this

theorem allone_agg {av : AV} (h : allA AV.one (cellsA av) = true) : aggOr av = true := by
  cases av <;> simp_all [cellsA, allA, aggOr, AV.one]
theorem gone_one {av : AV} (h : av.goneB = true) : av.one = true := by
  cases av <;> simp_all [AV.goneB, AV.one]
theorem allgone_one {l : List AV} (h : allA AV.goneB l = true) : allA AV.one l = true := by
  rw [allA_iff] at h ⊢
  exact fun a ha => gone_one (h a ha)

theorem cells_one {av : AV} {v : Value} (h : allA AV.one (cellsA av) = true) (hr : Rep φ H w av v) : ∀ u ∈ v.cells.toList, u.oneCell' = true := by
  obtain ⟨hl, hc⟩ := cells_rep (allone_agg h) hr
  intro u hu
  obtain ⟨i, hi, he⟩ := List.getElem_of_mem hu
  have hi' : i < v.cells.size := by simpa using hi
  have hic : i < (cellsA av).length := by omega
  have h1 := hc i _ _ (List.getElem?_eq_getElem hic) (Array.getElem?_eq_getElem hi')
  have h2 := (allA_iff _ _).1 h _ (List.getElem_mem hic)
  have h3 := (one_rep h2 h1).1
  rw [← he]; simpa using h3

/-- The row behind a store. -/
theorem row_get (cur : Array Value) (o' : Nat) (vs : List Value) (h : o' + vs.length ≤ cur.size) (i : Nat) :
    ((cur.toList.take o' ++ vs ++ cur.toList.drop (o' + vs.length)).toArray)[i]? = if o' ≤ i ∧ i < o' + vs.length then vs[i - o']? else cur[i]? := by
  simp only [List.getElem?_toArray, List.append_assoc]
  rw [List.getElem?_append]
  simp only [List.length_take, Array.length_toList]
  rw [Nat.min_eq_left (by omega)]
  by_cases h1 : i < o'
  · rw [if_pos h1, if_neg (by omega), List.getElem?_take, if_pos h1]; simp
  · rw [if_neg h1, List.getElem?_append]
    by_cases h2 : i - o' < vs.length
    · rw [if_pos h2, if_pos (by omega)]
    · rw [if_neg h2, if_neg (by omega), List.getElem?_drop]
      have : o' + vs.length + (i - o' - vs.length) = i := by omega
      rw [this]; simp

theorem run_storeVar' {t : TypeId} {b o' : Nat} {v : Value} {cur : Array Value} {T : TypeId} (hsz : 0 < (tiOf P t).size) (hl : v.cells.size = (tiOf P t).size)
    (hg : w.heap[b]? = some (.cells cur T (0, 0))) (hfit : o' + v.cells.size ≤ cur.size) (h1 : ∀ u ∈ v.cells.toList, u.oneCell' = true) :
    (storeVar t ⟨b, o', none⟩ v).run P w = .ok () (w.setRow b (cur.toList.take o' ++ v.cells.toList ++ cur.toList.drop (o' + v.cells.toList.length)).toArray) := by
  have h := run_storeCells_at P b o' T v.cells.toList 0 cur w hg (by simpa using hfit) h1
  simp only [Nat.add_zero] at h
  simp only [storeVar, Sem.run_bind, run_sizeOf' hsz, Result.andThen_ok, hl, ne_eq, not_true_eq_false, if_false, Sem.run_pure]
  exact h

theorem mat_put {id n i k m sz : Nat} {g : Nat → MRow} {f : Nat → List AV} {v : Value} {cur : Array Value} {T : TypeId} (hs : HSat φ H w) (hb : hget H id = .mat n g) (hi : i < n) (hk : hget H k = .vec sz m f) (hv : Rep φ H w (.sl k 0 m) v)
    (hheap : w.heap[(φ id).b]? = some (.cells cur T (0, 0))) :
    ∃ φ', HSat φ' (hset H id (.mat n (updG g i (.lent k)))) (w.setRow (φ id).b (cur.toList.take ((φ id).o + i) ++ v.cells.toList ++ cur.toList.drop ((φ id).o + i + v.cells.toList.length)).toArray) ∧
      Evo φ H w φ' (hset H id (.mat n (updG g i (.lent k)))) (w.setRow (φ id).b (cur.toList.take ((φ id).o + i) ++ v.cells.toList ++ cur.toList.drop ((φ id).o + i + v.cells.toList.length)).toArray) := by
  obtain ⟨w', hw'⟩ : ∃ w', w' = w.setRow (φ id).b (cur.toList.take ((φ id).o + i) ++ v.cells.toList ++ cur.toList.drop ((φ id).o + i + v.cells.toList.length)).toArray := ⟨_, rfl⟩
  have hother : ∀ b, b ≠ (φ id).b → w'.heap[b]? = w.heap[b]? := fun b hb' => by rw [hw']; exact setRow_other w _ b _ hb'
  have hsize : w'.heap.size = w.heap.size := by rw [hw']; simp
  have hnew := setRow_heap w (φ id).b cur (cur.toList.take ((φ id).o + i) ++ v.cells.toList ++ cur.toList.drop ((φ id).o + i + v.cells.toList.length)).toArray T (0, 0) hheap
  rw [← hw'] at hnew ⊢
  have hos : w'.os = w.os ∧ w'.tape = w.tape ∧ w'.output = w.output := by rw [hw']; exact ⟨rfl, rfl, rfl⟩
  have hB := hs.blk id
  rw [hb] at hB
  obtain ⟨hn, hcm, Ls, h3, h4, h5, h6⟩ := hB
  obtain ⟨cur', T', hheap', hfit, hcells⟩ := h6 (by omega)
  rw [hheap] at hheap'
  cases hheap'
  have hvc : v.cells = #[v] := by obtain ⟨base, cap', rfl, _⟩ := hv.inv_sl; rfl
  have hne : k ≠ id := fun e => by rw [e, hb] at hk; cases hk
  let φ' : Env := ⟨φ.loc, φ.ext, fun j b => if j = id then MatOwn Ls n (updG g i (.lent k)) b else φ.more j b, φ.base⟩
  have msub : ∀ b, MatOwn Ls n (updG g i (.lent k)) b → MatOwn Ls n g b := by
    rintro b ⟨q, hq, ho, hc, rfl⟩
    by_cases he : q = i
    · subst he; rw [updG_same] at ho; cases ho
    · rw [updG_ne _ _ he] at ho; exact ⟨q, hq, ho, hc, rfl⟩
  have hown : Own φ H id := ⟨by simp [sig, hb, ABlk.sig], by omega⟩
  have up : ∀ j b, OwnB φ' (hset H id (.mat n (updG g i (.lent k)))) j b → OwnB φ H j b := by
    rintro j b ⟨⟨g1, g2⟩, g3⟩
    by_cases he : j = id
    · subst he
      refine ⟨hown, g3.imp (fun h => h) fun h => (h3 b).2 (msub b ?_)⟩
      simpa [φ'] using h
    · rw [sig, hget_set_ne _ _ _ _ he] at g1
      exact ⟨⟨g1, g2⟩, g3.imp (fun h => h) fun h => by simpa [φ', he] using h⟩
  have e : Evo φ H w φ' (hset H id (.mat n (updG g i (.lent k)))) w' := by
    refine ⟨hos.1, hos.2.1, hos.2.2, by omega, rfl, rfl, fun b _ hm => hother b fun he => hm (he ▸ hown.b), fun b ⟨j, hj⟩ => .inr ⟨j, up j b hj⟩, fun j hj => ?_, fun j s hj hs' => ?_⟩
    · by_cases he : j = id
      · subst he; rw [hget_set_same]; rfl
      · rw [hget_set_ne _ _ _ _ he]; exact hj
    · by_cases he : j = id
      · subst he; rw [sig, hget_set_same] at hs'; exact ⟨by rw [sig, hb]; exact hs', rfl⟩
      · rw [sig, hget_set_ne _ _ _ _ he] at hs'; exact ⟨hs', rfl⟩
  refine ⟨φ', ⟨fun j => ?_, fun p q b hp hq => hs.inj p q b (up p b hp) (up q b hq), fun j b hj => hs.ext j b (up j b hj), fun b hb => by rw [hsize]; exact hs.extlt b hb⟩, e⟩
  by_cases he : j = id
  · subst he
    rw [hget_set_same]
    refine ⟨hn, hcm, Ls, fun b => by simp [φ'], fun h => h4 (msub _ h), fun p q hp hq gp gq cp cq e => ?_, fun _ => ⟨_, T, hnew, ?_, fun q hq => ?_⟩⟩
    · have hp' : p ≠ i := fun e => by subst e; rw [updG_same] at gp; cases gp
      have hq' : q ≠ i := fun e => by subst e; rw [updG_same] at gq; cases gq
      rw [updG_ne _ _ hp'] at gp
      rw [updG_ne _ _ hq'] at gq
      exact h5 p q hp hq gp gq cp cq e
    · simp only [hvc, List.size_toArray, List.length_append, List.length_take, List.length_drop, Array.length_toList, List.length_cons, List.length_nil]
      show (φ j).o + (φ j).cap ≤ _
      omega
    · show ∃ u, _[(φ j).o + q]? = some u ∧ _
      rw [hvc, row_get cur _ _ (by simp; omega)]
      by_cases hqi : q = i
      · subst hqi
        refine ⟨v, by simp, ?_⟩
        rw [updG_same]
        exact ⟨m, fun sz' n' h => by rw [sig, hget_set_ne _ _ _ _ hne] at h; simp [hk, ABlk.sig] at h; exact h.2, hv.evo e⟩
      · obtain ⟨u, g1, g2⟩ := hcells q hq
        refine ⟨u, by rw [if_neg (by simp; omega)]; exact g1, ?_⟩
        rw [updG_ne _ _ hqi]
        refine g2.keepG (fun _ _ h => h.evo e) (fun id s h1 h2 => (e.ids id s h1 h2).1) (fun _ _ h => h.move e.frame' e.sub) fun ho hc => hother _ fun he => h4 ?_
        exact ⟨q, hq, ho, hc, he⟩
  · rw [hget_set_ne _ _ _ _ he]
    refine BRep.keep e rfl (fun b => by simp [φ', he]) (fun b h1 h2 h3 => hother b fun hb => ?_) (hs.blk j)
    exact he (hs.inj j id b ⟨⟨h1, h2⟩, h3⟩ ⟨hown, .inl hb.symm⟩)

theorem sound_store {t : TypeId} {x y : Operand} (ho : o.op = .store t x y) (hs : HSat φ H w) (hρ : ∀ x, Rep φ H w (ρ x) (a.eval x)) :
    SoundEff P φ H w a o (eStore H (tiOf P t) (ρ x) (ρ y)) := by
  have hx := hρ x
  have hy := hρ y
  have run : ∀ b o' w', a.eval x = .pointer (some ⟨b, o', none⟩) → (storeVar t ⟨b, o', none⟩ (a.eval y)).run P w = .ok () w' → Runs P a w o undef w' := by
    intro b o' w' hv hr
    exact .inr ⟨by simp [execOp, ho, Instr.storeAt, hv, Instr.sureAddr, hr], rfl⟩
  unfold eStore
  split
  · rename_i id i j hX
    rw [hX] at hx
    split
    · rename_i cs hb
      intro hc
      obtain ⟨h0, h1, h2, h3⟩ := hc
      rw [alen_eq] at h1 h3
      rw [alen_eq] at h3
      obtain ⟨rfl, hj, hv, hcs⟩ := cells_of_box hs hb hx
      have hB := hs.blk id
      rw [hb] at hB
      obtain ⟨hcap, hnm, cur, T, hheap, hcur⟩ := hB
      obtain ⟨hl, hcells⟩ := cells_rep (allone_agg h2) hy
      have hone := cells_one h2 hy
      have hown : Own φ H id := ⟨by simp [sig, hb, ABlk.sig], by omega⟩
      have hfit0 : (φ id).o + cs.length ≤ cur.size := by
        rcases Nat.eq_zero_or_pos cs.length with e | e
        · omega
        · obtain ⟨v, hv, _⟩ := hcur (cs.length - 1) _ (List.getElem?_eq_getElem (by omega))
          have := (Array.getElem?_eq_some_iff.1 hv).1
          omega
      have hr := run_storeVar' (P := P) (t := t) (o' := (φ id).o + j) h0 (by omega) hheap (by omega) hone
      have hsig : (ABlk.box (spliceA cs j (cellsA (ρ y)))).sig = sig H id := by simp [sig, hb, ABlk.sig, spliceA_length]
      have e := evo_put (w' := w.setRow (φ id).b (cur.toList.take ((φ id).o + j) ++ (a.eval y).cells.toList ++ cur.toList.drop ((φ id).o + j + (a.eval y).cells.toList.length)).toArray)
        hs hsig hown (fun _ => trivial) rfl rfl rfl (by simp) (fun b hb' => setRow_other w _ b _ hb')
      refine ⟨undef, _, φ, run _ _ _ hv hr, hsat_put hs hsig hown rfl rfl rfl (by simp) (fun b hb' => setRow_other w _ b _ hb') ?_, .undef _, e⟩
      refine ⟨hcap, hnm, _, T, setRow_heap w _ cur _ T _ hheap, fun k av hk => ?_⟩
      have hkl : k < cs.length := by have := (List.getElem?_eq_some_iff.1 hk).1; rw [spliceA_length] at this; exact this
      rw [row_get cur _ _ (by simp; omega)]
      rw [spliceA_get _ _ _ _ hkl] at hk
      by_cases hin : j ≤ k ∧ k < j + (cellsA (ρ y)).length
      · rw [if_pos hin] at hk
        have hlt : k - j < (a.eval y).cells.size := by omega
        refine ⟨(a.eval y).cells[k - j], ?_, (hcells _ _ _ hk (Array.getElem?_eq_getElem hlt)).evo e⟩
        rw [if_pos (by simp; omega)]
        have : (φ id).o + k - ((φ id).o + j) = k - j := by omega
        rw [this]; simp [hlt]
      · rw [if_neg hin] at hk
        obtain ⟨v, hv', hrep⟩ := hcur k av hk
        refine ⟨v, ?_, hrep.evo e⟩
        rw [if_neg (by simp; omega)]; exact hv'
    · rename_i sz n f hb
      intro hc
      obtain ⟨h0, h1, h2, h3, h4, h5⟩ := hc
      rw [alen_eq] at h1 h3
      obtain ⟨hi, hj, hfl, hv, _⟩ := cells_of_vec hs hb hx
      have hB := hs.blk id
      rw [hb] at hB
      obtain ⟨hnm, hszp, hnc, hcc, hlen, hcells0⟩ := hB
      have hown : Own φ H id := ⟨by simp [sig, hb, ABlk.sig], by omega⟩
      obtain ⟨cur, T, hheap, hfit, hcur⟩ := hcells0 (by omega)
      have h2' := allgone_one h2
      obtain ⟨hl, hcells⟩ := cells_rep (allone_agg h2') hy
      have hone := cells_one h2' hy
      have hub := live_used _ h5
      obtain ⟨hs1, e1, hown1⟩ := deadAll_ok (φ := φ) (w := w) (killIds (cellsA (ρ y))) H hs (fun i hi => by obtain ⟨sz, n, f, hb⟩ := hub i hi; rw [hb]; rfl)
      have hbd : hget (deadAll H (killIds (cellsA (ρ y)))) id = .vec sz n f := by rw [deadAll_get _ _ _ h4]; exact hb
      have hlt : i * sz + sz ≤ (φ id).cap * sz := by
        have : (i + 1) * sz ≤ (φ id).cap * sz := Nat.mul_le_mul_right sz (by omega)
        rw [Nat.add_mul, Nat.one_mul] at this; exact this
      have hr := run_storeVar' (P := P) (t := t) (o' := (φ id).o + i * sz + j) h0 (by omega) hheap (by omega) hone
      have hsig : (ABlk.vec sz n (updF f i (spliceA (f i) j (mapA (gnd H) (cellsA (ρ y)))))).sig = sig (deadAll H (killIds (cellsA (ρ y)))) id := by simp [sig, hbd, ABlk.sig]
      have hown' : Own φ (deadAll H (killIds (cellsA (ρ y)))) id := ⟨by simp [sig, hbd, ABlk.sig], by omega⟩
      have e := evo_put (w' := w.setRow (φ id).b (cur.toList.take ((φ id).o + i * sz + j) ++ (a.eval y).cells.toList ++ cur.toList.drop ((φ id).o + i * sz + j + (a.eval y).cells.toList.length)).toArray)
        hs1 hsig hown' (fun _ => trivial) rfl rfl rfl (by simp) (fun b hb' => setRow_other w _ b _ hb')
      rw [applyU_append, applyU_kills]
      refine ⟨undef, _, φ, run _ _ _ hv hr, hsat_put hs1 hsig hown' rfl rfl rfl (by simp) (fun b hb' => setRow_other w _ b _ hb') ?_, .undef _, e1.trans e⟩
      refine ⟨hnm, hszp, hnc, hcc, ?_, fun _ => ⟨_, T, setRow_heap w _ cur _ T _ hheap, ?_, ?_⟩⟩
      · intro k hk
        simp only [updF]
        split
        · rename_i hki; subst hki; rw [spliceA_length]; exact hlen _ hk
        · exact hlen _ hk
      · simp only [List.size_toArray, List.length_append, List.length_take, List.length_drop, Array.length_toList]; omega
      · intro k q av hk hav
        rw [row_get cur _ _ (by simp; omega)]
        have old : ∀ av, (f k)[q]? = some av → ¬ ((φ id).o + i * sz + j ≤ (φ id).o + k * sz + q ∧ (φ id).o + k * sz + q < (φ id).o + i * sz + j + (a.eval y).cells.toList.length) →
            ∃ v, (if (φ id).o + i * sz + j ≤ (φ id).o + k * sz + q ∧ (φ id).o + k * sz + q < (φ id).o + i * sz + j + (a.eval y).cells.toList.length then (a.eval y).cells.toList[(φ id).o + k * sz + q - ((φ id).o + i * sz + j)]? else cur[(φ id).o + k * sz + q]?) = some v ∧ v.oneCell' = true ∧
              RepG (w.setRow (φ id).b (cur.toList.take ((φ id).o + i * sz + j) ++ (a.eval y).cells.toList ++ cur.toList.drop ((φ id).o + i * sz + j + (a.eval y).cells.toList.length)).toArray) (MB φ (hset (deadAll H (killIds (cellsA (ρ y)))) id (.vec sz n (updF f i (spliceA (f i) j (mapA (gnd H) (cellsA (ρ y)))))))) av v := by
          intro av hav hne
          obtain ⟨v, g1, g2, g3⟩ := hcur k q av hk hav
          refine ⟨v, by rw [if_neg hne]; exact g1, g2, ?_⟩
          exact (g3.move e1.frame' e1.sub).move e.frame' e.sub
        have hql : q < sz := by
          have := (List.getElem?_eq_some_iff.1 hav).1
          simp only [updF] at this
          split at this
          · rw [spliceA_length, hfl] at this; exact this
          · rw [hlen k hk] at this; exact this
        simp only [updF] at hav
        split at hav
        · rename_i hki
          subst hki
          rw [spliceA_get _ _ _ _ (by rw [hfl]; exact hql)] at hav
          rw [mapA_eq, List.length_map] at hav
          split at hav
          · rename_i hin
            simp only [List.getElem?_map] at hav
            have hlt' : q - j < (cellsA (ρ y)).length := by omega
            rw [List.getElem?_eq_getElem hlt'] at hav
            simp only [Option.map_some, Option.some.injEq] at hav
            subst hav
            have hlt2 : q - j < (a.eval y).cells.size := by omega
            have hrep := hcells _ _ _ (List.getElem?_eq_getElem hlt') (Array.getElem?_eq_getElem hlt2)
            obtain ⟨g1, g2⟩ := gnd_rep hs h5 (List.getElem_mem hlt') ((allA_iff _ _).1 h2 _ (List.getElem_mem hlt')) hrep
            refine ⟨(a.eval y).cells[q - j], ?_, g1, g2.move e.frame' e.sub⟩
            rw [if_pos (by simp; omega)]
            have : (φ id).o + k * sz + q - ((φ id).o + k * sz + j) = q - j := by omega
            rw [this]; simp [hlt2]
          · rename_i hin
            exact old av hav (by simp; omega)
        · rename_i hki
          refine old av hav ?_
          intro hin
          obtain ⟨i1, i2⟩ := hin
          simp only [Array.length_toList] at i2
          have hlt3 : j + (a.eval y).cells.size ≤ sz := by omega
          rcases Nat.lt_or_gt_of_ne hki with hlt | hgt
          · have : (k + 1) * sz ≤ i * sz := Nat.mul_le_mul_right sz hlt
            rw [Nat.add_mul, Nat.one_mul] at this
            omega
          · have : (i + 1) * sz ≤ k * sz := Nat.mul_le_mul_right sz hgt
            rw [Nat.add_mul, Nat.one_mul] at this
            omega
    · rename_i n g hb
      split
      · rename_i k m hY
        rw [hY] at hy
        split
        · rename_i sz m' f hk
          rintro ⟨rfl, rfl, hagg, hsz⟩
          obtain ⟨ad, hv, _, h⟩ := hx.inv_ptr
          obtain ⟨hi, hj, rfl⟩ := h 1 n (by simp [sig, hb, ABlk.sig])
          have hB := hs.blk id
          rw [hb] at hB
          obtain ⟨hn, _, Ls, _, _, _, h6⟩ := hB
          obtain ⟨cur, T, hheap, hfit, _⟩ := h6 (by omega)
          obtain ⟨φ', g1, e⟩ := mat_put hs hb hi hk hy hheap
          obtain ⟨base, cap', hyv, _⟩ := hy.inv_sl
          have hr := run_storeVar' (P := P) (t := t) (o' := (φ id).o + i) (v := a.eval y) (by omega) (by rw [hyv, hsz]; rfl) hheap (by rw [hyv]; simp [Value.cells]; omega) (by rw [hyv]; simp [Value.cells, Value.oneCell'])
          exact ⟨undef, _, φ', run _ _ _ (by simpa using hv) hr, g1, .undef _, e⟩
        · trivial
      · trivial
    · trivial
  · trivial
end
end Go.SH
