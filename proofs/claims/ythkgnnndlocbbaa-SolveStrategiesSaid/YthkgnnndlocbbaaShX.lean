/-
  THE SYMBOLIC HEAP, PART X: what is handed to a law, as typed lists; a law's contract out of its function's. No condition.
-/
import Derived.Test.YthkgnnndlocbbaaShV
import Derived.Carry
import Derived.ChangeSame
import Derived.ChangeArms
import Derived.WideShapes
import Derived.OpenShut
namespace Go.SH
set_option linter.unusedVariables false
set_option linter.unusedSimpArgs false
open Go Go.RowKit Go.WideShapes Go.ChangeShapes

/-- Cells that hold what is said. -/
def CellsRep (w : World) (avs : List AV) (cs : List Value) : Prop :=
  avs.length = cs.length ∧ (∀ (j : Nat) av v, avs[j]? = some av → cs[j]? = some v → RepG w (fun _ => False) av v) ∧ ∀ v ∈ cs, v.oneCell' = true
/-- What is read at a type is one of a typed kind. -/
def Reads (P : Program) (t : TypeId) {α : Type} (e : α → List AV) (ok : α → Prop) : Prop :=
  ∀ {H : Type} (enc : TypeId × Value → H) (w : World) (base : Nat) (sp : Nat → Bool) (held : Bool) (fuel : Nat) (cs : List Value) (d : DataW H × List MemPlace), DataW.trod enc P w base sp held fuel t cs = some d → ∃ x, ok x ∧ CellsRep w (e x) cs

section
variable {P : Program} {w : World}
theorem CellsRep.one {av : AV} {v : Value} (h : RepG w (fun _ => False) av v) (ho : v.oneCell' = true) : CellsRep w [av] [v] := by
  refine ⟨rfl, fun j a u h1 h2 => ?_, fun u hu => by simp at hu; subst hu; exact ho⟩
  cases j with
  | zero => simp at h1 h2; subst h1 h2; exact h
  | succ j => simp at h1
theorem reads_int {t : TypeId} {k : IntKind} (ht : P.underlying t = some (.int k)) : Reads P t (cInt k) (inR k) := by
  intro H enc w base sp held fuel cs d h
  obtain ⟨n, rfl, _, hw⟩ := DataW.trod_int ht h
  refine ⟨n, ?_, .one (.int k n) rfl⟩
  cases k <;> simpa [Lit.wf, IntKind.min, IntKind.max, IntKind.signed, IntKind.bits, inR] using hw
theorem reads_byte {t : TypeId} (ht : P.underlying t = some (.int .u8)) : Reads P t cByte (fun _ => True) := by
  intro H enc w base sp held fuel cs d h
  obtain ⟨n, h1, h2⟩ := reads_int ht enc w base sp held fuel cs d h
  simp only [inR] at h1
  have e : cByte n.toNat.toUInt8 = cInt .u8 n := by
    rw [← cell_byte h1.1]
    simp only [cInt]
    rw [Int.emod_eq_of_lt h1.1 (by omega)]
  exact ⟨n.toNat.toUInt8, trivial, by rw [e]; exact h2⟩
theorem reads_bool {t : TypeId} (ht : P.underlying t = some .bool) : Reads P t cBool (fun _ => True) := by
  intro H enc w base sp held fuel cs d h
  obtain ⟨b, rfl, _⟩ := DataW.trod_bool ht h
  exact ⟨b, trivial, .one (.bool b) rfl⟩
theorem reads_str {t : TypeId} (ht : P.underlying t = some .string) : Reads P t cStr (fun s => s.length ≤ maxLen) := by
  intro H enc w base sp held fuel cs d h
  obtain ⟨s, rfl, _, hs⟩ := DataW.trod_string ht h
  refine ⟨s.data.toList, by simpa using hs, .one ?_ rfl⟩
  have := RepG.str (w := w) (M := fun _ => False) s.data.toList
  simpa using this

theorem mapM_range {β : Type} (f : Nat → Option β) : ∀ (n : Nat) (l : List β), (List.range n).mapM f = some l → l.length = n ∧ ∀ i, i < n → f i = l[i]? := by
  intro n
  induction n with
  | zero => intro l h; simp at h; subst h; simp
  | succ n ih =>
    intro l h
    rw [List.range_succ, List.mapM_append] at h
    simp only [List.mapM_cons, List.mapM_nil] at h
    cases h1 : (List.range n).mapM f with
    | none => simp [h1] at h
    | some l1 =>
      cases h2 : f n with
      | none => simp [h1, h2] at h
      | some y =>
        simp [h1, h2] at h
        subst h
        obtain ⟨g1, g2⟩ := ih l1 h1
        refine ⟨by simp [g1], fun i hi => ?_⟩
        by_cases he : i = n
        · subst he; rw [h2, List.getElem?_append_right (by omega)]; simp [g1]
        · rw [g2 i (by omega), List.getElem?_append_left (by omega)]
theorem cells_at {base : Nat} {a : Addr} {n : Nat} {l : List Value} (h : w.cells? base a n = some l) : l.length = n ∧ ∀ i, i < n → w.cell? (a.add i) = l[i]? := by
  unfold World.cells? at h
  split at h
  · exact mapM_range _ n l h
  · cases h
theorem cell_spot {a : Addr} {v : Value} (h : w.cell? a = some v) : a.spot = none := by
  unfold World.cell? at h
  split at h
  · split at h
    · cases h
    · rename_i hs; cases hx : a.spot <;> simp [hx] at hs ⊢
  · cases h

/-- Rows. -/
theorem reads_row {t e : TypeId} {α : Type} {en : α → List AV} {ok : α → Prop} (d0 : α) (ht : P.underlying t = some (.slice e)) (hsz : 0 < P.cellsOf e) (he : Reads P e en ok) :
    Reads P t (cRow en d0) (fun xs => xs.length ≤ maxLen ∧ ∀ x ∈ xs, ok x) := by
  intro H enc w base sp held fuel cs d h
  rcases DataW.trod_slice ht h with ⟨rfl, _⟩ | ⟨a, len, cap, elems, rest, n, _, rfl, _, hba, hlc, hcm, hel, hat, _⟩
  · refine ⟨[], ⟨Nat.zero_le _, fun x hx => by simp at hx⟩, .one ?_ rfl⟩
    exact .ro none 0 0 0 1 (fun _ => Go.undef) (Nat.le_refl _) (by simp) (by simp) (fun h => by simp at h) (fun h => by simp at h) (fun k h => by simp at h) (fun k h => by simp at h) (fun i h => by simp at h) (fun i j c h => by simp at h)
  · -- each element
    have each : ∀ i, i < len → ∃ x l, ok x ∧ w.cells? base (a.add (i * P.cellsOf e)) (P.cellsOf e) = some l ∧ CellsRep w (en x) l := by
      intro i hi
      have h1 := hat i hi
      rw [List.getElem?_eq_getElem (by omega)] at h1
      cases hc : w.cells? base (a.add (i * P.cellsOf e)) (P.cellsOf e) with
      | none => rw [hc] at h1; simp at h1
      | some l =>
        rw [hc] at h1
        simp only [Option.bind_some] at h1
        obtain ⟨x, hx, hr⟩ := he enc w base sp held n l _ h1
        exact ⟨x, l, hx, rfl, hr⟩
    have pick : ∀ m, m ≤ len → ∃ xs : List α, xs.length = m ∧ (∀ x ∈ xs, ok x) ∧ ∀ i, i < m → ∃ x l, xs[i]? = some x ∧ w.cells? base (a.add (i * P.cellsOf e)) (P.cellsOf e) = some l ∧ CellsRep w (en x) l := by
      intro m
      induction m with
      | zero => intro _; exact ⟨[], rfl, fun x hx => by simp at hx, fun i hi => by omega⟩
      | succ m ih =>
        intro hm
        obtain ⟨xs, h1, h2, h3⟩ := ih (by omega)
        obtain ⟨x, l, g1, g2, g3⟩ := each m (by omega)
        refine ⟨xs ++ [x], by simp [h1], fun y hy => ?_, fun i hi => ?_⟩
        · rcases List.mem_append.1 hy with hy | hy
          · exact h2 y hy
          · simp at hy; subst hy; exact g1
        · by_cases hie : i = m
          · subst hie; exact ⟨x, l, by rw [List.getElem?_append_right (by omega)]; simp [h1], g2, g3⟩
          · obtain ⟨y, l', k1, k2, k3⟩ := h3 i (by omega)
            exact ⟨y, l', by rw [List.getElem?_append_left (by omega)]; exact k1, k2, k3⟩
    obtain ⟨xs, x1, x2, x3⟩ := pick len (Nat.le_refl _)
    have hspot : 0 < len → a.spot = none := by
      intro hl
      obtain ⟨x, l, _, k2, _⟩ := x3 0 hl
      obtain ⟨c1, c2⟩ := cells_at k2
      have := c2 0 hsz
      rw [Nat.zero_mul] at this
      have e0 : a.add 0 = a := rfl
      rw [e0, e0, List.getElem?_eq_getElem (by omega)] at this
      exact cell_spot this
    have hadd : ∀ i j, 0 < len → (a.add (i * P.cellsOf e)).add j = ⟨a.block, a.off + (i * P.cellsOf e + j), none⟩ := by
      intro i j hl
      have := hspot hl
      obtain ⟨b, o, s⟩ := a
      simp only at this; subst this
      simp only [Addr.add_lit]
      rw [Nat.add_assoc]
    -- the cells
    let vs : Nat → Value := fun k => (w.cell? ⟨a.block, a.off + k, none⟩).getD Go.undef
    have cell : ∀ i j, i < len → j < P.cellsOf e → ∃ x l v, xs[i]? = some x ∧ CellsRep w (en x) l ∧ l.length = P.cellsOf e ∧ l[j]? = some v ∧ w.cell? ⟨a.block, a.off + (i * P.cellsOf e + j), none⟩ = some v := by
      intro i j hi hj
      obtain ⟨x, l, k1, k2, k3⟩ := x3 i hi
      obtain ⟨c1, c2⟩ := cells_at k2
      refine ⟨x, l, l[j], k1, k3, c1, List.getElem?_eq_getElem (by omega), ?_⟩
      have := c2 j hj
      rw [hadd i j (by omega), List.getElem?_eq_getElem (by omega)] at this
      exact this
    have split : ∀ k, k < len * P.cellsOf e → ∃ i j, i < len ∧ j < P.cellsOf e ∧ k = i * P.cellsOf e + j := by
      intro k hk
      refine ⟨k / P.cellsOf e, k % P.cellsOf e, Nat.div_lt_of_lt_mul (by rwa [Nat.mul_comm]), Nat.mod_lt _ hsz, ?_⟩
      rw [Nat.mul_comm]; exact (Nat.div_add_mod k (P.cellsOf e)).symm
    refine ⟨xs, ⟨by omega, x2⟩, .one ?_ rfl⟩
    rw [x1]
    refine .ro (some a) cap a.block a.off (P.cellsOf e) vs hlc (by unfold maxLen at hcm; omega) hsz (fun hl => by have := hspot hl; obtain ⟨b, o, s⟩ := a; simp only at this; subst this; rfl) (fun _ h => h) (fun k hk => ?_) (fun k hk => ?_) (fun i hi => ?_) (fun i j c hi hc => ?_)
    · obtain ⟨i, j, hi, hj, rfl⟩ := split k hk
      obtain ⟨x, l, v, _, _, _, _, h5⟩ := cell i j hi hj
      simp only [vs, h5, Option.getD_some]
    · obtain ⟨i, j, hi, hj, rfl⟩ := split k hk
      obtain ⟨x, l, v, _, h2, _, h4, h5⟩ := cell i j hi hj
      simp only [vs, h5, Option.getD_some]
      exact h2.2.2 v (List.mem_of_getElem? h4)
    · obtain ⟨x, l, v, h1, h2, h3, _, _⟩ := cell i 0 hi hsz
      have : encL en d0 xs i = en x := by simp [encL, List.getD_eq_getElem?_getD, h1]
      rw [this, h2.1, h3]
    · obtain ⟨x, l, k1, k2, k3⟩ := x3 i hi
      have ee : encL en d0 xs i = en x := by simp [encL, List.getD_eq_getElem?_getD, k1]
      rw [ee] at hc
      have hjl : j < (en x).length := (List.getElem?_eq_some_iff.1 hc).1
      obtain ⟨c1, _⟩ := cells_at k2
      obtain ⟨x', l', v, h1, h2, h3, h4, h5⟩ := cell i j hi (by rw [← c1, ← k3.1]; exact hjl)
      rw [k1] at h1
      cases h1
      simp only [vs, h5, Option.getD_some]
      exact h2.2.1 j c v hc h4

theorem CellsRep.append {as bs : List AV} {cs ds : List Value} (h : CellsRep w as cs) (k : CellsRep w bs ds) : CellsRep w (as ++ bs) (cs ++ ds) := by
  refine ⟨by simp [h.1, k.1], fun j av v h1 h2 => ?_, fun v hv => ?_⟩
  · rw [List.getElem?_append] at h1 h2
    rw [h.1] at h1
    split at h1
    · rename_i hj; rw [if_pos hj] at h2; exact h.2.1 j av v h1 h2
    · rename_i hj; rw [if_neg hj] at h2; exact k.2.1 _ av v h1 h2
  · rcases List.mem_append.1 hv with hv | hv
    · exact h.2.2 v hv
    · exact k.2.2 v hv
/-- Structs of two, three and more fields that lie side by side. -/
theorem reads_struct3 {t : TypeId} {f0 f1 f2 : Field} {α β γ : Type} {ea : α → List AV} {eb : β → List AV} {ec : γ → List AV} {oa : α → Prop} {ob : β → Prop} {oc : γ → Prop} (ht : P.underlying t = some (.struct #[f0, f1, f2]))
    (h0 : f0.offset = 0) (h1 : f1.offset = P.cellsOf f0.type) (h2 : f2.offset = P.cellsOf f0.type + P.cellsOf f1.type) (hl : P.cellsOf t = P.cellsOf f0.type + P.cellsOf f1.type + P.cellsOf f2.type)
    (ra : Reads P f0.type ea oa) (rb : Reads P f1.type eb ob) (rc : Reads P f2.type ec oc) : Reads P t (fun x : α × β × γ => ea x.1 ++ (eb x.2.1 ++ ec x.2.2)) (fun x => oa x.1 ∧ ob x.2.1 ∧ oc x.2.2) := by
  intro H enc w base sp held fuel cs d h
  obtain ⟨xs, n, _, _, hlen, hxs, hf⟩ := DataW.trod_struct ht h
  have at_ : ∀ (i : Nat) (f : Field), #[f0, f1, f2][i]? = some f → i < 3 → ∃ y, DataW.trod enc P w base sp held n f.type ((cs.drop f.offset).take (P.cellsOf f.type)) = some y := by
    intro i f hi hlt
    rw [hf i f hi]
    exact ⟨_, List.getElem?_eq_getElem (by rw [hxs]; exact hlt)⟩
  obtain ⟨y0, g0⟩ := at_ 0 f0 rfl (by decide)
  obtain ⟨y1, g1⟩ := at_ 1 f1 rfl (by decide)
  obtain ⟨y2, g2⟩ := at_ 2 f2 rfl (by decide)
  obtain ⟨a, oka, ca⟩ := ra enc w base sp held n _ _ g0
  obtain ⟨b, okb, cb⟩ := rb enc w base sp held n _ _ g1
  obtain ⟨c, okc, cc⟩ := rc enc w base sp held n _ _ g2
  refine ⟨(a, b, c), ⟨oka, okb, okc⟩, ?_⟩
  have e : cs = (cs.drop f0.offset).take (P.cellsOf f0.type) ++ ((cs.drop f1.offset).take (P.cellsOf f1.type) ++ (cs.drop f2.offset).take (P.cellsOf f2.type)) := by
    rw [h0, h1, h2, List.drop_zero]
    have e2 : (cs.drop (P.cellsOf f0.type + P.cellsOf f1.type)).take (P.cellsOf f2.type) = cs.drop (P.cellsOf f0.type + P.cellsOf f1.type) := List.take_of_length_le (by simp; omega)
    rw [e2, ← List.drop_drop, List.take_append_drop, List.take_append_drop]
  rw [e]
  exact ca.append (cb.append cc)

/-! a law -/
variable {H : Type} {enc : TypeId × Value → H}
theorem post_of_below {f : Func} {s : ChangeSpec} {apart fresh handsOn again : Bool} {W W' : World} {args : Array Value} {v : Value} {ds gs : List (DataW H)} {before pa pv : List MemPlace}
    (hW : DataW.Whole enc P f.params.toList s.vars apart W args.toList ds gs before)
    (hres : ∀ (b : Nat) (sp : Nat → Bool) (hd : Bool), DataW.TrodAll enc P W' b sp hd f.resultTypes.toList (v.resultList f.resultTypes.size) (s.fn H (ds ++ gs)).results [])
    (hargs : ∀ sp : Nat → Bool, (∀ p ∈ before, sp p.block = true) → DataW.TrodAll enc P W' 0 sp true f.params.toList args.toList (s.fn H (ds ++ gs)).args pa)
    (hvars : ∀ sp : Nat → Bool, (∀ p ∈ before, sp p.block = true) → DataW.TrodVars enc P W' sp s.vars (s.fn H (ds ++ gs)).vars pv)
    (hps : before = pa ++ pv) (hb : Below W.heap.size W W')
    (hok : ∀ (j : Nat) (t : TypeId) (r : Value), f.resultTypes[j]? = some t → (v.resultList f.resultTypes.size)[j]? = some r → Value.okWide P W' .any 0 t r) :
    s.post enc P f apart fresh handsOn again W args v W' := by
  have hlt : ∀ p ∈ before, p.block < W.heap.size := fun p hp => hW.lt p hp
  have hold : ∀ p ∈ before, (fun b => decide (b < W.heap.size)) p.block = true := fun p hp => by simpa using hlt p hp
  refine ⟨ds, gs, before, [], pa, pv, hW, hres _ _ _, hargs _ hold, hvars _ hold, World.keptBut_mono (fun p hp => ⟨hp, ?_⟩) (hb.frame (· ∈ before)), fun _ => ?_⟩
  · rw [hps, List.mem_append] at hp
    exact Or.inr hp
  · obtain ⟨_, _, _, _, _, hz, hn⟩ := hW
    refine ⟨hok, _, _, ([] ++ pa) ++ pv, ⟨[] ++ pa, pv, trodAll_append (hargs _ (fun _ _ => rfl)) (hres _ _ _), hvars _ (fun _ _ => rfl), rfl, ?_, ?_⟩, ?_⟩
    · intro b off hp
      have hin : MemPlace.cell b off ∈ before := by rw [hps]; simpa using hp
      rw [hb.frozen (hlt _ hin)]
      exact hz b off hin
    · intro ha
      have := hn ha
      rw [hps] at this
      simpa using this
    · intro p hp _
      rw [hps]
      simpa using hp

/-- Arguments read behind the call as before. -/
theorem trodAll_stays {W W' : World} (hl : laidOutB P = true) (hb : Below W.heap.size W W') {sp : Nat → Bool} : ∀ (ts : List TypeId) (vs : List Value) (ds : List (DataW H)) (p : List MemPlace), (∀ t ∈ ts, P.readableRec t = true ∧ t < P.types.size) →
    DataW.TrodAll enc P W 0 (fun _ => true) true ts vs ds p → (∀ x ∈ p, x.block < W.heap.size) → (∀ x ∈ p, sp x.block = true) → DataW.TrodAll enc P W' 0 sp true ts vs ds p := by
  intro ts
  induction ts with
  | nil => intro vs ds p _ h _ _; cases vs <;> cases ds <;> simp_all [DataW.TrodAll]
  | cons t ts ih =>
    intro vs ds p ht h hlt hs
    cases vs with
    | nil => cases ds <;> simp [DataW.TrodAll] at h
    | cons v vs => cases ds with
      | nil => simp [DataW.TrodAll] at h
      | cons d ds =>
        obtain ⟨q, r, h1, h2, rfl⟩ := h
        obtain ⟨g1, g2⟩ := ht t (by simp)
        exact ⟨q, r, WideElems.Trod_stays hl g1 g2 h1 (fun x hx => hb.same (hlt x (by simp [hx]))) (fun x hx => hs x (by simp [hx])),
          ih vs ds r (fun t h => ht t (by simp [h])) h2 (fun x hx => hlt x (by simp [hx])) (fun x hx => hs x (by simp [hx])), rfl⟩

/-- THE STEP FROM A FUNCTION's CONTRACT TO A LAW's ROW: true, and the arguments read as they did. -/
theorem law_post {f : FuncId} {fn : Func} {s : ChangeSpec} {W : World} {args : Array Value} {ds gs : List (DataW H)} {before : List MemPlace} {avs : List AV} {tb : TypeId}
    (hW : DataW.Whole enc P fn.params.toList s.vars false W args.toList ds gs before) (hv : s.vars = []) (hfn : (s.fn H ds).results = [.lit (.bool true)] ∧ (s.fn H ds).args = ds ∧ (s.fn H ds).vars = [])
    (hlaid : laidOutB P = true) (hts : ∀ t ∈ fn.params.toList, P.readableRec t = true ∧ t < P.types.size) (hres : fn.resultTypes = #[tb]) (htb : P.underlying tb = some .bool)
    (hrep : RepGs W (fun _ => False) avs args) (hc : Contract P f avs (.one (.val (.bool true)))) :
    Calls P f args W fun e W' => ∃ v, e = .returned v ∧ s.post enc P fn false true false false W args v W' := by
  refine (hc.2 W (fun _ => False) args (fun _ h => h.elim) hrep).mono fun e W' he => ?_
  obtain ⟨v, rfl, hb, hr⟩ := he
  obtain ⟨Ls, hl, hr, _⟩ := hr
  have hv1 := hr 0 _ v rfl rfl
  cases hv1
  refine ⟨_, rfl, ?_⟩
  have hW' := hW
  obtain ⟨p, q, hA, hV, hpq, hz, hnd⟩ := hW
  rw [hv] at hV
  have hg : gs = [] ∧ q = [] := by cases gs <;> simp_all [DataW.TrodVars]
  obtain ⟨rfl, rfl⟩ := hg
  have hlt : ∀ x ∈ before, x.block < W.heap.size := fun p hp => hW'.lt p hp
  refine post_of_below (pa := p) (pv := []) hW' ?_ ?_ ?_ (by simpa using hpq) hb ?_
  · intro b sp hd
    rw [hres, List.append_nil, hfn.1]
    exact trodAll_cons_mk (shut_bool htb _) trodAll_mk0
  · intro sp hs
    rw [List.append_nil, hfn.2.1]
    exact trodAll_stays hlaid hb _ _ _ _ hts hA (fun x hx => hlt x (by rw [hpq]; simp [hx])) (fun x hx => hs x (by rw [hpq]; simp [hx]))
  · intro sp _
    rw [hv, List.append_nil, hfn.2.2]
    rfl
  · intro j t' r hj hr'
    rw [hres] at hj hr'
    match j, hj, hr' with
    | 0, hj, hr' =>
      simp [Value.resultList] at hj hr'
      subst hj; subst hr'
      exact okWide_bool_mk htb _
end
end Go.SH
