/-
  THE SYMBOLIC HEAP, PART N: what an operation looks at. No condition.
-/
import Derived.Test.YthkgnnndlocbbaaShM
namespace Go.SH
set_option linter.unusedVariables false
set_option linter.unusedSimpArgs false
open Go Go.RowKit
section
variable {P : Program} {H H' : List ABlk} {ρ ρ' : Operand → AV} {o : Oper}

theorem mapO_congr {l : List Operand} (h : ∀ x ∈ l, ρ x = ρ' x) : mapO ρ l = mapO ρ' l := by
  rw [mapO_eq, mapO_eq]; exact List.map_congr_left h
theorem mapP_congr {l : List (Nat × Operand)} (h : ∀ p ∈ l, ρ p.2 = ρ' p.2) : mapP ρ l = mapP ρ' l := by
  induction l with
  | nil => rfl
  | cons p l ih =>
    obtain ⟨i, x⟩ := p
    simp only [mapP]
    rw [h (i, x) (by simp), ih (fun p hp => h p (by simp [hp]))]

theorem eff_congr (nid : Nat) (h : ∀ x ∈ o.op.operands, ρ x = ρ' x) : eff P H nid ρ o = eff P H nid ρ' o := by
  obtain ⟨dst, op, type, pos, after, guard⟩ := o
  cases op <;> simp only [Op.operands] at h <;> simp only [eff]
  case build t ps =>
    rw [mapP_congr fun p hp => h p.2 (by simp; exact ⟨p.1, by simpa using hp⟩)]
  case buildSlice t n ps =>
    rw [mapP_congr fun p hp => h p.2 (by simp; exact ⟨p.1, by simpa using hp⟩)]
  case makeFunc f first caps =>
    have : mapO ρ caps.toList = mapO ρ' caps.toList := mapO_congr fun x hx => h x (by simp at hx; simp [hx])
    rw [this]
  case slice t x lo hi mx =>
    cases lo <;> cases hi <;> cases mx <;> simp at h <;> simp [h]
  case makeMap t r => cases r <;> rfl
  case call c =>
    have hargs : ∀ x ∈ c.args.toList, ρ x = ρ' x := fun x hx => h x (by simp at hx; simp [Call.operands, hx])
    cases hc : c.callee with
    | value f =>
      have hf : ρ f = ρ' f := h f (by simp [Call.operands, hc])
      simp only [hf, mapO_congr hargs]
    | invoke r m => rfl
    | builtin b =>
      cases b <;> simp only
      case len =>
        split
        · rename_i t x h1 h2; rw [hargs x (by rw [h2]; simp)]
        · rfl
      case append =>
        split
        · rename_i t t' x y h1 h2; rw [hargs x (by rw [h2]; simp), hargs y (by rw [h2]; simp)]
        · rfl
      case copy =>
        split
        · rename_i t t' x y h1 h2; rw [hargs x (by rw [h2]; simp), hargs y (by rw [h2]; simp)]
        · rfl
      case min =>
        split
        · rename_i x y h2; rw [hargs x (by rw [h2]; simp), hargs y (by rw [h2]; simp)]
        · rfl
      case max =>
        split
        · rename_i x y h2; rw [hargs x (by rw [h2]; simp), hargs y (by rw [h2]; simp)]
        · rfl
  all_goals simp at h
  all_goals simp [h]

theorem liveAll_congr {l : List AV} (h : ∀ i ∈ killIds l, hget H i = hget H' i) : liveAll H l = liveAll H' l := by
  induction l with
  | nil => rfl
  | cons x l ih =>
    cases x <;> simp only [liveAll, killIds] at h ⊢
    case sl id off len => rw [h id (by simp), ih (fun i hi => h i (by simp [hi]))]
    all_goals exact ih h
theorem gnd_congr {l : List AV} (h : ∀ i ∈ killIds l, hget H i = hget H' i) : mapA (gnd H) l = mapA (gnd H') l := by
  rw [mapA_eq, mapA_eq]
  apply List.map_congr_left
  intro x hx
  cases x <;> simp only [gnd]
  rename_i id off len
  rw [h id (mem_killIds hx)]
theorem killIds_append (l m : List AV) : killIds (l ++ m) = killIds l ++ killIds m := by
  induction l with
  | nil => rfl
  | cons x l ih => cases x <;> simp [killIds, ih]
theorem partsCells_congr {l : List (Nat × AV)} (h : ∀ i ∈ killIds (partsAll l), hget H i = hget H' i) : partsCells H l = partsCells H' l := by
  induction l with
  | nil => rfl
  | cons p l ih =>
    obtain ⟨i, v⟩ := p
    simp only [partsAll, killIds_append] at h
    simp only [partsCells]
    rw [gnd_congr (fun i hi => h i (by simp [hi])), ih (fun i hi => h i (by simp [hi]))]
theorem inBlk_congr {id j : Nat} (h : hget H id = hget H' id) : inBlk H id j = inBlk H' id j := by unfold inBlk; rw [h]
theorem srcOf_congr {ti : TI} {x : AV} {m : Nat} {g : Nat → List AV} {rd : List Nat} (h : srcOf H ti x = some (m, g, rd)) (hr : ∀ i ∈ rd, hget H i = hget H' i) : srcOf H' ti x = some (m, g, rd) := by
  unfold srcOf at h ⊢
  split at h
  · exact h
  · rename_i e id off m' hk hX
    cases hb : hget H id <;> simp only [hb] at h <;> try cases h
    rw [← hr id (by simp)]
    simp only [hb]
  · exact h
  · cases h

theorem eff_heap (nid : Nat) {e : E} (h : eff P H nid ρ o = .ok e) (hr : ∀ i ∈ e.reads, hget H i = hget H' i) : eff P H' nid ρ o = .ok e := by
  unfold eff at h ⊢
  split at h
  case h_6 s d x ho =>
    unfold eConv at h ⊢
    split at h
    · exact h
    · exact h
    · exact h
    · split at h
      · split at h
        · split at h
          · rename_i sz n f hb
            injection h with h; subst h
            rw [← hr _ (by simp)]
            simp only [hb]
          · cases h
        · cases h
      · cases h
    · cases h
  case h_9 t x f ho =>
    unfold eFieldAddr at h ⊢
    split at h
    · split at h
      split at h
      · rename_i id i j hX
        injection h with h; subst h
        rw [inBlk_congr (hr id (by simp))]
      · exact h
      · cases h
    · cases h
  case h_11 t x i ho =>
    unfold eIndexAddr at h ⊢
    split at h
    · exact h
    · split at h
      · rename_i sz n f hb
        injection h with h; subst h
        rw [← hr _ (by simp)]
        simp only [hb]
      · rename_i n g hb
        injection h with h; subst h
        rw [← hr _ (by simp)]
        simp only [hb]
      · cases h
    · injection h with h; subst h
      rw [inBlk_congr (hr _ (by simp))]
    · exact h
    · cases h
  case h_12 t x lo hi mx ho =>
    unfold eSlice at h ⊢
    split at h
    · cases h
    · split at h
      · split at h
        · exact h
        · split at h
          · rename_i sz n f hb
            injection h with h; subst h
            rw [← hr _ (by simp)]
            simp only [hb]
          · cases h
        · cases h
      · exact h
      · cases h
  case h_13 t x ho =>
    unfold eLoad at h ⊢
    split at h
    · exact h
    · split at h
      · rename_i cs hb
        injection h with h; subst h
        rw [← hr _ (by simp)]
        simp only [hb]
      · rename_i sz n f hb
        injection h with h; subst h
        rw [← hr _ (by simp)]
        simp only [hb]
      · rename_i n g hb
        split at h
        · rename_i k hg
          split at h
          · rename_i sz m f hk
            injection h with h; subst h
            simp only at hr
            rw [← hr _ (by simp)]
            simp only [hb, hg]
            rw [← hr k (by simp)]
            simp only [hk]
          · cases h
        · cases h
      · cases h
    · cases h
  case h_14 t x y ho =>
    unfold eStore at h ⊢
    split at h
    · split at h
      · rename_i cs hb
        injection h with h; subst h
        rw [← hr _ (by simp)]
        simp only [hb]
      · rename_i sz n f hb
        injection h with h; subst h
        simp only at hr
        rw [← hr _ (by simp)]
        simp only [hb]
        rw [liveAll_congr (H := H) (H' := H') (fun i hi => hr i (by simp [hi])), gnd_congr (H := H) (H' := H') (fun i hi => hr i (by simp [hi]))]
      · rename_i n g hb
        split at h
        · rename_i k m hy
          split at h
          · rename_i sz m' f hk
            injection h with h; subst h
            simp only at hr
            rw [← hr _ (by simp)]
            simp only [hb]
            rw [← hr k (by simp)]
            simp only [hk]
          · cases h
        · cases h
      · cases h
    · cases h
  case h_18 t n ps ho =>
    unfold eBuildSlice at h ⊢
    split at h
    · injection h with h; subst h
      simp only at hr
      rw [liveAll_congr (H := H) (H' := H') hr, partsCells_congr (H := H) (H' := H') hr]
    · cases h
  case h_23 t m k v ho =>
    unfold eMapUpdate at h ⊢
    split at h
    · split at h
      · split at h
        · rename_i es hb
          injection h with h; subst h
          simp only at hr
          rw [← hr _ (by simp)]
          simp only [hb]
        · cases h
      · cases h
    · cases h
  case h_24 t x k ok ho =>
    unfold eLookup at h ⊢
    split at h
    · split at h
      · split at h
        · split at h
          · rename_i es hb
            injection h with h; subst h
            simp only at hr
            rw [← hr _ (by simp)]
            simp only [hb]
          · cases h
        · cases h
      · cases h
    · cases h
  case h_25 c ho =>
    split at h
    · rename_i b hb
      split at h
      · split at h
        · unfold eLen at h ⊢
          split at h
          · exact h
          · exact h
          · exact h
          · split at h
            · exact h
            · split at h
              · rename_i es hb
                injection h with h; subst h
                simp only at hr
                rw [← hr _ (by simp)]
                simp only [hb]
              · cases h
            · cases h
          · cases h
        · cases h
      · split at h
        · unfold eAppend at h ⊢
          split at h
          · rename_i e' m g rd hk hsrc
            split at h
            · split at h
              · rename_i sz n f hbk
                injection h with h; subst h
                simp only at hr
                rw [srcOf_congr hsrc (fun i hi => hr i (by simp [hi]))]
                simp only [hk]
                rw [← hr _ (by simp)]
                simp only [hbk]
              · cases h
            · injection h with h; subst h
              simp only at hr
              rw [srcOf_congr hsrc hr]
              simp only [hk]
            · cases h
          · cases h
        · cases h
      · split at h
        · unfold eCopy at h ⊢
          split at h
          · rename_i e' m g rd hk hsrc
            split at h
            · split at h
              · rename_i sz n f hbk
                injection h with h; subst h
                simp only at hr
                rw [srcOf_congr hsrc (fun i hi => hr i (by simp [hi]))]
                simp only [hk]
                rw [← hr _ (by simp)]
                simp only [hbk]
              · cases h
            · cases h
          · cases h
        · cases h
      · exact h
      · exact h
      · exact h
    · exact h
    · exact h
  all_goals exact h

/-- The call that an operation is. -/
def callOf (ρ : Operand → AV) (o : Oper) : Option (FuncId × List AV) :=
  match o.op with
  | .call c => match c.callee with
    | .value f => match ρ f with
      | .fn (.func g) caps => some (g, mapO ρ c.args.toList ++ caps)
      | _ => none
    | _ => none
  | _ => none
theorem callOf_eff (nid : Nat) {g : FuncId} {args : List AV} (h : callOf ρ o = some (g, args)) : eff P H nid ρ o = .call g args := by
  unfold callOf at h
  split at h
  · rename_i c ho
    split at h
    · rename_i f hf
      split at h
      · rename_i g' caps hX
        simp only [Option.some.injEq, Prod.mk.injEq] at h
        obtain ⟨rfl, rfl⟩ := h
        unfold eff
        rw [ho]
        simp only [hf, hX]
      · cases h
    · cases h
  · cases h
theorem callOf_congr (h : ∀ x ∈ o.op.operands, ρ x = ρ' x) : callOf ρ o = callOf ρ' o := by
  unfold callOf
  split
  · rename_i c ho
    rw [ho] at h
    split
    · rename_i f hf
      have h1 : ρ f = ρ' f := h f (by simp [Op.operands, Call.operands, hf])
      have h2 : mapO ρ c.args.toList = mapO ρ' c.args.toList := mapO_congr fun x hx => h x (by simp at hx; simp [Op.operands, Call.operands, hx])
      rw [h1, h2]
    · rfl
  · rfl

/-- The blocks that a value leads to. -/
def idsM (g : AV → List Nat) : List AV → List Nat
  | [] => []
  | c :: l => g c ++ idsM g l
def idsR (H : List ABlk) : Nat → AV → List Nat
  | 0, _ => []
  | n + 1, av =>
    match av with
    | .sl id _ _ => [id]
    | .ptr id _ _ => match hget H id with
      | .box cs => id :: idsM (idsR H n) cs
      | _ => [id]
    | .agg cs => idsM (idsR H n) cs
    | .tup cs => idsM (idsR H n) cs
    | .fn _ cs => idsM (idsR H n) cs
    | _ => []

theorem mem_idsL {n : Nat} {l : List AV} {c : AV} {i : Nat} (hc : c ∈ l) (hi : i ∈ idsR H n c) : i ∈ idsM (idsR H n) l := by
  induction l with
  | nil => simp at hc
  | cons x l ih =>
    simp only [idsM, List.mem_append]
    rcases List.mem_cons.1 hc with rfl | hc
    · exact .inl hi
    · exact .inr (ih hc)

theorem reify_congr : ∀ (n : Nat) (av : AV), (∀ i ∈ idsR H n av, hget H i = hget H' i) → reify H n av = reify H' n av := by
  intro n
  induction n with
  | zero => intro av _; rfl
  | succ n ih =>
    intro av h
    have list : ∀ cs : List AV, (∀ i ∈ idsM (idsR H n) cs, hget H i = hget H' i) → mapA (reify H n) cs = mapA (reify H' n) cs := by
      intro cs hcs
      rw [mapA_eq, mapA_eq]
      exact List.map_congr_left fun c hc => ih c fun i hi => hcs i (mem_idsL hc hi)
    cases av <;> simp only [reify]
    case sl id off len =>
      simp only [idsR] at h
      rw [h id (by simp)]
    case ptr id i j =>
      simp only [idsR] at h
      cases hb : hget H id with
      | box cs =>
        simp only [hb] at h
        rw [← h id (by simp), hb]
        simp only
        rw [list cs (fun i hi => h i (by simp [hi]))]
      | _ =>
        simp only [hb] at h
        rw [← h id (by simp), hb]
    case agg cs => simp only [idsR] at h; rw [list cs h]
    case tup cs => simp only [idsR] at h; rw [list cs h]
    case fn f cs => simp only [idsR] at h; rw [list cs h]

theorem pureCall_congr {f : FuncId} {args : List AV} {r : AR} (h : ∀ i ∈ idsM (idsR H 6) args, hget H i = hget H' i) : PureCall P f args H r = PureCall P f args H' r := by
  have : mapA (reify H 6) args = mapA (reify H' 6) args := by
    rw [mapA_eq, mapA_eq]
    exact List.map_congr_left fun c hc => reify_congr 6 c fun i hi => h i (mem_idsL hc hi)
  unfold PureCall
  rw [this]
  congr 1
  cases r with
  | one => rfl
  | tup => rfl
  | own id sz n g =>
    apply propext
    constructor
    · rintro ⟨m, fr, ix, hix, hb, ho⟩
      exact ⟨m, fr, ix, hix, by rw [← h id (mem_idsL (List.mem_of_getElem? hix) (by simp [idsR]))]; exact hb, ho⟩
    · rintro ⟨m, fr, ix, hix, hb, ho⟩
      exact ⟨m, fr, ix, hix, by rw [h id (mem_idsL (List.mem_of_getElem? hix) (by simp [idsR]))]; exact hb, ho⟩
end
end Go.SH
