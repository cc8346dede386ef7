/-
  THE SYMBOLIC HEAP, PART S: what a function's body shows of its calls. No condition.
-/
import Derived.Test.YthkgnnndlocbbaaShR
import Derived.RangeFuncLeaves
namespace Go.SH
set_option linter.unusedVariables false
set_option linter.unusedSimpArgs false
open Go Go.RowKit

/-- No pointer, here and below. -/
def AV.np : Nat → AV → Bool
  | 0, _ => false
  | n + 1, av =>
    match av with
    | .ptr .. => false
    | .agg cs => allA (AV.np n) cs
    | .tup cs => allA (AV.np n) cs
    | .fn _ cs => allA (AV.np n) cs
    | _ => true
/-- The same row, as far as it goes. -/
def like1 : AV → AV → Prop
  | .ro n f, .ro m g => n = m ∧ ∀ i, i < m → f i = g i
  | .raw (.slice none 0 0), .ro m _ => m = 0
  | a, b => match b with
    | .undef => True
    | b => a = b
def likeL : List AV → List AV → Prop
  | [], [] => True
  | a :: l, b :: m => like1 a b ∧ likeL l m
  | _, _ => False
def like : AV → AV → Prop
  | .agg as, .agg bs => likeL as bs
  | .tup as, .tup bs => likeL as bs
  | a, b => like1 a b
def notinId (as : List Nat) (bs : List Nat) : Prop := ∀ a ∈ as, a ∉ bs

def resOf (H : List ABlk) (ids : List Nat) (av : AV) : AR1 → Prop
  | .val g => like (reify H 6 av) g ∧ av.np 6 = true ∧ notinId (idsR H 6 av) ids
  | .vec sz n f =>
    match av with
    | .sl id off len => match hget H id with
      | .vec sz' n' f' => off = 0 ∧ sz' = sz ∧ n' = n ∧ len = n ∧ ∀ i, i < n → f' i = f i
      | _ => False
    | .raw (.slice none 0 0) => n = 0 ∧ 0 < sz
    | _ => False
def resIds : List AV → List AR1 → List Nat
  | .sl id _ _ :: l, .vec .. :: rs => id :: resIds l rs
  | _ :: l, _ :: rs => resIds l rs
  | _, _ => []
def resAll (H : List ABlk) (ids : List Nat) : List AV → List AR1 → Prop
  | [], [] => True
  | a :: l, r :: rs => resOf H ids a r ∧ resAll H ids l rs
  | _, _ => False
def nodupN : List Nat → Prop
  | [] => True
  | a :: l => notin a l ∧ nodupN l
/-- Where a result lies. -/
inductive RS where
  | tmp (t : Nat)
  | cell (a : Nat) (t : TypeId)
def RS.rv : RS → ResultVar
  | .tmp t => .tmp t
  | .cell a t => .cell a t
def rsV (P : Program) (st : St) : RS → AV
  | .tmp t => sget st.slots t
  | .cell a t => match sget st.slots a with
    | .ptr id _ j => match hget st.heap id with
      | .box cs => loadP (tiOf P t) (dropA j cs)
      | _ => .undef
    | _ => .undef
def rsC (P : Program) (st : St) : RS → Prop
  | .tmp _ => True
  | .cell a t => match sget st.slots a with
    | .ptr id _ j => match hget st.heap id with
      | .box cs => loadC (tiOf P t) (dropA j cs)
      | _ => False
    | _ => False
def mapT (P : Program) (st : St) : List RS → List AV
  | [] => []
  | t :: l => rsV P st t :: mapT P st l
def allT (P : Program) (st : St) : List RS → Prop
  | [] => True
  | t :: l => rsC P st t ∧ allT P st l
def retS (P : Program) (ts : List RS) (r : AR) (st : St) : Prop :=
  allT P st ts ∧ match r with
  | .one r => match ts with
    | [t] => resOf st.heap (resIds [rsV P st t] [r]) (rsV P st t) r
    | _ => False
  | .tup rs => ts.length ≠ 1 ∧ resAll st.heap (resIds (mapT P st ts) rs) (mapT P st ts) rs ∧ nodupN (resIds (mapT P st ts) rs)
  | .own .. => False
def retK (P : Program) (ts : List RS) (r : AR) : Exit → St → Prop
  | .normal, st => retS P ts r st
  | .ret, st => retS P ts r st
  | _, _ => False
def padA : List AV → Nat → List AV
  | [], 0 => []
  | [], n + 1 => .undef :: padA [] n
  | a :: l, 0 => a :: l
  | a :: l, n + 1 => a :: padA l n
theorem padA_eq (args : List AV) (n : Nat) : padA args n = args ++ List.replicate (n - args.length) .undef := by
  induction args generalizing n with
  | nil => induction n with
    | zero => rfl
    | succ n ih => simp only [padA, ih, List.nil_append, List.length_nil, Nat.sub_zero, List.replicate_succ]
  | cons a l ih => cases n with
    | zero => simp [padA]
    | succ n => simp [padA, ih, Nat.add_sub_add_right]

section
variable {P : Program} {φ φ' : Env} {H H' : List ABlk} {w w' : World}

theorem RepG.like1 {M : Nat → Prop} {a b : AV} {v : Value} (h : RepG w M a v) (hl : SH.like1 a b) : RepG w M b v := by
  unfold SH.like1 at hl
  split at hl
  · obtain ⟨rfl, hf⟩ := hl
    cases h with
    | ro base cap b o sz vs hn hc hsz hbase hM hcell hone hlen hrep =>
      exact .ro base cap b o sz vs hn hc hsz hbase hM hcell hone (fun i hi => hf i hi ▸ hlen i hi) (fun i j c hi hc => hrep i j c hi (by rw [hf i hi]; exact hc))
  · subst hl
    cases h
    exact .ro none 0 0 0 1 (fun _ => Go.undef) (Nat.le_refl _) (by simp) (by simp) (fun h => by simp at h) (fun h => by simp at h) (fun k h => by simp at h) (fun k h => by simp at h) (fun i h => by omega) (fun i j c h => by omega)
  · split at hl
    · exact .undef v
    · subst hl; exact h
theorem likeL_get : ∀ (as bs : List AV), likeL as bs → as.length = bs.length ∧ ∀ (i : Nat) b, bs[i]? = some b → ∃ a, as[i]? = some a ∧ SH.like1 a b := by
  intro as
  induction as with
  | nil => intro bs h; cases bs with
    | nil => exact ⟨rfl, fun i b h => by simp at h⟩
    | cons b bs => exact h.elim
  | cons a as ih => intro bs h; cases bs with
    | nil => exact h.elim
    | cons b bs =>
      obtain ⟨h1, h2⟩ := ih bs h.2
      refine ⟨by simp [h1], fun i c hc => ?_⟩
      cases i with
      | zero => simp at hc; subst hc; exact ⟨a, rfl, h.1⟩
      | succ i => simpa using h2 i c (by simpa using hc)
theorem RepG.like {M : Nat → Prop} {a b : AV} {v : Value} (h : RepG w M a v) (hl : SH.like a b) : RepG w M b v := by
  unfold SH.like at hl
  split at hl
  · obtain ⟨h1, h2⟩ := likeL_get _ _ hl
    cases h with
    | agg hl' hc =>
      refine .agg (h1 ▸ hl') fun i c u h3 h4 => ?_
      obtain ⟨a, h5, h6⟩ := h2 i c h3
      exact (hc i a u h5 h4).like1 h6
  · obtain ⟨h1, h2⟩ := likeL_get _ _ hl
    cases h with
    | tup hl' hc =>
      refine .tup (h1 ▸ hl') fun i c u h3 h4 => ?_
      obtain ⟨a, h5, h6⟩ := h2 i c h3
      exact (hc i a u h5 h4).like1 h6
  · exact h.like1 hl

theorem reify_repM (hs : HSat φ H w) {M : Nat → Prop} (hM : ∀ b, M b → MB φ H b) : ∀ (n : Nat) (av : AV) (v : Value), Rep φ H w av v → av.np n = true → (∀ id ∈ idsR H n av, Own φ H id → ¬ M (φ id).b) → RepG w M (reify H n av) v := by
  intro n
  induction n with
  | zero => intro av v _ _ _; exact .undef v
  | succ n ih =>
    intro av v h hnp hid
    have list : ∀ (cs : List AV) (vs : Array Value), cs.length = vs.size → (∀ (i : Nat) c u, cs[i]? = some c → vs[i]? = some u → Rep φ H w c u) → allA (AV.np n) cs = true → (∀ id ∈ idsM (idsR H n) cs, Own φ H id → ¬ M (φ id).b) →
        (mapA (reify H n) cs).length = vs.size ∧ ∀ (i : Nat) c u, (mapA (reify H n) cs)[i]? = some c → vs[i]? = some u → RepG w M c u := by
      intro cs vs hl hc hm hi
      rw [mapA_eq]
      refine ⟨by simpa using hl, fun i c u h1 h2 => ?_⟩
      simp only [List.getElem?_map] at h1
      cases hci : cs[i]? with
      | none => simp [hci] at h1
      | some c' =>
        simp [hci] at h1
        subst h1
        have hmem := List.mem_of_getElem? hci
        exact ih c' u (hc i c' u hci h2) ((allA_iff _ _).1 hm c' hmem) (fun id hx => hi id (mem_idsL hmem hx))
    cases av <;> simp only [reify, AV.np, idsR] at hnp hid ⊢
    case undef => exact .undef v
    case int => cases h.inv_int; exact .int _ _
    case bool => cases h.inv_bool; exact .bool _
    case str => cases h.inv_str; exact .str _
    case raw => cases h.inv_raw; exact .raw _
    case agg cs =>
      obtain ⟨vs, rfl, hl, hc⟩ := h.inv_agg
      obtain ⟨g1, g2⟩ := list cs vs hl hc hnp hid
      exact .agg g1 g2
    case tup cs =>
      obtain ⟨vs, rfl, hl, hc⟩ := h.inv_tup
      obtain ⟨g1, g2⟩ := list cs vs hl hc hnp hid
      exact .tup g1 g2
    case fn f cs =>
      obtain ⟨vs, rfl, hl, hc⟩ := h.inv_fn
      obtain ⟨g1, g2⟩ := list cs vs hl hc hnp hid
      exact .fn g1 g2
    case ro => exact h.inv_ro.weaken hM
    case rop => exact h.inv_rop.weaken hM
    case yld => exact .undef v
    case mp => exact .undef v
    case ptr => cases hnp
    case sl id off len =>
      split
      · rename_i sz n' f hb
        refine sl_ro hs hb h hM fun h0 => hid id (by simp) ?_
        obtain ⟨base, cap', rfl, _, _, hl, _, hat⟩ := h.inv_sl
        obtain ⟨hoff, hcap, _⟩ := hat sz n' (by simp [sig, hb, ABlk.sig])
        exact ⟨by simp [sig, hb, ABlk.sig], by omega⟩
      · exact .undef v

theorem nodupN_spec : ∀ {avs : List AV} {rs : List AR1}, nodupN (resIds avs rs) → ∀ (i j id o l o' l' : Nat) r r', avs[i]? = some (.sl id o l) → avs[j]? = some (.sl id o' l') → rs[i]? = some r → rs[j]? = some r' → r.isVec = true → r'.isVec = true → i = j := by
  have mem : ∀ (avs : List AV) (rs : List AR1) (i id o l : Nat) r, avs[i]? = some (.sl id o l) → rs[i]? = some r → r.isVec = true → id ∈ resIds avs rs := by
    intro avs
    induction avs with
    | nil => intro rs i id o l r h; simp at h
    | cons a avs ih =>
      intro rs i id o l r h1 h2 h3
      cases rs with
      | nil => simp at h2
      | cons r0 rs =>
        cases i with
        | zero =>
          simp at h1 h2; subst h1 h2
          cases r0 <;> simp [AR1.isVec] at h3
          simp [resIds]
        | succ i =>
          have := ih rs i id o l r (by simpa using h1) (by simpa using h2) h3
          cases a <;> try exact this
          cases r0
          · exact this
          · exact List.mem_cons_of_mem _ this
  intro avs
  induction avs with
  | nil => intro rs _ i j id o l o' l' r r' h; simp at h
  | cons a avs ih =>
    intro rs hn i j id o l o' l' r r' h1 h2 h3 h4 h5 h6
    cases rs with
    | nil => simp at h3
    | cons r0 rs =>
      have hn' : nodupN (resIds avs rs) := by
        cases a <;> try exact hn
        cases r0
        · exact hn
        · exact hn.2
      cases i with
      | zero =>
        cases j with
        | zero => rfl
        | succ j =>
          simp at h1 h3; subst h1 h3
          cases r0 <;> simp [AR1.isVec] at h5
          exact absurd (mem avs rs j id o' l' r' (by simpa using h2) (by simpa using h4) h6) (notin_spec hn.1)
      | succ i =>
        cases j with
        | zero =>
          simp at h2 h4; subst h2 h4
          cases r0 <;> simp [AR1.isVec] at h6
          exact absurd (mem avs rs i id o l r (by simpa using h1) (by simpa using h3) h5) (notin_spec hn.1)
        | succ j => rw [ih hn' i j id o l o' l' r r' (by simpa using h1) (by simpa using h2) (by simpa using h3) (by simpa using h4) h5 h6]
theorem resIds_mem : ∀ (avs : List AV) (rs : List AR1) (i id o l : Nat) r, avs[i]? = some (.sl id o l) → rs[i]? = some r → r.isVec = true → id ∈ resIds avs rs := by
  intro avs
  induction avs with
  | nil => intro rs i id o l r h; simp at h
  | cons a avs ih =>
    intro rs i id o l r h1 h2 h3
    cases rs with
    | nil => simp at h2
    | cons r0 rs =>
      cases i with
      | zero =>
        simp at h1 h2; subst h1 h2
        cases r0 <;> simp [AR1.isVec] at h3
        simp [resIds]
      | succ i =>
        have := ih rs i id o l r (by simpa using h1) (by simpa using h2) h3
        cases a <;> try exact this
        cases r0
        · exact this
        · exact List.mem_cons_of_mem _ this
theorem resAll_get {ids : List Nat} : ∀ (avs : List AV) (rs : List AR1), resAll H ids avs rs → avs.length = rs.length ∧ ∀ (i : Nat) r, rs[i]? = some r → ∃ a, avs[i]? = some a ∧ resOf H ids a r := by
  intro avs
  induction avs with
  | nil => intro rs h; cases rs with
    | nil => exact ⟨rfl, fun i r h => by simp at h⟩
    | cons r rs => exact h.elim
  | cons a avs ih => intro rs h; cases rs with
    | nil => exact h.elim
    | cons r rs =>
      obtain ⟨h1, h2⟩ := ih rs h.2
      refine ⟨by simp [h1], fun i c hc => ?_⟩
      cases i with
      | zero => simp at hc; subst hc; exact ⟨a, rfl, h.1⟩
      | succ i => simpa using h2 i c (by simpa using hc)

/-- Where nothing lies yet. -/
def env0 (M : Nat → Prop) (base : Nat) : Env := ⟨fun _ => ⟨0, 0, 0⟩, M, fun _ _ => False, base⟩
theorem own0 (M : Nat → Prop) (base i : Nat) : ¬ Own (env0 M base) [] i := fun h => by simp [Own, sig, hget, ABlk.sig] at h
theorem hsat0 {M : Nat → Prop} (hM : ∀ b, M b → b < w.heap.size) (base : Nat) : HSat (env0 M base) [] w := ⟨fun id => by simp [hget, BRep], fun i j b hi => (own0 M base i hi.1).elim, fun i b hi => (own0 M base i hi.1).elim, hM⟩

/-- The marks of loops over functions, taken. -/
structure Coll (Ds : List Nat) (w w' : World) : Prop where
  os : w'.os = w.os
  tape : w'.tape = w.tape
  output : w'.output = w.output
  size : w'.heap.size = w.heap.size
  other : ∀ b, b ∉ Ds → w'.heap[b]? = w.heap[b]?
  mark : ∀ D ∈ Ds, w.heap[D]? = some (.deferred (some []))
theorem Coll.cells {Ds : List Nat} (h : Coll Ds w w') {b : Nat} {c : Array Value} {T : TypeId} {f : Nat × Nat} (hb : w.heap[b]? = some (.cells c T f)) : w'.heap[b]? = some (.cells c T f) := by
  rw [h.other b fun hd => by rw [h.mark b hd] at hb; cases hb]; exact hb
theorem Coll.cell {Ds : List Nat} (h : Coll Ds w w') {b o : Nat} {v : Value} (hb : w.cell? ⟨b, o, none⟩ = some v) : w'.cell? ⟨b, o, none⟩ = some v := by
  simp only [World.cell?] at hb ⊢
  split at hb
  · rename_i c T f hc
    rw [h.cells hc]; exact hb
  · cases hb
theorem RepG.coll {Ds : List Nat} {M : Nat → Prop} (hc : Coll Ds w w') {av : AV} {v : Value} (h : RepG w M av v) : RepG w' M av v := by
  induction h with
  | undef v => exact .undef v
  | int k n => exact .int k n
  | bool b => exact .bool b
  | str s => exact .str s
  | raw v => exact .raw v
  | agg hl _ ih => exact .agg hl ih
  | tup hl _ ih => exact .tup hl ih
  | fn hl _ ih => exact .fn hl ih
  | ro base cap b o sz vs hn hcm hsz hbase hM hcell hone hlen _ ih => exact .ro base cap b o sz vs hn hcm hsz hbase hM (fun k hk => hc.cell (hcell k hk)) hone hlen ih
  | rop b o vs hM hcell _ ih => exact .rop b o vs hM (fun k hk => hc.cell (hcell k hk)) ih
theorem Rep.coll {Ds : List Nat} (hc : Coll Ds w w') {av : AV} {v : Value} (h : Rep φ H w av v) : Rep φ H w' av v := by
  induction h with
  | g h => exact .g (h.coll hc)
  | agg hl _ ih => exact .agg hl ih
  | tup hl _ ih => exact .tup hl ih
  | fn hl _ ih => exact .fn hl ih
  | sl base cap' hu hb hl hcm h => exact .sl base cap' hu hb hl hcm h
  | ptr a hu h => exact .ptr a hu h
  | yld l hu h => exact .yld l hu h
  | mp l hu h => exact .mp l hu h
theorem HSat.coll {Ds : List Nat} (hc : Coll Ds w w') (hm : ∀ D ∈ Ds, ¬ MBo φ H D) (h : HSat φ H w) : HSat φ H w' :=
  ⟨fun id => BRep.keepG (fun _ _ h => h.coll hc) (fun _ _ _ h => h) (fun _ _ h => h.coll hc) rfl (fun _ => Iff.rfl) (fun b h1 h2 h3 => hc.other b fun hd => hm b hd ⟨id, ⟨h1, h2⟩, h3⟩) (h.blk id), h.inj, h.ext, fun b hb => by rw [hc.size]; exact h.extlt b hb⟩
theorem leaves_coll {F : Fence} {n : Nat} {fn : Func} {tmps : Array Value} {R : Ending → World → Prop} : ∀ (Ds : List Nat) (w : World), Ds.Nodup → (∀ D ∈ Ds, w.heap[D]? = some (.deferred (some []))) →
    (∀ w', Coll Ds w w' → ∃ v, (results fn tmps).run P w' = .ok v w' ∧ R (.returned v) w') → LeavesInM F n P fn tmps R (Ds.map fun D => ({ target := .collected D, args := #[] } : Deferred)) .returning w := by
  intro Ds
  induction Ds with
  | nil => intro w _ _ h; exact h w ⟨rfl, rfl, rfl, rfl, fun _ _ => rfl, fun D hD => by simp at hD⟩
  | cons D Ds ih =>
    intro w hn hm h
    have hD := hm D (by simp)
    have hlt := (Array.getElem?_eq_some_iff.1 hD).1
    have hnD := (List.nodup_cons.1 hn).1
    refine ⟨by simp, .inl ⟨D, _, rfl, run_takeDeferred hD, ih _ (List.nodup_cons.1 hn).2 (fun E hE => ?_) fun w' hw' => ?_⟩⟩
    · have hne : E ≠ D := fun e => hnD (by rw [← e]; exact hE)
      rw [World.putObj_heap_other hne]; exact hm E (by simp [hE])
    · refine h w' ⟨hw'.os, hw'.tape, hw'.output, by rw [hw'.size, World.putObj_size], fun b hb => ?_, hm⟩
      simp only [List.mem_cons, not_or] at hb
      rw [hw'.other b hb.2, World.putObj_heap_other hb.1]

/-- The results, as others see them. -/
theorem results_rep {M : Nat → Prop} {w0 : World} {avs : List AV} {rs : List AR1} {vs : List Value} (hs : HSat φ H w) (e : Evo (env0 M w0.heap.size) [] w0 φ H w) (hr : resAll H (resIds avs rs) avs rs) (hn : nodupN (resIds avs rs))
    (hl : avs.length = vs.length) (hv : ∀ (i : Nat) a v, avs[i]? = some a → vs[i]? = some v → Rep φ H w a v) : RRepL w0.heap.size w M rs vs := by
  obtain ⟨hl2, hg⟩ := resAll_get _ _ hr
  have hbase : ∀ b, MBo φ H b → w0.heap.size ≤ b := by
    intro b hb
    rcases e.blk b hb with h | ⟨k, hk, _⟩
    · exact h
    · exact absurd hk (own0 _ _ k)
  let Ls : Nat → Loc := fun i => match avs[i]? with
    | some (.sl id _ _) => φ id
    | _ => ⟨0, 0, 0⟩
  have hLs : ∀ i id o l, avs[i]? = some (.sl id o l) → Ls i = φ id := fun i id o l h => by simp only [Ls, h]
  -- a new row's place
  have hvec : ∀ (i : Nat) r, rs[i]? = some r → r.isVec = true → 0 < (Ls i).cap → ∃ id o l, avs[i]? = some (.sl id o l) ∧ Own φ H id ∧ Ls i = φ id ∧ id ∈ resIds avs rs := by
    intro i r h1 h2 h3
    obtain ⟨a, h4, h5⟩ := hg i r h1
    cases r with
    | val g => cases h2
    | vec sz n f =>
      simp only [resOf] at h5
      split at h5
      · rename_i id off len
        split at h5
        · rename_i sz' n' f' hb
          refine ⟨id, off, len, h4, ⟨by simp [sig, hb, ABlk.sig], by rw [← hLs i id off len h4]; exact h3⟩, hLs i id off len h4, resIds_mem _ _ i id off len _ h4 h1 rfl⟩
        · exact h5.elim
      · simp [Ls, h4] at h3
      · exact h5.elim
  have hsub : ∀ b, (M b ∨ OB rs Ls b) → MB φ H b := by
    rintro b (h | ⟨i, r, h1, h2, h3, rfl⟩)
    · exact .inr (by rw [e.ext]; exact h)
    · obtain ⟨id, o, l, _, h5, h6, _⟩ := hvec i r h1 h2 h3
      exact .inl ⟨id, h5, .inl (by rw [h6])⟩
  refine ⟨Ls, by omega, fun i r u h1 h2 => ?_, fun i j r r' h1 h2 h3 h4 h5 h6 h7 => ?_⟩
  · obtain ⟨a, h3, h4⟩ := hg i r h1
    have hrep := hv i a u h3 h2
    cases r with
    | val g =>
      obtain ⟨k1, k2, k3⟩ := h4
      refine RepG.like (reify_repM hs hsub 6 a u hrep k2 fun id hid hown => ?_) k1
      rintro (h | ⟨j, r, j1, j2, j3, j4⟩)
      · exact hs.ext' id hown (by rw [e.ext]; exact h)
      · obtain ⟨id', o, l, _, j5, j6, j7⟩ := hvec j r j1 j2 j3
        rw [j6] at j4
        rw [hs.inj' id' id j5 hown j4] at j7
        exact k3 id hid j7
    | vec sz n f =>
      simp only [resOf] at h4
      split at h4
      · rename_i id off len
        split at h4
        · rename_i sz' n' f' hb
          obtain ⟨rfl, rfl, rfl, rfl, hf⟩ := h4
          obtain ⟨base, cap', rfl, _, _, k2, k3, hat⟩ := hrep.inv_sl
          obtain ⟨k4, k5, k6⟩ := hat sz' len (by simp [sig, hb, ABlk.sig])
          have hB := hs.blk id
          rw [hb] at hB
          obtain ⟨_, j1, j2, j3, j4, j5⟩ := hB
          rw [hLs i id 0 len h3]
          obtain rfl : cap' = (φ id).cap := by omega
          refine ⟨base, rfl, j1, j2, j3, fun p hp => by rw [← hf p hp]; exact j4 p hp, fun hc => ?_⟩
          obtain ⟨c, T, m1, m2, m3⟩ := j5 hc
          refine ⟨hbase _ (Own.b (φ := φ) (H := H) (id := id) ⟨by simp [sig, hb, ABlk.sig], hc⟩), by rw [k6 hc]; simp, c, T, m1, m2, fun p q av hp hav => ?_⟩
          obtain ⟨v, n1, n2, n3⟩ := m3 p q av hp (by rw [hf p hp]; exact hav)
          exact ⟨v, n1, n2, n3.weaken hsub⟩
        · exact h4.elim
      · obtain ⟨rfl, hsz⟩ := h4
        cases hrep.inv_raw
        have : Ls i = ⟨0, 0, 0⟩ := by simp only [Ls, h3]
        rw [this]
        exact ⟨none, rfl, hsz, Nat.le_refl _, by simp, fun i hi => by omega, fun h => by simp at h⟩
      · exact h4.elim
  · obtain ⟨id, o, l, j1, j2, j3, _⟩ := hvec i r h1 h3 h5
    obtain ⟨id', o', l', k1, k2, k3, _⟩ := hvec j r' h2 h4 h6
    rw [j3, k3] at h7
    have := hs.inj' id id' j2 k2 h7
    subst this
    exact nodupN_spec hn i j id o l o' l' r r' j1 k1 h1 h2 h3 h4

def valOf : List Value → Value
  | [v] => v
  | l => .tuple l.toArray
theorem mapT_eq (st : St) (ts : List RS) : mapT P st ts = ts.map (rsV P st) := by induction ts <;> simp_all [mapT]
theorem results_run {fn : Func} {ts : List RS} {st : St} {a : Act} (h : fn.results.toList = ts.map RS.rv) (hs : Sat φ st a w) (hc : allT P st ts) :
    ∃ vs : List Value, (results fn a.tmps).run P w = .ok (valOf vs) w ∧ vs.length = ts.length ∧ ∀ (i : Nat) av v, (mapT P st ts)[i]? = some av → vs[i]? = some v → Rep φ st.heap w av v := by
  have one : ∀ (g : ResultVar → Go.Sem Value) (_ : ∀ t, g (.tmp t) = pure (a.tmps.getD t undef)) (_ : ∀ x t, g (.cell x t) = (do loadVar t (← asAddr (a.tmps.getD x undef)))) (t : RS), rsC P st t →
      ∃ v, (g t.rv).run P w = .ok v w ∧ Rep φ st.heap w (rsV P st t) v := by
    intro g hg1 hg2 t ht
    cases t with
    | tmp t => exact ⟨_, by rw [RS.rv, hg1]; rfl, hs.slots t⟩
    | cell x t =>
      simp only [rsC] at ht
      simp only [rsV, RS.rv, hg2]
      have hx := hs.slots x
      split at ht
      · rename_i id i j hX
        rw [hX] at hx
        split at ht
        · rename_i cs hb
          obtain ⟨rfl, hj, hv, hcs⟩ := cells_of_box hs.heap hb hx
          obtain ⟨v, hr, hrep⟩ := run_load_cells (P := P) (t := t) (hcs.drop j) ht
          exact ⟨v, by simp [hv, asAddr, hr], hrep⟩
        · exact ht.elim
      · exact ht.elim
  have key : ∀ (g : ResultVar → Go.Sem Value) (_ : ∀ t, g (.tmp t) = pure (a.tmps.getD t undef)) (_ : ∀ x t, g (.cell x t) = (do loadVar t (← asAddr (a.tmps.getD x undef)))) (us : List RS), allT P st us →
      ∃ vs : List Value, ((us.map RS.rv).mapM g).run P w = .ok vs w ∧ vs.length = us.length ∧ ∀ (i : Nat) av v, (mapT P st us)[i]? = some av → vs[i]? = some v → Rep φ st.heap w av v := by
    intro g hg1 hg2 us
    induction us with
    | nil => intro _; exact ⟨[], by simp, rfl, fun i av v h => by simp [mapT] at h⟩
    | cons u us ih =>
      intro hc
      obtain ⟨v, h1, h2⟩ := one g hg1 hg2 u hc.1
      obtain ⟨vs, h3, h4, h5⟩ := ih hc.2
      refine ⟨v :: vs, by simp only [List.map_cons, List.mapM_cons, Sem.run_bind, h1, Result.andThen_ok, h3, Sem.run_pure], by simp [h4], fun i av x hi hx => ?_⟩
      cases i with
      | zero => simp [mapT] at hi hx; subst hi hx; exact h2
      | succ i => exact h5 i av x (by simpa [mapT] using hi) (by simpa using hx)
  have hr : ∃ g : ResultVar → Go.Sem Value, (∀ t, g (.tmp t) = pure (a.tmps.getD t undef)) ∧ (∀ x t, g (.cell x t) = (do loadVar t (← asAddr (a.tmps.getD x undef)))) ∧
      results fn a.tmps = (do let vs ← fn.results.mapM g; pure (if h : vs.size = 1 then vs[0] else .tuple vs)) := ⟨_, fun _ => rfl, fun _ _ => rfl, rfl⟩
  obtain ⟨g, hg1, hg2, e⟩ := hr
  obtain ⟨vs, h1, h2, h3⟩ := key g hg1 hg2 ts hc
  refine ⟨vs, ?_, h2, h3⟩
  rw [e, Array.mapM_eq_mapM_toList, h]
  clear h2 h3 e h one key
  simp only [map_eq_pure_bind, bind_assoc, pure_bind]
  rw [Sem.run_bind, h1]
  rcases vs with _ | ⟨v, _ | ⟨v', vs⟩⟩ <;> simp [valOf, Result.andThen_ok, Sem.run_pure]

theorem padA_sat {args : List AV} {vs : Array Value} {n : Nat} (hs : HSat φ H w) (hbase : φ.base ≤ w.heap.size) (hl : args.length = vs.size) (h : ∀ (i : Nat) c u, args[i]? = some c → vs[i]? = some u → Rep φ H w c u) :
    Sat φ ⟨padA args n, H⟩ { tmps := vs ++ Array.replicate (n - vs.size) undef, defers := [] } w := by
  refine ⟨hs, by simp [padA_eq, hl], fun i => ?_, ⟨hbase, [], rfl, List.nodup_nil, fun D hD => by simp at hD⟩⟩
  simp only [padA_eq]
  rw [sget_getElem?]
  by_cases hi : i < args.length
  · rw [List.getElem?_append_left hi, List.getElem?_eq_getElem hi]
    have hi' : i < vs.size := by omega
    have : (vs ++ Array.replicate (n - vs.size) undef).getD i undef = vs[i] := by
      simp [Array.getD_eq_getD_getElem?, Array.getElem?_append, hi']
    rw [this]
    exact h i _ _ (List.getElem?_eq_getElem hi) (Array.getElem?_eq_getElem hi')
  · rw [List.getElem?_append_right (by omega), List.getElem?_replicate]
    split <;> exact .undef _

/-- Behind a function's body: the marks are taken, the results handed out. -/
theorem ending_sound {fn : Func} {ts : List RS} {st : St} {a : Act} {φ0 : Env} {H0 : List ABlk} {w0 : World} {R : Ending → World → Prop} {n : Nat} (hres : fn.results.toList = ts.map RS.rv) (hs : Sat φ st a w) (e : Evo φ0 H0 w0 φ st.heap w) (hb : w0.heap.size ≤ φ.base) (hc : allT P st ts)
    (fin : ∀ vs w', HSat φ st.heap w' → Evo φ0 H0 w0 φ st.heap w' → vs.length = ts.length → (∀ (i : Nat) av v, (mapT P st ts)[i]? = some av → vs[i]? = some v → Rep φ st.heap w' av v) → R (.returned (valOf vs)) w') :
    LeavesInM Fence.wide n P fn a.tmps R a.defers .returning w := by
  obtain ⟨h0, Ds, h1, h2, h3⟩ := hs.marks
  rw [h1]
  refine leaves_coll Ds w h2 (fun D hD => (h3 D hD).1) fun w' hw' => ?_
  have hs' := hs.heap.coll hw' (fun D hD => (h3 D hD).2.2)
  have hsat' : Sat φ st { a with defers := [] } w' := ⟨hs', hs.len, fun i => (hs.slots i).coll hw', ⟨by rw [hw'.size]; exact h0, [], rfl, List.nodup_nil, fun D hD => by simp at hD⟩⟩
  have e' : Evo φ0 H0 w0 φ st.heap w' := ⟨hw'.os.trans e.os, hw'.tape.trans e.tape, hw'.output.trans e.output, by rw [hw'.size]; exact e.size, e.ext, e.base, fun b hlt hm => by
    rw [hw'.other b fun hD => by have := (h3 b hD).2.1; omega]; exact e.frame b hlt hm, e.blk, e.used, e.ids⟩
  obtain ⟨vs, r1, r2, r3⟩ := results_run hres hsat' hc
  exact ⟨_, r1, fin vs w' hs' e' r2 r3⟩

/-- A FUNCTION's CONTRACT, by its body's walk. -/
theorem Contract.intro {f : FuncId} {fn : Func} {body : Code} {args : List AV} {r : AR} (nt : Nat) (ts : List RS) (hc : CallOK P f) (hf : P.funcs[f]? = some fn) (hb : fn.body = some body) (hres : fn.results.toList = ts.map RS.rv)
    (hnt : fn.ntmps = nt) (h : Sem P ⟨0, none⟩ body (retK P ts r) ⟨padA args nt, []⟩) : Contract P f args r := by
  subst hnt
  refine ⟨hc, fun w M vs hM hrep => ?_⟩
  have hown : ∀ i, ¬ Own (env0 M w.heap.size) [] i := own0 M w.heap.size
  have hs : HSat (env0 M w.heap.size) [] w := hsat0 hM _
  have hsat := padA_sat (n := fn.ntmps) hs (Nat.le_refl _) hrep.1 (fun i c u h1 h2 => .g ((hrep.2 i c u h1 h2).weaken (fun b hb => by
    rcases hb with ⟨k, hk, _⟩ | hb
    · exact (hown k hk).elim
    · exact hb)))
  refine (callsIn_wide (n := 0)).1 (callsIn_of_wp_marks hf hb trivial (wpIn_mono (h _ [] w _ _ _ (fun id _ => by simp [hget]) hsat (Evo.refl _ _ _)) fun ex a w' he => ?_))
  obtain ⟨φ', st, h1, h2, h3⟩ := he
  have fin : retS P ts r st → LeavesInM Fence.wide 0 P fn a.tmps (fun e w' => ∃ v, e = .returned v ∧ Below w.heap.size w w' ∧ RRep w.heap.size w' M r v) a.defers .returning w' := by
    rintro ⟨h0, h1⟩
    refine ending_sound hres h2 h3 (by rw [h3.base]; exact Nat.le_refl _) h0 fun vs w'' hs'' e'' r2 r3 => ?_
    refine ⟨_, rfl, ⟨e''.os, e''.tape, e''.output, e''.size, fun k hk => e''.frame k hk (fun ⟨i, hi, _⟩ => hown i hi)⟩, ?_⟩
    cases r with
    | one r =>
      simp only at h1
      split at h1
      · rename_i t _
        match vs, r2, r3 with
        | [v], _, r3 =>
          refine results_rep (avs := [rsV P st t]) hs'' e'' ⟨h1, trivial⟩ ?_ rfl r3
          cases rsV P st t <;> try exact trivial
          cases r
          · exact trivial
          · exact ⟨trivial, trivial⟩
      · exact h1.elim
    | tup rs =>
      obtain ⟨k1, k2, k3⟩ := h1
      refine ⟨vs.toArray, ?_, results_rep (avs := mapT P st ts) hs'' e'' k2 k3 (by simp [mapT_eq, r2]) r3⟩
      match vs, r2 with
      | [], _ => rfl
      | [v], h => exact absurd h.symm k1
      | v :: v' :: vs, _ => rfl
    | own => exact h1.elim
  cases ex with
  | normal => exact fin h1
  | ret => exact fin h1
  | _ => exact h1.elim
end
end Go.SH
