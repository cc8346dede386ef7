/-
  THE SYMBOLIC HEAP, PART Z: variables that change no more, and what they hold, as values: also where they hold each other. No condition.
-/
import Derived.Test.YthkgnnndlocbbaaShY
namespace Go.SH
set_option linter.unusedVariables false
set_option linter.unusedSimpArgs false
open Go Go.RowKit
section
variable {P : Program} {φ φ' : Env} {H H' : List ABlk} {w w' : World} {lo : Cx}
/-- All that is pointed to, to a depth, is among some variables. -/
def closedP (H : List ABlk) (K : List Nat) : Nat → AV → Prop
  | 0, _ => True
  | n + 1, av =>
    match av with
    | .ptr id _ _ => id ∈ K ∧ ∃ cs, hget H id = .box cs ∧ ∀ c ∈ cs, closedP H K n c
    | .agg cs => ∀ c ∈ cs, closedP H K n c
    | .tup cs => ∀ c ∈ cs, closedP H K n c
    | .fn _ cs => ∀ c ∈ cs, closedP H K n c
    | .sl _ _ _ => False
    | .yld _ => False
    | .mp _ => False
    | _ => True
def killAll (H : List ABlk) : List Nat → List ABlk
  | [] => H
  | i :: l => killAll (hset H i .dead) l
theorem killAll_ok : ∀ (K : List Nat) (H : List ABlk), HSat φ H w → (∀ i ∈ K, (hget H i).used = true) → HSat φ (killAll H K) w ∧ Evo φ H w φ (killAll H K) w ∧ ∀ k b, OwnB φ (killAll H K) k b → k ∉ K ∧ OwnB φ H k b
  | [], H, hs, _ => ⟨hs, Evo.refl φ H w, fun k b h => ⟨by simp, h⟩⟩
  | i :: K, H, hs, hu => by
    have h1 := hsat_kill hs (hu i (by simp))
    have e1 := evo_kill (φ := φ) (w := w) (hu i (by simp))
    obtain ⟨h2, e2, h3⟩ := killAll_ok K (hset H i .dead) h1 fun j hj => by
      by_cases he : j = i
      · subst he; rw [hget_set_same]; rfl
      · rw [hget_set_ne _ _ _ _ he]; exact hu j (by simp [hj])
    refine ⟨h2, e1.trans e2, fun k b h => ?_⟩
    obtain ⟨g1, g2⟩ := h3 k b h
    obtain ⟨g3, g4⟩ := ownB_kill g2
    exact ⟨by simp [g1, g3], g4⟩
theorem closed_rep (hs : HSat φ H w) {K : List Nat} (hu : ∀ i ∈ K, (hget H i).used = true) : ∀ (n : Nat) (av : AV) (v : Value), Rep φ H w av v → closedP H K n av → RepG w (MB φ (killAll H K)) (reify H n av) v := by
  obtain ⟨_, e, hk⟩ := killAll_ok (φ := φ) (w := w) K H hs hu
  have sub : ∀ b, MB φ (killAll H K) b → MB φ H b := fun b hb => hb.imp (fun ⟨k, h⟩ => ⟨k, (hk k b h).2⟩) (fun h => h)
  intro n
  induction n with
  | zero => intro av v _ _; exact .undef v
  | succ n ih =>
    intro av v h hc
    have list : ∀ (cs : List AV) (vs : Array Value), cs.length = vs.size → (∀ (i : Nat) c u, cs[i]? = some c → vs[i]? = some u → Rep φ H w c u) → (∀ c ∈ cs, closedP H K n c) →
        (mapA (reify H n) cs).length = vs.size ∧ ∀ (i : Nat) c u, (mapA (reify H n) cs)[i]? = some c → vs[i]? = some u → RepG w (MB φ (killAll H K)) c u := by
      intro cs vs hl hcc hi
      rw [mapA_eq]
      refine ⟨by simpa using hl, fun i c u h1 h2 => ?_⟩
      simp only [List.getElem?_map] at h1
      cases hci : cs[i]? with
      | none => simp [hci] at h1
      | some c' =>
        simp [hci] at h1
        subst h1
        exact ih c' u (hcc i c' u hci h2) (hi c' (List.mem_of_getElem? hci))
    cases av <;> simp only [reify, closedP] at hc ⊢
    case undef => exact .undef v
    case int => cases h.inv_int; exact .int _ _
    case bool => cases h.inv_bool; exact .bool _
    case str => cases h.inv_str; exact .str _
    case raw => cases h.inv_raw; exact .raw _
    case agg cs =>
      obtain ⟨vs, rfl, hl, hcc⟩ := h.inv_agg
      obtain ⟨g1, g2⟩ := list cs vs hl hcc hc
      exact .agg g1 g2
    case tup cs =>
      obtain ⟨vs, rfl, hl, hcc⟩ := h.inv_tup
      obtain ⟨g1, g2⟩ := list cs vs hl hcc hc
      exact .tup g1 g2
    case fn f cs =>
      obtain ⟨vs, rfl, hl, hcc⟩ := h.inv_fn
      obtain ⟨g1, g2⟩ := list cs vs hl hcc hc
      exact .fn g1 g2
    case ro => exact h.inv_ro.weaken sub
    case rop => exact h.inv_rop.weaken sub
    case ptr id i j =>
      obtain ⟨hid, cs, hb, hcs⟩ := hc
      rw [hb]
      obtain ⟨a, rfl, hus, hat⟩ := h.inv_ptr
      obtain ⟨hi, hj, rfl⟩ := hat cs.length 1 (by rw [sig, hb]; rfl)
      have hB := hs.blk id
      rw [hb] at hB
      obtain ⟨hcap, hnm, cc, T, hheap, hcur⟩ := hB
      have hown : Own φ H id := ⟨by simp [sig, hb, ABlk.sig], by omega⟩
      have hi0 : i = 0 := by omega
      subst hi0
      have e1 : (φ id).o + 0 * cs.length + j = (φ id).o + j := by omega
      rw [e1]
      simp only []
      rw [dropA_eq, mapA_eq]
      refine .rop (φ id).b ((φ id).o + j) (fun k => (cc[(φ id).o + j + k]?).getD undef) (fun _ hM => ?_) (fun k hk' => ?_) (fun k c hk' => ?_)
      · rcases hM with ⟨k, hk1⟩ | hx
        · obtain ⟨g1, g2⟩ := hk k _ hk1
          have := hs.inj k id _ g2 ⟨hown, .inl rfl⟩
          subst this
          exact g1 hid
        · exact hs.ext' id hown hx
      · simp only [List.length_drop, List.length_map] at hk'
        obtain ⟨v, h1, _⟩ := hcur (j + k) _ (List.getElem?_eq_getElem (by omega))
        rw [← Nat.add_assoc] at h1
        simp [World.cell?, hheap, h1]
      · rw [List.getElem?_drop, List.getElem?_map] at hk'
        cases hc' : cs[j + k]? with
        | none => simp [hc'] at hk'
        | some c' =>
          simp [hc'] at hk'
          subst hk'
          obtain ⟨v, h1, h2⟩ := hcur (j + k) c' hc'
          rw [← Nat.add_assoc] at h1
          rw [h1]
          exact ih c' v h2 (hcs c' (List.mem_of_getElem? hc'))
/-- Variables are given up to reading. -/
theorem Sem.freezeP {c : Code} {Q : Exit → St → Prop} {s s' : List AV} (K : List Nat) (N : Nat) (hu : ∀ i ∈ K, (hget H i).used = true) (hl : s'.length = s.length) (hs : ∀ i, sget s' i = sget s i ∨ sget s' i = .undef ∨ (sget s' i = reify H N (sget s i) ∧ closedP H K N (sget s i)))
    (k : Sem P lo c Q ⟨s', killAll H K⟩) : Sem P lo c Q ⟨s, H⟩ := by
  refine Sem.ghost (st' := ⟨s', killAll H K⟩) (fun φ a w hsat => ?_) k
  obtain ⟨h1, e, _⟩ := killAll_ok (φ := φ) (w := w) K H hsat.heap hu
  refine ⟨φ, ⟨h1, hl.trans hsat.len, fun i => ?_, hsat.marks.evo e rfl⟩, e⟩
  have := hsat.slots i
  simp only at this ⊢
  rcases hs i with h | h | ⟨h, hc⟩
  · rw [h]; exact this.evo e
  · rw [h]; exact .undef _
  · rw [h]; exact .g (closed_rep hsat.heap hu N _ _ this hc)
/-- Variables are given up for a call. -/
theorem EffC.freezeP {g : FuncId} {args args' : List AV} {R : AV → List ABlk → Prop} (K : List Nat) (N : Nat) (hu : ∀ i ∈ K, (hget H i).used = true) (hl : args'.length = args.length)
    (hargs : ∀ (i : Nat) a a', args[i]? = some a → args'[i]? = some a' → a' = a ∨ (a' = reify H N a ∧ closedP H K N a)) (k : EffC P g args' (killAll H K) R) : EffC P g args H R := by
  refine ⟨k.1, fun φ w vs hs hrep => ?_⟩
  obtain ⟨h1, e, _⟩ := killAll_ok (φ := φ) (w := w) K H hs hu
  refine (k.2 φ w vs h1 ⟨hl.trans hrep.1, fun i c u h2 h3 => ?_⟩).mono fun e w' he => ?_
  · have hi : i < args.length := by rw [← hl]; exact (List.getElem?_eq_some_iff.1 h2).1
    have ha := List.getElem?_eq_getElem hi
    have hr := hrep.2 i _ u ha h3
    rcases hargs i _ c ha h2 with rfl | ⟨rfl, hc⟩
    · exact hr.evo e
    · exact .g (closed_rep hs hu N _ _ hr hc)
  · obtain ⟨res, H', φ', v, h4, h5, h6, h7, h8⟩ := he
    exact ⟨res, H', φ', v, h4, h5, h6, h7, (killAll_ok (φ := φ) (w := w) K H hs hu).2.1.trans h8⟩
theorem sget_sput (l : List AV) (i j : Nat) (v : AV) : sget (sput l i v) j = sget l j ∨ (j = i ∧ sget (sput l i v) j = v) := by
  by_cases h : j = i
  · subst h
    by_cases hl : j < l.length
    · exact .inr ⟨rfl, sget_put_same _ _ _ hl⟩
    · left
      rw [sget_getElem?, sget_getElem?, List.getElem?_eq_none (by rw [sput_length]; omega), List.getElem?_eq_none (by omega)]
  · exact .inl (sget_put_ne _ _ _ _ h)
/-- One slot's variable. -/
theorem Sem.freezeV {c : Code} {Q : Exit → St → Prop} {s : List AV} (t : Nat) (K : List Nat) (N : Nat) (hu : ∀ i ∈ K, (hget H i).used = true) (hc : closedP H K N (sget s t))
    (k : Sem P lo c Q ⟨sput s t (reify H N (sget s t)), killAll H K⟩) : Sem P lo c Q ⟨s, H⟩ := by
  refine Sem.freezeP K N hu (sput_length _ _ _) (fun i => ?_) k
  rcases sget_sput s t i (reify H N (sget s t)) with h | ⟨rfl, h⟩
  · exact .inl h
  · exact .inr (.inr ⟨h, hc⟩)
theorem like_refl : ∀ a : AV, like a a := by
  have one : ∀ a : AV, like1 a a := by
    intro a
    cases a with
    | ro n f => exact ⟨rfl, fun _ _ => rfl⟩
    | _ => simp [like1]
  have list : ∀ l : List AV, likeL l l := by
    intro l
    induction l with
    | nil => trivial
    | cons a l ih => exact ⟨one a, ih⟩
  intro a
  cases a with
  | agg l => exact list l
  | tup l => exact list l
  | _ => (unfold like; exact one _)
theorem likeAll_refl : ∀ l : List AV, likeAll l l
  | [] => trivial
  | a :: l => ⟨like_refl a, likeAll_refl l⟩
/-- A contract for what says more. -/
theorem Contract.via {f : FuncId} {args args' : List AV} {r : AR} (hc : Contract P f args' r) (hl : args.length = args'.length) (h : ∀ (i : Nat) a a', args[i]? = some a → args'[i]? = some a' → ∀ w M v, RepG w M a v → RepG w M a' v) : Contract P f args r := by
  refine ⟨hc.1, fun w M vs hM hrep => hc.2 w M vs hM ⟨hl ▸ hrep.1, fun i c u h1 h2 => ?_⟩⟩
  have hi : i < args.length := by rw [hl]; exact (List.getElem?_eq_some_iff.1 h1).1
  have ha := List.getElem?_eq_getElem hi
  exact h i _ c ha h1 w M u (hrep.2 i _ u ha h2)
theorem RepG.rows {M : Nat → Prop} {n : Nat} {f g : Nat → List AV} {v : Value} (h : RepG w M (.ro n f) v) (hl : ∀ i, i < n → (g i).length = (f i).length) (hfg : ∀ (i j : Nat) c c', i < n → (f i)[j]? = some c → (g i)[j]? = some c' → ∀ u, RepG w M c u → RepG w M c' u) : RepG w M (.ro n g) v := by
  cases h with
  | ro base cap b o sz vs hn hc hsz hbase hM hcell hone hlen hrep =>
    refine .ro base cap b o sz vs hn hc hsz hbase hM hcell hone (fun i hi => (hl i hi).trans (hlen i hi)) fun i j c' hi hc' => ?_
    have hj : j < (f i).length := by rw [← hl i hi]; exact (List.getElem?_eq_some_iff.1 hc').1
    have hc := List.getElem?_eq_getElem hj
    exact hfg i j _ c' hi hc hc' _ (hrep i j _ hi hc)
theorem RepG.nil0 {M : Nat → Prop} {g : Nat → List AV} {v : Value} (h : RepG w M (.raw (.slice none 0 0)) v) : RepG w M (.ro 0 g) v := by
  cases h
  exact .ro none 0 0 0 1 (fun _ => Go.undef) (Nat.le_refl _) (by simp) (by simp) (fun h => by simp at h) (fun h => by simp at h) (fun k h => by simp at h) (fun k h => by simp at h) (fun i h => by omega) (fun i j c h => by omega)
end
end Go.SH
