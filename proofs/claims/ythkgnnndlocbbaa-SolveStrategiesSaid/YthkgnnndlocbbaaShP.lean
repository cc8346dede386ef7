/-
  THE SYMBOLIC HEAP, PART P: regions that draw their order; whole pieces of code; loops; contracts. No condition.
-/
import Derived.Test.YthkgnnndlocbbaaShO
namespace Go.SH
set_option linter.unusedVariables false
set_option linter.unusedSimpArgs false
open Go Go.RowKit
section
variable {P : Program} {ops : Array Oper} {base : Nat}

/-! the masks -/
theorem maskStep_spec (acc : List Nat) (o : Oper) {j : Nat} (h : (maskStep acc o).testBit j = true) : ∃ e ∈ o.after, Region.binds .any e = true ∧ (e.on = j ∨ (acc.getD e.on 0).testBit j = true) := by
  have key : ∀ (l : List Edge) (m : Nat), (l.foldl (fun m e => bif Region.binds .any e then m ||| (1 <<< e.on) ||| acc.getD e.on 0 else m) m).testBit j = true →
      m.testBit j = true ∨ ∃ e ∈ l, Region.binds .any e = true ∧ (e.on = j ∨ (acc.getD e.on 0).testBit j = true) := by
    intro l
    induction l with
    | nil => intro m h; exact .inl h
    | cons e l ih =>
      intro m h
      simp only [List.foldl_cons] at h
      rcases ih _ h with h1 | ⟨e', h1, h2⟩
      · cases hb : Region.binds .any e with
        | false => simp only [hb, cond_false] at h1; exact .inl h1
        | true =>
          simp only [hb, cond_true, Nat.testBit_or, Bool.or_eq_true] at h1
          rcases h1 with (h1 | h1) | h1
          · exact .inl h1
          · refine .inr ⟨e, by simp, hb, .inl ?_⟩
            rw [Nat.one_shiftLeft, Nat.testBit_two_pow] at h1
            simpa using h1
          · exact .inr ⟨e, by simp, hb, .inr h1⟩
      · exact .inr ⟨e', by simp [h1], h2⟩
  rcases key _ _ h with h1 | ⟨e, h1, h2⟩
  · simp at h1
  · exact ⟨e, by simpa using h1, h2⟩

theorem masks_spec : ∀ (os : List Oper) (acc : List Nat), (∀ k, k < acc.length → (masks os acc)[k]? = acc[k]?) ∧
    ∀ (k : Nat) o, os[k]? = some o → ∃ acc', (masks os acc)[acc.length + k]? = some (maskStep acc' o) ∧ acc'.length = acc.length + k ∧ ∀ i, i < acc'.length → (masks os acc)[i]? = acc'[i]? := by
  intro os
  induction os with
  | nil => intro acc; exact ⟨fun _ _ => rfl, fun k o h => by simp at h⟩
  | cons o os ih =>
    intro acc
    obtain ⟨h1, h2⟩ := ih (acc ++ [maskStep acc o])
    simp only [masks]
    refine ⟨fun k hk => ?_, fun k o' hk => ?_⟩
    · rw [h1 k (by simp; omega), List.getElem?_append_left hk]
    · cases k with
      | zero =>
        simp at hk; subst hk
        refine ⟨acc, ?_, by simp, fun i hi => ?_⟩
        · rw [Nat.add_zero, h1 _ (by simp)]; simp
        · rw [h1 i (by simp; omega), List.getElem?_append_left hi]
      | succ k =>
        obtain ⟨acc', g1, g2, g3⟩ := h2 k o' (by simpa using hk)
        have e : acc.length + (k + 1) = (acc ++ [maskStep acc o]).length + k := by simp; omega
        rw [e]
        exact ⟨acc', g1, by rw [g2], g3⟩

/-- What comes before an operation has been done when the operation is ready. -/
theorem mask_listed (hback : ∀ (i : Nat) o, ops[i]? = some o → ∀ e ∈ o.after, Region.binds .any e = true → e.on < i) {listed : Nat → Bool}
    (hcl : ∀ (k : Nat), listed k = true → ∀ j, ((masks ops.toList []).getD k 0).testBit j = true → listed j = true) {i : Nat} {o : Oper} (ho : ops[i]? = some o)
    (hready : ∀ e ∈ o.after, Region.binds .any e = true → listed e.on = true) : ∀ j, ((masks ops.toList []).getD i 0).testBit j = true → listed j = true := by
  intro j hj
  obtain ⟨_, h2⟩ := masks_spec ops.toList []
  obtain ⟨acc', g1, g2, g3⟩ := h2 i o (by simpa using ho)
  simp only [List.length_nil, Nat.zero_add] at g1 g2
  rw [List.getD_eq_getElem?_getD, g1] at hj
  simp only [Option.getD_some] at hj
  obtain ⟨e, he, hb, hor⟩ := maskStep_spec _ _ hj
  have hl := hready e he hb
  rcases hor with rfl | hor
  · exact hl
  · refine hcl e.on hl j ?_
    have hlt := hback i o ho e he hb
    rw [List.getD_eq_getElem?_getD, g3 e.on (by omega), ← List.getD_eq_getElem?_getD]
    exact hor

section run
variable {Q : Exit → Act → World → Prop} {K : St → Prop} {φ0 : Env} {H0 : List ABlk} {w0 : World}

/-- One operation, in whatever order. -/
theorem did_sound {ro : Option Nat} {φ : Env} {st : St} {a : Act} {w : World} {i : Nat} {o : Oper} {d : Done} {next : Act → World → Prop} (ho : ops[i]? = some o) (hs : Sat φ st a w) (e0 : Evo φ0 H0 w0 φ st.heap w) (hd : Did P ops base st i o d)
    (hf : hget st.heap (nidOf ops.toList base i) = .fresh) (hf1 : hget st.heap (nidOf ops.toList base i + 1) = .fresh)
    (hnext : ∀ φ' a' w', Sat φ' (appD o d st) a' w' → Evo φ0 H0 w0 φ' (appD o d st).heap w' → next a' w') : wpOpIn (FR ro) 0 P ops Q i next a w := by
  unfold wpOpIn
  rw [ho]
  simp only
  cases d with
  | none =>
    obtain ⟨g, want, t, h1, h2, h3⟩ := hd
    have hw : Region.wanted o (yielded ops a.tmps) = false := by
      rcases h3 with ⟨b, h3, h4⟩ | ⟨x, h3⟩
      · have hy := yielded_of hs h2 h3
        simp only [Region.wanted, h1, hy]; cases b <;> cases want <;> first | rfl | exact absurd rfl h4
      · have hy := yielded_nov hs h2 h3
        simp only [Region.wanted, h1, hy]; cases want <;> rfl
    rw [hw]
    simp only [Bool.false_eq_true, if_false]
    exact ⟨fun _ _ => trivial, hnext φ _ _ (hs.put (Evo.refl φ st.heap w) hs.heap (.g (.raw undef)) o.dst) e0⟩
  | some x =>
    obtain ⟨r, e⟩ := x
    obtain ⟨h1, h2, h3⟩ := hd
    have hw : Region.wanted o (yielded ops a.tmps) = true := by
      cases hg : o.guard with
      | none => simp [Region.wanted, hg]
      | some p =>
        obtain ⟨g, want⟩ := p
        rw [hg] at h1
        obtain ⟨t, k1, k2⟩ := h1
        have hy := yielded_of hs k1 k2
        simp [Region.wanted, hg, hy]
    rw [hw]
    simp only [if_true]
    refine ⟨fun _ _ => trivial, ?_⟩
    have hsound := eff_sound (P := P) (a := a) (o := o) (nidOf ops.toList base i) hs.heap hf hs.eval
    unfold effE at h2
    split at h2
    · rename_i f args hc
      simp only [Option.some.injEq] at h2
      subst h2
      have hsem := sem_FR (P := P) (H := st.heap) (ρ' := a.eval) (o := o) ro (nidOf ops.toList base i) (evalA st.slots) (fun e => by rw [callOf_eff _ hc] at e; cases e)
      rw [callOf_eff _ hc] at hsound
      obtain ⟨vs, hr, hrep⟩ := hsound
      rw [hsem, hr, h3.1.ok vs w]
      simp only [Oper.uponIn]
      refine ⟨fun h => by simp [FR] at h, callsIn_FR.2 ?_⟩
      have hfr : ∀ k, k < r.nv → hget st.heap (nidOf ops.toList base i + k) = .fresh := by
        intro k hk
        have hn : r.nv ≤ 2 := h3.2
        have : k = 0 ∨ k = 1 := by omega
        rcases this with rfl | rfl
        · exact hf
        · exact hf1
      refine (pure_calls (nid := nidOf ops.toList base i) h3.1 hs.heap hrep hfr).mono fun ee w' he => ?_
      obtain ⟨φ', v, rfl, g1, g2, g3⟩ := he
      exact hnext φ' _ _ (hs.put g3 g1 g2 o.dst) (e0.trans g3)
    · split at h2
      · rename_i e1 he
        simp only [Option.some.injEq] at h2
        subst h2
        have hsem := sem_FR (P := P) (H := st.heap) (ρ' := a.eval) (o := o) ro (nidOf ops.toList base i) (evalA st.slots) (fun e => by rw [he] at e; cases e)
        rw [he] at hsound
        rw [hsem]
        obtain ⟨v, w', φ', hr, g1, g2, g3⟩ := hsound h3
        have hsat := hs.put g3 g1 g2 o.dst
        rcases hr with hr | ⟨hr, rfl⟩
        · rw [hr]; exact hnext φ' _ _ hsat (e0.trans g3)
        · rw [hr]; exact hnext φ' _ _ hsat (e0.trans g3)
      · cases h2

theorem split_at {T : List (Nat × Done)} {i : Nat} (h : ∃ d, (i, d) ∈ T) : ∃ pre d post, T = pre ++ (i, d) :: post := by
  obtain ⟨d, hd⟩ := h
  obtain ⟨pre, post, rfl⟩ := List.append_of_mem hd
  exact ⟨pre, d, post, rfl⟩

/-- Every order that the edges allow. -/
theorem drawn_sound {ro : Option Nat} {fin : St} (hK : K fin) (hQ : ∀ φ' a' w', Sat φ' fin a' w' → Evo φ0 H0 w0 φ' fin.heap w' → Q .normal a' w')
    (hback : ∀ (i : Nat) o, ops[i]? = some o → ∀ e ∈ o.after, Region.binds .any e = true → e.on < i)
    (fp : Nat → List Nat × List Nat)
    (hpair : ∀ j i, j < i → j < ops.size → i < ops.size → ((masks ops.toList []).getD i 0).testBit j = true ∨ ((∀ oj oi, ops[j]? = some oj → ops[i]? = some oi → oj.apart ops oi = true) ∧ disj (fp j) (fp i) = true))
    (hnid : ∀ i j, i ≠ j → i < ops.size → j < ops.size → ((masks ops.toList []).getD j 0).testBit i = true ∨ (nidOf ops.toList base i ∉ (fp j).2 ∧ nidOf ops.toList base i + 1 ∉ (fp j).2)) :
    ∀ (fuel : Nat) (T : List (Nat × Done)) (listed : Array Bool) (φ : Env) (st : St) (a : Act) (w : World), T.length ≤ fuel → listed.size = ops.size → RunD P ops base T st fin → Sat φ st a w → Evo φ0 H0 w0 φ st.heap w →
      (∀ p ∈ T, fpD p.2 = fp p.1) → (T.map (·.1)).Pairwise (· < ·) → (∀ i, i < ops.size → (listed.getD i true = false ↔ i ∈ T.map (·.1))) → (∀ i ∈ T.map (·.1), i < ops.size) →
      (∀ k, listed.getD k false = true → ∀ j, ((masks ops.toList []).getD k 0).testBit j = true → listed.getD j false = true) →
      (∀ i ∈ T.map (·.1), hget st.heap (nidOf ops.toList base i) = .fresh ∧ hget st.heap (nidOf ops.toList base i + 1) = .fresh) → wpAnyIn (FR ro) 0 P .any ops Q fuel listed a w := by
  have empty : ∀ (listed : Array Bool), listed.size = ops.size → (∀ i, i < ops.size → (listed.getD i true = false ↔ i ∈ ([] : List (Nat × Done)).map (·.1))) → Region.ready .any ops listed = [] := by
    intro listed hsz h
    apply List.eq_nil_iff_forall_not_mem.2
    intro j hj
    obtain ⟨h1, o, h2, _⟩ := mem_ready.1 hj
    have hlt := (Array.getElem?_eq_some_iff.1 h2).1
    have := (h j hlt).1 h1
    simp at this
  intro fuel
  induction fuel with
  | zero =>
    intro T listed φ st a w hlen hsz hrun hs e0 hfp hsorted hlisted hlt hcl hfresh
    obtain rfl : T = [] := List.eq_nil_of_length_eq_zero (by omega)
    simp only [RunD] at hrun
    subst hrun
    exact ⟨empty listed hsz hlisted, hQ φ a w hs e0⟩
  | succ fuel ih =>
    intro T listed φ st a w hlen hsz hrun hs e0 hfp hsorted hlisted hlt hcl hfresh
    refine ⟨fun hready => ?_, fun i hi => ?_⟩
    · cases T with
      | nil =>
        simp only [RunD] at hrun
        subst hrun
        exact hQ φ a w hs e0
      | cons p T =>
        exfalso
        obtain ⟨i, d⟩ := p
        have hi := hlt i (by simp)
        have hmem : i ∈ Region.ready .any ops listed := by
          refine mem_ready.2 ⟨(hlisted i hi).2 (by simp), ops[i], Array.getElem?_eq_getElem hi, fun e he hb => ?_⟩
          have hlt' := hback i _ (Array.getElem?_eq_getElem hi) e he hb
          have hn : e.on ∉ ((i, d) :: T).map (·.1) := by
            intro hm
            simp only [List.map_cons, List.mem_cons] at hm
            rcases hm with rfl | hm
            · omega
            · have h9 : i < e.on := List.rel_of_pairwise_cons hsorted hm
              omega
          have h1 : ¬ (listed.getD e.on true = false) := fun h => hn ((hlisted e.on (by omega)).1 h)
          have h2 : e.on < listed.size := by omega
          simp [Array.getD_eq_getD_getElem?, h2] at h1 ⊢
          exact h1
        rw [hready] at hmem
        simp at hmem
    · obtain ⟨hl0, o, ho, hdeps⟩ := mem_ready.1 hi
      have hilt := (Array.getElem?_eq_some_iff.1 ho).1
      have hiT := (hlisted i hilt).1 hl0
      have hex : ∃ d, (i, d) ∈ T := by
        obtain ⟨p, hp, he⟩ := List.mem_map.1 hiT
        obtain ⟨j, d⟩ := p
        simp only at he; subst he
        exact ⟨d, hp⟩
      obtain ⟨pre, d, post, rfl⟩ := split_at hex
      have hmask := mask_listed hback (listed := fun k => listed.getD k false) hcl ho hdeps
      have hsort' : ∀ p ∈ pre, p.1 < i := by
        intro p hp
        rw [List.map_append, List.pairwise_append] at hsorted
        exact hsorted.2.2 p.1 (List.mem_map.2 ⟨p, hp, rfl⟩) i (by simp)
      have hfree : ∀ p ∈ pre, FreeP ops p.1 i p.2 d := by
        intro p hp
        have hlt1 := hsort' p hp
        have hpT : p.1 ∈ (pre ++ (i, d) :: post).map (·.1) := List.mem_map.2 ⟨p, by simp [hp], rfl⟩
        rcases hpair p.1 i hlt1 (hlt _ hpT) hilt with h | ⟨h1, h2⟩
        · have h3 := hmask p.1 h
          have h4 := (hlisted p.1 (hlt _ hpT)).2 hpT
          have h5 : p.1 < listed.size := by have := hlt _ hpT; omega
          simp [Array.getD_eq_getD_getElem?, h5] at h3 h4
          rw [h3] at h4; cases h4
        · exact ⟨h1, by rw [hfp p (by simp [hp]), hfp (i, d) (by simp)]; exact h2⟩
      obtain ⟨d', pre', post', hrun', hfd, hpre, hpost⟩ := run_front pre post st hrun hfree
      subst hpost
      simp only [RunD] at hrun'
      obtain ⟨o', ho', hdid, hrun''⟩ := hrun'
      rw [ho] at ho'
      cases ho'
      have hfi := hfresh i hiT
      have hfdi : fpD d' = fp i := by rw [hfd]; exact hfp (i, d) (by simp)
      have hprefst : pre'.map (·.1) = pre.map (·.1) := by
        have := congrArg (List.map Prod.fst) hpre
        simpa [List.map_map, Function.comp_def] using this
      refine did_sound (P := P) (base := base) ho hs e0 hdid hfi.1 hfi.2 fun φ' a' w' hs' e0' => ?_
      have hmemT : ∀ k, k ∈ (pre' ++ post').map (·.1) → k ∈ (pre ++ (i, d) :: post').map (·.1) ∧ k ≠ i := by
        intro k hk
        rw [List.map_append, List.mem_append, hprefst] at hk
        refine ⟨?_, ?_⟩
        · rw [List.map_append, List.mem_append]
          rcases hk with hk | hk
          · exact .inl hk
          · exact .inr (by simp only [List.map_cons, List.mem_cons]; exact .inr hk)
        · intro he
          subst he
          rw [List.map_append, List.pairwise_append] at hsorted
          rcases hk with hk | hk
          · have := hsorted.2.2 k hk k (by simp)
            omega
          · have h9 : k < k := List.rel_of_pairwise_cons hsorted.2.1 hk
            omega
      refine ih (pre' ++ post') (listed.setIfInBounds i true) φ' (appD o d' st) a' w' ?_ (by simp [hsz]) hrun'' hs' e0' ?_ ?_ ?_ ?_ ?_ ?_
      · have h1 : pre'.length = pre.length := by have := congrArg List.length hprefst; simpa using this
        simp at hlen ⊢; omega
      · intro p hp
        rcases List.mem_append.1 hp with hp | hp
        · have hm : (p.1, fpD p.2) ∈ pre.map (fun p => (p.1, fpD p.2)) := by rw [← hpre]; exact List.mem_map.2 ⟨p, hp, rfl⟩
          obtain ⟨q, hq, he⟩ := List.mem_map.1 hm
          simp only [Prod.mk.injEq] at he
          rw [← he.2, hfp q (by simp [hq]), he.1]
        · exact hfp p (by simp [hp])
      · rw [List.map_append, hprefst]
        rw [List.map_append, List.map_cons] at hsorted
        rw [List.pairwise_append] at hsorted ⊢
        exact ⟨hsorted.1, (List.pairwise_cons.1 hsorted.2.1).2, fun x hx y hy => hsorted.2.2 x hx y (by simp [hy])⟩
      · intro k hk
        by_cases hki : k = i
        · subst hki
          constructor
          · intro h
            have h5 : k < listed.size := by omega
            simp [h5] at h
          · intro h; exact absurd rfl (hmemT k h).2
        · rw [getD_set_ne true (Ne.symm hki), hlisted k hk]
          rw [List.map_append, List.map_cons, List.mem_append, List.mem_cons, List.map_append, List.mem_append, hprefst]
          constructor
          · rintro (h | h | h)
            · exact .inl h
            · exact absurd h hki
            · exact .inr h
          · rintro (h | h)
            · exact .inl h
            · exact .inr (.inr h)
      · intro k hk; exact hlt k (hmemT k hk).1
      · intro k hk j hj
        apply getD_set_true
        by_cases hki : k = i
        · subst hki; exact hmask j hj
        · rw [getD_set_ne false (Ne.symm hki)] at hk
          exact hcl k hk j hj
      · intro k hk
        obtain ⟨h1, h2⟩ := hmemT k hk
        obtain ⟨f1, f2⟩ := hfresh k h1
        rcases hnid k i h2 (hlt k h1) hilt with hbit | ⟨n1, n2⟩
        · exfalso
          have h3 := hmask k hbit
          have h4 := (hlisted k (hlt _ h1)).2 h1
          have h5 : k < listed.size := by have := hlt _ h1; omega
          simp [Array.getD_eq_getD_getElem?, h5] at h3 h4
          rw [h3] at h4; cases h4
        have hh : ∀ x, x ∉ (fp i).2 → hget (appD o d' st).heap x = hget st.heap x := by
          intro x hx
          rw [← hfdi] at hx
          cases d' with
          | none => rfl
          | some y => exact applyU_get _ _ hx
        exact ⟨by rw [hh _ n1]; exact f1, by rw [hh _ n2]; exact f2⟩
end run
end
end Go.SH
