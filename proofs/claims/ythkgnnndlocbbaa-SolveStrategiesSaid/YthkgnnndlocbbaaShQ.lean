/-
  THE SYMBOLIC HEAP, PART Q: whole pieces of code; loops; contracts. No condition.
-/
import Derived.Test.YthkgnnndlocbbaaShP
import Derived.Eval
namespace Go.SH
set_option linter.unusedVariables false
set_option linter.unusedSimpArgs false
open Go Go.RowKit
section
variable {P : Program} {ops : Array Oper} {base top : Nat}

theorem gsplit_elim {b : Bool} {f : Bool → Prop} (h : gsplit b f) : f b := by
  cases b
  · exact h.2 rfl
  · exact h.1 rfl

theorem countA_append (l m : List Oper) : countA (l ++ m) = countA l + countA m := by
  induction l with
  | nil => simp [countA]
  | cons o l ih => simp only [List.cons_append, countA, ih]; omega

theorem zip_cons (k : Nat) (d : Done) (Ds : List Done) : (List.range' k (d :: Ds).length).zip (d :: Ds) = (k, d) :: (List.range' (k + 1) Ds.length).zip Ds := by
  simp [List.range'_succ]

theorem vcDr_run {K : St → Prop} (htop : top = base + countA ops.toList) : ∀ (os : List Oper) (k cnt : Nat) (tr : List (List Nat × List Nat)) (st : St), (∀ i, ops[k + i]? = os[i]?) → cnt = base + countA (ops.toList.take k) → vcDr P ops base top os cnt tr K st →
    ∃ (Ds : List Done) (fin : St), Ds.length = os.length ∧ RunD P ops base ((List.range' k Ds.length).zip Ds) st fin ∧ checkD ops base (tr.reverse ++ Ds.map fpD) = true ∧ K fin := by
  intro os
  induction os with
  | nil =>
    intro k cnt tr st _ _ h
    simp only [vcDr] at h
    exact ⟨[], st, rfl, rfl, by simpa using h.1, h.2⟩
  | cons o os ih =>
    intro k cnt tr st hk hcnt h
    have hk0 : ops[k]? = some o := by have := hk 0; simpa using this
    have hks : ∀ i, ops[k + 1 + i]? = os[i]? := by intro i; have := hk (i + 1); rw [show k + (i + 1) = k + 1 + i by omega] at this; simpa using this
    have hkl : ops.toList[k]? = some o := by simpa using hk0
    have hcount : countA (ops.toList.take (k + 1)) = countA (ops.toList.take k) + (match isAlloc o with | true => 2 | false => 0) := by
      rw [List.take_add_one, hkl, countA_append]
      simp only [Option.toList, countA, Nat.add_zero]
      cases isAlloc o <;> rfl
    have hnid : nidOf ops.toList base k = match isAlloc o with | true => cnt | false => top := by
      unfold nidOf
      rw [hkl]
      simp only
      cases isAlloc o
      · simp only; exact htop.symm
      · simp only; exact hcnt.symm
    -- what comes behind
    have step : ∀ (d : Done) (st0 : St) (cnt' : Nat), cnt' = base + countA (ops.toList.take (k + 1)) → Did P ops base st0 k o d → st0 = st → vcDr P ops base top os cnt' (fpD d :: tr) K (appD o d st0) →
        ∃ (Ds : List Done) (fin : St), Ds.length = (o :: os).length ∧ RunD P ops base ((List.range' k Ds.length).zip Ds) st fin ∧ checkD ops base (tr.reverse ++ Ds.map fpD) = true ∧ K fin := by
      intro d st0 cnt' hc' hd hst h'
      subst hst
      obtain ⟨Ds, fin, h1, h2, h3, h4⟩ := ih (k + 1) cnt' (fpD d :: tr) _ hks hc' h'
      refine ⟨d :: Ds, fin, by simp [h1], ?_, ?_, h4⟩
      · rw [zip_cons]
        exact ⟨o, hk0, hd, h2⟩
      · simpa using h3
    -- one operation, run
    have one : ∀ (nid cnt' : Nat), nid = nidOf ops.toList base k → cnt' = base + countA (ops.toList.take (k + 1)) → (match o.guard with | none => True | some (g, want) => ∃ d, glook ops.toList g = some d ∧ sget st.slots d = .bool want) →
        effDK P o nid (fun x st' => vcDr P ops base top os cnt' (x :: tr) K st') st →
        ∃ (Ds : List Done) (fin : St), Ds.length = (o :: os).length ∧ RunD P ops base ((List.range' k Ds.length).zip Ds) st fin ∧ checkD ops base (tr.reverse ++ Ds.map fpD) = true ∧ K fin := by
      intro nid cnt' hn hc' hg h'
      subst hn
      unfold effDK at h'
      split at h'
      · rename_i f args hc
        obtain ⟨r, h1, h2⟩ := h'
        exact step (some (r, ⟨PureCall P f args st.heap r ∧ r.nv ≤ 2, r.v (nidOf ops.toList base k), r.u (nidOf ops.toList base k), idsM (idsR st.heap 6) args⟩)) st cnt' hc' ⟨hg, by simp [effE, hc], h1⟩ rfl h2
      · rename_i hc
        split at h'
        · rename_i e he
          exact step (some (.tup [], e)) st cnt' hc' ⟨hg, by simp [effE, hc, he], h'.1⟩ rfl h'.2
        · exact h'.elim
    simp only [vcDr] at h
    cases hal : isAlloc o with
    | true =>
      rw [hal] at hnid hcount
      simp only at hnid hcount
      simp only [hal] at h
      split at h
      · rename_i hg
        exact one cnt (cnt + 2) hnid.symm (by omega) (by rw [hg]; trivial) h
      · rename_i g want hg
        split at h
        · exact h.elim
        · rename_i d hd
          split at h
          · rename_i b hb
            have hself : sput st.slots d (.bool b) = st.slots := by
              apply List.ext_getElem?
              intro i
              by_cases hi : i = d
              · subst hi
                by_cases hl : i < st.slots.length
                · have h1 := sget_put_same st.slots i (.bool b) hl
                  rw [sget_getElem?, List.getElem?_eq_getElem (by rw [sput_length]; exact hl)] at h1
                  rw [sget_getElem?, List.getElem?_eq_getElem hl] at hb
                  rw [List.getElem?_eq_getElem (by rw [sput_length]; exact hl), List.getElem?_eq_getElem hl]
                  simp at h1 hb
                  rw [h1, hb]
                · rw [List.getElem?_eq_none (by rw [sput_length]; omega), List.getElem?_eq_none (by omega)]
              · have h1 := sget_put_ne st.slots d i (.bool b) hi
                rw [sget_getElem?, sget_getElem?] at h1
                by_cases hl : i < st.slots.length
                · rw [List.getElem?_eq_getElem (by rw [sput_length]; exact hl), List.getElem?_eq_getElem hl] at h1 ⊢
                  simpa using h1
                · rw [List.getElem?_eq_none (by rw [sput_length]; omega), List.getElem?_eq_none (by omega)]
            have hsp := gsplit_elim h
            simp only [hself] at hsp
            have skip : b ≠ want → vcDr P ops base top os (cnt + 2) (([], []) :: tr) K ⟨putA st.slots o.dst (.raw (.tuple #[])), st.heap⟩ → _ := fun hne h' => step none st (cnt + 2) (by omega) ⟨g, want, d, hg, hd, .inl ⟨b, hb, hne⟩⟩ rfl h'
            have run : b = want → effDK P o cnt (fun x st' => vcDr P ops base top os (cnt + 2) (x :: tr) K st') st → _ := fun he h' => one cnt (cnt + 2) hnid.symm (by omega) (by rw [hg]; exact ⟨d, hd, by rw [hb, he]⟩) h'
            cases b <;> cases want <;> simp only [bsel] at hsp
            · exact run rfl hsp
            · exact skip (by simp) hsp
            · exact skip (by simp) hsp
            · exact run rfl hsp
          · rename_i b hb
            exact step none st (cnt + 2) (by omega) ⟨g, want, d, hg, hd, .inr ⟨b, hb⟩⟩ rfl h
          · exact h.elim
    | false =>
      rw [hal] at hnid hcount
      simp only at hnid hcount
      simp only [hal] at h
      split at h
      · rename_i hg
        exact one top cnt hnid.symm (by omega) (by rw [hg]; trivial) h
      · rename_i g want hg
        split at h
        · exact h.elim
        · rename_i d hd
          split at h
          · rename_i b hb
            have hself : sput st.slots d (.bool b) = st.slots := by
              apply List.ext_getElem?
              intro i
              by_cases hi : i = d
              · subst hi
                by_cases hl : i < st.slots.length
                · have h1 := sget_put_same st.slots i (.bool b) hl
                  rw [sget_getElem?, List.getElem?_eq_getElem (by rw [sput_length]; exact hl)] at h1
                  rw [sget_getElem?, List.getElem?_eq_getElem hl] at hb
                  rw [List.getElem?_eq_getElem (by rw [sput_length]; exact hl), List.getElem?_eq_getElem hl]
                  simp at h1 hb
                  rw [h1, hb]
                · rw [List.getElem?_eq_none (by rw [sput_length]; omega), List.getElem?_eq_none (by omega)]
              · have h1 := sget_put_ne st.slots d i (.bool b) hi
                rw [sget_getElem?, sget_getElem?] at h1
                by_cases hl : i < st.slots.length
                · rw [List.getElem?_eq_getElem (by rw [sput_length]; exact hl), List.getElem?_eq_getElem hl] at h1 ⊢
                  simpa using h1
                · rw [List.getElem?_eq_none (by rw [sput_length]; omega), List.getElem?_eq_none (by omega)]
            have hsp := gsplit_elim h
            simp only [hself] at hsp
            have skip : b ≠ want → vcDr P ops base top os cnt (([], []) :: tr) K ⟨putA st.slots o.dst (.raw (.tuple #[])), st.heap⟩ → _ := fun hne h' => step none st cnt (by omega) ⟨g, want, d, hg, hd, .inl ⟨b, hb, hne⟩⟩ rfl h'
            have run : b = want → effDK P o top (fun x st' => vcDr P ops base top os cnt (x :: tr) K st') st → _ := fun he h' => one top cnt hnid.symm (by omega) (by rw [hg]; exact ⟨d, hd, by rw [hb, he]⟩) h'
            cases b <;> cases want <;> simp only [bsel] at hsp
            · exact run rfl hsp
            · exact skip (by simp) hsp
            · exact skip (by simp) hsp
            · exact run rfl hsp
          · rename_i b hb
            exact step none st cnt (by omega) ⟨g, want, d, hg, hd, .inr ⟨b, hb⟩⟩ rfl h
          · exact h.elim

theorem nidOf_ge (base i : Nat) (all : List Oper) : base ≤ nidOf all base i := by
  unfold nidOf
  split
  · split <;> omega
  · omega

theorem draw_sound {ro : Option Nat} {Q : Exit → Act → World → Prop} {K : St → Prop} {φ0 : Env} {H0 : List ABlk} {w0 : World} {φ : Env} {st : St} {a : Act} {w : World} {id : Nat} (hm : P.follows .mixedOrders = true) (hs : Sat φ st a w) (e0 : Evo φ0 H0 w0 φ st.heap w)
    (hQ : ∀ φ' st' a' w', K st' → Sat φ' st' a' w' → Evo φ0 H0 w0 φ' st'.heap w' → Q .normal a' w') (h : vcDraw P ops K st) : (Code.region id ops true).wpIn (FR ro) 0 P Q a w := by
  obtain ⟨Ds, fin, h1, h2, h3, h4⟩ := vcDr_run (K := K) rfl ops.toList 0 (hlen st.heap) [] st (fun i => by simp) (by simp [countA]) h
  apply wpIn_region_any hm
  simp only [List.reverse_nil, List.nil_append] at h3
  have hlen : Ds.length = ops.size := by simpa using h1
  have hchk := h3
  simp only [checkD, Bool.and_eq_true, List.all_eq_true] at hchk
  obtain ⟨c1, c2⟩ := hchk
  have hback : ∀ (i : Nat) o, ops[i]? = some o → ∀ e ∈ o.after, Region.binds .any e = true → e.on < i := by
    intro i o ho e he hb
    have h5 := c1 (o, i) (by rw [List.mem_zipIdx_iff_getElem?]; simpa using ho) e (by simpa using he)
    rw [hb] at h5
    simpa using h5
  have hpairs : ∀ i j, i < ops.size → j < ops.size → i ≠ j → (((masks ops.toList []).getD j 0).testBit i = true ∨ (nidOf ops.toList (SH.hlen st.heap) i ∉ ((Ds.map fpD).getD j ([], [])).2 ∧ nidOf ops.toList (SH.hlen st.heap) i + 1 ∉ ((Ds.map fpD).getD j ([], [])).2)) ∧
      (j < i → ((masks ops.toList []).getD i 0).testBit j = true ∨ ((ops.getD j default).apart ops (ops.getD i default) = true ∧ disj ((Ds.map fpD).getD j ([], [])) ((Ds.map fpD).getD i ([], [])) = true)) := by
    intro i j hi hj hne
    have h5 := c2 i (by simpa using hi) j (by simpa using hj)
    unfold checkPair at h5
    rw [Bool.or_eq_true] at h5
    rcases h5 with h5 | h5
    · exact absurd (by simpa using h5) hne
    · simp only [Bool.and_eq_true, Bool.or_eq_true, Bool.not_eq_true', List.contains_eq_mem, decide_eq_false_iff_not] at h5
      refine ⟨h5.1, fun hlt => ?_⟩
      rcases h5.2 with (h6 | h6) | h6
      · exact absurd hlt h6
      · exact .inl h6
      · exact .inr h6
  have hsd : Sat φ st a w.drew := ⟨hsat_same (SameHeap.drew w) hs.heap, hs.len, fun i => (hs.slots i).evo (evo_same (SameHeap.drew w)), hs.marks.evo (evo_same (SameHeap.drew w)) rfl⟩
  have hidx : ((List.range' 0 Ds.length).zip Ds).map (·.1) = List.range' 0 Ds.length := by
    rw [List.map_fst_zip]; simp
  refine drawn_sound (K := K) (base := SH.hlen st.heap) h4 (fun φ' a' w' h5 h6 => hQ φ' fin a' w' h4 h5 h6) hback (fun j => (Ds.map fpD).getD j ([], [])) ?_ ?_ ops.size _ _ φ st a _ ?_ (by simp) h2 hsd (e0.trans (evo_same (SameHeap.drew w))) ?_ ?_ ?_ ?_ ?_ ?_
  · intro j i hlt hj hi
    rcases (hpairs i j hi hj (by omega)).2 hlt with h5 | ⟨h5, h6⟩
    · exact .inl h5
    · refine .inr ⟨fun oj oi hoj hoi => ?_, h6⟩
      have e1 : ops.getD j default = oj := by simp [Array.getD_eq_getD_getElem?, hoj]
      have e2 : ops.getD i default = oi := by simp [Array.getD_eq_getD_getElem?, hoi]
      rw [e1, e2] at h5
      exact h5
  · intro i j hne hi hj
    exact (hpairs i j hi hj hne).1
  · simp; omega
  · intro p hp
    obtain ⟨k, d⟩ := p
    obtain ⟨n, hn⟩ := List.getElem?_of_mem hp
    rw [List.getElem?_zip_eq_some] at hn
    obtain ⟨n1, n2⟩ := hn
    have hnl : n < Ds.length := (List.getElem?_eq_some_iff.1 n2).1
    have : k = n := by simp [hnl] at n1; omega
    subst this
    simp [List.getD_eq_getElem?_getD, n2]
  · rw [hidx]; exact List.pairwise_lt_range' ..
  · intro i hi
    rw [hidx]
    simp [hi, hlen]
  · intro i hi
    rw [hidx] at hi
    simp at hi
    omega
  · intro k hk j _
    have : k < ops.size ∨ ops.size ≤ k := Nat.lt_or_ge _ _
    rcases this with h5 | h5
    · simp [h5] at hk
    · simp [Array.getD_eq_getD_getElem?, Nat.not_lt.2 h5] at hk
  · intro i _
    exact ⟨hget_ge _ _ (nidOf_ge _ _ _), hget_ge _ _ (by have := nidOf_ge (SH.hlen st.heap) i ops.toList; omega)⟩
end
end Go.SH
