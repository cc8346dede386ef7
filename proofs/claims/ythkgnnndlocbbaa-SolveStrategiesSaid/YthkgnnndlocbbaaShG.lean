/-
  THE SYMBOLIC HEAP, PART G: literals, append and copy; what each operation does, all together. No condition.
-/
import Derived.Test.YthkgnnndlocbbaaShF
namespace Go.SH
set_option linter.unusedVariables false
set_option linter.unusedSimpArgs false
open Go Go.RowKit
section
variable {P : Program} {φ φ' : Env} {H H' : List ABlk} {w w' : World} {a : Act} {o : Oper} {ρ : Operand → AV}

theorem put_list : ∀ (l : List Value) (k off : Nat) (cells : Array Value), off + k + l.length ≤ cells.size →
    ((l.zipIdx k).foldl (fun cs (p : Value × Nat) => cs.setIfInBounds (off + p.2) p.1) cells).size = cells.size ∧
    ∀ i, ((l.zipIdx k).foldl (fun cs (p : Value × Nat) => cs.setIfInBounds (off + p.2) p.1) cells)[i]? = if off + k ≤ i ∧ i < off + k + l.length then l[i - (off + k)]? else cells[i]? := by
  intro l
  induction l with
  | nil => intro k off cells h; simp; intro i h1 h2; omega
  | cons x l ih =>
    intro k off cells h
    simp only [List.zipIdx_cons, List.foldl_cons]
    simp only [List.length_cons] at h
    obtain ⟨h1, h2⟩ := ih (k + 1) off (cells.setIfInBounds (off + k) x) (by simp; omega)
    refine ⟨by rw [h1]; simp, fun i => ?_⟩
    rw [h2]
    by_cases hi : off + (k + 1) ≤ i ∧ i < off + (k + 1) + l.length
    · rw [if_pos hi, if_pos (by simp; omega)]
      have : i - (off + k) = (i - (off + (k + 1))) + 1 := by omega
      rw [this]; simp
    · rw [if_neg hi]
      by_cases he : i = off + k
      · subst he
        have hlt : off + k < cells.size := by omega
        rw [if_pos (by simp)]
        simp [hlt]
      · rw [if_neg (by simp; omega), Array.getElem?_setIfInBounds_ne (by omega)]

theorem put_cells (vs cells : Array Value) (off : Nat) (h : off + vs.size ≤ cells.size) :
    (vs.zipIdx.foldl (fun cs (p : Value × Nat) => cs.setIfInBounds (off + p.2) p.1) cells).size = cells.size ∧
    ∀ i, (vs.zipIdx.foldl (fun cs (p : Value × Nat) => cs.setIfInBounds (off + p.2) p.1) cells)[i]? = if off ≤ i ∧ i < off + vs.size then vs[i - off]? else cells[i]? := by
  rw [← Array.foldl_toList, Array.toList_zipIdx]
  have := put_list vs.toList 0 off cells (by simpa using h)
  simpa using this

theorem fill_ok (place : Nat → Nat × Nat) (ok : Nat → Prop) (pl : Nat → Option (Nat × Nat)) (hpl : ∀ i, ok i → pl i = some (place i)) (hρ : ∀ x, Rep φ H w (ρ x) (a.eval x)) :
    ∀ (ps : List (Nat × Operand)) (cs : List AV) (vs : Array Value), cs.length = vs.size → (∀ (i : Nat) c u, cs[i]? = some c → vs[i]? = some u → Rep φ H w c u) →
      fillC place ok cs.length (mapP ρ ps) → ∃ vs', Instr.fill pl vs (ps.map fun (i, x) => (i, a.eval x)) = some vs' ∧ (fillA place cs (mapP ρ ps)).length = vs'.size ∧
        ∀ (i : Nat) c u, (fillA place cs (mapP ρ ps))[i]? = some c → vs'[i]? = some u → Rep φ H w c u := by
  intro ps
  induction ps with
  | nil => intro cs vs hl h _; exact ⟨vs, rfl, hl, h⟩
  | cons p ps ih =>
    obtain ⟨i, x⟩ := p
    intro cs vs hl h hc
    simp only [mapP, fillC] at hc
    obtain ⟨⟨h1, h2, h3, h4⟩, hc⟩ := hc
    obtain ⟨gl, gr⟩ := cells_rep h2 (hρ x)
    rw [alen_eq] at h3 h4
    simp only [List.map_cons, Instr.fill, hpl i h1]
    have hne : ((a.eval x).cells.size ≠ (place i).2 || decide ((place i).1 + (a.eval x).cells.size > vs.size)) = false := by
      simp; omega
    have hp := put_cells (a.eval x).cells vs (place i).1 (by omega)
    rw [if_neg (by simp only [hne]; simp)]
    refine ih (spliceA cs (place i).1 (cellsA (ρ x))) _ (by rw [spliceA_length]; rw [hp.1]; exact hl) ?_ (by rw [spliceA_length]; exact hc)
    intro k c u hk hu
    rw [hp.2] at hu
    have hkl : k < cs.length := by have := (List.getElem?_eq_some_iff.1 hk).1; rw [spliceA_length] at this; exact this
    rw [spliceA_get _ _ _ _ hkl] at hk
    by_cases hin : (place i).1 ≤ k ∧ k < (place i).1 + (cellsA (ρ x)).length
    · rw [if_pos hin] at hk
      rw [if_pos (by omega)] at hu
      exact gr _ c u hk hu
    · rw [if_neg hin] at hk
      rw [if_neg (by omega)] at hu
      exact h k c u hk hu

theorem allPos_get {fs : List (Nat × Nat × Nat)} (h : allPos fs) : ∀ p ∈ fs, 0 < p.2.2 := by
  induction fs with
  | nil => simp
  | cons p fs ih =>
    obtain ⟨x, y, n⟩ := p
    simp only [allPos] at h
    intro q hq
    rcases List.mem_cons.1 hq with rfl | hq
    · exact h.1
    · exact ih h.2 q hq

theorem run_mapM_sizes (P : Program) (w : World) : ∀ (fs : List Field), (∀ f ∈ fs, 0 < P.cellsOf f.type) →
    (fs.mapM (m := Sem) fun f => do pure (f.offset, ← sizeOf f.type)).run P w = .ok (fs.map fun f => (f.offset, P.cellsOf f.type)) w := by
  intro fs
  induction fs with
  | nil => intro _; simp
  | cons f fs ih =>
    intro h
    have hf := h f (by simp)
    have : ∃ i, P.info? f.type = some i ∧ i.size = P.cellsOf f.type := by
      unfold Program.cellsOf at hf ⊢
      cases hi : P.info? f.type with
      | none => simp [hi] at hf
      | some i => exact ⟨i, rfl, by simp⟩
    obtain ⟨i, hi, hs⟩ := this
    have hsz : (sizeOf f.type).run P w = .ok (P.cellsOf f.type) w := by simp [sizeOf, typeInfo, hi, hs]
    simp only [List.mapM_cons, Sem.run_bind, hsz, Result.andThen_ok, Sem.run_pure, ih (fun g hg => h g (by simp [hg])), List.map_cons]

theorem sound_build {t : TypeId} {ps : Array (Nat × Operand)} (ho : o.op = .build t ps) (hs : HSat φ H w) (hρ : ∀ x, Rep φ H w (ρ x) (a.eval x)) :
    SoundEff P φ H w a o (eBuild P (tiOf P t) (mapP ρ ps.toList)) := by
  unfold eBuild
  have zero : ∀ k, (tiOf P t).kind = k → k ≠ .other → ∃ z : Value, (zeroValue t).run P w = .ok z w ∧ (tiOf P t).zero.length = z.cells.size ∧ ∀ (i : Nat) c u, (tiOf P t).zero[i]? = some c → z.cells[i]? = some u → Rep φ H w c u := by
    intro k hk hne
    obtain ⟨d, i, z, _, hi, hz, _, _, _, hzero⟩ := tiOf_kind hk hne
    refine ⟨z, by simp [zeroValue, typeInfo, hi, hz], by rw [hzero]; simp, fun i c u hc hu => ?_⟩
    rw [hzero] at hc
    rw [ofC_get hc hu]; exact .g (repG_ofC _ u)
  split
  · rename_i fs hk
    refine SoundEff.pure hs fun hc => ?_
    obtain ⟨hpos, hc⟩ := hc
    obtain ⟨z, hz, hzl, hzr⟩ := zero _ hk (by simp)
    obtain ⟨Fs, hu, hfs⟩ := und_struct hk
    rw [alen_eq] at hc
    have hpos' : ∀ f ∈ Fs.toList, 0 < P.cellsOf f.type := by
      intro f hf
      have := allPos_get hpos (f.offset, f.type, P.cellsOf f.type) (by rw [hfs]; exact List.mem_map.2 ⟨f, hf, rfl⟩)
      exact this
    have hpl : ∀ i, i < fs.length → ((Fs.map fun f => (f.offset, P.cellsOf f.type))[i]? : Option (Nat × Nat)) = some ((pget fs i).1, (pget fs i).2.2) := by
      intro i hi
      have hi' : i < Fs.size := by rw [hfs] at hi; simpa using hi
      have := pget_some hi
      rw [hfs] at this
      simp only [List.getElem?_map, Array.getElem?_toList, Array.getElem?_eq_getElem hi', Option.map_some, Option.some.injEq] at this
      rw [hfs, ← this]
      simp [hi']
    obtain ⟨vs', hf, hl, hr⟩ := fill_ok (fun i => ((pget fs i).1, (pget fs i).2.2)) (· < fs.length) ((Fs.map fun f => (f.offset, P.cellsOf f.type))[·]?) hpl hρ ps.toList _ z.cells hzl hzr hc
    refine ⟨.agg vs', ?_, .agg hl hr⟩
    have hm : (Fs.mapM (m := Sem) fun f => do pure (f.offset, ← sizeOf f.type)).run P w = .ok (Fs.map fun f => (f.offset, P.cellsOf f.type)) w := by
      rw [← Array.toArray_toList (xs := Fs), List.mapM_toArray, Sem.run_map, run_mapM_sizes P w _ hpos']
      simp only [Result.andThen_ok]
      congr 1
      apply Array.ext'
      simp
    have hps : (ps.map fun x => (x.1, a.eval x.2)).toList = ps.toList.map fun (i, x) => (i, a.eval x) := by simp
    simp only [execOp, ho, Instr.build, Sem.run_bind, hz, run_underlying hu, Result.andThen_ok, hm, hps, hf, Sem.run_pure]
  · rename_i n e hk
    refine SoundEff.pure hs fun hc => ?_
    obtain ⟨hpos, hc⟩ := hc
    obtain ⟨z, hz, hzl, hzr⟩ := zero _ hk (by simp)
    have hu := und_array hk
    rw [alen_eq] at hc
    obtain ⟨vs', hf, hl, hr⟩ := fill_ok (fun i => (i * (tiOf P e).size, (tiOf P e).size)) (fun _ => True) (fun i => some (i * (tiOf P e).size, (tiOf P e).size)) (fun _ _ => rfl) hρ ps.toList _ z.cells hzl hzr hc
    refine ⟨.agg vs', ?_, .agg hl hr⟩
    have hps : (ps.map fun x => (x.1, a.eval x.2)).toList = ps.toList.map fun (i, x) => (i, a.eval x) := by simp
    simp only [execOp, ho, Instr.build, Sem.run_bind, hz, run_underlying hu, Result.andThen_ok, run_sizeOf' hpos, hps, hf, Sem.run_pure]
  · trivial

theorem fill_seq (size : Nat) : ∀ (ps : List (Nat × Value)) (k : Nat) (cells : Array Value), (∀ (m : Nat) p, ps[m]? = some p → p.1 = k + m ∧ p.2.cells.size = size) → (k + ps.length) * size ≤ cells.size →
    ∃ r, Instr.fill (fun i => some (i * size, size)) cells ps = some r ∧ r.size = cells.size ∧ (∀ q, q < k * size → r[q]? = cells[q]?) ∧
      ∀ (m : Nat) p j, ps[m]? = some p → j < size → r[(k + m) * size + j]? = p.2.cells[j]? := by
  intro ps
  induction ps with
  | nil => intro k cells _ _; exact ⟨cells, rfl, rfl, fun _ _ => rfl, fun m p j h => by simp at h⟩
  | cons p ps ih =>
    obtain ⟨i, v⟩ := p
    intro k cells h hfit
    obtain ⟨h1, h2⟩ := h 0 (i, v) rfl
    simp only [Nat.add_zero] at h1 h2
    subst h1
    have hfit' : (i + 1 + ps.length) * size ≤ cells.size := by
      have e : i + 1 + ps.length = i + (ps.length + 1) := by omega
      rw [e]; simpa using hfit
    have hone : i * size + size ≤ cells.size := by
      have : (i + 1) * size ≤ (i + 1 + ps.length) * size := Nat.mul_le_mul_right size (by omega)
      rw [Nat.add_mul, Nat.one_mul] at this; omega
    have hp := put_cells v.cells cells (i * size) (by omega)
    obtain ⟨r, r1, r2, r3, r4⟩ := ih (i + 1) (v.cells.zipIdx.foldl (fun cs (p : Value × Nat) => cs.setIfInBounds (i * size + p.2) p.1) cells)
      (fun m p hm => by have := h (m + 1) p (by simpa using hm); exact ⟨by omega, this.2⟩) (by rw [hp.1]; exact hfit')
    refine ⟨r, ?_, by rw [r2, hp.1], ?_, ?_⟩
    · simp only [Instr.fill]
      rw [if_neg (by simp; omega)]
      exact r1
    · intro q hq
      rw [r3 q (by rw [Nat.add_mul, Nat.one_mul]; omega), hp.2, if_neg (by omega)]
    · intro m p j hm hj
      cases m with
      | zero =>
        simp at hm; subst hm
        rw [Nat.add_zero, r3 _ (by rw [Nat.add_mul, Nat.one_mul]; omega), hp.2, if_pos (by omega)]
        have : i * size + j - i * size = j := by omega
        rw [this]
      | succ m =>
        have := r4 m p j (by simpa using hm) hj
        have e : i + (m + 1) = i + 1 + m := by omega
        rw [e]; exact this

theorem mapP_get (ρ : Operand → AV) : ∀ (l : List (Nat × Operand)) (m : Nat), (mapP ρ l)[m]? = (l[m]?).map fun (i, x) => (i, ρ x) := by
  intro l
  induction l with
  | nil => intro m; simp [mapP]
  | cons p l ih => obtain ⟨i, x⟩ := p; intro m; cases m <;> simp [mapP, ih]
theorem partsC_get (sz : Nat) : ∀ (l : List (Nat × AV)) (k : Nat), partsC sz k l → ∀ (m : Nat) p, l[m]? = some p → p.1 = k + m ∧ (cellsA p.2).length = sz ∧ allA AV.goneB (cellsA p.2) = true := by
  intro l
  induction l with
  | nil => intro k _ m p h; simp at h
  | cons q l ih =>
    obtain ⟨i, v⟩ := q
    intro k h m p hm
    simp only [partsC] at h
    cases m with
    | zero => simp at hm; subst hm; rw [alen_eq] at h; exact ⟨h.1.1, h.1.2.1, h.1.2.2⟩
    | succ m =>
      have := ih (k + 1) h.2 m p (by simpa using hm)
      exact ⟨by omega, this.2⟩
theorem partsCells_get (H : List ABlk) : ∀ (l : List (Nat × AV)) (m : Nat) p, l[m]? = some p → lget (partsCells H l) m = mapA (gnd H) (cellsA p.2) := by
  intro l
  induction l with
  | nil => intro m p h; simp at h
  | cons q l ih =>
    obtain ⟨i, v⟩ := q
    intro m p hm
    cases m with
    | zero => simp at hm; subst hm; rfl
    | succ m => simp only [partsCells, lget]; exact ih m p (by simpa using hm)
theorem partsCells_length (H : List ABlk) (l : List (Nat × AV)) : (partsCells H l).length = l.length := by
  induction l with
  | nil => rfl
  | cons q l ih => obtain ⟨i, v⟩ := q; simp [partsCells, ih]
theorem mem_partsAll : ∀ (l : List (Nat × AV)) (m : Nat) p c, l[m]? = some p → c ∈ cellsA p.2 → c ∈ partsAll l := by
  intro l
  induction l with
  | nil => intro m p c h; simp at h
  | cons q l ih =>
    obtain ⟨i, v⟩ := q
    intro m p c hm hc
    simp only [partsAll, List.mem_append]
    cases m with
    | zero => simp at hm; subst hm; exact .inl hc
    | succ m => exact .inr (ih m p c (by simpa using hm) hc)

theorem sound_buildSlice {nid : Nat} {t : TypeId} {len : Nat} {ps : Array (Nat × Operand)} (ho : o.op = .buildSlice t len ps) (hs : HSat φ H w) (hf : hget H nid = .fresh) (hρ : ∀ x, Rep φ H w (ρ x) (a.eval x)) :
    SoundEff P φ H w a o (eBuildSlice P H nid (tiOf P t) len (mapP ρ ps.toList)) := by
  unfold eBuildSlice
  split
  · rename_i e hk
    intro hc
    obtain ⟨h1, h2, h3, h4, h5, h6, h7, h8⟩ := hc
    have hu := und_slice hk
    obtain ⟨d, i, z, hue, hi, hz, hke, hsz, hby, hzero⟩ := tiOf_info h3
    have hlen : ps.toList.length = len := by rw [← h2]; clear h1 h6 h7 h8 h2; generalize ps.toList = l; induction l with
      | nil => rfl
      | cons q l ih => obtain ⟨i, x⟩ := q; simp [mapP, ih]
    have hzs : z.cells.size = (tiOf P e).size := by rw [← h4, alen_eq, hzero]; simp
    have hub := live_used _ h6
    obtain ⟨hs1, e1, hown1⟩ := deadAll_ok (φ := φ) (w := w) (killIds (partsAll (mapP ρ ps.toList))) H hs (fun i hi => by obtain ⟨sz, n, f, hb⟩ := hub i hi; rw [hb]; rfl)
    have hparts := partsC_get _ _ _ h1
    obtain ⟨r, r1, r2, _, r4⟩ := fill_seq (tiOf P e).size (ps.toList.map fun (i, x) => (i, a.eval x)) 0 (madeCells z.cells (len * (tiOf P e).size)) (fun m p hm => by
      simp only [List.getElem?_map] at hm
      cases hl : ps.toList[m]? with
      | none => simp [hl] at hm
      | some q =>
        obtain ⟨i, x⟩ := q
        simp [hl] at hm; subst hm
        have := hparts m (i, ρ x) (by rw [mapP_get, hl]; rfl)
        have hcl := (cells_rep (allone_agg (allgone_one this.2.2)) (hρ x)).1
        exact ⟨this.1, hcl.symm.trans this.2.1⟩) (by rw [size_madeCells]; simp [hlen])
    have hfd : hget (deadAll H (killIds (partsAll (mapP ρ ps.toList)))) nid = .fresh := by rw [deadAll_get _ _ _ h7]; exact hf
    obtain ⟨φ', g1, g2, g3⟩ := sound_newvec (T := e) (sz := (tiOf P e).size) (n := len) (cap := len) (f := litF (partsCells H (mapP ρ ps.toList)) (tiOf P e).zero) (c := r) hs1 hfd (SameHeap.refl w) h3 (Nat.le_refl _)
      (by
        have : len * 1 ≤ len * (tiOf P e).size := Nat.mul_le_mul_left len h3
        omega)
      (fun m hm => by
        simp only [litF]
        rw [if_pos (by rw [partsCells_length, h2]; exact hm)]
        have hml : m < (mapP ρ ps.toList).length := by omega
        rw [partsCells_get H _ m _ (List.getElem?_eq_getElem hml), mapA_eq, List.length_map]
        exact (hparts m _ (List.getElem?_eq_getElem hml)).2.1)
      (by rw [r2, size_madeCells]; exact Nat.le_refl _)
      (fun m j av hm hav => by
        simp only [litF] at hav
        rw [if_pos (by rw [partsCells_length, h2]; exact hm)] at hav
        have hml : m < ps.toList.length := by omega
        have hl := List.getElem?_eq_getElem hml
        generalize ps.toList[m] = q at hl
        obtain ⟨i, x⟩ := q
        have hp : (mapP ρ ps.toList)[m]? = some (i, ρ x) := by rw [mapP_get, hl]; rfl
        have hpar := hparts m _ hp
        rw [partsCells_get H _ m _ hp, mapA_eq] at hav
        simp only [List.getElem?_map] at hav
        cases hcj : (cellsA (ρ x))[j]? with
        | none => simp [hcj] at hav
        | some c =>
          simp [hcj] at hav
          subst hav
          have hjl := (List.getElem?_eq_some_iff.1 hcj).1
          obtain ⟨gl, gr⟩ := cells_rep (av := ρ x) (allone_agg (allgone_one hpar.2.2)) (hρ x)
          have hjs : j < (a.eval x).cells.size := by omega
          have hr := r4 m (i, a.eval x) j (by simp [hl]) (by rw [← hpar.2.1]; exact hjl)
          rw [Nat.zero_add] at hr
          obtain ⟨k1, k2⟩ := gnd_rep hs h6 (mem_partsAll _ m _ c hp (List.mem_of_getElem? hcj)) ((allA_iff _ _).1 hpar.2.2 c (List.mem_of_getElem? hcj)) (gr j c _ hcj (Array.getElem?_eq_getElem hjs))
          exact ⟨(a.eval x).cells[j], by rw [hr]; exact Array.getElem?_eq_getElem hjs, k1, k2⟩)
    rw [applyU_append, applyU_kills]
    refine ⟨_, _, φ', .inl ?_, g1, g2, e1.trans g3⟩
    have hps : (ps.map fun x => (x.1, a.eval x.2)).toList = ps.toList.map fun (i, x) => (i, a.eval x) := by simp
    have hmade : madeCells z.cells (len * (tiOf P e).size) = (Array.range (len * (tiOf P e).size)).map (fun x => z.cells[x % z.cells.size]!) := rfl
    rw [hmade] at r1
    have h5' : ¬ (16777216 < len * (tiOf P e).size) := by omega
    by_cases h0 : len * (tiOf P e).size = 0
    · have hr1 : (Array.range (len * (tiOf P e).size)).map (fun x => z.cells[x % z.cells.size]!) = #[] := by rw [h0]; simp [Array.range_zero']
      rw [hr1] at r1
      simp [execOp, ho, Instr.buildSlice, run_underlying hu, run_sizeOf' h3, h0, Array.range_zero', r1, newRow]
    · simp [execOp, ho, Instr.buildSlice, run_underlying hu, run_sizeOf' h3, h0, h5', zeroValue, typeInfo, hi, hz, r1, newRow]
  · trivial
end
end Go.SH
