/-
  THE SYMBOLIC HEAP, PART D: each operation does in the model what part B says: the rest of those that make and write no memory. No condition.
-/
import Derived.Test.YthkgnnndlocbbaaShC
namespace Go.SH
set_option linter.unusedVariables false
set_option linter.unusedSimpArgs false
open Go Go.RowKit
section
variable {P : Program} {φ : Env} {H : List ABlk} {w : World} {a : Act} {o : Oper} {ρ : Operand → AV}

/-- Cells that stand in a row at an address. -/
def CellsAt (φ : Env) (H : List ABlk) (w : World) (b o : Nat) (cs : List AV) : Prop :=
  ∀ (k : Nat) c, cs[k]? = some c → ∃ v, w.cell? ⟨b, o + k, none⟩ = some v ∧ Rep φ H w c v

theorem CellsAt.drop {b o' : Nat} {cs : List AV} (h : CellsAt φ H w b o' cs) (j : Nat) : CellsAt φ H w b (o' + j) (dropA j cs) := by
  intro k c hc
  rw [dropA_eq, List.getElem?_drop] at hc
  obtain ⟨v, h1, h2⟩ := h (j + k) c hc
  exact ⟨v, by rw [Nat.add_assoc]; exact h1, h2⟩

theorem cells_of_rop {cs : List AV} {v : Value} (h : Rep φ H w (.rop cs) v) : ∃ b o', v = .pointer (some ⟨b, o', none⟩) ∧ CellsAt φ H w b o' cs := by
  cases h.inv_rop with
  | rop b o' vs hM hcell hrep =>
    refine ⟨b, o', rfl, fun k c hc => ⟨vs k, hcell k ?_, .g (hrep k c hc)⟩⟩
    exact (List.getElem?_eq_some_iff.1 hc).1

theorem cells_of_box {id i j : Nat} {cs : List AV} {v : Value} (hs : HSat φ H w) (hb : hget H id = .box cs) (h : Rep φ H w (.ptr id i j) v) :
    i = 0 ∧ j < cs.length ∧ v = .pointer (some ⟨(φ id).b, (φ id).o + j, none⟩) ∧ CellsAt φ H w (φ id).b (φ id).o cs := by
  obtain ⟨ad, rfl, _, h⟩ := h.inv_ptr
  obtain ⟨hi, hj, rfl⟩ := h cs.length 1 (by simp [sig, hb, ABlk.sig])
  obtain rfl : i = 0 := by omega
  have hB := hs.blk id
  rw [hb] at hB
  obtain ⟨_, _, c, T, hc, hcs⟩ := hB
  refine ⟨rfl, hj, by simp, fun k av hk => ?_⟩
  obtain ⟨v, hv, hr⟩ := hcs k av hk
  exact ⟨v, by simp [World.cell?, hc, hv], hr⟩

theorem own_of_vec {id sz n : Nat} {f : Nat → List AV} (hs : HSat φ H w) (hb : hget H id = .vec sz n f) (hn : 0 < n) : 0 < (φ id).cap := by
  have hB := hs.blk id
  rw [hb] at hB
  have := hB.2.2.1
  omega

theorem cells_of_vec {id i j sz n : Nat} {f : Nat → List AV} {v : Value} (hs : HSat φ H w) (hb : hget H id = .vec sz n f) (h : Rep φ H w (.ptr id i j) v) :
    i < n ∧ j < sz ∧ (f i).length = sz ∧ v = .pointer (some ⟨(φ id).b, (φ id).o + i * sz + j, none⟩) ∧ CellsAt φ H w (φ id).b ((φ id).o + i * sz) (f i) := by
  obtain ⟨ad, rfl, _, h⟩ := h.inv_ptr
  obtain ⟨hi, hj, rfl⟩ := h sz n (by simp [sig, hb, ABlk.sig])
  have hcap := own_of_vec hs hb (by omega)
  have hB := hs.blk id
  rw [hb] at hB
  obtain ⟨_, _, _, _, hlen, hc⟩ := hB
  obtain ⟨c, T, hc, _, hcs⟩ := hc hcap
  refine ⟨hi, hj, hlen i hi, rfl, fun k av hk => ?_⟩
  obtain ⟨v, hv, _, hr⟩ := hcs i k av hi hk
  exact ⟨v, by simp [World.cell?, hc, hv], .g hr⟩

theorem cell_of_mat {id i n : Nat} {g : Nat → MRow} {v : Value} (hs : HSat φ H w) (hb : hget H id = .mat n g) (h : Rep φ H w (.ptr id i 0) v) :
    ∃ u, v = .pointer (some ⟨(φ id).b, (φ id).o + i, none⟩) ∧ w.cell? ⟨(φ id).b, (φ id).o + i, none⟩ = some u ∧ ∃ L, CRow φ H w L u (g i) := by
  obtain ⟨ad, rfl, _, h⟩ := h.inv_ptr
  obtain ⟨hi, hj, rfl⟩ := h 1 n (by simp [sig, hb, ABlk.sig])
  have hB := hs.blk id
  rw [hb] at hB
  obtain ⟨hn, _, Ls, _, _, _, hc⟩ := hB
  obtain ⟨c, T, hc, _, hcs⟩ := hc (by omega)
  obtain ⟨u, hu, hr⟩ := hcs i hi
  exact ⟨u, by simp, by simp [World.cell?, hc, hu], Ls i, hr⟩

theorem run_load_cells {t : TypeId} {cs : List AV} {b o' : Nat} (hc : CellsAt φ H w b o' cs) (hl : loadC (tiOf P t) cs) :
    ∃ v, (loadVar t ⟨b, o', none⟩).run P w = .ok v w ∧ Rep φ H w (loadP (tiOf P t) cs) v := by
  unfold loadC at hl
  unfold loadP
  cases hk : (tiOf P t).kind.isAgg with
  | true =>
    simp only [hk] at hl
    have hsz : (sizeOf t).run P w = .ok (tiOf P t).size w := by
      obtain ⟨d, i, z, hu, hi, _, _, hs, _⟩ := tiOf_kind (P := P) (t := t) rfl (by intro e; rw [e] at hk; simp [TK.isAgg] at hk)
      simp [sizeOf, typeInfo, hi, hs]
    have ex : ∀ j, j < (tiOf P t).size → ∃ v, w.cell? ⟨b, o' + j, none⟩ = some v ∧ ∀ c, cs[j]? = some c → Rep φ H w c v := by
      intro j hj
      have hj' : j < cs.length := by rw [alen_eq] at hl; omega
      obtain ⟨v, h1, h2⟩ := hc j _ (List.getElem?_eq_getElem hj')
      exact ⟨v, h1, fun c hc => by rw [List.getElem?_eq_getElem hj'] at hc; cases hc; exact h2⟩
    let f : Nat → Value := fun j => (w.cell? ⟨b, o' + j, none⟩).getD undef
    have hf : ∀ j, j < (tiOf P t).size → w.cell? ((⟨b, o', none⟩ : Addr).add j) = some (f j) := by
      intro j hj
      obtain ⟨v, h1, _⟩ := ex j hj
      simp [f, h1, Addr.add_lit]
    have hr := run_loadCells (P := P) w ⟨b, o', none⟩ (tiOf P t).size f hf
    simp only [loadVar, Sem.run_bind, run_isAgg' (.inr hk), hk, Result.andThen_ok, if_true, hsz, hr, Sem.run_pure]
    refine ⟨_, rfl, .agg ?_ ?_⟩
    · rw [takeA_eq]; rw [alen_eq] at hl; simp; omega
    · intro i c u hc' hu
      rw [takeA_eq, List.getElem?_take] at hc'
      split at hc'
      · rename_i hi
        simp only [List.getElem?_toArray, List.getElem?_map, List.getElem?_range hi, Option.map_some, Option.some.injEq] at hu
        subst hu
        obtain ⟨v, h1, h2⟩ := ex i hi
        have : f i = v := by simp [f, h1]
        rw [this]
        exact h2 c hc'
      · cases hc'
  | false =>
    simp only [hk] at hl
    have hu := sget_some hl.1
    obtain ⟨v, h1, h2⟩ := hc 0 _ hu
    simp only [Nat.add_zero] at h1
    exact ⟨v, by simp [loadVar, run_isAgg' (.inl (by omega : 0 < (tiOf P t).size)), hk, h1], h2⟩

theorem sound_load {t : TypeId} {x : Operand} (ho : o.op = .load t x) (hs : HSat φ H w) (hρ : ∀ x, Rep φ H w (ρ x) (a.eval x)) :
    SoundEff P φ H w a o (eLoad H (tiOf P t) (ρ x)) := by
  have hx := hρ x
  unfold eLoad
  split
  · rename_i cs hX
    rw [hX] at hx
    refine SoundEff.pure hs fun hc => ?_
    obtain ⟨b, o', hv, hcs⟩ := cells_of_rop hx
    obtain ⟨v, hr, hrep⟩ := run_load_cells (P := P) (t := t) hcs hc
    exact ⟨v, by simp [execOp, ho, Instr.loadAt, hv, Instr.sureAddr, hr], hrep⟩
  · rename_i id i j hX
    rw [hX] at hx
    split
    · rename_i cs hb
      refine SoundEff.quiet hs fun hc => ?_
      obtain ⟨rfl, hj, hv, hcs⟩ := cells_of_box hs hb hx
      obtain ⟨v, hr, hrep⟩ := run_load_cells (P := P) (t := t) (hcs.drop j) hc
      exact ⟨v, by simp [execOp, ho, Instr.loadAt, hv, Instr.sureAddr, hr], hrep⟩
    · rename_i sz n f hb
      refine SoundEff.quiet hs fun hc => ?_
      obtain ⟨hi, hj, hlen, hv, hcs⟩ := cells_of_vec hs hb hx
      obtain ⟨v, hr, hrep⟩ := run_load_cells (P := P) (t := t) (hcs.drop j) hc
      exact ⟨v, by simp [execOp, ho, Instr.loadAt, hv, Instr.sureAddr, hr], hrep⟩
    · rename_i n g hb
      split
      · rename_i k hg
        split
        · rename_i sz m f hk
          refine SoundEff.quiet hs fun ⟨hj, hagg, hsz⟩ => ?_
          subst hj
          obtain ⟨v, hv, hc, L, hrep⟩ := cell_of_mat hs hb hx
          rw [hg] at hrep
          obtain ⟨m', hm, hr⟩ := hrep
          obtain rfl := hm sz m (by simp [sig, hk, ABlk.sig])
          exact ⟨v, by simp [execOp, ho, Instr.loadAt, hv, Instr.sureAddr, loadVar, run_isAgg' (P := P) (t := t) (w := w) (.inl (by omega)), hagg, hc], hr⟩
        · trivial
      · trivial
    · trivial
  · trivial

theorem sound_un {op : UnOp} {t : TypeId} {x : Operand} (ho : o.op = .unOp op t x) (hs : HSat φ H w) (hρ : ∀ x, Rep φ H w (ρ x) (a.eval x)) :
    SoundEff P φ H w a o (eUn op (ρ x)) := by
  have hx := hρ x
  unfold eUn
  split
  · rename_i b hX
    rw [hX] at hx
    exact SoundEff.pure hs fun _ => ⟨.bool (!b), by simp [execOp, ho, hx.inv_bool, Op.unary], .bool _⟩
  · rename_i k n hX
    rw [hX] at hx
    refine SoundEff.pure hs fun hc => ⟨.int k (0 - n), ?_, .int _ _⟩
    simp only [execOp, ho, hx.inv_int, Op.unary, Op.intArith, inR_wrap hc, Sem.run_bind, Sem.run_pure, Result.andThen_ok]
  · trivial

theorem sound_move {x : Operand} (ho : o.op = .move x ∨ o.op = .assign x) (hs : HSat φ H w) (hρ : ∀ x, Rep φ H w (ρ x) (a.eval x)) :
    SoundEff P φ H w a o (E.pure True (ρ x)) := by
  refine SoundEff.pure hs fun _ => ⟨a.eval x, ?_, hρ x⟩
  rcases ho with ho | ho <;> simp [execOp, ho]

theorem sound_pick {c x y : Operand} (ho : o.op = .pick c x y) (hs : HSat φ H w) (hρ : ∀ x, Rep φ H w (ρ x) (a.eval x)) :
    SoundEff P φ H w a o (ePick (ρ c) (ρ x) (ρ y)) := by
  have hc := hρ c
  unfold ePick
  split
  · rename_i hX
    rw [hX] at hc
    exact SoundEff.pure hs fun _ => ⟨a.eval x, by simp [execOp, ho, hc.inv_bool, asBool], hρ x⟩
  · rename_i hX
    rw [hX] at hc
    exact SoundEff.pure hs fun _ => ⟨a.eval y, by simp [execOp, ho, hc.inv_bool, asBool], hρ y⟩
  · trivial

theorem sound_extract {x : Operand} {i : Nat} (ho : o.op = .extract x i) (hs : HSat φ H w) (hρ : ∀ x, Rep φ H w (ρ x) (a.eval x)) :
    SoundEff P φ H w a o (eExtract (ρ x) i) := by
  have hx := hρ x
  unfold eExtract
  split
  · rename_i cs hX
    rw [hX] at hx
    refine SoundEff.pure hs fun hc => ?_
    obtain ⟨vs, hv, hl, h⟩ := hx.inv_tup
    have lt : i < vs.size := by rw [← hl, ← alen_eq]; exact hc
    exact ⟨vs[i], by simp [execOp, ho, hv, Instr.extract, Array.getElem?_eq_getElem lt], h i _ _ (sget_some hc) (Array.getElem?_eq_getElem lt)⟩
  · trivial

theorem pget_some {fs : List (Nat × Nat × Nat)} {i : Nat} (h : i < fs.length) : fs[i]? = some (pget fs i) := by
  induction fs generalizing i with
  | nil => simp at h
  | cons x l ih => cases i with
    | zero => simp [pget]
    | succ i => simp only [pget, List.getElem?_cons_succ]; exact ih (by simpa using h)

theorem field_at {t : TypeId} {fs : List (Nat × Nat × Nat)} {f : Nat} (hk : (tiOf P t).kind = .struct fs) (hf : f < fs.length) :
    ∃ (Fs : Array Field) (F : Field), P.underlying t = some (.struct Fs) ∧ Fs[f]? = some F ∧ pget fs f = (F.offset, F.type, P.cellsOf F.type) := by
  obtain ⟨Fs, hu, e⟩ := und_struct hk
  have h1 := pget_some hf
  have hl : f < Fs.size := by rw [e] at hf; simpa using hf
  refine ⟨Fs, Fs[f], hu, Array.getElem?_eq_getElem hl, ?_⟩
  rw [e] at h1
  simp only [List.getElem?_map, Array.getElem?_toList, Array.getElem?_eq_getElem hl, Option.map_some, Option.some.injEq] at h1
  rw [e]; exact h1.symm

theorem sound_field {t : TypeId} {x : Operand} {f : Nat} (ho : o.op = .field t x f) (hs : HSat φ H w) (hρ : ∀ x, Rep φ H w (ρ x) (a.eval x)) :
    SoundEff P φ H w a o (eField P (tiOf P t) (ρ x) f) := by
  have hx := hρ x
  unfold eField
  split
  · rename_i fs cs hk hX
    rw [hX] at hx
    split
    rename_i off ft n hp
    refine SoundEff.pure hs fun hc => ?_
    obtain ⟨Fs, F, hu, hF, hpg⟩ := field_at hk hc.1
    rw [hp] at hpg
    injection hpg with e1 e2
    injection e2 with e2 e3
    obtain ⟨vs, hv, hl, h⟩ := hx.inv_agg
    obtain ⟨v, hr, hrep⟩ := rep_part (P := P) hl h hc.2
    refine ⟨v, ?_, hrep⟩
    subst e1 e2
    simp [execOp, ho, hv, Instr.field, run_underlying hu, hF, asAgg, hr]
  · trivial

theorem inBlk_ptr {id i j j' : Nat} {v : Value} (hs : HSat φ H w) (h : Rep φ H w (.ptr id i j) v) (hin : inBlk H id j') :
    ∃ o', v = .pointer (some ⟨(φ id).b, o' + j, none⟩) ∧ Rep φ H w (.ptr id i j') (.pointer (some ⟨(φ id).b, o' + j', none⟩)) := by
  obtain ⟨ad, hv, hu, h⟩ := h.inv_ptr
  unfold inBlk at hin
  split at hin
  · rename_i cs hb
    obtain ⟨hi, hj, rfl⟩ := h cs.length 1 (by simp [sig, hb, ABlk.sig])
    refine ⟨(φ id).o + i * cs.length, hv, .ptr _ hu fun sz n hs => ?_⟩
    simp only [sig, hb, ABlk.sig, Option.some.injEq, Prod.mk.injEq] at hs
    obtain ⟨rfl, rfl⟩ := hs
    exact ⟨hi, by rw [← alen_eq]; exact hin, rfl⟩
  · rename_i sz0 n0 f0 hb
    obtain ⟨hi, hj, rfl⟩ := h sz0 n0 (by simp [sig, hb, ABlk.sig])
    refine ⟨(φ id).o + i * sz0, hv, .ptr _ hu fun sz n hs => ?_⟩
    simp only [sig, hb, ABlk.sig, Option.some.injEq, Prod.mk.injEq] at hs
    obtain ⟨rfl, rfl⟩ := hs
    exact ⟨hi, hin, rfl⟩
  · exact hin.elim

theorem rop_drop {cs : List AV} {v : Value} (h : Rep φ H w (.rop cs) v) (j : Nat) :
    ∃ b o', v = .pointer (some ⟨b, o', none⟩) ∧ Rep φ H w (.rop (dropA j cs)) (.pointer (some ⟨b, o' + j, none⟩)) := by
  cases h.inv_rop with
  | rop b o' vs hM hcell hrep =>
    refine ⟨b, o', rfl, .g (.rop b (o' + j) (fun k => vs (j + k)) ?_ ?_ ?_)⟩
    · intro hpos; rw [dropA_eq] at hpos; simp at hpos; exact hM (by omega)
    · intro k hk
      rw [dropA_eq] at hk; simp at hk
      rw [Nat.add_assoc]; exact hcell (j + k) (by omega)
    · intro k c hc
      rw [dropA_eq, List.getElem?_drop] at hc
      exact hrep _ _ hc

theorem sound_fieldAddr {t : TypeId} {x : Operand} {f : Nat} (ho : o.op = .fieldAddr t x f) (hs : HSat φ H w) (hρ : ∀ x, Rep φ H w (ρ x) (a.eval x)) :
    SoundEff P φ H w a o (eFieldAddr H (tiOf P t) (ρ x) f) := by
  have hx := hρ x
  unfold eFieldAddr
  split
  · rename_i fs hk
    split
    rename_i off ft n hp
    have run : f < fs.length → n ≠ 0 → ∀ b o', a.eval x = .pointer (some ⟨b, o', none⟩) → (execOp a.eval o).run P w = .ok (.value (.pointer (some ⟨b, o' + off, none⟩))) w := by
      intro hf hn b o' hv
      obtain ⟨Fs, F, hu, hF, hpg⟩ := field_at hk hf
      rw [hp] at hpg
      injection hpg with e1 e2
      injection e2 with e2 e3
      subst e1
      have : ∃ i, P.info? F.type = some i ∧ i.size ≠ 0 := by
        simp only [Program.cellsOf] at e3
        cases hi : P.info? F.type with
        | none => simp [hi] at e3; exact absurd e3 hn
        | some i => exact ⟨i, rfl, by simp [hi] at e3; omega⟩
      obtain ⟨i, hi, hne⟩ := this
      simp [execOp, ho, hv, Instr.fieldAt, run_underlying hu, hF, Instr.sureAddr, fieldPlace, sizeOf, typeInfo, hi, hne, Addr.add_lit]
    split
    · rename_i id i j hX
      rw [hX] at hx
      refine SoundEff.quiet hs fun hc => ?_
      obtain ⟨o', hv, hrep⟩ := inBlk_ptr hs hx hc.2.2
      refine ⟨_, run hc.1 hc.2.1 _ _ hv, ?_⟩
      rw [Nat.add_assoc]; exact hrep
    · rename_i cs hX
      rw [hX] at hx
      refine SoundEff.pure hs fun hc => ?_
      obtain ⟨b, o', hv, hrep⟩ := rop_drop hx off
      exact ⟨_, run hc.1 hc.2.1 _ _ hv, hrep⟩
    · trivial
  · trivial

theorem sound_index {t : TypeId} {x i : Operand} (ho : o.op = .index t x i) (hs : HSat φ H w) (hρ : ∀ x, Rep φ H w (ρ x) (a.eval x)) :
    SoundEff P φ H w a o (eIndex P (tiOf P t) (ρ x) (ρ i)) := by
  have hx := hρ x
  have hi := hρ i
  unfold eIndex
  split
  · rename_i s kk k hk hX hI
    rw [hX] at hx; rw [hI] at hi
    refine SoundEff.pure hs fun hc => ?_
    have hu := und_str hk
    have hv := hx.inv_str
    have lt : k.toNat < s.length := by omega
    have e : (ByteArray.mk s.toArray)[k.toNat]? = some (s.getD k.toNat 0) := by
      rw [ByteArray.getElem?_lt' _ _ (by rw [size_mk]; exact lt)]
      simp [ByteArray.getElem_eq_getElem_data, List.getD_eq_getElem?_getD, lt]
    exact ⟨_, by simp [execOp, ho, hv, hi.inv_int, Instr.index, asIntOf, run_underlying hu, hc.1, e], .int _ _⟩
  · rename_i n e cs kk k hk hX hI
    rw [hX] at hx; rw [hI] at hi
    refine SoundEff.pure hs fun hc => ?_
    have hu := und_array hk
    obtain ⟨vs, hv, hl, h⟩ := hx.inv_agg
    obtain ⟨v, hr, hrep⟩ := rep_part (P := P) hl h hc.2.2
    have hsz : (sizeOf e).run P w = .ok (tiOf P e).size w := by
      have : (tiOf P e).kind.isAgg = true ∨ 0 < (tiOf P e).size := by
        have h3 := hc.2.2
        unfold partC at h3
        cases hk : (tiOf P e).kind.isAgg with
        | true => exact .inl rfl
        | false => simp only [hk] at h3; exact .inr (by omega)
      rcases this with h | h
      · obtain ⟨d, i, z, hu, hi, _, _, hs, _⟩ := tiOf_kind (P := P) (t := e) rfl (by intro e; rw [e] at h; simp [TK.isAgg] at h)
        simp [sizeOf, typeInfo, hi, hs]
      · exact run_sizeOf' h w
    exact ⟨v, by simp [execOp, ho, hv, hi.inv_int, Instr.index, asIntOf, run_underlying hu, hc.1, hc.2.1, hsz, hr], hrep⟩
  · trivial

theorem RepG.ro_facts {M : Nat → Prop} {n : Nat} {f : Nat → List AV} {v : Value} (h : RepG w M (.ro n f) v) :
    ∃ (base : Option Addr) (cap b o' sz : Nat) (vs : Nat → Value), v = .slice base n cap ∧ n ≤ cap ∧ cap ≤ 9223372036854775807 ∧ 0 < sz ∧ (0 < n → base = some ⟨b, o', none⟩) ∧ (0 < n → ¬ M b) ∧
      (∀ k, k < n * sz → w.cell? ⟨b, o' + k, none⟩ = some (vs k)) ∧ (∀ k, k < n * sz → (vs k).oneCell' = true) ∧ (∀ i, i < n → (f i).length = sz) ∧
      (∀ (i j : Nat) c, i < n → (f i)[j]? = some c → RepG w M c (vs (i * sz + j))) := by
  cases h with
  | ro base cap b o' sz vs hn hcap hsz hbase hM hcell hone hlen hrep => exact ⟨base, cap, b, o', sz, vs, rfl, hn, hcap, hsz, hbase, hM, hcell, hone, hlen, hrep⟩
theorem Rep.ro_facts {n : Nat} {f : Nat → List AV} {v : Value} (h : Rep φ H w (.ro n f) v) :
    ∃ (base : Option Addr) (cap b o' sz : Nat) (vs : Nat → Value), v = .slice base n cap ∧ n ≤ cap ∧ cap ≤ 9223372036854775807 ∧ 0 < sz ∧ (0 < n → base = some ⟨b, o', none⟩) ∧ (0 < n → ¬ MB φ H b) ∧
      (∀ k, k < n * sz → w.cell? ⟨b, o' + k, none⟩ = some (vs k)) ∧ (∀ k, k < n * sz → (vs k).oneCell' = true) ∧ (∀ i, i < n → (f i).length = sz) ∧
      (∀ (i j : Nat) c, i < n → (f i)[j]? = some c → RepG w (MB φ H) c (vs (i * sz + j))) := h.inv_ro.ro_facts

/-- A row of the abstract heap, as it is now; M: some of the blocks outside it. -/
theorem sl_ro {M : Nat → Prop} {id off len sz n : Nat} {f : Nat → List AV} {v : Value} (hs : HSat φ H w) (hb : hget H id = .vec sz n f) (h : Rep φ H w (.sl id off len) v)
    (hM : ∀ b, M b → MB φ H b) (hMid : 0 < len → ¬ M (φ id).b) : RepG w M (.ro len (cutF n off len f)) v := by
  obtain ⟨base, cap', rfl, hus, hbs, hl, hcm, hat⟩ := h.inv_sl
  obtain ⟨hoff, hcap, hbase⟩ := hat sz n (by simp [sig, hb, ABlk.sig])
  have hB := hs.blk id
  rw [hb] at hB
  obtain ⟨_, hszp, hnc, hcc, hlen, hcells⟩ := hB
  by_cases h0 : 0 < len
  · obtain ⟨c, T, hheap, hfit, hrep⟩ := hcells (by omega)
    have ex : ∀ i j, i < n → j < sz → ∃ v, c[(φ id).o + i * sz + j]? = some v ∧ v.oneCell' = true ∧ ∀ av, (f i)[j]? = some av → RepG w (MB φ H) av v := by
      intro i j hi hj
      have : j < (f i).length := by rw [hlen i hi]; exact hj
      obtain ⟨v, h1, h2, h3⟩ := hrep i j _ hi (List.getElem?_eq_getElem this)
      exact ⟨v, h1, h2, fun av hav => by rw [List.getElem?_eq_getElem this] at hav; cases hav; exact h3⟩
    have div : ∀ k, k < len * sz → k / sz < len ∧ k % sz < sz ∧ off * sz + k = (off + k / sz) * sz + k % sz := by
      intro k hk
      refine ⟨Nat.div_lt_of_lt_mul (by rw [Nat.mul_comm]; exact hk), Nat.mod_lt _ hszp, ?_⟩
      rw [Nat.add_mul, Nat.add_assoc, Nat.div_add_mod']
    refine .ro _ _ (φ id).b ((φ id).o + off * sz) sz (fun k => (c[(φ id).o + off * sz + k]?).getD undef) hl hcm hszp (fun _ => hbase (by omega)) hMid ?_ ?_ ?_ ?_
    · intro k hk
      obtain ⟨d1, d2, d3⟩ := div k hk
      obtain ⟨v, h1, _⟩ := ex (off + k / sz) (k % sz) (by omega) d2
      rw [Nat.add_assoc, ← d3, ← Nat.add_assoc] at h1
      simp [World.cell?, hheap, h1]
    · intro k hk
      obtain ⟨d1, d2, d3⟩ := div k hk
      obtain ⟨v, h1, h2, _⟩ := ex (off + k / sz) (k % sz) (by omega) d2
      rw [Nat.add_assoc, ← d3, ← Nat.add_assoc] at h1
      simp [h1, h2]
    · intro i hi; simp only [cutF]; rw [if_pos hi]; exact hlen _ (by omega)
    · intro i j av hi hav
      simp only [cutF] at hav
      rw [if_pos hi] at hav
      have hj : j < sz := by rw [← hlen (off + i) (by omega)]; exact (List.getElem?_eq_some_iff.1 hav).1
      obtain ⟨v, h1, _, h3⟩ := ex (off + i) j (by omega) hj
      have e : (φ id).o + off * sz + (i * sz + j) = (φ id).o + (off + i) * sz + j := by rw [Nat.add_mul]; omega
      rw [e, h1]
      exact (h3 av hav).weaken hM
  · have : len = 0 := by omega
    subst this
    exact .ro _ _ 0 0 1 (fun _ => undef) hl hcm (by omega) (by simp) (by simp) (by intro k hk; omega) (by intro k hk; omega) (by intro i hi; omega) (by intro i j c hi; omega)

theorem mul_add_lt {i n j sz : Nat} (hi : i < n) (hj : j < sz) : i * sz + j < n * sz := by
  have h1 : (i + 1) * sz ≤ n * sz := Nat.mul_le_mul_right sz hi
  rw [Nat.add_mul, Nat.one_mul] at h1
  omega

theorem sound_indexAddr {t : TypeId} {x i : Operand} (ho : o.op = .indexAddr t x i) (hs : HSat φ H w) (hρ : ∀ x, Rep φ H w (ρ x) (a.eval x)) :
    SoundEff P φ H w a o (eIndexAddr P H (tiOf P t) (ρ x) (ρ i)) := by
  have hx := hρ x
  have hi := hρ i
  unfold eIndexAddr
  split
  · rename_i e n f kk k hk hX hI
    rw [hX] at hx; rw [hI] at hi
    refine SoundEff.pure hs fun hc => ?_
    obtain ⟨h0, h1, h2, h3⟩ := hc
    have hu := und_slice hk
    obtain ⟨base, cap, b, o', sz, vs, hv, hn, hcap, hsz, hbase, hM, hcell, hone, hlen, hrep⟩ := hx.ro_facts
    have hkn : k.toNat < n := by omega
    have hpos : 0 < n := by omega
    have hse : (tiOf P e).size = sz := by rw [← h2, alen_eq]; exact hlen _ hkn
    have hf : (f k.toNat).length = sz := hlen _ hkn
    refine ⟨.pointer (some ⟨b, o' + k.toNat * sz, none⟩), ?_, .g (.rop b (o' + k.toNat * sz) (fun j => vs (k.toNat * sz + j)) (fun _ => hM hpos) ?_ ?_)⟩
    · simp [execOp, ho, hv, hi.inv_int, Instr.indexAt, asIntOf, run_underlying hu, hbase hpos, h0, h1, run_sizeOf' h3, hse, Addr.add_lit]
    · intro j hj
      rw [hf] at hj
      rw [Nat.add_assoc]
      exact hcell _ (mul_add_lt hkn hj)
    · intro j c hc
      exact hrep _ _ _ hkn hc
  · rename_i e id off n kk k hk hX hI
    rw [hX] at hx; rw [hI] at hi
    split
    · rename_i sz N f hb
      refine SoundEff.quiet hs fun hc => ?_
      obtain ⟨h0, h1, h2⟩ := hc
      have hu := und_slice hk
      obtain ⟨base, cap', hv, hus, hbs, hl, hcm, h⟩ := hx.inv_sl
      obtain ⟨hoff, hcap, hbase⟩ := h sz N (by simp [sig, hb, ABlk.sig])
      have hB := hs.blk id
      rw [hb] at hB
      have hszp : 0 < sz := hB.2.1
      have hpos : 0 < cap' := by omega
      refine ⟨.pointer (some ⟨(φ id).b, (φ id).o + off * sz + k.toNat * sz, none⟩), ?_, .ptr _ hus ?_⟩
      · simp [execOp, ho, hv, hi.inv_int, Instr.indexAt, asIntOf, run_underlying hu, hbase hpos, h0, h1, run_sizeOf' (P := P) (t := e) (by omega), ← h2, Addr.add_lit]
      · intro sz' n' hsig
        simp only [sig, hb, ABlk.sig, Option.some.injEq, Prod.mk.injEq] at hsig
        obtain ⟨rfl, rfl⟩ := hsig
        refine ⟨by omega, hszp, ?_⟩
        simp [Nat.add_mul, Nat.add_assoc]
    · rename_i N g hb
      refine SoundEff.quiet hs fun hc => ?_
      obtain ⟨h0, h1, h2⟩ := hc
      have hu := und_slice hk
      obtain ⟨base, cap', hv, hus, hbs, hl, hcm, h⟩ := hx.inv_sl
      obtain ⟨hoff, hcap, hbase⟩ := h 1 N (by simp [sig, hb, ABlk.sig])
      have hpos : 0 < cap' := by omega
      refine ⟨.pointer (some ⟨(φ id).b, (φ id).o + off * 1 + k.toNat * 1, none⟩), ?_, .ptr _ hus ?_⟩
      · simp [execOp, ho, hv, hi.inv_int, Instr.indexAt, asIntOf, run_underlying hu, hbase hpos, h0, h1, run_sizeOf' (P := P) (t := e) (by omega), ← h2, Addr.add_lit]
      · intro sz' n' hsig
        simp only [sig, hb, ABlk.sig, Option.some.injEq, Prod.mk.injEq] at hsig
        obtain ⟨rfl, rfl⟩ := hsig
        refine ⟨by omega, by omega, ?_⟩
        simp [Nat.add_mul, Nat.add_assoc]
    · trivial
  · rename_i n e id m j kk k hk hX hI
    rw [hX] at hx; rw [hI] at hi
    refine SoundEff.quiet hs fun hc => ?_
    obtain ⟨h0, h1, h2, h3, h4⟩ := hc
    have hu := und_array hk
    obtain ⟨o', hv, hrep⟩ := inBlk_ptr hs hx h4
    refine ⟨_, ?_, hrep⟩
    simp [execOp, ho, hv, hi.inv_int, Instr.indexAt, asIntOf, run_underlying hu, Instr.sureAddr, h0, h1, run_sizeOf' h3, Addr.add_lit, Nat.add_assoc]
  · rename_i n e cs kk k hk hX hI
    rw [hX] at hx; rw [hI] at hi
    refine SoundEff.pure hs fun hc => ?_
    obtain ⟨h0, h1, h2, h3, h4⟩ := hc
    have hu := und_array hk
    obtain ⟨b, o', hv, hrep⟩ := rop_drop hx (k.toNat * (tiOf P e).size)
    refine ⟨_, ?_, hrep⟩
    simp [execOp, ho, hv, hi.inv_int, Instr.indexAt, asIntOf, run_underlying hu, Instr.sureAddr, h0, h1, run_sizeOf' h3, Addr.add_lit]
  · trivial
theorem nilish_rep {x : AV} {v : Value} (h : Rep φ H w x v) : Rep φ H w (nilish x) v := by
  unfold nilish
  split
  · cases h.inv_raw
    exact .g (.ro none 0 0 0 1 (fun _ => undef) (Nat.le_refl _) (by omega) (by omega) (by simp) (by simp) (by intro k hk; omega) (by intro k hk; omega) (by intro i hi; omega) (by intro i j c hi; omega))
  · rename_i ad c
    cases hd : decide (c ≤ 9223372036854775807) with
    | false => exact h
    | true =>
      cases h.inv_raw
      have := of_decide_eq_true hd
      exact .g (.ro (some ad) c 0 0 1 (fun _ => undef) (Nat.zero_le _) this (by omega) (by simp) (by simp) (by intro k hk; omega) (by intro k hk; omega) (by intro i hi; omega) (by intro i j c hi; omega))
  · exact h

theorem sound_len {t : TypeId} {x : Operand} {c : Call} (ho : o.op = .call c) (hb : c.callee = .builtin .len) (ht : c.argTypes.toList[0]? = some t) (hxx : c.args.toList[0]? = some x)
    (hs : HSat φ H w) (hρ : ∀ x, Rep φ H w (ρ x) (a.eval x)) : SoundEff P φ H w a o (eLen H (tiOf P t) (ρ x)) := by
  have hx := nilish_rep (hρ x)
  have run : (execOp a.eval o).run P w = ((Builtin.len_ c.argTypes o.type (c.args.map a.eval)).run P w).andThen fun v w' => .ok (.value v) w' := by
    simp [execOp, ho, resolve, hb, invoke, builtin]
  have h1 : c.argTypes[0]? = some t := by rw [← Array.getElem?_toList]; exact ht
  have h2 : (c.args.map a.eval)[0]? = some (a.eval x) := by rw [← Array.getElem?_toList] ; simp at hxx; simp [hxx]
  unfold eLen
  split
  · rename_i e hk
    split
    · rename_i n f hX
      rw [hX] at hx
      obtain ⟨base, cap, b, o', sz, vs, hv, _⟩ := hx.ro_facts
      refine SoundEff.pure hs fun _ => ⟨.int .i64 n, ?_, .int _ _⟩
      rw [run]; simp [Builtin.len_, h1, h2, run_underlying (und_slice hk), hv, goInt]
    · rename_i id off n hX
      rw [hX] at hx
      obtain ⟨base, cap', hv, _⟩ := hx.inv_sl
      refine SoundEff.pure hs fun _ => ⟨.int .i64 n, ?_, .int _ _⟩
      rw [run]; simp [Builtin.len_, h1, h2, run_underlying (und_slice hk), hv, goInt]
    · trivial
  · rename_i hk
    split
    · rename_i s hX
      have hx := hρ x
      rw [hX] at hx
      refine SoundEff.pure hs fun _ => ⟨.int .i64 s.length, ?_, .int _ _⟩
      rw [run]; simp [Builtin.len_, h1, h2, run_underlying (und_str hk), hx.inv_str, goInt, size_mk]
    · trivial
  · rename_i n e hk
    refine SoundEff.pure hs fun _ => ⟨.int .i64 n, ?_, .int _ _⟩
    rw [run]; simp [Builtin.len_, h1, h2, run_underlying (und_array hk), goInt]
  · rename_i k e hk
    split
    · rename_i hX
      have hx := hρ x
      rw [hX] at hx
      refine SoundEff.pure hs fun _ => ⟨.int .i64 0, ?_, .int _ _⟩
      rw [run]; simp [Builtin.len_, h1, h2, run_underlying (und_map hk), hx.inv_raw, goInt]
    · rename_i id hX
      have hx := hρ x
      rw [hX] at hx
      split
      · rename_i es hb'
        obtain ⟨l, hv, hu, hl⟩ := hx.inv_mp
        have hB := hs.blk id
        rw [hb'] at hB
        obtain ⟨_, _, arr, clk, g1, g2, _⟩ := hB
        have hl := hl _ (by rw [sig, hb']; rfl)
        refine SoundEff.quiet hs fun _ => ⟨.int .i64 es.length, ?_, .int _ _⟩
        rw [run]; simp [Builtin.len_, h1, h2, run_underlying (und_map hk), hv, hl, MapKept.run_getObj_map g1, goInt, g2]
      · trivial
    · trivial
  · trivial

theorem sound_min {x y : Operand} {c : Call} (ho : o.op = .call c) (hb : c.callee = .builtin .min) (hxx : c.args.toList = [x, y])
    (hs : HSat φ H w) (hρ : ∀ x, Rep φ H w (ρ x) (a.eval x)) : SoundEff P φ H w a o (eMin (ρ x) (ρ y)) := by
  have hx := hρ x
  have hy := hρ y
  have run : (execOp a.eval o).run P w = ((Builtin.min_ c.argTypes o.type (c.args.map a.eval)).run P w).andThen fun v w' => .ok (.value v) w' := by
    simp [execOp, ho, resolve, hb, invoke, builtin]
  unfold eMin
  split
  · rename_i k m k' n hX hY
    rw [hX] at hx; rw [hY] at hy
    refine SoundEff.pure hs fun hc => ⟨.int k (min m n), ?_, .int _ _⟩
    subst hc
    rw [run]
    have e : (if n < m then n else m) = min m n := by omega
    simp [Builtin.min_, hxx, hx.inv_int, hy.inv_int, Builtin.min2, e]
  · trivial
theorem sound_max {x y : Operand} {c : Call} (ho : o.op = .call c) (hb : c.callee = .builtin .max) (hxx : c.args.toList = [x, y])
    (hs : HSat φ H w) (hρ : ∀ x, Rep φ H w (ρ x) (a.eval x)) : SoundEff P φ H w a o (eMax (ρ x) (ρ y)) := by
  have hx := hρ x
  have hy := hρ y
  have run : (execOp a.eval o).run P w = ((Builtin.max_ c.argTypes o.type (c.args.map a.eval)).run P w).andThen fun v w' => .ok (.value v) w' := by
    simp [execOp, ho, resolve, hb, invoke, builtin]
  unfold eMax
  split
  · rename_i k m k' n hX hY
    rw [hX] at hx; rw [hY] at hy
    refine SoundEff.pure hs fun hc => ⟨.int k (max m n), ?_, .int _ _⟩
    subst hc
    rw [run]
    have e : (if m < n then n else m) = max m n := by omega
    simp [Builtin.max_, hxx, hx.inv_int, hy.inv_int, Builtin.max2, e]
  · trivial

theorem mapO_eq (ρ : Operand → AV) (l : List Operand) : mapO ρ l = l.map ρ := by induction l <;> simp_all [mapO]

theorem rep_map (hρ : ∀ x, Rep φ H w (ρ x) (a.eval x)) (l : List Operand) : ∀ (i : Nat) c x, (l.map ρ)[i]? = some c → (l.map a.eval)[i]? = some x → Rep φ H w c x := by
  intro i c x h1 h2
  simp only [List.getElem?_map] at h1 h2
  cases hl : l[i]? with
  | none => simp [hl] at h1
  | some y => simp [hl] at h1 h2; subst h1 h2; exact hρ y

theorem sound_slice {t : TypeId} {x : Operand} {lo hi mx : Option Operand} (ho : o.op = .slice t x lo hi mx) (hs : HSat φ H w) (hρ : ∀ x, Rep φ H w (ρ x) (a.eval x)) :
    SoundEff P φ H w a o (eSlice P H (tiOf P t) (ρ x) (lo.map ρ) (hi.map ρ) (mx.map ρ)) := by
  have hx := nilish_rep (hρ x)
  unfold eSlice
  cases mx with
  | some m => trivial
  | none =>
    simp only [Option.map_none]
    have bnd : ∀ (isS : Bool) (n cap : Nat), n ≤ cap → optC (lo.map ρ) → optC (hi.map ρ) → loN (lo.map ρ) ≤ hiN n (hi.map ρ) → hiN n (hi.map ρ) ≤ n →
        (Instr.sliceBounds isS n cap (lo.map a.eval) (hi.map a.eval) none).run P w = .ok (loN (lo.map ρ), hiN n (hi.map ρ), cap) w := by
      intro isS n cap hnc hl hh h1 h2
      have int : ∀ v : Operand, natC (ρ v) → ∃ k m, a.eval v = .int k m ∧ 0 ≤ m ∧ natA (ρ v) = m.toNat := by
        intro v hv
        have hr := hρ v
        generalize ρ v = V at *
        cases V <;> simp only [natC] at hv
        exact ⟨_, _, hr.inv_int, hv, rfl⟩
      cases hi with
      | none =>
        cases lo with
        | none => simp [Instr.sliceBounds, loN, hiN]
        | some u =>
          simp only [Option.map_some, Option.map_none, optC, loN, hiN] at hl h1 ⊢
          obtain ⟨k, m, hv, hm, e⟩ := int u hl
          rw [e] at h1 ⊢
          simp [Instr.sliceBounds, hv, run_sliceBound w k m n _ hm (by omega)]
      | some v =>
        cases lo with
        | none =>
          simp only [Option.map_some, Option.map_none, optC, loN, hiN] at hh h1 h2 ⊢
          obtain ⟨k, m, hv, hm, e⟩ := int v hh
          rw [e] at h1 h2 ⊢
          simp [Instr.sliceBounds, hv, run_sliceBound w k m cap _ hm (by omega)]
        | some u =>
          simp only [Option.map_some, optC, loN, hiN] at hl hh h1 h2 ⊢
          obtain ⟨k, m, hv, hm, e⟩ := int v hh
          obtain ⟨k', m', hv', hm', e'⟩ := int u hl
          rw [e] at h1 h2 ⊢
          rw [e'] at h1 ⊢
          simp [Instr.sliceBounds, hv, hv', run_sliceBound w k m cap _ hm (by omega), run_sliceBound w k' m' m.toNat _ hm' (by omega)]
    split
    · rename_i e hk
      have hu := und_slice hk
      split
      · rename_i n f hX
        rw [hX] at hx
        refine SoundEff.pure hs fun hc => ?_
        obtain ⟨hl, hh, h1, h2, h3, h4⟩ := hc
        obtain ⟨base, cap, b, o', sz, vs, hv, hn, hcap, hsz, hbase, hM, hcell, hone, hlen, hrep⟩ := hx.ro_facts
        have hb := bnd true n cap hn hl hh h1 h2
        generalize loN (lo.map ρ) = l at *
        have hrun : (execOp a.eval o).run P w = .ok (.value (.slice (if cap = l then base else base.map (·.add (l * (tiOf P e).size))) (hiN n (hi.map ρ) - l) (cap - l))) w := by
          simp [execOp, ho, Instr.sliceAt, hv, run_underlying hu, Instr.slice, hb, run_sizeOf' h3]
        refine ⟨_, hrun, ?_⟩
        have hroc : ∃ g, roCut n f l (hi.map ρ) = .ro (hiN n (hi.map ρ) - l) g ∧ ∀ i, i < hiN n (hi.map ρ) - l → g i = f (l + i) := by
          cases hi with
          | none => exact ⟨_, rfl, fun i _ => rfl⟩
          | some v => exact ⟨_, rfl, fun i hi => by simp only [cutF]; exact if_pos hi⟩
        obtain ⟨g, hg, hgf⟩ := hroc
        rw [hg]
        generalize hiN n (hi.map ρ) = h at *
        have hsize : 0 < h - l → (tiOf P e).size = sz := by
          intro hp
          rcases h4 with h4 | h4
          · omega
          · rw [← h4, alen_eq]; exact hlen 0 (by omega)
        refine .g (.ro _ (cap - l) b (o' + l * sz) sz (fun k => vs (l * sz + k)) (by omega) (by omega) hsz ?_ ?_ ?_ ?_ ?_ ?_)
        · intro hp
          rw [if_neg (by omega), hbase (by omega), hsize hp]
          simp [Addr.add_lit]
        · intro hp; exact hM (by omega)
        · intro k hk
          rw [Nat.add_assoc]
          exact hcell _ (by
            have : (h - l) * sz + l * sz ≤ n * sz := by rw [← Nat.add_mul]; exact Nat.mul_le_mul_right sz (by omega)
            omega)
        · intro k hk
          exact hone _ (by
            have : (h - l) * sz + l * sz ≤ n * sz := by rw [← Nat.add_mul]; exact Nat.mul_le_mul_right sz (by omega)
            omega)
        · intro i hi'; rw [hgf i hi']; exact hlen _ (by omega)
        · intro i j c hi' hc
          rw [hgf i hi'] at hc
          have := hrep (l + i) j c (by omega) hc
          rw [Nat.add_mul, Nat.add_assoc] at this
          exact this
      · rename_i id off n hX
        rw [hX] at hx
        split
        · rename_i sz N f hb'
          refine SoundEff.quiet hs fun hc => ?_
          obtain ⟨hl, hh, h1, h2, h3⟩ := hc
          obtain ⟨base, cap', hv, hus, hbs, hlc, hcm, hat⟩ := hx.inv_sl
          obtain ⟨hoff, hcap, hbase⟩ := hat sz N (by simp [sig, hb', ABlk.sig])
          have hB := hs.blk id
          rw [hb'] at hB
          have hszp : 0 < sz := hB.2.1
          have hb := bnd true n cap' hlc hl hh h1 h2
          generalize loN (lo.map ρ) = l at *
          generalize hiN n (hi.map ρ) = h at *
          have hrun : (execOp a.eval o).run P w = .ok (.value (.slice (if cap' = l then base else base.map (·.add (l * (tiOf P e).size))) (h - l) (cap' - l))) w := by
            simp [execOp, ho, Instr.sliceAt, hv, run_underlying hu, Instr.slice, hb, run_sizeOf' (P := P) (t := e) (by omega)]
          refine ⟨_, hrun, .sl _ _ hus ?_ (by omega) (by omega) ?_⟩
          · intro hp
            rw [if_neg (by omega), hbase (by omega)]; rfl
          · intro sz' n' hsig
            simp only [sig, hb', ABlk.sig, Option.some.injEq, Prod.mk.injEq] at hsig
            obtain ⟨rfl, rfl⟩ := hsig
            refine ⟨by omega, by omega, fun hp => ?_⟩
            rw [if_neg (by omega), hbase (by omega), ← h3]
            simp [Addr.add_lit, Nat.add_mul, Nat.add_assoc]
        · trivial
      · trivial
    · rename_i hk
      have hu := und_str hk
      split
      · rename_i s hX
        have hx := hρ x
        rw [hX] at hx
        refine SoundEff.pure hs fun hc => ?_
        obtain ⟨hl, hh, h1, h2⟩ := hc
        have hb := bnd false s.length s.length (Nat.le_refl _) hl hh h1 h2
        refine ⟨_, ?_, .str _⟩
        simp only [execOp, ho, Instr.sliceAt, hx.inv_str, run_underlying hu, Instr.slice, Sem.run_bind, Result.andThen_ok, Option.map_none, Option.isSome_none, Bool.false_eq_true, if_false, Sem.run_pure, size_mk, hb]
        congr 3
        apply ByteArray.ext
        simp [ByteArray.data_extract]
        exact (List.drop_take ..).symm
      · trivial
    · trivial
theorem und_flat {t : TypeId} (h : (tiOf P t).kind.flat = true) : ∃ d, P.underlying t = some d ∧ ∀ e, d ≠ .slice e := by
  obtain ⟨d, i, z, hu, _, _, hk, _⟩ := tiOf_kind (P := P) (t := t) rfl (by intro e; rw [e] at h; simp [TK.flat] at h)
  refine ⟨d, hu, fun e he => ?_⟩
  subst he
  rw [← hk] at h
  simp [tkOf, TK.flat] at h

theorem strOf_length (n : Nat) (f : Nat → List AV) : (strOf n f).length = n := by simp [strOf]

theorem foldl_push (l : List UInt8) : ∀ (acc : ByteArray), (l.map fun b => (b.toNat : Int)).foldl (fun r n => r.push (UInt8.ofNat n.toNat)) acc = ⟨acc.data ++ l.toArray⟩ := by
  induction l with
  | nil => intro acc; simp
  | cons b l ih =>
    intro acc
    simp only [List.map_cons, List.foldl_cons]
    rw [ih]
    apply ByteArray.ext
    apply Array.ext'
    simp [ByteArray.push]

/-- The bytes of a row, as a string. -/
theorem run_toString {M : Nat → Prop} {n : Nat} {f : Nat → List AV} {v : Value} (h : RepG w M (.ro n f) v) (s : List UInt8) (hl : s.length = n) (hf : ∀ i, i < n → f i = strF s i) :
    (Conv.bytesToString v).run P w = .ok (.string ⟨s.toArray⟩) w := by
  obtain ⟨base, cap, b, o', sz, vs, rfl, hn, hcap, hsz, hbase, hM, hcell, hone, hlen, hrep⟩ := h.ro_facts
  have key : ∀ ad : Addr, (∀ j, j < n → w.cell? (ad.add j) = some (.int .u8 ((s.getD j 0).toNat : Int))) → (Conv.bytesToString (.slice (some ad) n cap)).run P w = .ok (.string ⟨s.toArray⟩) w := by
    intro ad had
    have h1 := run_loadCells (P := P) w ad n (fun j => .int .u8 ((s.getD j 0).toNat : Int)) had
    have e : ((List.range n).map fun j => Value.int .u8 ((s.getD j 0).toNat : Int)) = (s.map fun b => (b.toNat : Int)).map (Value.int .u8) := by
      apply List.ext_getElem?
      intro j
      by_cases hj : j < s.length
      · simp [hl ▸ hj, hj, List.getD_eq_getElem?_getD, hl.symm ▸ hj]
      · simp [List.getElem?_eq_none, hl ▸ hj, Nat.le_of_not_lt hj]
    rw [e] at h1
    rw [run_bytesToString w ad n cap _ h1, foldl_push]
    simp
  by_cases h0 : 0 < n
  · rw [hbase h0]
    refine key _ fun j hj => ?_
    have e1 : sz = 1 := by rw [← hlen 0 h0, hf 0 h0]; rfl
    subst e1
    have := hrep j 0 (.int .u8 ((s.getD j 0).toNat : Int)) hj (by rw [hf j hj]; rfl)
    simp only [Nat.mul_one, Nat.add_zero] at this
    rw [Addr.add_lit, hcell j (by omega)]
    have hv : vs j = .int .u8 ((s.getD j 0).toNat : Int) := by
      generalize vs j = u at this
      cases this; rfl
    rw [hv]
  · have : n = 0 := by omega
    subst this
    have : s = [] := List.eq_nil_of_length_eq_zero hl
    subst this
    cases base with
    | none => simp [Conv.bytesToString]; rfl
    | some ad => exact key ad (fun j hj => by omega)

theorem sound_conv {s d : TypeId} {x : Operand} (ho : o.op = .convert s d x) (hs : HSat φ H w) (hρ : ∀ x, Rep φ H w (ρ x) (a.eval x)) :
    SoundEff P φ H w a o (eConv P H (tiOf P s).kind (tiOf P d).kind (ρ x)) := by
  have hx := hρ x
  have run : (execOp a.eval o).run P w = ((convert s d (a.eval x)).run P w).andThen fun v w' => .ok (.value v) w' := by simp [execOp, ho]
  unfold eConv
  split
  · rename_i k k' n hd hX
    rw [hX] at hx
    have hu := und_int hd
    split
    · rename_i m hm
      refine SoundEff.pure hs fun hc => ⟨_, ?_, .int _ _⟩
      obtain ⟨td, hus, _⟩ := und_flat hc
      rw [run, hx.inv_int]
      simp [convert, run_underlying hus, run_underlying hu, Conv.intToInt, uns_wrap hm]
    · refine SoundEff.pure hs fun hc => ⟨_, ?_, .int _ _⟩
      obtain ⟨td, hus, _⟩ := und_flat hc.1
      rw [run, hx.inv_int]
      simp [convert, run_underlying hus, run_underlying hu, Conv.intToInt, inR_wrap hc.2]
  · rename_i str hd hX
    rw [hX] at hx
    have hu := und_str hd
    refine SoundEff.pure hs fun hc => ⟨_, ?_, .str _⟩
    obtain ⟨td, hus, hns⟩ := und_flat hc
    rw [run, hx.inv_str]
    cases td <;> simp [convert, run_underlying hus, run_underlying hu]
  · rename_i n f hd hX
    rw [hX] at hx
    have hu := und_str hd
    split
    · rename_i e hk
      have hus := und_slice hk
      split
      · rename_i he
        have hue := und_int he
        refine SoundEff.pure hs fun hc => ⟨_, ?_, .str _⟩
        have hr := run_toString (P := P) hx.inv_ro (strOf n f) (strOf_length n f) hc.2
        obtain ⟨base, cap, b, o', sz, vs, hv, _⟩ := hx.ro_facts
        rw [hv] at hr run
        rw [run]
        cases base <;> simp [convert, run_underlying hus, run_underlying hu, run_underlying hue, hr]
      · trivial
    · trivial
  · rename_i id off len hd hX
    rw [hX] at hx
    have hu := und_str hd
    split
    · rename_i e hk
      have hus := und_slice hk
      split
      · rename_i he
        have hue := und_int he
        split
        · rename_i sz n f hb
          refine SoundEff.quiet hs fun hc => ⟨_, ?_, .str _⟩
          have hro := sl_ro (M := fun _ => False) hs hb hx (fun _ h => h.elim) (fun _ h => h)
          have hr := run_toString (P := P) hro (strOf len _) (strOf_length len _) hc.2
          obtain ⟨base, cap', hv, _⟩ := hx.inv_sl
          rw [hv] at hr run
          rw [run]
          cases base <;> simp [convert, run_underlying hus, run_underlying hu, run_underlying hue, hr]
        · trivial
      · trivial
    · trivial
  · trivial

theorem sound_makeFunc {f : Fn} {first caps : Array Operand} (ho : o.op = .makeFunc f first caps) (hf : first.toList = []) (hs : HSat φ H w) (hρ : ∀ x, Rep φ H w (ρ x) (a.eval x)) :
    SoundEff P φ H w a o (E.pure True (.fn f (mapO ρ caps.toList))) := by
  have e : first = #[] := by apply Array.ext'; simpa using hf
  refine SoundEff.pure hs fun _ => ⟨.func f #[] (caps.map a.eval), ?_, .fn ?_ ?_⟩
  · simp [execOp, ho, e, Instr.makeFunc]
  · simp [mapO_eq]
  · intro i c v hc hv
    rw [mapO_eq] at hc
    exact rep_map hρ caps.toList i c v hc (by simpa using hv)

theorem sound_nil {x : Operand} (ho : o.op = .nilCheck x) (hs : HSat φ H w) (hρ : ∀ x, Rep φ H w (ρ x) (a.eval x)) :
    SoundEff P φ H w a o (eNil (ρ x)) := by
  have hx := hρ x
  unfold eNil
  split
  · rename_i id i j hX
    rw [hX] at hx
    obtain ⟨ad, hv, _⟩ := hx.inv_ptr
    refine SoundEff.pure hs fun _ => ⟨_, by simp [execOp, ho, hv]; rfl, ?_⟩
    rw [hX, ← hv]; exact hx
  · rename_i cs hX
    rw [hX] at hx
    obtain ⟨b, o', hv, _⟩ := cells_of_rop hx
    refine SoundEff.pure hs fun _ => ⟨_, by simp [execOp, ho, hv]; rfl, ?_⟩
    rw [hX, ← hv]; exact hx
  · rename_i g cs hX
    rw [hX] at hx
    obtain ⟨vs, hv, _⟩ := hx.inv_fn
    refine SoundEff.pure hs fun _ => ⟨_, by simp [execOp, ho, hv]; rfl, ?_⟩
    rw [← hv]; exact hx
  · trivial
end
end Go.SH
