/-
  THE SYMBOLIC HEAP, PART I: append and copy; what each operation does, all together. No condition.
-/
import Derived.Test.YthkgnnndlocbbaaShH
namespace Go.SH
set_option linter.unusedVariables false
set_option linter.unusedSimpArgs false
open Go Go.RowKit
section
variable {P : Program} {φ φ' : Env} {H H' H1 : List ABlk} {w w' : World} {a : Act} {o : Oper} {ρ : Operand → AV}

theorem evo_take {nid : Nat} {L : Loc} {blk : ABlk} (hk : Evo φ H w φ H1 w) (hf : hget H1 nid = .fresh) (hL : 0 < L.cap → MBo φ H L.b)
    (hos : w'.os = w.os) (htape : w'.tape = w.tape) (hout : w'.output = w.output) (hsz : w'.heap.size = w.heap.size) (hheap : ∀ b, ¬ MBo φ H b → w'.heap[b]? = w.heap[b]?) :
    Evo φ H w (setφ φ nid L) (hset H1 nid blk) w' where
  os := hos
  tape := htape
  output := hout
  size := by omega
  ext := rfl
  base := rfl
  frame b _ hm := hheap b hm
  blk b hm := by
    obtain ⟨k, hm⟩ := hm
    by_cases he : k = nid
    · subst he
      obtain ⟨⟨_, h2⟩, hb⟩ := hm
      rw [setφ_same] at hb h2
      have := hb.resolve_right (setφ_none _ _ _ b)
      subst this
      exact .inr (hL h2)
    · exact hk.blk b ⟨k, (ownB_set he).1 hm⟩
  used k hu := by
    by_cases he : k = nid
    · subst he; have := hk.used k hu; rw [hf] at this; cases this
    · rw [hget_set_ne _ _ _ _ he]; exact hk.used k hu
  ids k s hu hsig := by
    by_cases he : k = nid
    · subst he; have := hk.used k hu; rw [hf] at this; cases this
    · rw [sig, hget_set_ne _ _ _ _ he] at hsig
      rw [setφ_ne _ _ he]
      exact hk.ids k s hu hsig

theorem hsat_take {nid : Nat} {L : Loc} {blk : ABlk} (hs : HSat φ H w) (e : Evo φ H w (setφ φ nid L) (hset H1 nid blk) w') (h1 : ∀ k, hget H1 k = hget H k ∨ hget H1 k = .dead)
    (hother : ∀ k b, OwnB φ H1 k b → w'.heap[b]? = w.heap[b]? ∧ (0 < L.cap → b ≠ L.b)) (hext : 0 < L.cap → ¬ φ.ext L.b) (hB : BRep (setφ φ nid L) (hset H1 nid blk) w' nid blk) :
    HSat (setφ φ nid L) (hset H1 nid blk) w' where
  blk k := by
    by_cases he : k = nid
    · subst he; rw [hget_set_same]; exact hB
    · rw [hget_set_ne _ _ _ _ he]
      rcases h1 k with h | h
      · rw [h]
        refine BRep.keep e (setφ_ne _ _ he) (setφ_more _ _ he) (fun b h2 h3 h4 => ?_) (hs.blk k)
        exact (hother k b ⟨⟨by rw [sig, h]; exact h2, h3⟩, h4⟩).1
      · rw [h]; trivial
  inj i j b hi hj := by
    have up : ∀ k, OwnB φ H1 k b → OwnB φ H k b := by
      rintro k ⟨⟨g1, g2⟩, g3⟩
      rcases h1 k with h | h
      · exact ⟨⟨by rw [sig, ← h]; exact g1, g2⟩, g3⟩
      · rw [sig, h] at g1; simp [ABlk.sig] at g1
    have new : OwnB (setφ φ nid L) (hset H1 nid blk) nid b → 0 < L.cap ∧ L.b = b := by
      rintro ⟨⟨_, h2⟩, hb⟩
      rw [setφ_same] at hb h2
      exact ⟨h2, hb.resolve_right (setφ_none _ _ _ b)⟩
    by_cases hi' : i = nid
    · by_cases hj' : j = nid
      · rw [hi', hj']
      · rw [hi'] at hi
        obtain ⟨n1, n2⟩ := new hi
        exact absurd n2.symm ((hother j b ((ownB_set hj').1 hj)).2 n1)
    · by_cases hj' : j = nid
      · rw [hj'] at hj
        obtain ⟨n1, n2⟩ := new hj
        exact absurd n2.symm ((hother i b ((ownB_set hi').1 hi)).2 n1)
      · exact hs.inj i j b (up i ((ownB_set hi').1 hi)) (up j ((ownB_set hj').1 hj))
  ext k b hk hx := by
    by_cases he : k = nid
    · subst he
      obtain ⟨⟨_, h2⟩, hb⟩ := hk
      rw [setφ_same] at hb h2
      have := hb.resolve_right (setφ_none _ _ _ b)
      subst this
      exact hext h2 hx
    · obtain ⟨⟨g1, g2⟩, g3⟩ := (ownB_set he).1 hk
      rcases h1 k with h | h
      · exact hs.ext k b ⟨⟨by show (hget H k).sig.isSome = true; rw [← h]; exact g1, g2⟩, g3⟩ hx
      · rw [sig, h] at g1; simp [ABlk.sig] at g1
  extlt b hb := Nat.lt_of_lt_of_le (hs.extlt b hb) e.size

theorem evo_same {w1 : World} (h : SameHeap w w1) : Evo φ H w φ H w1 :=
  ⟨h.os, h.tape, h.output, by rw [h.heap]; exact Nat.le_refl _, rfl, rfl, fun b _ _ => by rw [h.heap], fun _ h => .inr h, fun _ h => h, fun _ _ _ h => ⟨h, rfl⟩⟩
theorem hsat_same {w1 : World} (h : SameHeap w w1) (hs : HSat φ H w) : HSat φ H w1 :=
  ⟨fun id => BRep.keep (evo_same h) rfl (fun _ => Iff.rfl) (fun _ _ _ _ => by rw [h.heap]) (hs.blk id), hs.inj, hs.ext, fun b hb => by rw [h.heap]; exact hs.extlt b hb⟩

/-- The cells of a grown row. -/
theorem grown_get {olds news z : List Value} {len m sz : Nat} (h1 : olds.length = len * sz) (h2 : news.length = m * sz) {i j : Nat} (hi : i < len + m) (hj : j < sz) :
    (olds.toArray ++ (news.toArray ++ z.toArray))[i * sz + j]? = if i < len then olds[i * sz + j]? else news[(i - len) * sz + j]? := by
  simp only [List.append_toArray, List.getElem?_toArray]
  rw [List.getElem?_append]
  by_cases h : i < len
  · have := mul_add_lt h hj
    rw [if_pos (by omega), if_pos h]
  · have e : len * sz ≤ i * sz := Nat.mul_le_mul_right sz (by omega)
    have e2 : i * sz + j - len * sz = (i - len) * sz + j := by rw [Nat.sub_mul]; omega
    have := mul_add_lt (show i - len < m by omega) hj
    rw [if_neg (by omega), if_neg h, h1, e2, List.getElem?_append, if_pos (by omega)]

theorem args_get {c : Call} {k : Nat} {x : Operand} (h : c.args.toList[k]? = some x) : (c.args.map a.eval)[k]? = some (a.eval x) := by
  rw [← Array.getElem?_toList]; simp at h; simp [h]

theorem sound_append {nid : Nat} {t t' : TypeId} {x y : Operand} {c : Call} (ho : o.op = .call c) (hb : c.callee = .builtin .append) (ht : c.argTypes.toList[0]? = some t) (ht' : c.argTypes.toList[1]? = some t')
    (hxx : c.args.toList[0]? = some x) (hyy : c.args.toList[1]? = some y) (hs : HSat φ H w) (hf : hget H nid = .fresh) (hρ : ∀ x, Rep φ H w (ρ x) (a.eval x)) :
    SoundEff P φ H w a o (eAppend P H nid (tiOf P t) (tiOf P t') (ρ x) (ρ y)) := by
  have hx := hρ x
  have hy := hρ y
  have run : (execOp a.eval o).run P w = ((Builtin.append_ c.argTypes o.type (c.args.map a.eval)).run P w).andThen fun v w' => .ok (.value v) w' := by
    simp [execOp, ho, resolve, hb, invoke, builtin]
  have t0 : c.argTypes[0]? = some t := by rw [← Array.getElem?_toList]; exact ht
  have t1 : c.argTypes[1]? = some t' := by rw [← Array.getElem?_toList]; exact ht'
  have a0 := args_get (a := a) hxx
  have a1 := args_get (a := a) hyy
  unfold eAppend
  split
  · rename_i e m g rd hk hsrc
    have hu := und_slice hk
    have hu' : ∀ sz, (∀ i, i < m → (g i).length = sz) → ∃ d, P.underlying t' = some d ∧ (d = .string ∨ ∃ e, d = .slice e) := by
      intro sz hsz
      rcases (src_ok (P := P) hs hy hsrc hsz).2 with h | ⟨e', h⟩
      · exact ⟨_, und_str h, .inl rfl⟩
      · exact ⟨_, und_slice h, .inr ⟨e', rfl⟩⟩
    split
    · rename_i id off len hX
      rw [hX] at hx
      split
      · rename_i sz n f hbk
        intro hc
        obtain ⟨c1, c2, c3, c4, c5⟩ := hc
        have hB := hs.blk id
        rw [hbk] at hB
        obtain ⟨hnm, hszp, hnc, hcc, hlen, hcells⟩ := hB
        obtain ⟨base, cap', hv, hus, hbs, hl, hcm, hat⟩ := hx.inv_sl
        obtain ⟨hoff, hcap, hbase⟩ := hat sz n (by simp [sig, hbk, ABlk.sig])
        obtain ⟨d, hd1, hd2⟩ := hu' sz c5
        have hne : id ≠ nid := fun he => by rw [he, hf] at hus; cases hus
        have hk1 := evo_kill (φ := φ) (w := w) hus
        have hf1 : hget (hset H id .dead) nid = .fresh := by rw [hget_set_ne _ _ _ _ (Ne.symm hne)]; exact hf
        obtain ⟨⟨hlo, hsr⟩, _⟩ := src_ok (P := P) hs hy hsrc c5
        have hlenF : ∀ i, i < len + m → (appF len (cutF n off len f) g i).length = sz := by
          intro i hi
          simp only [appF]
          split
          · rename_i h; simp only [cutF]; rw [if_pos h]; exact hlen _ (by omega)
          · exact c5 _ (by omega)
        by_cases hroom : len + m ≤ cap'
        · -- in place
          obtain ⟨news, hn1, hn2, hn3, hn4⟩ := hsr m (Nat.le_refl _)
          have hin := run_append_in (P := P) (w := w) (args := c.args.map a.eval) (ty := o.type) t0 t1 (by rw [a0, hv]) a1 hu hd1 hd2 (run_sizeOf' (P := P) (t := e) (by omega) w) hlo (by rw [← c3]; exact hn1) hroom
          by_cases hpos : 0 < cap'
          · have hbs' := hbase hpos
            have hown : Own φ H id := ⟨by simp [sig, hbk, ABlk.sig], by omega⟩
            obtain ⟨cur, T, hheap, hfit, hcur⟩ := hcells (by omega)
            have hbound : (φ id).o + off * sz + len * sz + news.length ≤ cur.size := by
              have : (off + len + m) * sz ≤ (φ id).cap * sz := Nat.mul_le_mul_right sz (by omega)
              rw [Nat.add_mul, Nat.add_mul] at this
              omega
            have hst := run_storeCells_at P (φ id).b ((φ id).o + off * sz + len * sz) T news 0 cur w hheap (by simpa using hbound) hn3
            simp only [Nat.add_zero] at hst
            have hr : (execOp a.eval o).run P w = .ok (.value (.slice base (len + m) cap')) (w.setRow (φ id).b (cur.toList.take ((φ id).o + off * sz + len * sz) ++ news ++ cur.toList.drop ((φ id).o + off * sz + len * sz + news.length)).toArray) := by
              rw [run, hin, hbs']
              simp only [Addr.add_lit, ← c3, hst, Result.andThen_ok]
            have ev := evo_take (nid := nid) (L := ⟨(φ id).b, (φ id).o + off * sz, cap'⟩) (blk := .vec sz (len + m) (appF len (cutF n off len f) g)) (w' := w.setRow (φ id).b (cur.toList.take ((φ id).o + off * sz + len * sz) ++ news ++ cur.toList.drop ((φ id).o + off * sz + len * sz + news.length)).toArray)
              hk1 hf1 (fun _ => hown.b) rfl rfl rfl (by simp) (fun b hb => setRow_other w _ b _ (fun he => hb (he ▸ hown.b)))
            simp only [applyU]
            refine ⟨_, _, _, .inl hr, hsat_take hs ev ?_ ?_ (fun _ => hs.ext' id hown) ?_, .sl _ _ (by rw [hget_set_same]; rfl) ?_ hroom hcm ?_, ev⟩
            · intro k
              by_cases hk : k = id
              · subst hk; exact .inr (hget_set_same _ _ _)
              · exact .inl (hget_set_ne _ _ _ _ hk)
            · intro k b hk
              obtain ⟨g1, g2⟩ := ownB_kill hk
              have : b ≠ (φ id).b := fun he => g1 (hs.inj k id b g2 ⟨hown, .inl he.symm⟩)
              exact ⟨setRow_other w _ _ _ this, fun _ => this⟩
            · refine ⟨setφ_none _ _ _, hszp, by rw [setφ_same]; exact hroom, by rw [setφ_same]; exact hcm, hlenF, fun _ => ?_⟩
              rw [setφ_same]
              refine ⟨_, T, setRow_heap w _ cur _ T _ hheap, ?_, ?_⟩
              · simp only [List.size_toArray, List.length_append, List.length_take, List.length_drop, Array.length_toList]
                have e1 : (φ id).o + off * sz + cap' * sz = (φ id).o + (cap' + off) * sz := by rw [Nat.add_mul]; omega
                rw [e1, hcap]; omega
              · intro i j av hi hav
                simp only at hav ⊢
                have hjl : j < sz := by rw [← hlenF i hi]; exact (List.getElem?_eq_some_iff.1 hav).1
                rw [row_get cur _ _ hbound]
                simp only [appF] at hav
                split at hav
                · rename_i hil
                  simp only [cutF] at hav
                  rw [if_pos hil] at hav
                  obtain ⟨v, g1, g2, g3⟩ := hcur (off + i) j av (by omega) hav
                  have lt := mul_add_lt hil hjl
                  refine ⟨v, ?_, g2, g3.move ev.frame' ev.sub⟩
                  rw [if_neg (by omega)]
                  have e1 : (φ id).o + off * sz + i * sz + j = (φ id).o + (off + i) * sz + j := by rw [Nat.add_mul]; omega
                  rw [e1]; exact g1
                · rename_i hil
                  obtain ⟨v, g1, g2⟩ := hn4 (i - len) j av (by omega) hjl hav
                  have lt := mul_add_lt (show i - len < m by omega) hjl
                  have e1 : len * sz ≤ i * sz := Nat.mul_le_mul_right sz (by omega)
                  have e2 : (φ id).o + off * sz + i * sz + j - ((φ id).o + off * sz + len * sz) = (i - len) * sz + j := by rw [Nat.sub_mul]; omega
                  have e3 : (i - len) * sz = i * sz - len * sz := Nat.sub_mul _ _ _
                  refine ⟨v, ?_, hn3 v (List.mem_of_getElem? g1), g2.move ev.frame' ev.sub⟩
                  rw [if_pos (by omega), e2]; exact g1
            · intro _; rw [hbs']; rfl
            · intro sz' n' hsig
              rw [sig, hget_set_same] at hsig
              simp only [ABlk.sig, Option.some.injEq, Prod.mk.injEq] at hsig
              obtain ⟨rfl, rfl⟩ := hsig
              rw [setφ_same]
              exact ⟨by omega, by simp, fun _ => by simp [hbs']⟩
          · -- nothing to nothing
            have hm0 : m = 0 := by omega
            have hl0 : len = 0 := by omega
            subst hm0 hl0
            have hn0 : news = [] := List.eq_nil_of_length_eq_zero (by simpa using hn2)
            subst hn0
            have hr : (execOp a.eval o).run P w = .ok (.value (.slice base 0 cap')) w := by
              rw [run, hin]
              cases base <;> simp [storeCells]
            have ev := evo_take (nid := nid) (L := ⟨0, 0, 0⟩) (blk := .vec sz (0 + 0) (appF 0 (cutF n off 0 f) g)) (w' := w) hk1 hf1 (fun h => absurd h (by simp)) rfl rfl rfl rfl (fun _ _ => rfl)
            simp only [applyU]
            refine ⟨_, _, _, .inl hr, hsat_take hs ev ?_ (fun k b hk => ⟨rfl, fun h => absurd h (by simp)⟩) (fun h => absurd h (by simp)) ?_, .sl _ _ (by rw [hget_set_same]; rfl) (by simp) (by omega) hcm ?_, ev⟩
            · intro k
              by_cases hk : k = id
              · subst hk; exact .inr (hget_set_same _ _ _)
              · exact .inl (hget_set_ne _ _ _ _ hk)
            · exact ⟨setφ_none _ _ _, hszp, by rw [setφ_same]; simp, by rw [setφ_same]; simp, hlenF, fun h => by rw [setφ_same] at h; simp at h⟩
            · intro sz' n' hsig
              rw [sig, hget_set_same] at hsig
              simp only [ABlk.sig, Option.some.injEq, Prod.mk.injEq] at hsig
              obtain ⟨rfl, rfl⟩ := hsig
              rw [setφ_same]
              exact ⟨by omega, by simp; omega, fun h => absurd h (by omega)⟩
        · -- a new array
          have hsd := hsat_same (SameHeap.drew w) hs
          have evd : Evo φ H w φ H w.drew := evo_same (SameHeap.drew w)
          obtain ⟨⟨_, hsr'⟩, _⟩ := src_ok (P := P) hsd (hy.evo evd) hsrc c5
          obtain ⟨news, hn1, hn2, hn3, hn4⟩ := hsr' m (Nat.le_refl _)
          obtain ⟨_, hold⟩ := row_src (P := P) (sl_row hsd hbk (hx.evo evd))
          obtain ⟨olds, ho1, ho2, ho3, ho4⟩ := hold len (Nat.le_refl _)
          obtain ⟨dd, i, z, hue, hi, hz, hke, hszi, hby, hzero⟩ := tiOf_info (P := P) (t := e) (by omega)
          have hzs : z.cells.size = sz := by rw [← c4, hzero]; simp
          have hsi : sz = i.size := by omega
          have hr := run_append_new (P := P) (w := w) (args := c.args.map a.eval) (ty := o.type) t0 t1 (by rw [a0, hv]) a1 hu hd1 hd2 hi hz hlo (by rw [← hsi]; exact hn1) (by rw [← hsi, ← hv]; exact ho1) (by omega) (by omega) (by rw [← hby]; exact c1)
          have hge := grownCap_ge w (len + m) cap' e
          have hle := grownCap_le_maxLen w (len + m) cap' e (by unfold maxLen; omega)
          have hs1 := hsat_kill hs hus
          have sub : ∀ b, MB φ (hset H id .dead) b → MB φ H b := fun b hb => hb.imp (fun ⟨k, hk, hkb⟩ => ⟨k, (own_kill hk).2, hkb⟩) (fun h => h)
          obtain ⟨φ', g1, g2, g3⟩ := sound_newvec (T := e) (sz := sz) (n := len + m) (cap := grownCap w (len + m) cap' e) (f := appF len (cutF n off len f) g)
            (c := olds.toArray ++ (news.toArray ++ Builtin.zeroCells z.cells (grownCap w (len + m) cap' e - (len + m)))) hs1 hf1 (SameHeap.drew w) hszp hge (by unfold maxLen at hle; omega) hlenF
            (by
              simp only [Array.size_append, List.size_toArray, size_zeroCells, ho2, hn2, hzs, ← Nat.add_mul]
              exact Nat.mul_le_mul_right sz (by omega))
            (fun i j av hi hav => by
              have hjl : j < sz := by rw [← hlenF i hi]; exact (List.getElem?_eq_some_iff.1 hav).1
              rw [← Array.toArray_toList (xs := Builtin.zeroCells z.cells (grownCap w (len + m) cap' e - (len + m))), grown_get ho2 hn2 hi hjl]
              simp only [appF] at hav
              split at hav
              · rename_i hil
                obtain ⟨v, k1, k2⟩ := ho4 i j av hil hjl hav
                rw [if_pos hil]
                exact ⟨v, k1, ho3 v (List.mem_of_getElem? k1), (k2.move (w := w.drew) (w' := w) (fun b _ _ => rfl) (fun b _ h => h)).weaken sub⟩
              · rename_i hil
                obtain ⟨v, k1, k2⟩ := hn4 (i - len) j av (by omega) hjl hav
                rw [if_neg hil]
                exact ⟨v, k1, hn3 v (List.mem_of_getElem? k1), (k2.move (w := w.drew) (w' := w) (fun b _ _ => rfl) (fun b _ h => h)).weaken sub⟩)
          refine ⟨_, _, φ', .inl ?_, g1, g2, hk1.trans g3⟩
          rw [run, hr]; rfl
      · trivial
    · rename_i hX
      rw [hX] at hx
      have hv := hx.inv_raw
      intro hc
      obtain ⟨c1, c2, c3, c4, c5⟩ := hc
      obtain ⟨d, hd1, hd2⟩ := hu' _ c5
      obtain ⟨⟨hlo, hsr⟩, _⟩ := src_ok (P := P) hs hy hsrc c5
      obtain ⟨dd, i, z, hue, hi, hz, hke, hszi, hby, hzero⟩ := tiOf_info (P := P) (t := e) c3
      have hzs : z.cells.size = (tiOf P e).size := by rw [← c4, hzero]; simp
      by_cases hm0 : m = 0
      · subst hm0
        obtain ⟨news, hn1, hn2, hn3, hn4⟩ := hsr 0 (Nat.le_refl _)
        have hn0 : news = [] := List.eq_nil_of_length_eq_zero (by simpa using hn2)
        subst hn0
        have hin := run_append_in (P := P) (w := w) (args := c.args.map a.eval) (ty := o.type) t0 t1 (by rw [a0, hv]) a1 hu hd1 hd2 (run_sizeOf' c3 w) hlo hn1 (Nat.le_refl _)
        have ev := evo_take (nid := nid) (L := ⟨0, 0, 0⟩) (blk := .vec (tiOf P e).size 0 g) (w' := w) (Evo.refl φ H w) hf (fun h => absurd h (by simp)) rfl rfl rfl rfl (fun _ _ => rfl)
        simp only [applyU]
        refine ⟨_, _, _, .inl (by rw [run, hin]; rfl), hsat_take hs ev (fun k => .inl rfl) (fun k b hk => ⟨rfl, fun h => absurd h (by simp)⟩) (fun h => absurd h (by simp)) ?_, .sl _ _ (by rw [hget_set_same]; rfl) (by simp) (by omega) (by omega) ?_, ev⟩
        · exact ⟨setφ_none _ _ _, c3, by rw [setφ_same]; simp, by rw [setφ_same]; simp, fun i hi => by omega, fun h => by rw [setφ_same] at h; simp at h⟩
        · intro sz' n' hsig
          rw [sig, hget_set_same] at hsig
          simp only [ABlk.sig, Option.some.injEq, Prod.mk.injEq] at hsig
          obtain ⟨rfl, rfl⟩ := hsig
          rw [setφ_same]
          exact ⟨by omega, by simp, fun h => absurd h (by simp)⟩
      · have hsd := hsat_same (SameHeap.drew w) hs
        have evd : Evo φ H w φ H w.drew := evo_same (SameHeap.drew w)
        obtain ⟨⟨_, hsr'⟩, _⟩ := src_ok (P := P) hsd (hy.evo evd) hsrc c5
        obtain ⟨news, hn1, hn2, hn3, hn4⟩ := hsr' m (Nat.le_refl _)
        have hr := run_append_new (P := P) (w := w) (args := c.args.map a.eval) (ty := o.type) (olds := []) t0 t1 (by rw [a0, hv]) a1 hu hd1 hd2 hi hz hlo (by rw [← hszi]; exact hn1) (by simp [Builtin.firstCells]) (by omega) (by omega) (by rw [← hby, Nat.zero_add]; exact c1)
        have hge := grownCap_ge w (0 + m) 0 e
        have hle := grownCap_le_maxLen w (0 + m) 0 e (by unfold maxLen; omega)
        have hev := sound_newvec (T := e) (sz := (tiOf P e).size) (n := 0 + m) (cap := grownCap w (0 + m) 0 e) (f := g)
          (c := ([] : List Value).toArray ++ (news.toArray ++ Builtin.zeroCells z.cells (grownCap w (0 + m) 0 e - (0 + m)))) hs hf (SameHeap.drew w) c3 hge (by unfold maxLen at hle; omega) (fun i hi => c5 i (by omega))
          (by
            simp only [Array.size_append, List.size_toArray, size_zeroCells, hn2, hzs, ← Nat.add_mul, List.length_nil, Nat.zero_add]
            exact Nat.mul_le_mul_right _ (by omega))
          (fun i j av hi hav => by
            have hjl : j < (tiOf P e).size := by rw [← c5 i (by omega)]; exact (List.getElem?_eq_some_iff.1 hav).1
            rw [← Array.toArray_toList (xs := Builtin.zeroCells z.cells (grownCap w (0 + m) 0 e - (0 + m))), grown_get (olds := []) (len := 0) (by simp) hn2 hi hjl, if_neg (by omega)]
            obtain ⟨v, k1, k2⟩ := hn4 i j av (by omega) hjl hav
            exact ⟨v, by simpa using k1, hn3 v (List.mem_of_getElem? k1), k2.move (w := w.drew) (w' := w) (fun b _ _ => rfl) (fun b _ h => h)⟩)
        rw [Nat.zero_add] at hev hr
        obtain ⟨φ', g1, g2, g3⟩ := hev
        refine ⟨_, _, φ', .inl ?_, g1, g2, g3⟩
        rw [run, hr]; rfl
    · trivial
  · trivial
end
end Go.SH
