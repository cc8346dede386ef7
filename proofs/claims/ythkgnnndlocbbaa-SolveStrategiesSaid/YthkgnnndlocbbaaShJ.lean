/-
  THE SYMBOLIC HEAP, PART J: copy; what each operation does, all together. No condition.
-/
import Derived.Test.YthkgnnndlocbbaaShI
namespace Go.SH
set_option linter.unusedVariables false
set_option linter.unusedSimpArgs false
open Go Go.RowKit
section
variable {P : Program} {φ φ' : Env} {H H' H1 : List ABlk} {w w' : World} {a : Act} {o : Oper} {ρ : Operand → AV}

theorem evo_ext (h : ∀ k, hget H' k = hget H k) : Evo φ H w φ H' w where
  os := rfl
  tape := rfl
  output := rfl
  size := Nat.le_refl _
  ext := rfl
  base := rfl
  frame _ _ _ := rfl
  blk b hm := by
    obtain ⟨k, ⟨h1, h2⟩, hb⟩ := hm
    exact .inr ⟨k, ⟨by rw [sig, ← h]; exact h1, h2⟩, hb⟩
  used k hk := by rw [h]; exact hk
  ids k s hk hs := ⟨by rw [sig, ← h]; exact hs, rfl⟩
theorem hsat_ext (h : ∀ k, hget H' k = hget H k) (hs : HSat φ H w) : HSat φ H' w where
  blk k := by rw [h]; exact BRep.keep (evo_ext h) rfl (fun _ => Iff.rfl) (fun _ _ _ _ => rfl) (hs.blk k)
  inj i j b hi hj := hs.inj i j b ⟨⟨by rw [sig, ← h]; exact hi.1.1, hi.1.2⟩, hi.2⟩ ⟨⟨by rw [sig, ← h]; exact hj.1.1, hj.1.2⟩, hj.2⟩
  ext i b hi := hs.ext i b ⟨⟨by rw [sig, ← h]; exact hi.1.1, hi.1.2⟩, hi.2⟩
  extlt := hs.extlt

theorem run_copy_gen {ats : Array TypeId} {args : Array Value} {t ty e : TypeId} {base : Option Addr} {dLen dCap m : Nat} {xv : Value} {news : List Value}
    (h0 : ats[0]? = some t) (a0 : args[0]? = some (.slice base dLen dCap)) (a1 : args[1]? = some xv) (hu : P.underlying t = some (.slice e))
    {size : Nat} (hsz : (sizeOf e).run P w = .ok size w) (hl : (Builtin.lenOf xv).run P w = .ok m w) (hfc : (Builtin.firstCells size (min m dLen) xv).run P w = .ok news.toArray w) :
    (Builtin.copy_ ats ty args).run P w = ((match base with | some a => storeCells a news | none => pure ()).run P w).andThen fun _ w' => .ok (.int .i64 (min m dLen : Nat)) w' := by
  have e1 : Nat.min m dLen = min m dLen := rfl
  cases base <;> simp [Builtin.copy_, h0, a0, a1, run_underlying hu, hsz, hl, e1, hfc, goInt]

theorem sound_copy {t t' : TypeId} {x y : Operand} {c : Call} (ho : o.op = .call c) (hb : c.callee = .builtin .copy) (ht : c.argTypes.toList[0]? = some t) (ht' : c.argTypes.toList[1]? = some t')
    (hxx : c.args.toList[0]? = some x) (hyy : c.args.toList[1]? = some y) (hs : HSat φ H w) (hρ : ∀ x, Rep φ H w (ρ x) (a.eval x)) :
    SoundEff P φ H w a o (eCopy P H (tiOf P t) (tiOf P t') (ρ x) (ρ y)) := by
  have hx := hρ x
  have hy := hρ y
  have run : (execOp a.eval o).run P w = ((Builtin.copy_ c.argTypes o.type (c.args.map a.eval)).run P w).andThen fun v w' => .ok (.value v) w' := by
    simp [execOp, ho, resolve, hb, invoke, builtin]
  have t0 : c.argTypes[0]? = some t := by rw [← Array.getElem?_toList]; exact ht
  have a0 := args_get (a := a) hxx
  have a1 := args_get (a := a) hyy
  unfold eCopy
  split
  · rename_i e m g rd hk hsrc
    have hu := und_slice hk
    split
    · rename_i id off len hX
      rw [hX] at hx
      split
      · rename_i sz n f hbk
        intro hc
        obtain ⟨c1, c2⟩ := hc
        have hB := hs.blk id
        rw [hbk] at hB
        obtain ⟨hnm, hszp, hnc, hcc, hlen, hcells⟩ := hB
        obtain ⟨base, cap', hv, hus, hbs, hl, hcm, hat⟩ := hx.inv_sl
        obtain ⟨hoff, hcap, hbase⟩ := hat sz n (by simp [sig, hbk, ABlk.sig])
        obtain ⟨⟨hlo, hsr⟩, _⟩ := src_ok (P := P) hs hy hsrc c2
        obtain ⟨news, hn1, hn2, hn3, hn4⟩ := hsr (min m len) (Nat.min_le_left _ _)
        have hin := run_copy_gen (P := P) (w := w) (args := c.args.map a.eval) (ty := o.type) t0 (by rw [a0, hv]) a1 hu (run_sizeOf' (P := P) (t := e) (by omega) w) hlo (by rw [← c1]; exact hn1)
        simp only [applyU]
        by_cases hpos : 0 < cap'
        · have hbs' := hbase hpos
          have hown : Own φ H id := ⟨by simp [sig, hbk, ABlk.sig], by omega⟩
          obtain ⟨cur, T, hheap, hfit, hcur⟩ := hcells (by omega)
          have hmn : (off + min m len) * sz ≤ (φ id).cap * sz := Nat.mul_le_mul_right sz (by omega)
          have hbound : (φ id).o + off * sz + news.length ≤ cur.size := by
            rw [Nat.add_mul] at hmn
            omega
          have hst := run_storeCells_at P (φ id).b ((φ id).o + off * sz) T news 0 cur w hheap (by simpa using hbound) hn3
          simp only [Nat.add_zero] at hst
          have hr : (execOp a.eval o).run P w = .ok (.value (.int .i64 (min m len : Nat))) (w.setRow (φ id).b (cur.toList.take ((φ id).o + off * sz) ++ news ++ cur.toList.drop ((φ id).o + off * sz + news.length)).toArray) := by
            rw [run, hin, hbs']
            simp only [hst, Result.andThen_ok]
          have hsig : (ABlk.vec sz n (copyF f off (min m len) g)).sig = sig H id := by simp [sig, hbk, ABlk.sig]
          have ev := evo_put (w' := w.setRow (φ id).b (cur.toList.take ((φ id).o + off * sz) ++ news ++ cur.toList.drop ((φ id).o + off * sz + news.length)).toArray)
            hs hsig hown (fun _ => trivial) rfl rfl rfl (by simp) (fun b hb' => setRow_other w _ b _ hb')
          have hlenF : ∀ i, i < n → (copyF f off (min m len) g i).length = sz := by
            intro i hi
            simp only [copyF]
            split
            · exact c2 _ (by omega)
            · exact hlen _ hi
          refine ⟨_, _, φ, .inl hr, hsat_put hs hsig hown rfl rfl rfl (by simp) (fun b hb' => setRow_other w _ b _ hb') ?_, .int _ _, ev⟩
          refine ⟨hnm, hszp, hnc, hcc, hlenF, fun _ => ⟨_, T, setRow_heap w _ cur _ T _ hheap, ?_, ?_⟩⟩
          · simp only [List.size_toArray, List.length_append, List.length_take, List.length_drop, Array.length_toList]; omega
          · intro i j av hi hav
            have hjl : j < sz := by rw [← hlenF i hi]; exact (List.getElem?_eq_some_iff.1 hav).1
            rw [row_get cur _ _ hbound]
            simp only [copyF] at hav
            split at hav
            · rename_i hin
              obtain ⟨v, g1, g2⟩ := hn4 (i - off) j av (by omega) hjl hav
              have lt := mul_add_lt (show i - off < min m len by omega) hjl
              have e1 : off * sz ≤ i * sz := Nat.mul_le_mul_right sz (by omega)
              have e2 : (φ id).o + i * sz + j - ((φ id).o + off * sz) = (i - off) * sz + j := by rw [Nat.sub_mul]; omega
              have e3 : (i - off) * sz = i * sz - off * sz := Nat.sub_mul _ _ _
              refine ⟨v, ?_, hn3 v (List.mem_of_getElem? g1), g2.move ev.frame' ev.sub⟩
              rw [if_pos (by omega), e2]; exact g1
            · rename_i hin
              obtain ⟨v, g1, g2, g3⟩ := hcur i j av hi hav
              refine ⟨v, ?_, g2, g3.move ev.frame' ev.sub⟩
              rw [if_neg ?_]
              · exact g1
              · intro ⟨i1, i2⟩
                rw [hn2] at i2
                rcases Nat.lt_or_ge i off with hlt | hge
                · have : (i + 1) * sz ≤ off * sz := Nat.mul_le_mul_right sz hlt
                  rw [Nat.add_mul, Nat.one_mul] at this
                  omega
                · have : (off + min m len) * sz ≤ i * sz := Nat.mul_le_mul_right sz (by omega)
                  rw [Nat.add_mul] at this
                  omega
        · have hk0 : min m len = 0 := by omega
          rw [hk0] at hn2 hin ⊢
          have hn0 : news = [] := List.eq_nil_of_length_eq_zero (by simpa using hn2)
          subst hn0
          have hcf : copyF f off 0 g = f := by funext i; simp only [copyF]; rw [if_neg (by omega)]
          rw [hcf]
          have hex : ∀ k, hget (hset H id (.vec sz n f)) k = hget H k := by
            intro k
            by_cases hk : k = id
            · subst hk; rw [hget_set_same, hbk]
            · rw [hget_set_ne _ _ _ _ hk]
          exact ⟨.int .i64 ((0 : Nat) : Int), w, φ, .inl (by rw [run, hin]; cases base <;> simp [storeCells]), hsat_ext hex hs, .int _ _, evo_ext hex⟩
      · trivial
    · trivial
  · trivial

theorem sound_call {c : Call} {f : Operand} (ho : o.op = .call c) (hb : c.callee = .value f) {g : FuncId} {caps : List AV} (hX : ρ f = .fn (.func g) caps) (hs : HSat φ H w) (hρ : ∀ x, Rep φ H w (ρ x) (a.eval x)) :
    SoundEff P φ H w a o (.call g (mapO ρ c.args.toList ++ caps)) := by
  have hf := hρ f
  rw [hX] at hf
  obtain ⟨vs, hv, hl, hr⟩ := hf.inv_fn
  refine ⟨c.args.map a.eval ++ vs, ?_, by simp [mapO_eq, hl], ?_⟩
  · simp [execOp, ho, resolve, hb, hv, Deferred.ofValue, invoke]
  · intro i av v h1 h2
    rw [mapO_eq] at h1
    rw [List.getElem?_append] at h1
    rw [Array.getElem?_append] at h2
    simp only [List.length_map, Array.length_toList, Array.size_map] at h1 h2
    split at h1
    · rename_i hi
      rw [if_pos hi] at h2
      exact rep_map hρ c.args.toList i av v h1 (by simpa using h2)
    · rename_i hi
      rw [if_neg hi] at h2
      exact hr _ av v h1 h2

theorem sound_yield {c : Call} {f : Operand} (ho : o.op = .call c) (hb : c.callee = .value f) {id : Nat} (hX : ρ f = .yld id) (hs : HSat φ H w) (hρ : ∀ x, Rep φ H w (ρ x) (a.eval x)) :
    SoundEff P φ H w a o (.yield id (mapO ρ c.args.toList)) := by
  have hf := hρ f
  rw [hX] at hf
  obtain ⟨l, hv, hu, hl⟩ := hf.inv_yld
  refine ⟨c.args.map a.eval, l, ?_, ⟨by simp [mapO_eq], fun i av v h1 h2 => ?_⟩, .yld l hu hl⟩
  · simp [execOp, ho, resolve, hb, hv, Deferred.ofValue, invoke]
  · rw [mapO_eq] at h1
    exact rep_map hρ c.args.toList i av v h1 (by simpa using h2)

/-! maps -/
theorem mget_spec {es : List (Int × AV)} {arr : Array MapEntry} {M : Nat → Prop} {n : Int} : ∀ (es : List (Int × AV)) (l : List MapEntry) (i : Nat), es.length = l.length → (∀ (j : Nat) k v, es[j]? = some (k, v) → ∃ e : MapEntry, l[j]? = some e ∧ e.key = .int .i64 k ∧ RepG w M v e.val) →
    (mget es n = none ∧ Instr.findNow (.int .i64) (.int .i64 n) l i = some none ∧ mput es n = (fun v => es ++ [(n, v)]) ∧ True) ∨
    ∃ j v e, mget es n = some v ∧ Instr.findNow (.int .i64) (.int .i64 n) l i = some (some (i + j, e.val)) ∧ l[j]? = some e ∧ e.key = .int .i64 n ∧ RepG w M v e.val ∧ j < es.length ∧ ∀ u, mput es n u = es.set j (n, u)
  | [], [], i, _, _ => .inl ⟨rfl, rfl, rfl, trivial⟩
  | [], _ :: _, i, h, _ => by simp at h
  | _ :: _, [], i, h, _ => by simp at h
  | (k, u) :: es, e0 :: l, i, hl, h => by
    obtain ⟨e, h1, h2, h3⟩ := h 0 k u rfl
    simp only [List.getElem?_cons_zero, Option.some.injEq] at h1
    subst h1
    have hs : Instr.sameNow (.int .i64) (.int .i64 n) e0.key = some (n == k) := by rw [h2]; simp [Instr.sameNow]
    by_cases hk : k = n
    · subst hk
      right
      exact ⟨0, u, e0, by simp [mget], by simp [Instr.findNow, hs], rfl, h2, h3, by simp, fun v => by simp [mput]⟩
    · have hne : (n == k) = false := by simpa using fun h => hk h.symm
      rw [hne] at hs
      rcases mget_spec (arr := arr) (es := es) (n := n) es l (i + 1) (by simpa using hl) (fun j k v hj => by simpa using h (j + 1) k v (by simpa using hj)) with ⟨g1, g2, g3, _⟩ | ⟨j, v, e, g1, g2, g3, g4, g5, g6, g7⟩
      · left
        refine ⟨by simp [mget, hk, g1], by simp [Instr.findNow, hs, g2], ?_, trivial⟩
        funext v
        simp [mput, hk, g3]
      · right
        exact ⟨j + 1, v, e, by simp [mget, hk, g1], by simp [Instr.findNow, hs, g2]; omega, by simpa using g3, g4, g5, by simp; omega, fun u => by simp [mput, hk, g7]⟩
theorem isKeyInt (n : Int) : MapKept.IsKey (.int .i64) (.int .i64 n) := by simp [MapKept.IsKey]
theorem map_block {id : Nat} {es : List (Int × AV)} {v : Value} (hs : HSat φ H w) (hb : hget H id = .map es) (h : Rep φ H w (.mp id) v) :
    v = .map (some (φ id).b) ∧ Own φ H id ∧ ∃ (arr : Array MapEntry) (clk : Nat), w.heap[(φ id).b]? = some (.map arr clk) ∧ arr.size = es.length ∧ (∀ b, ¬ φ.more id b) ∧ (φ id).cap = 1 ∧
      ∀ (i : Nat) k v, es[i]? = some (k, v) → ∃ e : MapEntry, arr[i]? = some e ∧ e.key = .int .i64 k ∧ RepG w (MB φ H) v e.val := by
  obtain ⟨l, rfl, hu, hl⟩ := h.inv_mp
  have hB := hs.blk id
  rw [hb] at hB
  obtain ⟨g1, g0, arr, clk, g2, g3, g4⟩ := hB
  exact ⟨by rw [hl _ (by rw [sig, hb]; rfl)], ⟨by simp [sig, hb, ABlk.sig], by omega⟩, arr, clk, g2, g3, g0, g1, g4⟩
theorem sound_makeMap {nid : Nat} {t : TypeId} {r : Option Operand} (ho : o.op = .makeMap t r) (hs : HSat φ H w) (hf : hget H nid = .fresh) : SoundEff P φ H w a o (eMakeMap nid (r.map ρ)) := by
  cases r with
  | some _ => trivial
  | none =>
    intro _
    have e := evo_new hs hf (SameHeap.refl w) (.map #[] 0) (.map []) 1
    refine ⟨.map (some w.heap.size), _, setφ φ nid ⟨w.heap.size, 0, 1⟩, .inl (by simp [execOp, ho, Instr.makeMap]), hsat_new hs hf (SameHeap.refl w) _ _ 1 ?_, .mp _ (by simp [applyU, hget_set_same, ABlk.used]) ?_, e⟩
    · exact ⟨by rw [setφ_same], setφ_none _ _ _, #[], 0, by rw [setφ_same, heap_alloc, if_pos rfl], rfl, fun i k v h => by simp at h⟩
    · intro s _; rw [setφ_same]
theorem sound_lookup {t : TypeId} {x k : Operand} {ok : Bool} (ho : o.op = .lookup t x k ok) (hs : HSat φ H w) (hρ : ∀ x, Rep φ H w (ρ x) (a.eval x)) : SoundEff P φ H w a o (eLookup P H (tiOf P t) (ρ x) (ρ k) ok) := by
  have run : (execOp a.eval o).run P w = ((Instr.lookup t (a.eval x) (a.eval k) ok).run P w).andThen fun v w' => .ok (.value v) w' := by
    simp [execOp, ho]
  have hx := hρ x
  have hk := hρ k
  unfold eLookup
  split
  · rename_i kt e n hkind hK
    rw [hK] at hk
    have hk := hk.inv_int
    split
    · rename_i hkt
      split
      · rename_i id hX
        rw [hX] at hx
        split
        · rename_i es hb
          obtain ⟨hv, hown, arr, clk, g1, g2, _, _, g4⟩ := map_block hs hb hx
          refine SoundEff.quiet hs fun hc => ?_
          obtain ⟨i, z, hi, hz, hzv⟩ := tiOf_zv hc
          have hzr : (zeroValue e).run P w = .ok z w := by simp [zeroValue, typeInfo, hi, hz]
          rcases mget_spec (arr := arr) (es := es) (n := n) es arr.toList 0 (by simpa using g2.symm) (fun j k v hj => by simpa using g4 j k v hj) with ⟨m1, m2, _⟩ | ⟨j, v, e', m1, m2, m3, m4, m5, m6, _⟩
          · rw [m1]
            have hrep : Rep φ H w (tiOf P e).zv z := by rw [hzv]; exact .g (repG_ofV _ z)
            cases ok with
            | false =>
              refine ⟨z, ?_, hrep⟩
              rw [run]
              simp [Instr.lookup, run_underlying (und_map hkind), hv, hk, MapKept.run_getObj_map g1, MapKept.run_checkKey (und_int hkt) (isKeyInt n), MapKept.run_findKey (und_int hkt) m2, hzr]
            | true =>
              refine ⟨.tuple #[z, .bool false], ?_, .tup (by simp [lookV]) fun i c u h1 h2 => ?_⟩
              · rw [run]
                simp [Instr.lookup, run_underlying (und_map hkind), hv, hk, MapKept.run_getObj_map g1, MapKept.run_checkKey (und_int hkt) (isKeyInt n), MapKept.run_findKey (und_int hkt) m2, hzr]
              · match i, h1, h2 with
                | 0, h1, h2 => simp at h1 h2; subst h1 h2; exact hrep
                | 1, h1, h2 => simp at h1 h2; subst h1 h2; exact .bool _
                | i + 2, h1, h2 => simp at h1
          · rw [m1]
            rw [Nat.zero_add] at m2
            cases ok with
            | false =>
              refine ⟨e'.val, ?_, .g m5⟩
              rw [run]
              simp [Instr.lookup, run_underlying (und_map hkind), hv, hk, MapKept.run_getObj_map g1, MapKept.run_checkKey (und_int hkt) (isKeyInt n), MapKept.run_findKey (und_int hkt) m2]
            | true =>
              refine ⟨.tuple #[e'.val, .bool true], ?_, .tup (by simp [lookV]) fun i c u h1 h2 => ?_⟩
              · rw [run]
                simp [Instr.lookup, run_underlying (und_map hkind), hv, hk, MapKept.run_getObj_map g1, MapKept.run_checkKey (und_int hkt) (isKeyInt n), MapKept.run_findKey (und_int hkt) m2]
              · match i, h1, h2 with
                | 0, h1, h2 => simp at h1 h2; subst h1 h2; exact .g m5
                | 1, h1, h2 => simp at h1 h2; subst h1 h2; exact .bool _
                | i + 2, h1, h2 => simp at h1
        · trivial
      · trivial
    · trivial
  · trivial
theorem sound_mapUpdate {t : TypeId} {m k v : Operand} (ho : o.op = .mapUpdate t m k v) (hs : HSat φ H w) (hρ : ∀ x, Rep φ H w (ρ x) (a.eval x)) : SoundEff P φ H w a o (eMapUpdate P H (tiOf P t) (ρ m) (ρ k) (ρ v)) := by
  have run : (execOp a.eval o).run P w = ((Instr.mapUpdate t (a.eval m) (a.eval k) (a.eval v)).run P w).andThen fun _ w' => .ok .skip w' := by
    simp [execOp, ho]
  have hx := hρ m
  have hk := hρ k
  have hv := hρ v
  unfold eMapUpdate
  split
  · rename_i kt e id n hkind hM hK
    rw [hK] at hk
    have hk := hk.inv_int
    split
    · rename_i hkt
      split
      · rename_i es hb
        rw [hM] at hx
        obtain ⟨hmv, hown, arr, clk, g1, g2, g0, gc, g4⟩ := map_block hs hb hx
        intro hsc
        have hsig : ∀ es', (ABlk.map es').sig = sig H id := fun es' => by simp [sig, hb, ABlk.sig]
        have hlt : (φ id).b < w.heap.size := own_lt hs hown
        have put : ∀ (es' : List (Int × AV)) (arr' : Array MapEntry) (clk' : Nat), (Instr.mapUpdate t (a.eval m) (a.eval k) (a.eval v)).run P w = .ok () { w with heap := w.heap.setIfInBounds (φ id).b (.map arr' clk') } → arr'.size = es'.length →
            (∀ (i : Nat) k' v', es'[i]? = some (k', v') → ∃ e : MapEntry, arr'[i]? = some e ∧ e.key = .int .i64 k' ∧ (RepG w (MB φ H) v' e.val ∨ (v' = ρ v ∧ e.val = a.eval v))) →
            ∃ x w' φ', Runs P a w o x w' ∧ HSat φ' (applyU H [(id, .map es')]) w' ∧ Rep φ' (applyU H [(id, .map es')]) w' .undef x ∧ Evo φ H w φ' (applyU H [(id, .map es')]) w' := by
          intro es' arr' clk' hr hsz hes
          have hheap : ∀ b, b ≠ (φ id).b → ({ w with heap := w.heap.setIfInBounds (φ id).b (.map arr' clk') } : World).heap[b]? = w.heap[b]? := fun b hb => by simp [Array.getElem?_setIfInBounds, Ne.symm hb]
          have e := evo_put (w' := { w with heap := w.heap.setIfInBounds (φ id).b (.map arr' clk') }) hs (hsig es') hown (fun _ => trivial) rfl rfl rfl (by simp) hheap
          refine ⟨undef, { w with heap := w.heap.setIfInBounds (φ id).b (.map arr' clk') }, φ, .inr ⟨by rw [run, hr]; rfl, rfl⟩, hsat_put (w' := { w with heap := w.heap.setIfInBounds (φ id).b (.map arr' clk') }) hs (hsig es') hown rfl rfl rfl (by simp) hheap ⟨gc, g0, arr', clk', by simp [hlt], hsz, fun i k' v' hi => ?_⟩, .undef _, e⟩
          obtain ⟨e', h5, h6, h7⟩ := hes i k' v' hi
          refine ⟨e', h5, h6, ?_⟩
          rcases h7 with h7 | ⟨rfl, h8⟩
          · exact h7.move e.frame' e.sub
          · rw [h8]; exact AV.scalar_rep hsc hv
        rcases mget_spec (arr := arr) (es := es) (n := n) es arr.toList 0 (by simpa using g2.symm) (fun j k v hj => by simpa using g4 j k v hj) with ⟨m1, m2, m3, _⟩ | ⟨j, u, e', m1, m2, m3, m4, m5, m6, m7⟩
        · have hw : (Instr.mapUpdate t (a.eval m) (a.eval k) (a.eval v)).run P w = .ok () { w with heap := w.heap.setIfInBounds (φ id).b (.map (arr.push ⟨.int .i64 n, a.eval v, clk⟩) (clk + 1)) } := by
            simp [Instr.mapUpdate, run_underlying (und_map hkind), hmv, hk, MapKept.run_getObj_map g1, MapKept.run_checkKey (und_int hkt) (isKeyInt n), MapKept.run_findKey (und_int hkt) m2, MapKept.run_setObj_map _ g1]
          exact put _ _ _ hw (by rw [m3]; simp [g2]) (fun i k' v' hi => by
            rw [m3] at hi
            rcases Nat.lt_or_ge i es.length with hlt' | hge
            · rw [List.getElem?_append_left hlt'] at hi
              obtain ⟨e', h5, h6, h7⟩ := g4 i k' v' hi
              exact ⟨e', by rw [Array.getElem?_push, if_neg (by omega)]; exact h5, h6, .inl h7⟩
            · rw [List.getElem?_append_right hge] at hi
              have h0 : i - es.length = 0 := by
                have := (List.getElem?_eq_some_iff.1 hi).1
                simp at this; omega
              rw [h0] at hi
              simp only [List.getElem?_cons_zero, Option.some.injEq, Prod.mk.injEq] at hi
              obtain ⟨rfl, rfl⟩ := hi
              exact ⟨_, by rw [Array.getElem?_push, if_pos (by omega)], rfl, .inr ⟨rfl, rfl⟩⟩)
        · rw [Nat.zero_add] at m2
          have hj : arr[j]? = some e' := by simpa using m3
          have hw : (Instr.mapUpdate t (a.eval m) (a.eval k) (a.eval v)).run P w = .ok () { w with heap := w.heap.setIfInBounds (φ id).b (.map (arr.modify j fun e => { e with key := .int .i64 n, val := a.eval v }) clk) } := by
            simp [Instr.mapUpdate, run_underlying (und_map hkind), hmv, hk, MapKept.run_getObj_map g1, MapKept.run_checkKey (und_int hkt) (isKeyInt n), MapKept.run_findKey (und_int hkt) m2, MapKept.run_setObj_map _ g1, hj, m4, MapKept.run_keyThatStays (isKeyInt n)]
          exact put _ _ _ hw (by rw [m7]; simp [g2]) (fun i k' v' hi => by
            rw [m7, List.getElem?_set] at hi
            by_cases hij : j = i
            · subst hij
              rw [if_pos rfl, if_pos m6] at hi
              simp only [Option.some.injEq, Prod.mk.injEq] at hi
              obtain ⟨rfl, rfl⟩ := hi
              exact ⟨_, by rw [Array.getElem?_modify, if_pos rfl, hj]; rfl, rfl, .inr ⟨rfl, rfl⟩⟩
            · rw [if_neg hij] at hi
              obtain ⟨e'', h5, h6, h7⟩ := g4 i k' v' hi
              exact ⟨e'', by rw [Array.getElem?_modify, if_neg hij]; exact h5, h6, .inl h7⟩)
      · trivial
    · trivial
  · trivial

/-- WHAT EACH OPERATION DOES. -/
theorem eff_sound (nid : Nat) (hs : HSat φ H w) (hf : hget H nid = .fresh) (hρ : ∀ x, Rep φ H w (ρ x) (a.eval x)) : SoundEff P φ H w a o (eff P H nid ρ o) := by
  unfold eff
  split
  · rename_i x ho; exact sound_move (.inl ho) hs hρ
  · rename_i x ho; exact sound_move (.inr ho) hs hρ
  · rename_i c x y ho; exact sound_pick ho hs hρ
  · rename_i op t x y t' ho; exact sound_bin ho hs hρ
  · rename_i op t x ho; exact sound_un ho hs hρ
  · rename_i s d x ho; exact sound_conv ho hs hρ
  · rename_i x i ho; exact sound_extract ho hs hρ
  · rename_i t x f ho; exact sound_field ho hs hρ
  · rename_i t x f ho; exact sound_fieldAddr ho hs hρ
  · rename_i t x i ho; exact sound_index ho hs hρ
  · rename_i t x i ho; exact sound_indexAddr ho hs hρ
  · rename_i t x lo hi mx ho; exact sound_slice ho hs hρ
  · rename_i t x ho; exact sound_load ho hs hρ
  · rename_i t x y ho; exact sound_store ho hs hρ
  · rename_i t ho; exact sound_alloc ho hs hf
  · rename_i t x ho; exact sound_box ho hs hf hρ
  · rename_i t ps ho; exact sound_build ho hs hρ
  · rename_i t n ps ho; exact sound_buildSlice ho hs hf hρ
  · rename_i t l c ho; exact sound_make ho hs hf hρ
  · rename_i f first caps ho
    split
    · rename_i hfirst; exact sound_makeFunc ho hfirst hs hρ
    · trivial
  · rename_i x ho; exact sound_nil ho hs hρ
  · rename_i t r ho; exact sound_makeMap ho hs hf
  · rename_i t m k v ho; exact sound_mapUpdate ho hs hρ
  · rename_i t x k ok ho; exact sound_lookup ho hs hρ
  · rename_i c ho
    split
    · rename_i b hb
      split
      · split
        · rename_i t x h1 h2; exact sound_len ho hb (by rw [h1]; rfl) (by rw [h2]; rfl) hs hρ
        · trivial
      · split
        · rename_i t t' x y h1 h2; exact sound_append ho hb (by rw [h1]; rfl) (by rw [h1]; rfl) (by rw [h2]; rfl) (by rw [h2]; rfl) hs hf hρ
        · trivial
      · split
        · rename_i t t' x y h1 h2; exact sound_copy ho hb (by rw [h1]; rfl) (by rw [h1]; rfl) (by rw [h2]; rfl) (by rw [h2]; rfl) hs hρ
        · trivial
      · split
        · rename_i x y h; exact sound_min ho hb h hs hρ
        · trivial
      · split
        · rename_i x y h; exact sound_max ho hb h hs hρ
        · trivial
      · trivial
    · rename_i f hb
      split
      · rename_i g caps hX; exact sound_call ho hb hX hs hρ
      · rename_i id hX; exact sound_yield ho hb hX hs hρ
      · trivial
    · trivial
  · trivial
end
end Go.SH
