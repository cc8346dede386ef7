/-
  THE SYMBOLIC HEAP, PART J: copy; what each operation does, all together. No condition.
-/
import Derived.Test.YtnbpjccacmpnoaaShI
namespace Go.SH
set_option linter.unusedVariables false
set_option linter.unusedSimpArgs false
open Go Go.RowKit
section
variable {P : Program} {φ φ' : Env} {H H' H1 : List ABlk} {w w' : World} {a : Act} {o : Oper} {ρ : Operand → AV}

theorem evo_ext (h : ∀ k, hget H' k = hget H k) : Evo φ H w φ H' w where
  os := rfl
  tape := rfl
  output := rfl
  size := Nat.le_refl _
  ext := rfl
  base := rfl
  frame _ _ _ := rfl
  blk b hm := by
    obtain ⟨k, ⟨h1, h2⟩, hb⟩ := hm
    exact .inr ⟨k, ⟨by rw [sig, ← h]; exact h1, h2⟩, hb⟩
  used k hk := by rw [h]; exact hk
  ids k s hk hs := ⟨by rw [sig, ← h]; exact hs, rfl⟩
theorem hsat_ext (h : ∀ k, hget H' k = hget H k) (hs : HSat φ H w) : HSat φ H' w where
  blk k := by rw [h]; exact BRep.keep (evo_ext h) rfl (fun _ => Iff.rfl) (fun _ _ _ _ => rfl) (hs.blk k)
  inj i j b hi hj := hs.inj i j b ⟨⟨by rw [sig, ← h]; exact hi.1.1, hi.1.2⟩, hi.2⟩ ⟨⟨by rw [sig, ← h]; exact hj.1.1, hj.1.2⟩, hj.2⟩
  ext i b hi := hs.ext i b ⟨⟨by rw [sig, ← h]; exact hi.1.1, hi.1.2⟩, hi.2⟩
  extlt := hs.extlt

theorem run_copy_gen {ats : Array TypeId} {args : Array Value} {t ty e : TypeId} {base : Option Addr} {dLen dCap m : Nat} {xv : Value} {news : List Value}
    (h0 : ats[0]? = some t) (a0 : args[0]? = some (.slice base dLen dCap)) (a1 : args[1]? = some xv) (hu : P.underlying t = some (.slice e))
    {size : Nat} (hsz : (sizeOf e).run P w = .ok size w) (hl : (Builtin.lenOf xv).run P w = .ok m w) (hfc : (Builtin.firstCells size (min m dLen) xv).run P w = .ok news.toArray w) :
    (Builtin.copy_ ats ty args).run P w = ((match base with | some a => storeCells a news | none => pure ()).run P w).andThen fun _ w' => .ok (.int .i64 (min m dLen : Nat)) w' := by
  have e1 : Nat.min m dLen = min m dLen := rfl
  cases base <;> simp [Builtin.copy_, h0, a0, a1, run_underlying hu, hsz, hl, e1, hfc, goInt]

theorem sound_copy {t t' : TypeId} {x y : Operand} {c : Call} (ho : o.op = .call c) (hb : c.callee = .builtin .copy) (ht : c.argTypes.toList[0]? = some t) (ht' : c.argTypes.toList[1]? = some t')
    (hxx : c.args.toList[0]? = some x) (hyy : c.args.toList[1]? = some y) (hs : HSat φ H w) (hρ : ∀ x, Rep φ H w (ρ x) (a.eval x)) :
    SoundEff P φ H w a o (eCopy P H (tiOf P t) (tiOf P t') (ρ x) (ρ y)) := by
  have hx := hρ x
  have hy := hρ y
  have run : (execOp a.eval o).run P w = ((Builtin.copy_ c.argTypes o.type (c.args.map a.eval)).run P w).andThen fun v w' => .ok (.value v) w' := by
    simp [execOp, ho, resolve, hb, invoke, builtin]
  have t0 : c.argTypes[0]? = some t := by rw [← Array.getElem?_toList]; exact ht
  have a0 := args_get (a := a) hxx
  have a1 := args_get (a := a) hyy
  unfold eCopy
  split
  · rename_i e m g rd hk hsrc
    have hu := und_slice hk
    split
    · rename_i id off len hX
      rw [hX] at hx
      split
      · rename_i sz n f hbk
        intro hc
        obtain ⟨c1, c2⟩ := hc
        have hB := hs.blk id
        rw [hbk] at hB
        obtain ⟨hnm, hszp, hnc, hcc, hlen, hcells⟩ := hB
        obtain ⟨base, cap', hv, hus, hbs, hl, hcm, hat⟩ := hx.inv_sl
        obtain ⟨hoff, hcap, hbase⟩ := hat sz n (by simp [sig, hbk, ABlk.sig])
        obtain ⟨⟨hlo, hsr⟩, _⟩ := src_ok (P := P) hs hy hsrc c2
        obtain ⟨news, hn1, hn2, hn3, hn4⟩ := hsr (min m len) (Nat.min_le_left _ _)
        have hin := run_copy_gen (P := P) (w := w) (args := c.args.map a.eval) (ty := o.type) t0 (by rw [a0, hv]) a1 hu (run_sizeOf' (P := P) (t := e) (by omega) w) hlo (by rw [← c1]; exact hn1)
        simp only [applyU]
        by_cases hpos : 0 < cap'
        · have hbs' := hbase hpos
          have hown : Own φ H id := ⟨by simp [sig, hbk, ABlk.sig], by omega⟩
          obtain ⟨cur, T, hheap, hfit, hcur⟩ := hcells (by omega)
          have hmn : (off + min m len) * sz ≤ (φ id).cap * sz := Nat.mul_le_mul_right sz (by omega)
          have hbound : (φ id).o + off * sz + news.length ≤ cur.size := by
            rw [Nat.add_mul] at hmn
            omega
          have hst := run_storeCells_at P (φ id).b ((φ id).o + off * sz) T news 0 cur w hheap (by simpa using hbound) hn3
          simp only [Nat.add_zero] at hst
          have hr : (execOp a.eval o).run P w = .ok (.value (.int .i64 (min m len : Nat))) (w.setRow (φ id).b (cur.toList.take ((φ id).o + off * sz) ++ news ++ cur.toList.drop ((φ id).o + off * sz + news.length)).toArray) := by
            rw [run, hin, hbs']
            simp only [hst, Result.andThen_ok]
          have hsig : (ABlk.vec sz n (copyF f off (min m len) g)).sig = sig H id := by simp [sig, hbk, ABlk.sig]
          have ev := evo_put (w' := w.setRow (φ id).b (cur.toList.take ((φ id).o + off * sz) ++ news ++ cur.toList.drop ((φ id).o + off * sz + news.length)).toArray)
            hs hsig hown (fun _ => trivial) rfl rfl rfl (by simp) (fun b hb' => setRow_other w _ b _ hb')
          have hlenF : ∀ i, i < n → (copyF f off (min m len) g i).length = sz := by
            intro i hi
            simp only [copyF]
            split
            · exact c2 _ (by omega)
            · exact hlen _ hi
          refine ⟨_, _, φ, .inl hr, hsat_put hs hsig hown rfl rfl rfl (by simp) (fun b hb' => setRow_other w _ b _ hb') ?_, .int _ _, ev⟩
          refine ⟨hnm, hszp, hnc, hcc, hlenF, fun _ => ⟨_, T, setRow_heap w _ cur _ T _ hheap, ?_, ?_⟩⟩
          · simp only [List.size_toArray, List.length_append, List.length_take, List.length_drop, Array.length_toList]; omega
          · intro i j av hi hav
            have hjl : j < sz := by rw [← hlenF i hi]; exact (List.getElem?_eq_some_iff.1 hav).1
            rw [row_get cur _ _ hbound]
            simp only [copyF] at hav
            split at hav
            · rename_i hin
              obtain ⟨v, g1, g2⟩ := hn4 (i - off) j av (by omega) hjl hav
              have lt := mul_add_lt (show i - off < min m len by omega) hjl
              have e1 : off * sz ≤ i * sz := Nat.mul_le_mul_right sz (by omega)
              have e2 : (φ id).o + i * sz + j - ((φ id).o + off * sz) = (i - off) * sz + j := by rw [Nat.sub_mul]; omega
              have e3 : (i - off) * sz = i * sz - off * sz := Nat.sub_mul _ _ _
              refine ⟨v, ?_, hn3 v (List.mem_of_getElem? g1), g2.move ev.frame' ev.sub⟩
              rw [if_pos (by omega), e2]; exact g1
            · rename_i hin
              obtain ⟨v, g1, g2, g3⟩ := hcur i j av hi hav
              refine ⟨v, ?_, g2, g3.move ev.frame' ev.sub⟩
              rw [if_neg ?_]
              · exact g1
              · intro ⟨i1, i2⟩
                rw [hn2] at i2
                rcases Nat.lt_or_ge i off with hlt | hge
                · have : (i + 1) * sz ≤ off * sz := Nat.mul_le_mul_right sz hlt
                  rw [Nat.add_mul, Nat.one_mul] at this
                  omega
                · have : (off + min m len) * sz ≤ i * sz := Nat.mul_le_mul_right sz (by omega)
                  rw [Nat.add_mul] at this
                  omega
        · have hk0 : min m len = 0 := by omega
          rw [hk0] at hn2 hin ⊢
          have hn0 : news = [] := List.eq_nil_of_length_eq_zero (by simpa using hn2)
          subst hn0
          have hcf : copyF f off 0 g = f := by funext i; simp only [copyF]; rw [if_neg (by omega)]
          rw [hcf]
          have hex : ∀ k, hget (hset H id (.vec sz n f)) k = hget H k := by
            intro k
            by_cases hk : k = id
            · subst hk; rw [hget_set_same, hbk]
            · rw [hget_set_ne _ _ _ _ hk]
          exact ⟨.int .i64 ((0 : Nat) : Int), w, φ, .inl (by rw [run, hin]; cases base <;> simp [storeCells]), hsat_ext hex hs, .int _ _, evo_ext hex⟩
      · trivial
    · trivial
  · trivial

theorem sound_call {c : Call} {f : Operand} (ho : o.op = .call c) (hb : c.callee = .value f) {g : FuncId} {caps : List AV} (hX : ρ f = .fn (.func g) caps) (hs : HSat φ H w) (hρ : ∀ x, Rep φ H w (ρ x) (a.eval x)) :
    SoundEff P φ H w a o (.call g (mapO ρ c.args.toList ++ caps)) := by
  have hf := hρ f
  rw [hX] at hf
  obtain ⟨vs, hv, hl, hr⟩ := hf.inv_fn
  refine ⟨c.args.map a.eval ++ vs, ?_, by simp [mapO_eq, hl], ?_⟩
  · simp [execOp, ho, resolve, hb, hv, Deferred.ofValue, invoke]
  · intro i av v h1 h2
    rw [mapO_eq] at h1
    rw [List.getElem?_append] at h1
    rw [Array.getElem?_append] at h2
    simp only [List.length_map, Array.length_toList, Array.size_map] at h1 h2
    split at h1
    · rename_i hi
      rw [if_pos hi] at h2
      exact rep_map hρ c.args.toList i av v h1 (by simpa using h2)
    · rename_i hi
      rw [if_neg hi] at h2
      exact hr _ av v h1 h2

theorem sound_yield {c : Call} {f : Operand} (ho : o.op = .call c) (hb : c.callee = .value f) {id : Nat} (hX : ρ f = .yld id) (hs : HSat φ H w) (hρ : ∀ x, Rep φ H w (ρ x) (a.eval x)) :
    SoundEff P φ H w a o (.yield id (mapO ρ c.args.toList)) := by
  have hf := hρ f
  rw [hX] at hf
  obtain ⟨l, hv, hu, hl⟩ := hf.inv_yld
  refine ⟨c.args.map a.eval, l, ?_, ⟨by simp [mapO_eq], fun i av v h1 h2 => ?_⟩, .yld l hu hl⟩
  · simp [execOp, ho, resolve, hb, hv, Deferred.ofValue, invoke]
  · rw [mapO_eq] at h1
    exact rep_map hρ c.args.toList i av v h1 (by simpa using h2)

/-- WHAT EACH OPERATION DOES. -/
theorem eff_sound (nid : Nat) (hs : HSat φ H w) (hf : hget H nid = .fresh) (hρ : ∀ x, Rep φ H w (ρ x) (a.eval x)) : SoundEff P φ H w a o (eff P H nid ρ o) := by
  unfold eff
  split
  · rename_i x ho; exact sound_move (.inl ho) hs hρ
  · rename_i x ho; exact sound_move (.inr ho) hs hρ
  · rename_i c x y ho; exact sound_pick ho hs hρ
  · rename_i op t x y t' ho; exact sound_bin ho hs hρ
  · rename_i op t x ho; exact sound_un ho hs hρ
  · rename_i s d x ho; exact sound_conv ho hs hρ
  · rename_i x i ho; exact sound_extract ho hs hρ
  · rename_i t x f ho; exact sound_field ho hs hρ
  · rename_i t x f ho; exact sound_fieldAddr ho hs hρ
  · rename_i t x i ho; exact sound_index ho hs hρ
  · rename_i t x i ho; exact sound_indexAddr ho hs hρ
  · rename_i t x lo hi mx ho; exact sound_slice ho hs hρ
  · rename_i t x ho; exact sound_load ho hs hρ
  · rename_i t x y ho; exact sound_store ho hs hρ
  · rename_i t ho; exact sound_alloc ho hs hf
  · rename_i t x ho; exact sound_box ho hs hf hρ
  · rename_i t ps ho; exact sound_build ho hs hρ
  · rename_i t n ps ho; exact sound_buildSlice ho hs hf hρ
  · rename_i t l c ho; exact sound_make ho hs hf hρ
  · rename_i f first caps ho
    split
    · rename_i hfirst; exact sound_makeFunc ho hfirst hs hρ
    · trivial
  · rename_i x ho; exact sound_nil ho hs hρ
  · rename_i c ho
    split
    · rename_i b hb
      split
      · split
        · rename_i t x h1 h2; exact sound_len ho hb (by rw [h1]; rfl) (by rw [h2]; rfl) hs hρ
        · trivial
      · split
        · rename_i t t' x y h1 h2; exact sound_append ho hb (by rw [h1]; rfl) (by rw [h1]; rfl) (by rw [h2]; rfl) (by rw [h2]; rfl) hs hf hρ
        · trivial
      · split
        · rename_i t t' x y h1 h2; exact sound_copy ho hb (by rw [h1]; rfl) (by rw [h1]; rfl) (by rw [h2]; rfl) (by rw [h2]; rfl) hs hρ
        · trivial
      · split
        · rename_i x y h; exact sound_min ho hb h hs hρ
        · trivial
      · split
        · rename_i x y h; exact sound_max ho hb h hs hρ
        · trivial
      · trivial
    · rename_i f hb
      split
      · rename_i g caps hX; exact sound_call ho hb hX hs hρ
      · rename_i id hX; exact sound_yield ho hb hX hs hρ
      · trivial
    · trivial
  · trivial
end
end Go.SH
