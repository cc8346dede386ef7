/-
  THE SYMBOLIC HEAP, PART H: append and copy; what each operation does, all together. No condition.
-/
import Derived.Test.YthkgnnndlocbbaaShG
namespace Go.SH
set_option linter.unusedVariables false
set_option linter.unusedSimpArgs false
open Go Go.RowKit
section
variable {P : Program} {φ φ' : Env} {H H' : List ABlk} {w w' : World} {a : Act} {o : Oper} {ρ : Operand → AV}

/-- A slice's cells in memory. -/
def RowAt (φ : Env) (H : List ABlk) (w : World) (v : Value) (n sz : Nat) (g : Nat → List AV) : Prop :=
  ∃ (base : Option Addr) (cap b o' : Nat) (vs : Nat → Value), v = .slice base n cap ∧ (0 < n → base = some ⟨b, o', none⟩) ∧
    (∀ k, k < n * sz → w.cell? ⟨b, o' + k, none⟩ = some (vs k)) ∧ (∀ k, k < n * sz → (vs k).oneCell' = true) ∧
    (∀ (i j : Nat) c, i < n → (g i)[j]? = some c → RepG w (MB φ H) c (vs (i * sz + j)))

theorem ro_row {n : Nat} {f : Nat → List AV} {v : Value} {sz : Nat} (h : Rep φ H w (.ro n f) v) (hsz : ∀ i, i < n → (f i).length = sz) : RowAt φ H w v n sz f := by
  obtain ⟨base, cap, b, o', sz', vs, rfl, hn, hcap, hszp, hbase, hM, hcell, hone, hlen, hrep⟩ := h.ro_facts
  by_cases h0 : 0 < n
  · have : sz = sz' := by rw [← hsz 0 h0, hlen 0 h0]
    subst this
    exact ⟨base, cap, b, o', vs, rfl, hbase, hcell, hone, hrep⟩
  · obtain rfl : n = 0 := by omega
    exact ⟨base, cap, b, o', vs, rfl, hbase, by intro k hk; omega, by intro k hk; omega, by intro i j c hi; omega⟩

theorem sl_row {id off len sz n : Nat} {f : Nat → List AV} {v : Value} (hs : HSat φ H w) (hb : hget H id = .vec sz n f) (h : Rep φ H w (.sl id off len) v) : RowAt φ H w v len sz (cutF n off len f) := by
  obtain ⟨base, cap', rfl, hus, hbs, hl, hcm, hat⟩ := h.inv_sl
  obtain ⟨hoff, hcap, hbase⟩ := hat sz n (by simp [sig, hb, ABlk.sig])
  have hB := hs.blk id
  rw [hb] at hB
  obtain ⟨_, hszp, hnc, hcc, hlen, hcells⟩ := hB
  by_cases h0 : 0 < len
  · obtain ⟨c, T, hheap, hfit, hrep⟩ := hcells (by omega)
    have ex : ∀ i j, i < n → j < sz → ∃ v, c[(φ id).o + i * sz + j]? = some v ∧ v.oneCell' = true ∧ ∀ av, (f i)[j]? = some av → RepG w (MB φ H) av v := by
      intro i j hi hj
      have : j < (f i).length := by rw [hlen i hi]; exact hj
      obtain ⟨v, h1, h2, h3⟩ := hrep i j _ hi (List.getElem?_eq_getElem this)
      exact ⟨v, h1, h2, fun av hav => by rw [List.getElem?_eq_getElem this] at hav; cases hav; exact h3⟩
    have div : ∀ k, k < len * sz → k / sz < len ∧ k % sz < sz ∧ off * sz + k = (off + k / sz) * sz + k % sz := by
      intro k hk
      refine ⟨Nat.div_lt_of_lt_mul (by rw [Nat.mul_comm]; exact hk), Nat.mod_lt _ hszp, ?_⟩
      rw [Nat.add_mul, Nat.add_assoc, Nat.div_add_mod']
    refine ⟨base, cap', (φ id).b, (φ id).o + off * sz, fun k => (c[(φ id).o + off * sz + k]?).getD undef, rfl, fun _ => hbase (by omega), ?_, ?_, ?_⟩
    · intro k hk
      obtain ⟨d1, d2, d3⟩ := div k hk
      obtain ⟨v, h1, _⟩ := ex (off + k / sz) (k % sz) (by omega) d2
      rw [Nat.add_assoc, ← d3, ← Nat.add_assoc] at h1
      simp [World.cell?, hheap, h1]
    · intro k hk
      obtain ⟨d1, d2, d3⟩ := div k hk
      obtain ⟨v, h1, h2, _⟩ := ex (off + k / sz) (k % sz) (by omega) d2
      rw [Nat.add_assoc, ← d3, ← Nat.add_assoc] at h1
      simp [h1, h2]
    · intro i j av hi hav
      simp only [cutF] at hav
      rw [if_pos hi] at hav
      have hj : j < sz := by rw [← hlen (off + i) (by omega)]; exact (List.getElem?_eq_some_iff.1 hav).1
      obtain ⟨v, h1, _, h3⟩ := ex (off + i) j (by omega) hj
      have e : (φ id).o + off * sz + (i * sz + j) = (φ id).o + (off + i) * sz + j := by rw [Nat.add_mul]; omega
      simp only [e, h1]
      exact h3 av hav
  · obtain rfl : len = 0 := by omega
    exact ⟨base, cap', 0, 0, fun _ => undef, rfl, by simp, by intro k hk; omega, by intro k hk; omega, by intro i j c hi; omega⟩

/-- The first k elements of what is appended, or copied from. -/
def SrcAt (P : Program) (φ : Env) (H : List ABlk) (w : World) (xv : Value) (m sz : Nat) (g : Nat → List AV) : Prop :=
  (Builtin.lenOf xv).run P w = .ok m w ∧ ∀ k, k ≤ m → ∃ news : List Value, (Builtin.firstCells sz k xv).run P w = .ok news.toArray w ∧ news.length = k * sz ∧ (∀ u ∈ news, u.oneCell' = true) ∧
    ∀ (i j : Nat) c, i < k → j < sz → (g i)[j]? = some c → ∃ v, news[i * sz + j]? = some v ∧ RepG w (MB φ H) c v

theorem row_src {xv : Value} {m sz : Nat} {g : Nat → List AV} (h : RowAt φ H w xv m sz g) : SrcAt P φ H w xv m sz g := by
  obtain ⟨base, cap, b, o', vs, rfl, hbase, hcell, hone, hrep⟩ := h
  refine ⟨by simp [Builtin.lenOf], fun k hk => ?_⟩
  refine ⟨(List.range (k * sz)).map vs, ?_, by simp, ?_, ?_⟩
  · cases base with
    | none =>
      have : m = 0 := by
        rcases Nat.eq_zero_or_pos m with e | e
        · exact e
        · exact absurd (hbase e) (by simp)
      have : k = 0 := by omega
      subst this
      simp [Builtin.firstCells]
    | some ad =>
      have had : ∀ j, j < k * sz → w.cell? (ad.add j) = some (vs j) := by
        intro j hj
        have hm : 0 < m := by
          rcases Nat.eq_zero_or_pos k with e | e
          · subst e; simp at hj
          · omega
        have := hbase hm
        simp only [Option.some.injEq] at this
        subst this
        rw [Addr.add_lit]
        exact hcell j (Nat.lt_of_lt_of_le hj (Nat.mul_le_mul_right sz hk))
      have := run_loadCells (P := P) w ad (k * sz) vs had
      simpa [Builtin.firstCells] using this
  · intro u hu
    obtain ⟨j, hj, rfl⟩ := List.mem_map.1 hu
    exact hone j (Nat.lt_of_lt_of_le (List.mem_range.1 hj) (Nat.mul_le_mul_right sz hk))
  · intro i j c hi hj hc
    have lt := mul_add_lt hi hj
    exact ⟨vs (i * sz + j), by simp [lt], hrep i j c (by omega) hc⟩

theorem str_src (s : List UInt8) : SrcAt P φ H w (.string ⟨s.toArray⟩) s.length 1 (strF s) := by
  refine ⟨by simp [Builtin.lenOf, size_mk], fun k hk => ?_⟩
  refine ⟨(s.take k).map fun b => .int .u8 (b.toNat : Int), ?_, by simp; omega, ?_, ?_⟩
  · simp only [Builtin.firstCells, Sem.run_pure]
    congr 1
    apply Array.ext'
    simp [ByteArray.data_extract]
  · intro u hu
    obtain ⟨b, _, rfl⟩ := List.mem_map.1 hu
    rfl
  · intro i j c hi hj hc
    obtain rfl : j = 0 := by omega
    simp only [encL, cByte, List.getElem?_cons_zero, Option.some.injEq] at hc
    subst hc
    refine ⟨.int .u8 ((s.getD i 0).toNat : Int), ?_, .int _ _⟩
    have : i < s.length := by omega
    simp [hi, this, List.getD_eq_getElem?_getD]

theorem src_ok {ti : TI} {x : AV} {xv : Value} {m : Nat} {g : Nat → List AV} {rd : List Nat} {sz : Nat} (hs : HSat φ H w) (hx : Rep φ H w x xv) (h : srcOf H ti x = some (m, g, rd)) (hsz : ∀ i, i < m → (g i).length = sz) :
    SrcAt P φ H w xv m sz g ∧ (ti.kind = .str ∨ ∃ e, ti.kind = .slice e) := by
  have hn := nilish_rep hx
  unfold srcOf at h
  split at h
  · rename_i e m' g' hk hX
    simp only [Option.some.injEq, Prod.mk.injEq] at h
    obtain ⟨rfl, rfl, rfl⟩ := h
    rw [hX] at hn
    exact ⟨row_src (ro_row hn hsz), .inr ⟨e, hk⟩⟩
  · rename_i e id off m' hk hX
    rw [hX] at hn
    split at h
    · rename_i sz' n f hb
      simp only [Option.some.injEq, Prod.mk.injEq] at h
      obtain ⟨rfl, rfl, rfl⟩ := h
      refine ⟨?_, .inr ⟨e, hk⟩⟩
      have hrow := sl_row hs hb hn
      by_cases h0 : 0 < m'
      · have e1 := hsz 0 h0
        simp only [cutF] at e1
        rw [if_pos h0] at e1
        have hB := hs.blk id
        rw [hb] at hB
        obtain ⟨base, cap', _, _, _, _, _, hat⟩ := hn.inv_sl
        obtain ⟨hoff, _⟩ := hat sz' n (by simp [sig, hb, ABlk.sig])
        have e2 := hB.2.2.2.2.1 (off + 0) (by omega)
        have : sz = sz' := by rw [← e1, e2]
        subst this
        exact row_src hrow
      · obtain rfl : m' = 0 := by omega
        obtain ⟨base, cap, b, o', vs, hv, hbase, _⟩ := hrow
        exact row_src ⟨base, cap, b, o', vs, hv, hbase, by intro k hk; omega, by intro k hk; omega, by intro i j c hi; omega⟩
    · cases h
  · rename_i s hk hX
    simp only [Option.some.injEq, Prod.mk.injEq] at h
    obtain ⟨rfl, rfl, rfl⟩ := h
    rw [hX] at hn
    rw [hn.inv_str]
    refine ⟨?_, .inl hk⟩
    by_cases h0 : 0 < s.length
    · have : sz = 1 := by rw [← hsz 0 h0]; rfl
      subst this
      exact str_src s
    · have : s = [] := List.eq_nil_of_length_eq_zero (by omega)
      subst this
      refine ⟨by simp [Builtin.lenOf, size_mk], fun k hk => ⟨[], ?_, ?_, by simp, ?_⟩⟩
      · have : k = 0 := by simpa using hk
        subst this
        simp [Builtin.firstCells]
      · have : k = 0 := by simpa using hk
        subst this; simp
      · intro i j c hi; simp at hk; omega
  · cases h

/-- append, in the room that is there. -/
theorem run_append_in {ats : Array TypeId} {args : Array Value} {t t' ty e : TypeId} {base : Option Addr} {sLen sCap m : Nat} {xv : Value} {news : List Value} {d : TypeDesc}
    (h0 : ats[0]? = some t) (h1 : ats[1]? = some t') (a0 : args[0]? = some (.slice base sLen sCap)) (a1 : args[1]? = some xv) (hu : P.underlying t = some (.slice e)) (hu' : P.underlying t' = some d) (hd : d = .string ∨ ∃ e, d = .slice e)
    {size : Nat} (hsz : (sizeOf e).run P w = .ok size w) (hl : (Builtin.lenOf xv).run P w = .ok m w) (hfc : (Builtin.firstCells size m xv).run P w = .ok news.toArray w) (hroom : sLen + m ≤ sCap) :
    (Builtin.append_ ats ty args).run P w = ((match base with | some a => storeCells (a.add (sLen * size)) news | none => pure ()).run P w).andThen fun _ w' => .ok (.slice base (sLen + m) sCap) w' := by
  rcases hd with rfl | ⟨e', rfl⟩ <;> cases base <;> simp [Builtin.append_, h0, h1, a0, a1, run_underlying hu, run_underlying hu', hsz, hl, hroom, hfc]

/-- append, into a new array. -/
theorem run_append_new {ats : Array TypeId} {args : Array Value} {t t' ty e : TypeId} {base : Option Addr} {sLen sCap m : Nat} {xv : Value} {news olds : List Value} {d : TypeDesc}
    (h0 : ats[0]? = some t) (h1 : ats[1]? = some t') (a0 : args[0]? = some (.slice base sLen sCap)) (a1 : args[1]? = some xv) (hu : P.underlying t = some (.slice e)) (hu' : P.underlying t' = some d) (hd : d = .string ∨ ∃ e, d = .slice e)
    {i : TypeInfo} {z : Value} (hi : P.info? e = some i) (hz : i.zero = some z) (hl : (Builtin.lenOf xv).run P w = .ok m w) (hfc : (Builtin.firstCells i.size m xv).run P w.drew = .ok news.toArray w.drew)
    (hold : (Builtin.firstCells i.size sLen (.slice base sLen sCap)).run P w.drew = .ok olds.toArray w.drew) (hroom : sCap < sLen + m) (h63 : sLen + m ≤ 9223372036854775807) (hby : (sLen + m) * i.bytes ≤ 140737488355328) :
    (Builtin.append_ ats ty args).run P w = .ok (.slice (some ⟨w.heap.size, 0, none⟩) (sLen + m) (grownCap w (sLen + m) sCap e)) (w.drew.alloc (.cells (olds.toArray ++ (news.toArray ++ Builtin.zeroCells z.cells (grownCap w (sLen + m) sCap e - (sLen + m)))) e)) := by
  have hfit := growslice_fits hroom hby
  have n1 : ¬ (sLen + m ≤ sCap) := by omega
  have n2 : ¬ ((9223372036854775807 : Int) < ((sLen + m : Nat) : Int) ∧ i.bytes = 0) := by omega
  have n2' : ¬ ((9223372036854775807 : Int) < (sLen : Int) + (m : Int) ∧ i.bytes = 0) := by omega
  have n3 : ¬ (281474976710656 < Builtin.nextslicecap (sLen + m) sCap * i.bytes) := by omega
  rcases hd with rfl | ⟨e', rfl⟩ <;> simp [Builtin.append_, h0, h1, a0, a1, run_underlying hu, run_underlying hu', sizeOf, typeInfo, zeroValue, hi, hz, hl, n1, n2, n2', n3, Question.forced, grownCap, IntKind.max, IntKind.signed, IntKind.bits, hfc, hold, newRow]
end
end Go.SH
