/-
  The journal's entries: plain laws of lists. No condition.
-/
import Derived.Test.YtaimbfihehglhaaJm
import Derived.Test.YtaimbfihehglhaaJq
namespace Go.Proofs.Ytaimbfihehglhaa
set_option linter.unusedVariables false
set_option linter.unusedSimpArgs false
open Go Go.SH
theorem byte_of (n : Nat) (h : n < 256) : (n.toUInt8).toNat = n := by rw [byte_toNat]; omega
theorem enc_dec {k n : Int} {t : List UInt8} (h : writable k n t = true) : decB (encO k n t) = some (k, n, t) := by
  obtain ⟨h1, h2, h3, h4, h5⟩ := writable_iff.1 h
  have e : encO k n t = k.toNat.toUInt8 :: (two n.toNat ++ t) := by simp [encO, h, encB]
  have e1 : ((k.toNat.toUInt8 :: (two n.toNat ++ t)).getD 0 0).toNat = k.toNat := by
    rw [List.getD_cons_zero]; exact byte_of _ (by omega)
  have e2 : num ((k.toNat.toUInt8 :: (two n.toNat ++ t)).drop 1) = n.toNat := by
    rw [List.drop_succ_cons, List.drop_zero]; exact two_num _ (by omega) _
  have e3 : (k.toNat.toUInt8 :: (two n.toNat ++ t)).drop 3 = t := by simp [two]
  unfold decB
  rw [e, if_neg (by simp [two]), e1, e2, e3, Int.toNat_of_nonneg (by omega), Int.toNat_of_nonneg (by omega), if_pos h]
theorem dec_enc {b : List UInt8} {k n : Int} {t : List UInt8} (h : decB b = some (k, n, t)) : encO k n t = b := by
  have hw := writableB_some h
  simp only at hw
  unfold decB at h
  split at h
  · cases h
  · rename_i hl
    split at h
    · simp only [Option.some.injEq, Prod.mk.injEq] at h
      obtain ⟨rfl, rfl, rfl⟩ := h
      match b, hl with
      | b0 :: b1 :: b2 :: l, _ =>
        have h0 := UInt8.toNat_lt b0
        have h1 := UInt8.toNat_lt b1
        have h2 := UInt8.toNat_lt b2
        simp only [encO, hw, if_true, encB]
        have e0 : ((b0.toNat : Int).toNat).toUInt8 = b0 := by apply UInt8.toNat_inj.1; rw [Int.toNat_natCast, byte_of _ h0]
        have en : num ((b0 :: b1 :: b2 :: l).drop 1) = b1.toNat * 256 + b2.toNat := by simp [num]
        have e1 : ((b1.toNat * 256 + b2.toNat) / 256).toUInt8 = b1 := by apply UInt8.toNat_inj.1; rw [byte_of _ (by omega)]; omega
        have e2 : ((b1.toNat * 256 + b2.toNat) % 256).toUInt8 = b2 := by apply UInt8.toNat_inj.1; rw [byte_of _ (by omega)]; omega
        rw [List.getD_cons_zero, e0, en, Int.toNat_natCast, two, e1, e2]
        simp
      | [], h => simp at h
      | [_], h => simp at h
      | [_, _], h => simp at h
    · cases h
theorem dec_nil : decB [] = none := by simp [decB]
end Go.Proofs.Ytaimbfihehglhaa
