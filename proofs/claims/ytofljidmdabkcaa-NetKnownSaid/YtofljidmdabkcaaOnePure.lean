/- A number that is read, written again, is the bytes that were read. -/
import Derived.Test.YtofljidmdabkcaaWrPure
import Derived.Test.YtofljidmdabkcaaRdPure
namespace Go.Proofs.Ytofljidmdabkcaa

theorem numFrom_enc : ∀ (k i acc : Nat) (l : List UInt8) (n : Nat) (r : List UInt8), numFrom k i acc l = .inr (n, r) → ∃ m, n = acc + m * 128 ^ i ∧ l = encNum m ++ r ∧ (i = 0 ∨ 0 < m)
  | 0, _, _, _, _, _, h => by simp [numFrom] at h
  | _ + 1, _, _, [], _, _, h => by simp [numFrom] at h
  | k + 1, i, acc, c :: l, n, r, h => by
    have hc := c.toNat_lt
    simp only [numFrom] at h
    by_cases h128 : c.toNat < 128
    · rw [if_pos h128] at h
      by_cases h2 : (0 < c.toNat ∨ i = 0) ∧ acc + c.toNat * 128 ^ i ≤ 1099511627776
      · rw [if_pos h2] at h
        simp only [Sum.inr.injEq, Prod.mk.injEq] at h
        obtain ⟨rfl, rfl⟩ := h
        refine ⟨c.toNat, rfl, ?_, h2.1.symm⟩
        rw [encNum_lt h128]
        simp
      · rw [if_neg h2] at h
        simp at h
    · rw [if_neg h128] at h
      obtain ⟨m, hn, hl, hm⟩ := numFrom_enc k _ _ l n r h
      have hm' : 0 < m := hm.resolve_left (by omega)
      refine ⟨(c.toNat - 128) + m * 128, ?_, ?_, .inr (by omega)⟩
      · rw [hn, Nat.pow_succ, Nat.add_mul, Nat.mul_assoc, Nat.mul_comm 128, Nat.add_assoc]
      · rw [encNum_ge (by omega), show (c.toNat - 128 + m * 128) / 128 = m by omega, show (c.toNat - 128 + m * 128) % 128 + 128 = c.toNat by omega, hl]
        simp
theorem numFrom_err : ∀ (k i acc : Nat) (l : List UInt8) (e : Int), numFrom k i acc l = .inl e → e = 2 ∨ e = 4
  | 0, _, _, _, _, h => by simp [numFrom] at h; exact .inr h.symm
  | _ + 1, _, _, [], _, h => by simp [numFrom] at h; exact .inl h.symm
  | k + 1, i, acc, c :: l, e, h => by
    simp only [numFrom] at h
    by_cases h128 : c.toNat < 128
    · rw [if_pos h128] at h
      by_cases h2 : (0 < c.toNat ∨ i = 0) ∧ acc + c.toNat * 128 ^ i ≤ 1099511627776
      · rw [if_pos h2] at h; simp at h
      · rw [if_neg h2] at h; simp at h; exact .inr h.symm
    · rw [if_neg h128] at h
      exact numFrom_err k _ _ l e h
theorem decNum_enc {l : List UInt8} {n : Nat} {r : List UInt8} (h : decNum l = .inr (n, r)) : l = encNum n ++ r := by
  obtain ⟨m, hn, hl, _⟩ := numFrom_enc _ _ _ _ _ _ h
  rw [hl]
  simp at hn
  rw [hn]
end Go.Proofs.Ytofljidmdabkcaa
