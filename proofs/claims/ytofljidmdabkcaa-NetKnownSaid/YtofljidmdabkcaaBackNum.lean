/- What was written is read: numbers, words, texts. -/
import Derived.Test.YtofljidmdabkcaaOnePure
import Derived.Test.YtofljidmdabkcaaWrPure
namespace Go.Proofs.Ytofljidmdabkcaa

theorem numFrom_back : ∀ (k i acc m : Nat) (r : List UInt8), m < 128 ^ (k + 1) → (0 < m ∨ i = 0) → acc + m * 128 ^ i ≤ 1099511627776 → numFrom (k + 1) i acc (encNum m ++ r) = .inr (acc + m * 128 ^ i, r) := by
  intro k
  induction k with
  | zero =>
    intro i acc m r hm h0 hle
    have hm : m < 128 := by simpa using hm
    rw [encNum_lt hm]
    have hc : (UInt8.ofNat m).toNat = m := by simp; omega
    simp only [List.singleton_append, numFrom, hc, if_pos hm, if_pos (And.intro h0 hle)]
  | succ k ih =>
    intro i acc m r hm h0 hle
    by_cases h : m < 128
    · rw [encNum_lt h]
      have hc : (UInt8.ofNat m).toNat = m := by simp; omega
      rw [numFrom.eq_def]
      simp only [List.singleton_append, hc, if_pos h, if_pos (And.intro h0 hle)]
    · rw [encNum_ge h]
      have hc : (UInt8.ofNat (m % 128 + 128)).toNat = m % 128 + 128 := by simp; omega
      have e : acc + (m % 128) * 128 ^ i + (m / 128) * 128 ^ (i + 1) = acc + m * 128 ^ i := by
        have : m * 128 ^ i = (128 * (m / 128) + m % 128) * 128 ^ i := by rw [Nat.div_add_mod]
        rw [this, Nat.pow_succ, Nat.add_mul, Nat.mul_comm 128 (m / 128), Nat.mul_assoc, Nat.mul_comm 128 (128 ^ i)]
        omega
      rw [numFrom.eq_def]
      simp only [List.cons_append, hc]
      rw [if_neg (by omega), Nat.add_sub_cancel, ih (i + 1) _ (m / 128) r (by rw [Nat.pow_succ] at hm; exact Nat.div_lt_of_lt_mul (by rw [Nat.mul_comm]; exact hm)) (.inl (by omega)) (by rw [e]; exact hle), e]
theorem decNum_back {n : Nat} (r : List UInt8) (h : n ≤ 1099511627776) : decNum (encNum n ++ r) = .inr (n, r) := by
  have := numFrom_back 5 0 0 n r (by omega) (.inr rfl) (by omega)
  simpa [decNum] using this
theorem bigNum_from (n x acc : Nat) : (layBytes n x).foldl (fun x c => x * 256 + c.toNat) acc = acc * 256 ^ n + x % 256 ^ n := by
  induction n generalizing acc with
  | zero => simp [layBytes, Nat.mod_one]
  | succ n ih =>
    have hc : (UInt8.ofNat (x / 256 ^ n)).toNat = x / 256 ^ n % 256 := by simp
    have e : 256 ^ n * (x / 256 ^ n % 256) = (x / 256 ^ n % 256) * 256 ^ n := Nat.mul_comm _ _
    rw [layBytes, List.foldl_cons, ih, hc, Nat.mod_pow_succ, Nat.pow_succ, Nat.add_mul, Nat.mul_assoc, Nat.mul_comm 256 (256 ^ n), e]
    omega
theorem bigNum_back {n x : Nat} (h : x < 256 ^ n) : bigNum (layBytes n x) = x := by
  have := bigNum_from n x 0
  rw [Nat.mod_eq_of_lt h] at this
  simpa [bigNum] using this
theorem decWord_back {x : Nat} (r : List UInt8) (h : x ≤ 18446744073709551615) : decWord (layBytes 8 x ++ r) = .inr (x, r) := by
  have hl := layBytes_len 8 x
  rw [decWord, if_pos (by simp [hl]), List.take_left' hl, List.drop_left' hl, bigNum_back (by omega)]
theorem decFlag_back (b : Bool) (r : List UInt8) : decFlag ((if b then 1 else 0) :: r) = .inr (b, r) := by cases b <;> rfl
theorem decBytes_back {t : List UInt8} {m : Nat} (r : List UInt8) (h : t.length ≤ m) (hm : m ≤ 1048576) : decBytes m (encNum t.length ++ t ++ r) = .inr (t, r) := by
  rw [decBytes, List.append_assoc, decNum_back _ (by omega)]
  simp only
  rw [if_pos (by omega), takeN, if_pos (by simp), List.take_left, List.drop_left]

end Go.Proofs.Ytofljidmdabkcaa
