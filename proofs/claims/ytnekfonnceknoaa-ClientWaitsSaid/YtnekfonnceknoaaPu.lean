/- What codec's writer writes: plain functions on bytes. What codec's reader reads: plain functions on bytes. A number that is read, written again, is the bytes that were read. What was written is read: numbers, words, texts. -/
namespace Go.Proofs.Ytnekfonnceknoaa

/-- A number's bytes. -/
def encNum (n : Nat) : List UInt8 := if n < 128 then [UInt8.ofNat n] else UInt8.ofNat (n % 128 + 128) :: encNum (n / 128)
theorem encNum_lt {n : Nat} (h : n < 128) : encNum n = [UInt8.ofNat n] := by rw [encNum, if_pos h]
theorem encNum_ge {n : Nat} (h : ¬ n < 128) : encNum n = UInt8.ofNat (n % 128 + 128) :: encNum (n / 128) := by rw [encNum, if_neg h]
theorem encNum_len (k : Nat) : ∀ n : Nat, n < 128 ^ (k + 1) → (encNum n).length ≤ k + 1 := by
  induction k with
  | zero => intro n h; rw [encNum_lt (by simpa using h)]; simp
  | succ k ih =>
    intro n h
    by_cases hn : n < 128
    · rw [encNum_lt hn]; simp
    · rw [encNum_ge hn]
      have := ih (n / 128) (by rw [Nat.pow_succ] at h; exact Nat.div_lt_of_lt_mul (by rw [Nat.mul_comm]; exact h))
      simp only [List.length_cons]
      omega
theorem encNum_small {n : Nat} (h : n ≤ 1099511627776) : (encNum n).length ≤ 6 := encNum_len 5 n (by omega)

/-- n bytes of a number, the highest first. -/
def layBytes : Nat → Nat → List UInt8
  | 0, _ => []
  | n + 1, x => UInt8.ofNat (x / 256 ^ n) :: layBytes n x
theorem layBytes_len (n x : Nat) : (layBytes n x).length = n := by
  induction n with
  | zero => rfl
  | succ n ih => simp [layBytes, ih]

/-- A writer: what was written, what it failed by. -/
structure WS where
  b : List UInt8
  f : Int
def wNum (s : WS) (n : Int) : WS := if s.f ≠ 0 then s else if 0 ≤ n ∧ n ≤ 1099511627776 then ⟨s.b ++ encNum n.toNat, 0⟩ else ⟨s.b, 1⟩
def wText (s : WS) (t : List UInt8) : WS := if s.f ≠ 0 then s else if t.length ≤ 1048576 then ⟨s.b ++ encNum t.length ++ t, 0⟩ else ⟨s.b, 3⟩
def wFlag (s : WS) (b : Bool) : WS := if s.f ≠ 0 then s else ⟨s.b ++ [if b then 1 else 0], 0⟩
def wWord (s : WS) (x : Nat) : WS := if s.f ≠ 0 then s else ⟨s.b ++ layBytes 8 x, 0⟩
def wRefuse (s : WS) : WS := if s.f ≠ 0 then s else ⟨s.b, 1⟩
end Go.Proofs.Ytnekfonnceknoaa
namespace Go.Proofs.Ytnekfonnceknoaa

/-- A number: its digits from place i on, acc what stands in the digits before. An error's number, or the number and what is left. -/
def numFrom : Nat → Nat → Nat → List UInt8 → Int ⊕ (Nat × List UInt8)
  | 0, _, _, _ => .inl 4
  | _ + 1, _, _, [] => .inl 2
  | k + 1, i, acc, c :: r =>
    if c.toNat < 128 then
      (if (0 < c.toNat ∨ i = 0) ∧ acc + c.toNat * 128 ^ i ≤ 1099511627776 then .inr (acc + c.toNat * 128 ^ i, r) else .inl 4)
    else numFrom k (i + 1) (acc + (c.toNat - 128) * 128 ^ i) r
/-- The number that bytes begin with. -/
def decNum (l : List UInt8) : Int ⊕ (Nat × List UInt8) := numFrom 6 0 0 l
/-- The number of some bytes, the highest first. -/
def bigNum (l : List UInt8) : Nat := l.foldl (fun x c => x * 256 + c.toNat) 0

/-- A reader: what is left, what it failed by. -/
structure RS where
  b : List UInt8
  f : Int
def rStop (s : RS) (e : Int) : RS := if s.f ≠ 0 then s else ⟨[], e⟩
/-- A read: what it gives, or what it fails by. -/
def rDo {α : Type} (s : RS) (zero : α) (r : Int ⊕ (α × List UInt8)) : α × RS :=
  if s.f ≠ 0 then (zero, s) else match r with
    | .inl e => (zero, ⟨[], e⟩)
    | .inr (x, l) => (x, ⟨l, 0⟩)
def rNum (s : RS) : Nat × RS := rDo s 0 (decNum s.b)
def takeN (n : Nat) (l : List UInt8) : Int ⊕ (List UInt8 × List UInt8) := if n ≤ l.length then .inr (l.take n, l.drop n) else .inl 2
def decBytes (most : Int) (l : List UInt8) : Int ⊕ (List UInt8 × List UInt8) :=
  match decNum l with
  | .inl e => .inl e
  | .inr (n, r) => if (n : Int) ≤ most then takeN n r else .inl 3
def rBytes (s : RS) (most : Int) : List UInt8 × RS := rDo s [] (decBytes most s.b)
def decFlag : List UInt8 → Int ⊕ (Bool × List UInt8)
  | [] => .inl 2
  | c :: r => if c.toNat ≤ 1 then .inr (c.toNat == 1, r) else .inl 4
def rFlag (s : RS) : Bool × RS := rDo s false (decFlag s.b)
def decWord (l : List UInt8) : Int ⊕ (Nat × List UInt8) := if 8 ≤ l.length then .inr (bigNum (l.take 8), l.drop 8) else .inl 2
def rWord (s : RS) : Nat × RS := rDo s 0 (decWord s.b)
def rEnd (s : RS) : Int := if s.f ≠ 0 then s.f else if 0 < s.b.length then 3 else 0

theorem numFrom_le : ∀ (k i acc : Nat) (l : List UInt8) (n : Nat) (r : List UInt8), numFrom k i acc l = .inr (n, r) → n ≤ 1099511627776 ∧ r.length ≤ l.length
  | 0, _, _, _, _, _, h => by simp [numFrom] at h
  | _ + 1, _, _, [], _, _, h => by simp [numFrom] at h
  | k + 1, i, acc, c :: l, n, r, h => by
    simp only [numFrom] at h
    by_cases hc : c.toNat < 128
    · rw [if_pos hc] at h
      by_cases h2 : (0 < c.toNat ∨ i = 0) ∧ acc + c.toNat * 128 ^ i ≤ 1099511627776
      · rw [if_pos h2] at h
        simp only [Sum.inr.injEq, Prod.mk.injEq] at h
        obtain ⟨rfl, rfl⟩ := h
        exact ⟨h2.2, by simp⟩
      · rw [if_neg h2] at h
        simp at h
    · rw [if_neg hc] at h
      have := numFrom_le k _ _ l n r h
      exact ⟨this.1, by simp only [List.length_cons]; omega⟩
end Go.Proofs.Ytnekfonnceknoaa
namespace Go.Proofs.Ytnekfonnceknoaa

theorem numFrom_enc : ∀ (k i acc : Nat) (l : List UInt8) (n : Nat) (r : List UInt8), numFrom k i acc l = .inr (n, r) → ∃ m, n = acc + m * 128 ^ i ∧ l = encNum m ++ r ∧ (i = 0 ∨ 0 < m)
  | 0, _, _, _, _, _, h => by simp [numFrom] at h
  | _ + 1, _, _, [], _, _, h => by simp [numFrom] at h
  | k + 1, i, acc, c :: l, n, r, h => by
    have hc := c.toNat_lt
    simp only [numFrom] at h
    by_cases h128 : c.toNat < 128
    · rw [if_pos h128] at h
      by_cases h2 : (0 < c.toNat ∨ i = 0) ∧ acc + c.toNat * 128 ^ i ≤ 1099511627776
      · rw [if_pos h2] at h
        simp only [Sum.inr.injEq, Prod.mk.injEq] at h
        obtain ⟨rfl, rfl⟩ := h
        refine ⟨c.toNat, rfl, ?_, h2.1.symm⟩
        rw [encNum_lt h128]
        simp
      · rw [if_neg h2] at h
        simp at h
    · rw [if_neg h128] at h
      obtain ⟨m, hn, hl, hm⟩ := numFrom_enc k _ _ l n r h
      have hm' : 0 < m := hm.resolve_left (by omega)
      refine ⟨(c.toNat - 128) + m * 128, ?_, ?_, .inr (by omega)⟩
      · rw [hn, Nat.pow_succ, Nat.add_mul, Nat.mul_assoc, Nat.mul_comm 128, Nat.add_assoc]
      · rw [encNum_ge (by omega), show (c.toNat - 128 + m * 128) / 128 = m by omega, show (c.toNat - 128 + m * 128) % 128 + 128 = c.toNat by omega, hl]
        simp
theorem numFrom_err : ∀ (k i acc : Nat) (l : List UInt8) (e : Int), numFrom k i acc l = .inl e → e = 2 ∨ e = 4
  | 0, _, _, _, _, h => by simp [numFrom] at h; exact .inr h.symm
  | _ + 1, _, _, [], _, h => by simp [numFrom] at h; exact .inl h.symm
  | k + 1, i, acc, c :: l, e, h => by
    simp only [numFrom] at h
    by_cases h128 : c.toNat < 128
    · rw [if_pos h128] at h
      by_cases h2 : (0 < c.toNat ∨ i = 0) ∧ acc + c.toNat * 128 ^ i ≤ 1099511627776
      · rw [if_pos h2] at h; simp at h
      · rw [if_neg h2] at h; simp at h; exact .inr h.symm
    · rw [if_neg h128] at h
      exact numFrom_err k _ _ l e h
theorem decNum_enc {l : List UInt8} {n : Nat} {r : List UInt8} (h : decNum l = .inr (n, r)) : l = encNum n ++ r := by
  obtain ⟨m, hn, hl, _⟩ := numFrom_enc _ _ _ _ _ _ h
  rw [hl]
  simp at hn
  rw [hn]
end Go.Proofs.Ytnekfonnceknoaa
namespace Go.Proofs.Ytnekfonnceknoaa

theorem numFrom_back : ∀ (k i acc m : Nat) (r : List UInt8), m < 128 ^ (k + 1) → (0 < m ∨ i = 0) → acc + m * 128 ^ i ≤ 1099511627776 → numFrom (k + 1) i acc (encNum m ++ r) = .inr (acc + m * 128 ^ i, r) := by
  intro k
  induction k with
  | zero =>
    intro i acc m r hm h0 hle
    have hm : m < 128 := by simpa using hm
    rw [encNum_lt hm]
    have hc : (UInt8.ofNat m).toNat = m := by simp; omega
    simp only [List.singleton_append, numFrom, hc, if_pos hm, if_pos (And.intro h0 hle)]
  | succ k ih =>
    intro i acc m r hm h0 hle
    by_cases h : m < 128
    · rw [encNum_lt h]
      have hc : (UInt8.ofNat m).toNat = m := by simp; omega
      rw [numFrom.eq_def]
      simp only [List.singleton_append, hc, if_pos h, if_pos (And.intro h0 hle)]
    · rw [encNum_ge h]
      have hc : (UInt8.ofNat (m % 128 + 128)).toNat = m % 128 + 128 := by simp; omega
      have e : acc + (m % 128) * 128 ^ i + (m / 128) * 128 ^ (i + 1) = acc + m * 128 ^ i := by
        have : m * 128 ^ i = (128 * (m / 128) + m % 128) * 128 ^ i := by rw [Nat.div_add_mod]
        rw [this, Nat.pow_succ, Nat.add_mul, Nat.mul_comm 128 (m / 128), Nat.mul_assoc, Nat.mul_comm 128 (128 ^ i)]
        omega
      rw [numFrom.eq_def]
      simp only [List.cons_append, hc]
      rw [if_neg (by omega), Nat.add_sub_cancel, ih (i + 1) _ (m / 128) r (by rw [Nat.pow_succ] at hm; exact Nat.div_lt_of_lt_mul (by rw [Nat.mul_comm]; exact hm)) (.inl (by omega)) (by rw [e]; exact hle), e]
theorem decNum_back {n : Nat} (r : List UInt8) (h : n ≤ 1099511627776) : decNum (encNum n ++ r) = .inr (n, r) := by
  have := numFrom_back 5 0 0 n r (by omega) (.inr rfl) (by omega)
  simpa [decNum] using this
theorem bigNum_from (n x acc : Nat) : (layBytes n x).foldl (fun x c => x * 256 + c.toNat) acc = acc * 256 ^ n + x % 256 ^ n := by
  induction n generalizing acc with
  | zero => simp [layBytes, Nat.mod_one]
  | succ n ih =>
    have hc : (UInt8.ofNat (x / 256 ^ n)).toNat = x / 256 ^ n % 256 := by simp
    have e : 256 ^ n * (x / 256 ^ n % 256) = (x / 256 ^ n % 256) * 256 ^ n := Nat.mul_comm _ _
    rw [layBytes, List.foldl_cons, ih, hc, Nat.mod_pow_succ, Nat.pow_succ, Nat.add_mul, Nat.mul_assoc, Nat.mul_comm 256 (256 ^ n), e]
    omega
theorem bigNum_back {n x : Nat} (h : x < 256 ^ n) : bigNum (layBytes n x) = x := by
  have := bigNum_from n x 0
  rw [Nat.mod_eq_of_lt h] at this
  simpa [bigNum] using this
theorem decWord_back {x : Nat} (r : List UInt8) (h : x ≤ 18446744073709551615) : decWord (layBytes 8 x ++ r) = .inr (x, r) := by
  have hl := layBytes_len 8 x
  rw [decWord, if_pos (by simp [hl]), List.take_left' hl, List.drop_left' hl, bigNum_back (by omega)]
theorem decFlag_back (b : Bool) (r : List UInt8) : decFlag ((if b then 1 else 0) :: r) = .inr (b, r) := by cases b <;> rfl
theorem decBytes_back {t : List UInt8} {m : Nat} (r : List UInt8) (h : t.length ≤ m) (hm : m ≤ 1048576) : decBytes m (encNum t.length ++ t ++ r) = .inr (t, r) := by
  rw [decBytes, List.append_assoc, decNum_back _ (by omega)]
  simp only
  rw [if_pos (by omega), takeN, if_pos (by simp), List.take_left, List.drop_left]

end Go.Proofs.Ytnekfonnceknoaa
