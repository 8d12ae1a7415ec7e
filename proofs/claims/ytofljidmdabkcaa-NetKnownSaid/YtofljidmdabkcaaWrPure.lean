/- What codec's writer writes: plain functions on bytes. -/
namespace Go.Proofs.Ytofljidmdabkcaa

/-- A number's bytes. -/
def encNum (n : Nat) : List UInt8 := if n < 128 then [UInt8.ofNat n] else UInt8.ofNat (n % 128 + 128) :: encNum (n / 128)
theorem encNum_lt {n : Nat} (h : n < 128) : encNum n = [UInt8.ofNat n] := by rw [encNum, if_pos h]
theorem encNum_ge {n : Nat} (h : ¬ n < 128) : encNum n = UInt8.ofNat (n % 128 + 128) :: encNum (n / 128) := by rw [encNum, if_neg h]
theorem encNum_len (k : Nat) : ∀ n : Nat, n < 128 ^ (k + 1) → (encNum n).length ≤ k + 1 := by
  induction k with
  | zero => intro n h; rw [encNum_lt (by simpa using h)]; simp
  | succ k ih =>
    intro n h
    by_cases hn : n < 128
    · rw [encNum_lt hn]; simp
    · rw [encNum_ge hn]
      have := ih (n / 128) (by rw [Nat.pow_succ] at h; exact Nat.div_lt_of_lt_mul (by rw [Nat.mul_comm]; exact h))
      simp only [List.length_cons]
      omega
theorem encNum_small {n : Nat} (h : n ≤ 1099511627776) : (encNum n).length ≤ 6 := encNum_len 5 n (by omega)

/-- n bytes of a number, the highest first. -/
def layBytes : Nat → Nat → List UInt8
  | 0, _ => []
  | n + 1, x => UInt8.ofNat (x / 256 ^ n) :: layBytes n x
theorem layBytes_len (n x : Nat) : (layBytes n x).length = n := by
  induction n with
  | zero => rfl
  | succ n ih => simp [layBytes, ih]

/-- A writer: what was written, what it failed by. -/
structure WS where
  b : List UInt8
  f : Int
def wNum (s : WS) (n : Int) : WS := if s.f ≠ 0 then s else if 0 ≤ n ∧ n ≤ 1099511627776 then ⟨s.b ++ encNum n.toNat, 0⟩ else ⟨s.b, 1⟩
def wText (s : WS) (t : List UInt8) : WS := if s.f ≠ 0 then s else if t.length ≤ 1048576 then ⟨s.b ++ encNum t.length ++ t, 0⟩ else ⟨s.b, 3⟩
def wFlag (s : WS) (b : Bool) : WS := if s.f ≠ 0 then s else ⟨s.b ++ [if b then 1 else 0], 0⟩
def wWord (s : WS) (x : Nat) : WS := if s.f ≠ 0 then s else ⟨s.b ++ layBytes 8 x, 0⟩
def wRefuse (s : WS) : WS := if s.f ≠ 0 then s else ⟨s.b, 1⟩
end Go.Proofs.Ytofljidmdabkcaa
