/- The sum that guards a frame: plain functions on numbers. -/
import Derived.Laws.BitsAllLaws
namespace Go.Proofs.Ytbfdnhffcdbidaa

theorem xor_rc {a b c : Nat} (h : a ^^^ c = b ^^^ c) : a = b := by
  have := congrArg (fun x => x ^^^ c) h
  simpa only [Nat.xor_assoc, Nat.xor_self, Nat.xor_zero] using this
theorem xor_lc {a b c : Nat} (h : c ^^^ a = c ^^^ b) : a = b := by
  rw [Nat.xor_comm c a, Nat.xor_comm c b] at h
  exact xor_rc h
def crcBit (x : Nat) : Nat := if x % 2 = 1 then (x / 2) ^^^ 3988292384 else x / 2
def crcBits : Nat → Nat → Nat
  | 0, x => x
  | k + 1, x => crcBit (crcBits k x)
def crcFrom (x : Nat) (l : List UInt8) : Nat := l.foldl (fun x c => crcBits 8 (x ^^^ c.toNat)) x
def crc (l : List UInt8) : Nat := 4294967295 ^^^ crcFrom 4294967295 l

theorem crcBit_lt {x : Nat} (h : x < 4294967296) : crcBit x < 4294967296 := by
  unfold crcBit
  split
  · exact Nat.xor_lt_two_pow (n := 32) (by omega) (by omega)
  · omega
theorem crcBits_lt (k : Nat) {x : Nat} (h : x < 4294967296) : crcBits k x < 4294967296 := by
  induction k with
  | zero => exact h
  | succ k ih => exact crcBit_lt ih
theorem xor_byte_lt {x : Nat} (h : x < 4294967296) (c : UInt8) : x ^^^ c.toNat < 4294967296 :=
  Nat.xor_lt_two_pow (n := 32) (by omega) (by have := c.toNat_lt; omega)
theorem crcFrom_lt (l : List UInt8) {x : Nat} (h : x < 4294967296) : crcFrom x l < 4294967296 := by
  induction l generalizing x with
  | nil => exact h
  | cons c l ih => exact ih (crcBits_lt 8 (xor_byte_lt h c))
theorem crc_lt (l : List UInt8) : crc l < 4294967296 := Nat.xor_lt_two_pow (n := 32) (by omega) (crcFrom_lt l (by omega))
theorem crcFrom_snoc (x : Nat) (l : List UInt8) (c : UInt8) : crcFrom x (l ++ [c]) = crcBits 8 (crcFrom x l ^^^ c.toNat) := by simp [crcFrom]

theorem top_of_xor {a : Nat} (h : a < 2147483648) : 2147483648 ≤ a ^^^ 3988292384 := by
  have h1 : (a ^^^ 3988292384).testBit 31 = true := by
    rw [Nat.testBit_xor, Nat.testBit_lt_two_pow (show a < 2 ^ 31 by omega)]
    rfl
  exact Nat.ge_two_pow_of_testBit h1
theorem crcBit_inj {x y : Nat} (hx : x < 4294967296) (hy : y < 4294967296) (h : crcBit x = crcBit y) : x = y := by
  unfold crcBit at h
  split at h <;> split at h
  · have : x / 2 = y / 2 := xor_rc h
    omega
  · have := top_of_xor (a := x / 2) (by omega)
    omega
  · have := top_of_xor (a := y / 2) (by omega)
    omega
  · omega
theorem crcBits_inj (k : Nat) {x y : Nat} (hx : x < 4294967296) (hy : y < 4294967296) (h : crcBits k x = crcBits k y) : x = y := by
  induction k with
  | zero => exact h
  | succ k ih => exact ih (crcBit_inj (crcBits_lt k hx) (crcBits_lt k hy) h)
theorem crcFrom_inj (l : List UInt8) {x y : Nat} (hx : x < 4294967296) (hy : y < 4294967296) (h : crcFrom x l = crcFrom y l) : x = y := by
  induction l generalizing x y with
  | nil => exact h
  | cons c l ih => exact xor_rc (crcBits_inj 8 (xor_byte_lt hx c) (xor_byte_lt hy c) (ih (crcBits_lt 8 (xor_byte_lt hx c)) (crcBits_lt 8 (xor_byte_lt hy c)) h))
/-- One byte that is another gives another sum. -/
theorem crc_other (a b : List UInt8) {c d : UInt8} (h : c ≠ d) : crc (a ++ c :: b) ≠ crc (a ++ d :: b) := by
  intro e
  have h1 : crcFrom 4294967295 (a ++ c :: b) = crcFrom 4294967295 (a ++ d :: b) := xor_lc e
  have ha : ∀ u : UInt8, crcFrom 4294967295 (a ++ u :: b) = crcFrom (crcBits 8 (crcFrom 4294967295 a ^^^ u.toNat)) b := fun u => by simp [crcFrom]
  rw [ha, ha] at h1
  have hl := crcFrom_lt a (x := 4294967295) (by omega)
  have h2 := crcFrom_inj b (crcBits_lt 8 (xor_byte_lt hl c)) (crcBits_lt 8 (xor_byte_lt hl d)) h1
  exact h (UInt8.toNat.inj (xor_lc (crcBits_inj 8 (xor_byte_lt hl c) (xor_byte_lt hl d) h2)))

/-- The step as codec has it. -/
theorem crc_step {x : Nat} (h : x < 4294967296) : bits .xor .u32 ((x : Int) / 2) (bits .and .u32 3988292384 (IntKind.u32.wrap (-(bits .and .u32 (x : Int) 1)))) = (crcBit x : Int) := by
  have h1 : bits .and .u32 (x : Int) 1 = ((x % 2 : Nat) : Int) := by
    rw [show (1 : Int) = ((1 : Nat) : Int) from rfl, u32_and_nat x 1 (by omega) (by omega), Nat.and_one_is_mod]
  rw [h1, IntKind.wrap_u32']
  unfold crcBit
  by_cases hx : x % 2 = 1
  · rw [if_pos hx, hx]
    have h2 : bits .and .u32 3988292384 (-((1 : Nat) : Int) % 4294967296) = 3988292384 := by decide
    rw [h2, show ((x : Int) / 2) = ((x / 2 : Nat) : Int) by omega, show (3988292384 : Int) = ((3988292384 : Nat) : Int) from rfl, u32_xor_nat _ _ (by omega) (by omega)]
  · rw [if_neg hx, show x % 2 = 0 by omega]
    have h2 : bits .and .u32 3988292384 (-((0 : Nat) : Int) % 4294967296) = 0 := by decide
    rw [h2, show ((x : Int) / 2) = ((x / 2 : Nat) : Int) by omega, show (0 : Int) = ((0 : Nat) : Int) from rfl, u32_xor_nat _ _ (by omega) (by omega), Nat.xor_zero]
theorem crc_one {x : Nat} (h : x < 4294967296) (hx : x % 2 = 1) : bits .xor .u32 ((x : Int) / 2) 3988292384 = (crcBit x : Int) := by
  rw [crcBit, if_pos hx, show ((x : Int) / 2) = ((x / 2 : Nat) : Int) by omega, show (3988292384 : Int) = ((3988292384 : Nat) : Int) from rfl, u32_xor_nat _ _ (by omega) (by omega)]
theorem crc_zero {x : Nat} (hx : ¬ x % 2 = 1) : (x : Int) / 2 = (crcBit x : Int) := by
  rw [crcBit, if_neg hx]; omega
theorem crc_and {x : Nat} (h : x < 4294967296) : bits .and .u32 (x : Int) 1 = ((x % 2 : Nat) : Int) := by
  rw [show (1 : Int) = ((1 : Nat) : Int) from rfl, u32_and_nat x 1 (by omega) (by omega), Nat.and_one_is_mod]
theorem crc_byte {x : Nat} (h : x < 4294967296) (c : UInt8) : bits .xor .u32 (x : Int) (c.toNat : Int) = ((x ^^^ c.toNat : Nat) : Int) := u32_xor_nat _ _ h (by have := c.toNat_lt; omega)
theorem crc_not {x : Nat} (h : x < 4294967296) : bits .xor .u32 4294967295 (x : Int) = ((4294967295 ^^^ x : Nat) : Int) := by
  rw [show (4294967295 : Int) = ((4294967295 : Nat) : Int) from rfl, u32_xor_nat _ _ (by omega) h]
end Go.Proofs.Ytbfdnhffcdbidaa
