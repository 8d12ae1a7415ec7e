/- What codec's reader reads: plain functions on bytes. -/
namespace Go.Proofs.Ytofljidmdabkcaa

/-- A number: its digits from place i on, acc what stands in the digits before. An error's number, or the number and what is left. -/
def numFrom : Nat → Nat → Nat → List UInt8 → Int ⊕ (Nat × List UInt8)
  | 0, _, _, _ => .inl 4
  | _ + 1, _, _, [] => .inl 2
  | k + 1, i, acc, c :: r =>
    if c.toNat < 128 then
      (if (0 < c.toNat ∨ i = 0) ∧ acc + c.toNat * 128 ^ i ≤ 1099511627776 then .inr (acc + c.toNat * 128 ^ i, r) else .inl 4)
    else numFrom k (i + 1) (acc + (c.toNat - 128) * 128 ^ i) r
/-- The number that bytes begin with. -/
def decNum (l : List UInt8) : Int ⊕ (Nat × List UInt8) := numFrom 6 0 0 l
/-- The number of some bytes, the highest first. -/
def bigNum (l : List UInt8) : Nat := l.foldl (fun x c => x * 256 + c.toNat) 0

/-- A reader: what is left, what it failed by. -/
structure RS where
  b : List UInt8
  f : Int
def rStop (s : RS) (e : Int) : RS := if s.f ≠ 0 then s else ⟨[], e⟩
/-- A read: what it gives, or what it fails by. -/
def rDo {α : Type} (s : RS) (zero : α) (r : Int ⊕ (α × List UInt8)) : α × RS :=
  if s.f ≠ 0 then (zero, s) else match r with
    | .inl e => (zero, ⟨[], e⟩)
    | .inr (x, l) => (x, ⟨l, 0⟩)
def rNum (s : RS) : Nat × RS := rDo s 0 (decNum s.b)
def takeN (n : Nat) (l : List UInt8) : Int ⊕ (List UInt8 × List UInt8) := if n ≤ l.length then .inr (l.take n, l.drop n) else .inl 2
def decBytes (most : Int) (l : List UInt8) : Int ⊕ (List UInt8 × List UInt8) :=
  match decNum l with
  | .inl e => .inl e
  | .inr (n, r) => if (n : Int) ≤ most then takeN n r else .inl 3
def rBytes (s : RS) (most : Int) : List UInt8 × RS := rDo s [] (decBytes most s.b)
def decFlag : List UInt8 → Int ⊕ (Bool × List UInt8)
  | [] => .inl 2
  | c :: r => if c.toNat ≤ 1 then .inr (c.toNat == 1, r) else .inl 4
def rFlag (s : RS) : Bool × RS := rDo s false (decFlag s.b)
def decWord (l : List UInt8) : Int ⊕ (Nat × List UInt8) := if 8 ≤ l.length then .inr (bigNum (l.take 8), l.drop 8) else .inl 2
def rWord (s : RS) : Nat × RS := rDo s 0 (decWord s.b)
def rEnd (s : RS) : Int := if s.f ≠ 0 then s.f else if 0 < s.b.length then 3 else 0

theorem numFrom_le : ∀ (k i acc : Nat) (l : List UInt8) (n : Nat) (r : List UInt8), numFrom k i acc l = .inr (n, r) → n ≤ 1099511627776 ∧ r.length ≤ l.length
  | 0, _, _, _, _, _, h => by simp [numFrom] at h
  | _ + 1, _, _, [], _, _, h => by simp [numFrom] at h
  | k + 1, i, acc, c :: l, n, r, h => by
    simp only [numFrom] at h
    by_cases hc : c.toNat < 128
    · rw [if_pos hc] at h
      by_cases h2 : (0 < c.toNat ∨ i = 0) ∧ acc + c.toNat * 128 ^ i ≤ 1099511627776
      · rw [if_pos h2] at h
        simp only [Sum.inr.injEq, Prod.mk.injEq] at h
        obtain ⟨rfl, rfl⟩ := h
        exact ⟨h2.2, by simp⟩
      · rw [if_neg h2] at h
        simp at h
    · rw [if_neg hc] at h
      have := numFrom_le k _ _ l n r h
      exact ⟨this.1, by simp only [List.length_cons]; omega⟩
end Go.Proofs.Ytofljidmdabkcaa
