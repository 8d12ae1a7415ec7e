/- What was written is read. -/
import Derived.Test.YtbfdnhffcdbidaaWrites
import Derived.Test.YtbfdnhffcdbidaaOnePure
namespace Go.Proofs.Ytbfdnhffcdbidaa

theorem numFrom_back : ∀ (k i acc m : Nat) (r : List UInt8), m < 128 ^ (k + 1) → (0 < m ∨ i = 0) → acc + m * 128 ^ i ≤ 1099511627776 → numFrom (k + 1) i acc (encNum m ++ r) = .inr (acc + m * 128 ^ i, r) := by
  intro k
  induction k with
  | zero =>
    intro i acc m r hm h0 hle
    have hm : m < 128 := by simpa using hm
    rw [encNum_lt hm]
    have hc : (UInt8.ofNat m).toNat = m := by simp; omega
    simp only [List.singleton_append, numFrom, hc, if_pos hm, if_pos (And.intro h0 hle)]
  | succ k ih =>
    intro i acc m r hm h0 hle
    by_cases h : m < 128
    · rw [encNum_lt h]
      have hc : (UInt8.ofNat m).toNat = m := by simp; omega
      rw [numFrom.eq_def]
      simp only [List.singleton_append, hc, if_pos h, if_pos (And.intro h0 hle)]
    · rw [encNum_ge h]
      have hc : (UInt8.ofNat (m % 128 + 128)).toNat = m % 128 + 128 := by simp; omega
      have e : acc + (m % 128) * 128 ^ i + (m / 128) * 128 ^ (i + 1) = acc + m * 128 ^ i := by
        have : m * 128 ^ i = (128 * (m / 128) + m % 128) * 128 ^ i := by rw [Nat.div_add_mod]
        rw [this, Nat.pow_succ, Nat.add_mul, Nat.mul_comm 128 (m / 128), Nat.mul_assoc, Nat.mul_comm 128 (128 ^ i)]
        omega
      rw [numFrom.eq_def]
      simp only [List.cons_append, hc]
      rw [if_neg (by omega), Nat.add_sub_cancel, ih (i + 1) _ (m / 128) r (by rw [Nat.pow_succ] at hm; exact Nat.div_lt_of_lt_mul (by rw [Nat.mul_comm]; exact hm)) (.inl (by omega)) (by rw [e]; exact hle), e]
theorem decNum_back {n : Nat} (r : List UInt8) (h : n ≤ 1099511627776) : decNum (encNum n ++ r) = .inr (n, r) := by
  have := numFrom_back 5 0 0 n r (by omega) (.inr rfl) (by omega)
  simpa [decNum] using this
theorem bigNum_from (n x acc : Nat) : (layBytes n x).foldl (fun x c => x * 256 + c.toNat) acc = acc * 256 ^ n + x % 256 ^ n := by
  induction n generalizing acc with
  | zero => simp [layBytes, Nat.mod_one]
  | succ n ih =>
    have hc : (UInt8.ofNat (x / 256 ^ n)).toNat = x / 256 ^ n % 256 := by simp
    have e : 256 ^ n * (x / 256 ^ n % 256) = (x / 256 ^ n % 256) * 256 ^ n := Nat.mul_comm _ _
    rw [layBytes, List.foldl_cons, ih, hc, Nat.mod_pow_succ, Nat.pow_succ, Nat.add_mul, Nat.mul_assoc, Nat.mul_comm 256 (256 ^ n), e]
    omega
theorem bigNum_back {n x : Nat} (h : x < 256 ^ n) : bigNum (layBytes n x) = x := by
  have := bigNum_from n x 0
  rw [Nat.mod_eq_of_lt h] at this
  simpa [bigNum] using this
theorem decWord_back {x : Nat} (r : List UInt8) (h : x ≤ 18446744073709551615) : decWord (layBytes 8 x ++ r) = .inr (x, r) := by
  have hl := layBytes_len 8 x
  rw [decWord, if_pos (by simp [hl]), List.take_left' hl, List.drop_left' hl, bigNum_back (by omega)]
theorem decFlag_back (b : Bool) (r : List UInt8) : decFlag ((if b then 1 else 0) :: r) = .inr (b, r) := by cases b <;> rfl
theorem decBytes_back {t : List UInt8} (r : List UInt8) (h : t.length ≤ 2000) : decBytes 2000 (encNum t.length ++ t ++ r) = .inr (t, r) := by
  rw [decBytes, List.append_assoc, decNum_back _ (by omega)]
  simp only
  rw [if_pos (by omega), takeN, if_pos (by simp), List.take_left, List.drop_left]

/-- A thing's bytes. -/
def encThing (t : Thing) : List UInt8 :=
  if t.d ≤ 1 then encNum t.n.toNat else if t.d = 2 then encNum t.s.data.toList.length ++ t.s.data.toList else if t.d = 3 then encNum t.b.length ++ t.b else if t.d = 4 then [if t.flag then 1 else 0] else layBytes 8 t.x
/-- Things that can be written. -/
def okThing (t : Thing) : Prop := t.d ≤ 5 ∧ (t.d ≤ 1 → 0 ≤ t.n ∧ t.n ≤ 1099511627776)
theorem wPut_ok {s : WS} {t : Thing} (h : (wPut s t).f = 0) : s.f = 0 ∧ okThing t ∧ wPut s t = ⟨s.b ++ encThing t, 0⟩ := by
  unfold wPut at h ⊢
  unfold encThing okThing
  rcases d_cases t.d with e | e | e | e | e | e
  · simp only [if_pos e] at h ⊢
    unfold wNum at h ⊢
    split at h
    · contradiction
    · rename_i hs
      split at h
      · rename_i hn
        simp only [ne_eq, Decidable.not_not] at hs
        exact ⟨hs, ⟨by omega, fun _ => hn⟩, by simp [hs, hn]⟩
      · cases h
  · simp only [e, show ¬ (2 : Int) ≤ 1 by omega, if_false, if_true] at h ⊢
    unfold wText at h ⊢
    split at h
    · contradiction
    · rename_i hs
      split at h
      · rename_i hn
        simp only [ne_eq, Decidable.not_not] at hs
        exact ⟨hs, ⟨by omega, fun h => by simp at h⟩, by simp only [hs, ne_eq, not_true, if_false, if_pos hn, List.append_assoc]⟩
      · cases h
  · simp only [e, show ¬ (3 : Int) ≤ 1 by omega, show ¬ (3 : Int) = 2 by omega, if_false, if_true] at h ⊢
    unfold wText at h ⊢
    split at h
    · contradiction
    · rename_i hs
      split at h
      · rename_i hn
        simp only [ne_eq, Decidable.not_not] at hs
        exact ⟨hs, ⟨by omega, fun h => by simp at h⟩, by simp only [hs, ne_eq, not_true, if_false, if_pos hn, List.append_assoc]⟩
      · cases h
  · simp only [e, show ¬ (4 : Int) ≤ 1 by omega, show ¬ (4 : Int) = 2 by omega, show ¬ (4 : Int) = 3 by omega, if_false, if_true] at h ⊢
    unfold wFlag at h ⊢
    split at h
    · contradiction
    · rename_i hs
      simp only [ne_eq, Decidable.not_not] at hs
      exact ⟨hs, ⟨by omega, fun h => by simp at h⟩, by simp [hs]⟩
  · simp only [e, show ¬ (5 : Int) ≤ 1 by omega, show ¬ (5 : Int) = 2 by omega, show ¬ (5 : Int) = 3 by omega, show ¬ (5 : Int) = 4 by omega, if_false, if_true] at h ⊢
    unfold wWord at h ⊢
    split at h
    · contradiction
    · rename_i hs
      simp only [ne_eq, Decidable.not_not] at hs
      exact ⟨hs, ⟨by omega, fun h => by simp at h⟩, by simp [hs]⟩
  · simp only [show ¬ t.d ≤ 1 by omega, show ¬ t.d = 2 by omega, show ¬ t.d = 3 by omega, show ¬ t.d = 4 by omega, show ¬ t.d = 5 by omega, if_false] at h
    unfold wRefuse at h
    split at h
    · contradiction
    · cases h
/-- The bytes of things. -/
def encAll (l : List Thing) : List UInt8 := (l.map encThing).flatten
theorem wPuts_ok {l : List Thing} (h : (wPuts l).f = 0) : (∀ t ∈ l, okThing t) ∧ (wPuts l).b = encAll l := by
  have key : ∀ (l : List Thing) (s : WS), (l.foldl wPut s).f = 0 → s.f = 0 ∧ (∀ t ∈ l, okThing t) ∧ (l.foldl wPut s).b = s.b ++ encAll l := by
    intro l
    induction l with
    | nil => intro s h; exact ⟨h, by simp, by simp [encAll]⟩
    | cons t l ih =>
      intro s h
      obtain ⟨h1, h2, h3⟩ := ih _ h
      obtain ⟨h4, h5, h6⟩ := wPut_ok h1
      refine ⟨h4, ?_, ?_⟩
      · intro u hu
        rcases List.mem_cons.1 hu with rfl | hu
        · exact h5
        · exact h2 u hu
      · rw [List.foldl_cons, h3, h6]
        simp [encAll]
  have := key l ⟨[], 0⟩ h
  exact ⟨this.2.1, by rw [wPuts, this.2.2]; rfl⟩
theorem encAll_drop {l : List Thing} {k : Nat} {t : Thing} (h : l[k]? = some t) : encAll (l.drop k) = encThing t ++ encAll (l.drop (k + 1)) := by
  obtain ⟨hk, rfl⟩ := List.getElem?_eq_some_iff.1 h
  rw [List.drop_eq_getElem_cons hk]
  simp only [encAll, List.map_cons, List.flatten_cons]
theorem encAll_len (l : List Thing) (k : Nat) : (encAll (l.drop k)).length ≤ (encAll l).length := by
  have h : encAll l = encAll (l.take k) ++ encAll (l.drop k) := by
    rw [encAll, encAll, encAll, ← List.flatten_append, ← List.map_append, List.take_append_drop]
  rw [h, List.length_append]
  omega
section
variable {t : Thing} {r : List UInt8}
theorem back_num (h : okThing t) (hd : t.d ≤ 1) : rNum ⟨encThing t ++ r, 0⟩ = (t.n.toNat, ⟨r, 0⟩) := by
  have := h.2 hd
  simp [rNum, rDo, encThing, hd, decNum_back r (show t.n.toNat ≤ 1099511627776 by omega)]
theorem back_text (hd : t.d = 2) (hl : t.s.size ≤ 2000) : rBytes ⟨encThing t ++ r, 0⟩ 2000 = (t.s.data.toList, ⟨r, 0⟩) := by
  have hl' : t.s.data.toList.length ≤ 2000 := by simp; exact hl
  have := decBytes_back r hl'
  simp only [rBytes, rDo, encThing, hd, show ¬ (2 : Int) ≤ 1 by omega, if_false, if_true, ne_eq, not_true, this]
theorem back_bytes (hd : t.d = 3) (hl : t.b.length ≤ 2000) : rBytes ⟨encThing t ++ r, 0⟩ 2000 = (t.b, ⟨r, 0⟩) := by
  have := decBytes_back r hl
  simp only [rBytes, rDo, encThing, hd, show ¬ (3 : Int) ≤ 1 by omega, show ¬ (3 : Int) = 2 by omega, if_false, if_true, ne_eq, not_true, this]
theorem back_flag (hd : t.d = 4) : rFlag ⟨encThing t ++ r, 0⟩ = (t.flag, ⟨r, 0⟩) := by
  have := decFlag_back t.flag r
  simp only [rFlag, rDo, encThing, hd, show ¬ (4 : Int) ≤ 1 by omega, show ¬ (4 : Int) = 2 by omega, show ¬ (4 : Int) = 3 by omega, if_false, if_true, ne_eq, not_true, List.singleton_append, this]
theorem back_word (hd : t.d = 5) (hx : t.x ≤ 18446744073709551615) : rWord ⟨encThing t ++ r, 0⟩ = (t.x, ⟨r, 0⟩) := by
  have := decWord_back r hx
  simp only [rWord, rDo, encThing, hd, show ¬ (5 : Int) ≤ 1 by omega, show ¬ (5 : Int) = 2 by omega, show ¬ (5 : Int) = 3 by omega, show ¬ (5 : Int) = 4 by omega, if_false, ne_eq, not_true, this]
end
end Go.Proofs.Ytbfdnhffcdbidaa
