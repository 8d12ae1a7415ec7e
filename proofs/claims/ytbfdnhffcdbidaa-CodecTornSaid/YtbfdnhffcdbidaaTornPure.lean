/- Frames that were cut, turned, lengthened: plain laws. -/
import Derived.Test.YtbfdnhffcdbidaaFrame
import Derived.Test.YtbfdnhffcdbidaaBackPure
namespace Go.Proofs.Ytbfdnhffcdbidaa

theorem getD_l {a b : List UInt8} {i : Nat} (h : i < a.length) : (a ++ b).getD i 0 = a.getD i 0 := by
  simp [List.getD_eq_getElem?_getD, List.getElem?_append_left h]
theorem getD_r {a b : List UInt8} {i : Nat} (h : a.length ≤ i) : (a ++ b).getD i 0 = b.getD (i - a.length) 0 := by
  simp [List.getD_eq_getElem?_getD, List.getElem?_append_right h]
theorem bigNum_foldl (l : List UInt8) (x : Nat) : l.foldl (fun x c => x * 256 + c.toNat) x = x * 256 ^ l.length + bigNum l := by
  unfold bigNum
  induction l generalizing x with
  | nil => simp
  | cons c l ih =>
    rw [List.foldl_cons, List.foldl_cons, ih, ih (0 * 256 + c.toNat), List.length_cons, Nat.pow_succ, Nat.add_mul, Nat.add_mul, Nat.zero_mul]
    have : x * 256 * 256 ^ l.length = x * (256 ^ l.length * 256) := by rw [Nat.mul_assoc, Nat.mul_comm 256]
    omega
theorem bigNum_other (a b : List UInt8) {c d : UInt8} (h : c ≠ d) : bigNum (a ++ c :: b) ≠ bigNum (a ++ d :: b) := by
  have key : ∀ u : UInt8, bigNum (a ++ u :: b) = (bigNum a * 256 + u.toNat) * 256 ^ b.length + bigNum b := fun u => by
    rw [bigNum, List.foldl_append, List.foldl_cons, bigNum_foldl]; rfl
  intro e
  rw [key, key] at e
  have e2 := Nat.eq_of_mul_eq_mul_right (Nat.pow_pos (by decide : 0 < 256)) (Nat.add_right_cancel e)
  exact h (UInt8.toNat.inj (by omega))
theorem set_parts {l : List UInt8} {i : Nat} (h : i < l.length) (c : UInt8) : ∃ a b, l = a ++ l.getD i 0 :: b ∧ l.set i c = a ++ c :: b := by
  refine ⟨l.take i, l.drop (i + 1), ?_, ?_⟩
  · rw [List.getD_eq_getElem?_getD, List.getElem?_eq_getElem h, Option.getD_some, List.getElem_cons_drop, List.take_append_drop]
  · rw [List.set_eq_take_append_cons_drop, if_pos h]
theorem crc_set {l : List UInt8} {i : Nat} (h : i < l.length) {c : UInt8} (hc : c ≠ l.getD i 0) : crc (l.set i c) ≠ crc l := by
  obtain ⟨a, b, e1, e2⟩ := set_parts h c
  rw [e2]
  intro e
  rw [e1] at e
  have : (a ++ l.getD i 0 :: b).getD i 0 = l.getD i 0 := by rw [← e1]
  exact crc_other a b hc (by rw [e])
theorem bigNum_set {l : List UInt8} {i : Nat} (h : i < l.length) {c : UInt8} (hc : c ≠ l.getD i 0) : bigNum (l.set i c) ≠ bigNum l := by
  obtain ⟨a, b, e1, e2⟩ := set_parts h c
  rw [e2]
  intro e
  rw [e1] at e
  exact bigNum_other a b hc e

/-- What is read of bytes that begin with a head. -/
theorem unframe_parts (a s r : List UInt8) (ha : a.length = 4) (hs : s.length = 4) : unframe (a ++ s ++ r) =
    if crc a ≠ bigNum s then ([], 0, 5) else if 1048576 < bigNum a then ([], 0, 3) else if r.length < bigNum a + 4 then ([], 0, 2)
    else if crc (r.take (bigNum a)) ≠ bigNum ((r.drop (bigNum a)).take 4) then ([], 0, 5) else (r.take (bigNum a), bigNum a + 12, 0) := by
  have h1 : (a ++ s ++ r).take 4 = a := by rw [List.append_assoc, List.take_left' ha]
  have h2 : ((a ++ s ++ r).drop 4).take 4 = s := by rw [List.append_assoc, List.drop_left' ha, List.take_left' hs]
  have h3 : (a ++ s ++ r).drop 8 = r := List.drop_left' (by simp; omega)
  have h4 : ∀ n, (a ++ s ++ r).drop (8 + n) = r.drop n := fun n => by rw [← List.drop_drop, h3]
  have h5 : (a ++ s ++ r).length = 8 + r.length := by simp; omega
  rw [unframe, h1, h2, h3, h4, h5, if_neg (by omega)]
  have h6 : (8 + r.length < bigNum a + 12) = (r.length < bigNum a + 4) := by rw [eq_iff_iff]; omega
  simp only [h6]
section
variable (l : List UInt8)
theorem head_big (hl : l.length ≤ 5000) : bigNum (layBytes 4 l.length) = l.length := bigNum_back (by omega)
theorem sum_big (l : List UInt8) : bigNum (layBytes 4 (crc l)) = crc l := bigNum_back (by have := crc_lt l; omega)
theorem frame_len : (frameOf l).length = l.length + 12 := by simp [frameOf, layBytes_len]; omega
theorem frame_split : frameOf l = layBytes 4 l.length ++ layBytes 4 (crc (layBytes 4 l.length)) ++ (l ++ layBytes 4 (crc l)) := by simp [frameOf]
theorem unframe_more (hl : l.length ≤ 5000) (m : List UInt8) : unframe (frameOf l ++ m) = (l, l.length + 12, 0) := by
  rw [frame_split, List.append_assoc _ _ m, unframe_parts _ _ _ (layBytes_len _ _) (layBytes_len _ _), head_big l hl, sum_big, if_neg (fun q => q rfl), if_neg (by omega), if_neg (by simp [layBytes_len])]
  have h1 : (l ++ layBytes 4 (crc l) ++ m).take l.length = l := by rw [List.append_assoc, List.take_left]
  have h2 : ((l ++ layBytes 4 (crc l) ++ m).drop l.length).take 4 = layBytes 4 (crc l) := by rw [List.append_assoc, List.drop_left, List.take_left' (layBytes_len _ _)]
  rw [h1, h2, sum_big, if_neg (fun q => q rfl)]
theorem unframe_cut (hl : l.length ≤ 5000) {k : Nat} (hk : k < l.length + 12) : (unframe ((frameOf l).take k)).2.2 = 2 := by
  by_cases h8 : k < 8
  · rw [unframe, if_pos (by rw [List.length_take]; omega)]
  · have e : (frameOf l).take k = layBytes 4 l.length ++ layBytes 4 (crc (layBytes 4 l.length)) ++ (l ++ layBytes 4 (crc l)).take (k - 8) := by
      rw [frame_split, List.take_append, List.take_of_length_le (by simp [layBytes_len]; omega)]
      simp [layBytes_len]
    rw [e, unframe_parts _ _ _ (layBytes_len _ _) (layBytes_len _ _), head_big l hl, sum_big, if_neg (fun q => q rfl), if_neg (by omega), if_pos (by simp [layBytes_len]; omega)]
theorem unframe_turn (hl : l.length ≤ 5000) {k : Nat} (hk : k < l.length + 12) {c : UInt8} (hc : c ≠ (frameOf l).getD k 0) : (unframe ((frameOf l).set k c)).2.2 = 5 := by
  have hA := layBytes_len 4 l.length
  have hS := layBytes_len 4 (crc (layBytes 4 l.length))
  have hT := layBytes_len 4 (crc l)
  have hb := head_big l hl
  have hs := sum_big (layBytes 4 l.length)
  have ht := sum_big l
  rw [frame_split] at hc ⊢
  generalize layBytes 4 (crc l) = t at *
  generalize layBytes 4 (crc (layBytes 4 l.length)) = s at *
  generalize layBytes 4 l.length = a at *
  rw [List.append_assoc] at hc ⊢
  by_cases h4 : k < 4
  · rw [List.set_append_left _ _ (by omega), ← List.append_assoc, unframe_parts _ _ _ (by simp [hA]) hS, if_pos]
    rw [getD_l (by omega)] at hc
    rw [hs]
    exact crc_set (by omega) hc
  rw [List.set_append_right _ _ (by omega)]
  rw [getD_r (by omega)] at hc
  by_cases h8 : k < 8
  · rw [List.set_append_left _ _ (by omega), ← List.append_assoc, unframe_parts _ _ _ hA (by simp [hS]), if_pos]
    rw [getD_l (by omega)] at hc
    rw [← hs]
    exact (bigNum_set (by omega) hc).symm
  rw [List.set_append_right _ _ (by omega), ← List.append_assoc, unframe_parts _ _ _ hA hS, hb, hs, if_neg (fun q => q rfl), if_neg (by omega), if_neg (by simp; omega)]
  rw [getD_r (by omega)] at hc
  by_cases hn : k < l.length + 8
  · rw [List.set_append_left _ _ (by omega), List.take_left' (by simp), List.drop_left' (by simp), List.take_of_length_le (by omega), if_pos]
    rw [getD_l (by omega)] at hc
    rw [ht]
    exact crc_set (by omega) hc
  · rw [List.set_append_right _ _ (by omega), List.take_left, List.drop_left, List.take_of_length_le (by simp; omega), if_pos]
    rw [getD_r (by omega)] at hc
    rw [← ht]
    exact (bigNum_set (by omega) hc).symm
end
end Go.Proofs.Ytbfdnhffcdbidaa
