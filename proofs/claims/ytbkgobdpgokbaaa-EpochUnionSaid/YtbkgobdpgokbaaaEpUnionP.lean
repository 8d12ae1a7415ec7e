/- EpochUnion: who is a member of any slot from the cut on. The plain law. -/
import Derived.Test.YtbkgobdpgokbaaaEpCuts
import Derived.Test.YtbkgobdpgokbaaaEpUniP
namespace Go.Proofs.Ytbkgobdpgokbaaa
open Go.RowKit
theorem atP_spec (L : List Ep) (s : Int) : ∀ k, (∀ i, atP L s k < i → i < k → s < (L.getD i (0, [])).1) ∧ (atP L s k = 0 ∨ (L.getD (atP L s k) (0, [])).1 ≤ s)
  | 0 => ⟨fun i _ h => by omega, .inl rfl⟩
  | k + 1 => by
    obtain ⟨h1, h2⟩ := atP_spec L s k
    rw [atP]
    split
    · rename_i h
      exact ⟨fun i a b => by omega, .inr h⟩
    · rename_i h
      refine ⟨fun i a b => ?_, h2⟩
      by_cases e : i = k
      · subst e; omega
      · exact h1 i a (by omega)
def USort (L : List Ep) : Prop := L.Pairwise (fun a b => a.1 < b.1)
theorem USort.lt {L : List Ep} (h : USort L) {i j : Nat} {x y : Ep} (hij : i < j) (hx : L[i]? = some x) (hy : L[j]? = some y) : x.1 < y.1 := by
  obtain ⟨hi, rfl⟩ := List.getElem?_eq_some_iff.1 hx
  obtain ⟨hj, rfl⟩ := List.getElem?_eq_some_iff.1 hy
  exact List.pairwise_iff_getElem.1 h i j hi hj hij
theorem USort.last {L : List Ep} (h : USort L) (h0 : 0 < L.length) {x : Ep} (hx : x ∈ L) : x.1 ≤ (lastE L).1 := by
  obtain ⟨i, hi⟩ := List.getElem?_of_mem hx
  have hl := lastE_mem h0
  have hil := (List.getElem?_eq_some_iff.1 hi).1
  by_cases e : i = L.length - 1
  · subst e
    rw [hi] at hl
    cases hl
    exact Int.le_refl _
  · exact Int.le_of_lt (h.lt (by omega) hi hl)
theorem USort.change {al : Int} {L : List Ep} (h : USort L) (hok : EOk al L) (slot m : Int) (add : Bool) : USort (chL al L slot m add) := by
  unfold chL
  split
  case isFalse => exact h
  case isTrue h0 =>
    obtain ⟨_, e, _⟩ := chE_zero.1 h0
    refine List.pairwise_append.2 ⟨h, List.pairwise_singleton _ _, fun a ha b hb => ?_⟩
    rw [List.mem_singleton] at hb
    subst hb
    have := h.last hok.2.2.1 ha
    have := hok.1
    simp only
    omega
theorem USort.at {L : List Ep} (h : USort L) {i : Nat} {x : Ep} (hx : L[i]? = some x) : atE L x.1 = x := by
  have hi := (List.getElem?_eq_some_iff.1 hx).1
  obtain ⟨h1, h2⟩ := atP_spec L x.1 L.length
  have hm := atE_mem (L := L) (by omega) x.1
  have hlt := atP_lt L x.1 L.length (by omega)
  have e : atP L x.1 L.length = i := by
    rcases Nat.lt_trichotomy (atP L x.1 L.length) i with q | q | q
    · have := h1 i q hi
      rw [List.getD_eq_getElem?_getD, hx] at this
      simp at this
    · exact q
    · rcases h2 with h2 | h2
      · omega
      · have h3 := h.lt q hx hm
        rw [List.getD_eq_getElem?_getD, hm] at h2
        simp at h2
        omega
  rw [e, hx] at hm
  exact (Option.some.inj hm).symm
def seenE (L : List Ep) (cut : Int) (k : Nat) (x : Int) : Bool := (List.range k).any (fun (j : Nat) => (atE L (cut + (j : Int))).2.contains x)
theorem seenE_succ (L : List Ep) (cut : Int) (k : Nat) (x : Int) : seenE L cut (k + 1) x = (seenE L cut k x || (atE L (cut + (k : Int))).2.contains x) := by
  unfold seenE
  rw [List.range_succ, List.any_append]
  simp
/-- Who is seen from the cut on is in the union, and nobody else is. -/
theorem seen_all {L : List Ep} {cut last : Int} (h0 : 0 < L.length) (hs : USort L) (hl : ∀ x ∈ L, x.1 ≤ last) (hc : cut ≤ last) (x : Int) :
    seenE (L.drop (atP L cut L.length)) cut ((last - cut).toNat + 1) x = inU (L.drop (atP L cut L.length)) x := by
  have hc1 := atP_lt L cut L.length h0
  have h20 : 0 < (L.drop (atP L cut L.length)).length := by rw [List.length_drop]; omega
  rw [Bool.eq_iff_iff, seenE, List.any_eq_true, inU, List.any_eq_true]
  constructor
  · rintro ⟨j, _, hx⟩
    exact ⟨_, List.mem_of_getElem? (atE_mem h20 _), hx⟩
  · rintro ⟨e, he, hx⟩
    obtain ⟨i, hi⟩ := List.getElem?_of_mem he
    rw [List.getElem?_drop] at hi
    by_cases e0 : i = 0
    · subst e0
      refine ⟨0, by simp, ?_⟩
      rw [atE_drop h0 (by simp)]
      have hm := atE_mem h0 cut
      rw [Nat.add_zero, hm] at hi
      cases hi
      simpa using hx
    · have hil := (List.getElem?_eq_some_iff.1 hi).1
      have hgt := (atP_spec L cut L.length).1 (atP L cut L.length + i) (by omega) hil
      rw [List.getD_eq_getElem?_getD, hi] at hgt
      simp at hgt
      have hle := hl e (List.mem_of_getElem? hi)
      refine ⟨(e.1 - cut).toNat, by rw [List.mem_range]; omega, ?_⟩
      rw [show cut + (((e.1 - cut).toNat : Nat) : Int) = e.1 by omega, atE_drop h0 (by omega), hs.at hi]
      exact hx
theorem memL_nth {p : Int → Bool} {k : Nat} (hk : k < 15) (hp : p (k : Int) = true) : (memL p)[(memK p k).length]? = some (k : Int) := by
  have h : ∀ n, k + 1 ≤ n → (memK p n)[(memK p k).length]? = some (k : Int) := by
    intro n
    induction n with
    | zero => intro h; omega
    | succ n ih =>
      intro h
      rw [memK_succ]
      by_cases e : n = k
      · subst e
        rw [hp, List.getElem?_append_right (Nat.le_refl _)]
        simp
      · have := ih (by omega)
        rw [List.getElem?_append_left (List.getElem?_eq_some_iff.1 this).1]
        exact this
  exact h 15 (by omega)
/-- Fifteen bools. -/
def boolC (p : Int → Bool) : Array Value := ((List.range 15).map (fun (i : Nat) => Value.bool (p (i : Int)))).toArray
theorem boolC_get (p : Int → Bool) {i : Nat} (hi : i < 15) : (boolC p)[i]? = some (.bool (p (i : Int))) := by simp [boolC, hi]
theorem boolC_set (p : Int → Bool) {i : Nat} (hi : i < 15) : (boolC p).setIfInBounds i (.bool true) = boolC (fun x => p x || x == (i : Int)) := by
  apply Array.ext_getElem?
  intro j
  rw [Array.getElem?_setIfInBounds]
  by_cases hj : j < 15
  · rw [boolC_get _ hj, boolC_get _ hj]
    by_cases e : i = j
    · subst e; simp [boolC, hi]
    · rw [if_neg e]
      have : ((j : Int) == (i : Int)) = false := by simp; omega
      rw [this, Bool.or_false]
  · have h1 : ∀ q : Int → Bool, (boolC q)[j]? = none := fun q => by simp [boolC, hj]
    rw [h1, h1, if_neg (by omega)]
theorem boolC_congr {p q : Int → Bool} (h : ∀ x, p x = q x) : boolC p = boolC q := by
  have : p = q := funext h
  rw [this]
theorem and63 (x : Int) : ∃ k : Nat, k ≤ 63 ∧ bits .and .i64 x 63 = (k : Int) := by
  have h : (BitVec.ofInt 64 x &&& 63#64).toNat ≤ 63 := by rw [BitVec.toNat_and]; exact Nat.and_le_right
  have e : bits .and .i64 x 63 = IntKind.i64.wrap ((BitVec.ofInt 64 x &&& 63#64).toNat : Int) := rfl
  refine ⟨_, h, ?_⟩
  rw [e]
  generalize (BitVec.ofInt 64 x &&& 63#64).toNat = q at *
  simp [IntKind.wrap, IntKind.bits, IntKind.signed]
  omega
end Go.Proofs.Ytbkgobdpgokbaaa
