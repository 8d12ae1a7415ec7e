/- Both unions are one. -/
import Derived.Test.YtbkgobdpgokbaaaEpUniR
namespace Go.Proofs.Ytbkgobdpgokbaaa
open Go.Lib
theorem sorted_upTo (d : Array Int) (hs : ∀ i j, i ≤ j → j < d.size → d[i]! ≤ d[j]!) : ∀ m, m ≤ d.size → (compactUpTo d m).Pairwise (· < ·)
  | 0, _ => by simp [compactUpTo]
  | m + 1, hm => by
    rw [compactUpTo_succ, List.pairwise_append]
    refine ⟨sorted_upTo d hs m (by omega), by split <;> simp, fun a ha b hb => ?_⟩
    by_cases hk : keeps d m = true
    · rw [if_pos hk, List.mem_singleton] at hb
      obtain ⟨j, h1, h2⟩ := (mem_upTo d a m).1 ha
      simp only [keeps, decide_eq_true_eq] at hk
      have hne : d[m]! ≠ d[m - 1]! := hk.resolve_left (by omega)
      have q1 := hs j (m - 1) (by omega) (by omega)
      have q2 := hs (m - 1) m (by omega) (by omega)
      rw [hb, ← h2]
      omega
    · rw [if_neg hk] at hb; cases hb
theorem setM_sorted (M : List Int) : (setM M).Pairwise (· < ·) := by
  have hp : (M.mergeSort leI).Pairwise (fun a b => leI a b = true) := List.pairwise_mergeSort (fun a b c h1 h2 => by simp [leI] at *; omega) (fun a b => by simp [leI]; omega) M
  refine sorted_upTo _ (fun i j hij hj => ?_) _ (by simp)
  have hj' : j < (M.mergeSort leI).length := by simpa using hj
  rw [getElem!_pos (M.mergeSort leI).toArray i (Nat.lt_of_le_of_lt hij hj), getElem!_pos (M.mergeSort leI).toArray j hj]
  rcases Nat.lt_or_ge i j with h | h
  · have := List.pairwise_iff_getElem.1 hp i j (by omega) hj' h
    simpa [leI] using this
  · obtain rfl : i = j := by omega
    exact Int.le_refl _
theorem union_same {L : List Ep} (h : ∀ e ∈ L, mayP e.2) : setM (unL L) = memL (inU L) := by
  refine sorted_ext (setM_sorted _) (memL_sorted _) (fun x => ?_)
  rw [setM_mem, memL_mem, unL, List.mem_flatMap, inU, List.any_eq_true]
  constructor
  · rintro ⟨e, he, hx⟩
    exact ⟨(h e he).mem hx, e, he, by simpa using hx⟩
  · rintro ⟨_, e, he, hx⟩
    exact ⟨e, he, by simpa using hx⟩
end Go.Proofs.Ytbkgobdpgokbaaa
