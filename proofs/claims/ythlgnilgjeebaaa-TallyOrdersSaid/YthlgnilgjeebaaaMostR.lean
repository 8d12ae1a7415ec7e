/- Both ways of counting most members are one. -/
import Derived.Test.YthlgnilgjeebaaaSets
namespace Go.Proofs.Ythlgnilgjeebaaa
open Go.Lib
theorem mem_upTo (d : Array Int) (x : Int) : ∀ m, x ∈ compactUpTo d m ↔ ∃ j, j < m ∧ d[j]! = x
  | 0 => by simp [compactUpTo]
  | m + 1 => by
    rw [compactUpTo_succ, List.mem_append, mem_upTo d x m]
    constructor
    · rintro (⟨j, h1, h2⟩ | h)
      · exact ⟨j, by omega, h2⟩
      · by_cases hk : keeps d m = true
        · rw [if_pos hk, List.mem_singleton] at h
          exact ⟨m, by omega, h.symm⟩
        · rw [if_neg hk] at h; cases h
    · rintro ⟨j, h1, h2⟩
      by_cases hj : j < m
      · exact .inl ⟨j, hj, h2⟩
      · obtain rfl : j = m := by omega
        by_cases hk : keeps d j = true
        · right; rw [if_pos hk, h2]; simp
        · left
          simp only [keeps, decide_eq_true_eq, not_or, ne_eq, Decidable.not_not] at hk
          exact ⟨j - 1, by omega, by rw [← hk.2]; exact h2⟩
theorem nodup_upTo (d : Array Int) (hs : ∀ i j, i ≤ j → j < d.size → d[i]! ≤ d[j]!) : ∀ m, m ≤ d.size → (compactUpTo d m).Nodup
  | 0, _ => by simp [compactUpTo]
  | m + 1, hm => by
    rw [compactUpTo_succ, List.nodup_append]
    refine ⟨nodup_upTo d hs m (by omega), by split <;> simp, fun a ha b hb => ?_⟩
    by_cases hk : keeps d m = true
    · rw [if_pos hk, List.mem_singleton] at hb
      obtain ⟨j, h1, h2⟩ := (mem_upTo d a m).1 ha
      simp only [keeps, decide_eq_true_eq] at hk
      have hne : d[m]! ≠ d[m - 1]! := hk.resolve_left (by omega)
      have q1 := hs j (m - 1) (by omega) (by omega)
      have q2 := hs (m - 1) m (by omega) (by omega)
      rw [hb, ← h2]
      omega
    · rw [if_neg hk] at hb; cases hb
theorem setM_mem (M : List Int) (x : Int) : x ∈ setM M ↔ x ∈ M := by
  rw [setM, compact, mem_upTo]
  constructor
  · rintro ⟨j, h1, h2⟩
    rw [← h2, getElem!_pos _ _ (by simpa using h1)]
    have : (M.mergeSort leI)[j]'(by simpa using h1) ∈ M.mergeSort leI := List.getElem_mem _
    exact (List.mergeSort_perm M leI).mem_iff.1 this
  · intro h
    have h : x ∈ M.mergeSort leI := by simpa using h
    obtain ⟨j, hj⟩ := List.getElem?_of_mem h
    have hl := (List.getElem?_eq_some_iff.1 hj).1
    refine ⟨j, hl, ?_⟩
    rw [getElem!_pos _ _ (by simpa using hl)]
    simpa using (List.getElem?_eq_some_iff.1 hj).2
theorem setM_nodup (M : List Int) : (setM M).Nodup := by
  have hp : (M.mergeSort leI).Pairwise (fun a b => leI a b = true) := List.pairwise_mergeSort (fun a b c h1 h2 => by simp [leI] at *; omega) (fun a b => by simp [leI]; omega) M
  refine nodup_upTo _ (fun i j hij hj => ?_) _ (by simp)
  have hj' : j < (M.mergeSort leI).length := by simpa using hj
  rw [getElem!_pos (M.mergeSort leI).toArray i (Nat.lt_of_le_of_lt hij hj), getElem!_pos (M.mergeSort leI).toArray j hj]
  rcases Nat.lt_or_ge i j with h | h
  · have := List.pairwise_iff_getElem.1 hp i j (by omega) hj' h
    simpa [leI] using this
  · obtain rfl : i = j := by omega
    exact Int.le_refl _
/-- The members, each where it first stands. -/
def firstsR (M : List Int) : Nat → List Int
  | 0 => []
  | k + 1 => firstsR M k ++ if M.getD k 0 ∈ M.take k then [] else [M.getD k 0]
theorem take_next {M : List Int} {k : Nat} (h : k < M.length) : M.take (k + 1) = M.take k ++ [M.getD k 0] := by
  rw [List.take_add_one]; simp [h]
theorem firsts_mem (M : List Int) (x : Int) : ∀ k, k ≤ M.length → (x ∈ firstsR M k ↔ x ∈ M.take k)
  | 0, _ => by simp [firstsR]
  | k + 1, hk => by
    rw [firstsR, List.mem_append, firsts_mem M x k (by omega), take_next (by omega), List.mem_append, List.mem_singleton]
    split
    · rename_i h
      constructor
      · rintro (q | q)
        · exact .inl q
        · cases q
      · rintro (q | rfl)
        · exact .inl q
        · exact .inl h
    · simp
theorem firsts_nodup (M : List Int) : ∀ k, k ≤ M.length → (firstsR M k).Nodup
  | 0, _ => by simp [firstsR]
  | k + 1, hk => by
    rw [firstsR, List.nodup_append]
    refine ⟨firsts_nodup M k (by omega), by split <;> simp, fun a ha b hb => ?_⟩
    split at hb
    · cases hb
    · rename_i h
      rw [List.mem_singleton] at hb
      subst hb
      intro e
      exact h (by rw [← e]; exact (firsts_mem M a k (by omega)).1 ha)
theorem cntR_firsts (M I : List Int) : ∀ k, cntR M I k = (firstsR M k).countP (fun x => I.contains x)
  | 0 => rfl
  | k + 1 => by
    rw [cntR, firstsR, List.countP_append, cntR_firsts M I k]
    congr 1
    by_cases h1 : M.getD k 0 ∈ M.take k <;> by_cases h2 : M.getD k 0 ∈ I
    · rw [if_neg (fun q => q.2 h1), if_pos h1]; rfl
    · rw [if_neg (fun q => q.2 h1), if_pos h1]; rfl
    · rw [if_pos ⟨h2, h1⟩, if_neg h1, List.countP_cons_of_pos (by simpa using h2)]; rfl
    · rw [if_neg (fun q => h2 q.1), if_neg h1, List.countP_cons_of_neg (by simpa using h2)]; rfl
theorem countP_same {p : Int → Bool} : ∀ {l l' : List Int}, l.Nodup → l'.Nodup → (∀ x, x ∈ l ↔ x ∈ l') → l.countP p = l'.countP p
  | [], l', _, _, h => by
    have : l' = [] := List.eq_nil_iff_forall_not_mem.2 (fun x hx => by simpa using (h x).2 hx)
    rw [this]
  | a :: l, l', h1, h2, h => by
    have ha : a ∈ l' := (h a).1 (by simp)
    have hp := List.perm_cons_erase ha
    rw [hp.countP_eq, List.countP_cons, List.countP_cons, countP_same (List.nodup_cons.1 h1).2 (h2.erase a) (fun x => by
      rw [h2.mem_erase_iff, ← h x, List.mem_cons]
      constructor
      · intro hx
        exact ⟨fun e => (List.nodup_cons.1 h1).1 (by rw [← e]; exact hx), .inr hx⟩
      · rintro ⟨q1, q2 | q2⟩
        · exact absurd q2 q1
        · exact q2)]
theorem cntM_cntR (M I : List Int) : cntM M I = cntR M I M.length := by
  rw [cntM, cntR_firsts]
  exact countP_same (setM_nodup M) (firsts_nodup M _ (Nat.le_refl _)) (fun x => by
    rw [setM_mem, firsts_mem M x _ (Nat.le_refl _), List.take_length])
/-- What the program and the reference say of most members is the same. -/
theorem mostB_ref (M I : List Int) : decide (quoN M ≤ cntR M I M.length) = mostB M I := by
  rw [mostB, cntM_cntR]
end Go.Proofs.Ythlgnilgjeebaaa
