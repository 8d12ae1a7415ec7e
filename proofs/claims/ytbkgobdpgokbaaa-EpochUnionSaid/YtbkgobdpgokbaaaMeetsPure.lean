/- Two majorities of the same members have one in common. -/
import Derived.Test.YtbkgobdpgokbaaaSets
namespace Go.Proofs.Ytbkgobdpgokbaaa
theorem GoodM.lt {M : List Int} (h : GoodM M) : ∀ d i, i + d + 1 < M.length → M.getD i 0 < M.getD (i + d + 1) 0
  | 0, i, hi => h.2.2 i (by omega)
  | d + 1, i, hi => by
    have h1 := GoodM.lt h d i (by omega)
    have h2 := h.2.2 (i + d + 1) (by omega)
    rw [show i + (d + 1) + 1 = i + d + 1 + 1 by omega]
    omega
theorem GoodM.pair {M : List Int} (h : GoodM M) : M.Pairwise (fun x y => x < y) := by
  rw [List.pairwise_iff_getElem]
  intro i j hi hj hij
  have := h.lt (j - i - 1) i (by omega)
  rw [show i + (j - i - 1) + 1 = j by omega] at this
  simpa [hi, hj] using this
theorem GoodM.set {M : List Int} (h : GoodM M) : setM M = M := by
  have h1 : M.mergeSort leI = M := List.mergeSort_of_pairwise (h.pair.imp (fun hxy => by simp; omega))
  rw [setM, h1]
  refine Go.Lib.compact_all M (fun j hj => ?_)
  simp only [Go.Lib.keeps, decide_eq_true_eq]
  rcases Nat.eq_zero_or_pos j with h0 | h0
  · exact .inl h0
  · right
    have := h.2.2 (j - 1) (by omega)
    rw [show j - 1 + 1 = j by omega] at this
    have e1 : M.toArray[j]! = M.getD j 0 := by simp [hj, getElem!_pos]
    have e2 : M.toArray[j - 1]! = M.getD (j - 1) 0 := by simp [show j - 1 < M.length by omega, getElem!_pos]
    rw [e1, e2]
    omega
theorem cntR_countP (M I : List Int) : ∀ k, k ≤ M.length → cntR M I k ≤ (M.take k).countP (fun x => I.contains x)
  | 0, _ => Nat.zero_le _
  | k + 1, hk => by
    have h1 := cntR_countP M I k (by omega)
    have h2 := countP_take (fun x => I.contains x) M k (M.getD k 0) (by simp [show k < M.length by omega])
    rw [h2, cntR]
    split
    · rename_i h
      rw [if_pos (by simpa using h.1)]
      omega
    · omega
theorem countP_two {p q : Int → Bool} : ∀ l : List Int, (∀ x ∈ l, p x = true → q x = false) → l.countP p + l.countP q ≤ l.length
  | [], _ => by simp
  | x :: l, h => by
    have h1 := countP_two l (fun y hy => h y (List.mem_cons_of_mem _ hy))
    have h2 := h x (by simp)
    rw [List.countP_cons, List.countP_cons, List.length_cons]
    cases hp : p x <;> cases hq : q x
    · simp; omega
    · simp; omega
    · simp; omega
    · rw [h2 hp] at hq; cases hq
/-- Two lists apart are not both most of the members. -/
theorem meets {M I J : List Int} (hM : GoodM M) (hI : mostB M I = true) (hd : ∀ x ∈ I, x ∉ J) : decide (quoN M ≤ cntR M J M.length) = false := by
  have h1 : quoN M ≤ cntM M I := by simpa [mostB] using hI
  rw [cntM, hM.set] at h1
  have h2 := cntR_countP M J M.length (Nat.le_refl _)
  rw [List.take_length] at h2
  have h3 := countP_two (p := fun x => I.contains x) (q := fun x => J.contains x) M (fun x _ hx => by
    have := hd x (by simpa using hx)
    simpa using this)
  apply decide_eq_false
  intro h4
  unfold quoN at h1 h4
  omega
theorem most_some {M I : List Int} (hI : mostB M I = true) : ∃ x, x ∈ I := by
  cases I with
  | cons x I => exact ⟨x, by simp⟩
  | nil =>
    have h1 : quoN M ≤ cntM M [] := by simpa [mostB] using hI
    simp [cntM, quoN] at h1
end Go.Proofs.Ytbkgobdpgokbaaa
