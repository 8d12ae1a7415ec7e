/- TallyChosen, the plain law. -/
import Derived.Test.YthlgnilgjeebaaaTalCP
namespace Go.Proofs.Ythlgnilgjeebaaa
open Go.RowKit
def chB (k : Nat) : Int := 7 + ((k % 2 : Nat) : Int)
def chV (I : List Int) (id : Int) (k : Nat) : Vote := if id ∈ I then vX 3 (chB k) 7 else vX 3 5 5
def hS (I P : List Int) : Nat → TS
  | 0 => ⟨99, 0, [], [], 0, []⟩
  | k + 1 => promS (hS I P k) (P.getD k 0) 0 [chV I (P.getD k 0) k]
/-- The value of the slot. -/
def HVal (I : List Int) (s : TS) : Prop := (s.pr = [] ∧ look s.best 3 = none) ∨ ∃ x, look s.best 3 = some x ∧ ((x.ballot = 5 ∧ x.value = reqX 5 ∧ ∀ p ∈ s.pr, p.1 ∉ I) ∨ (7 ≤ x.ballot ∧ x.value = reqX 7))
structure HInv (I : List Int) (s : TS) : Prop where
  zero : ∀ p ∈ s.pr, p.2 = 0
  val : HVal I s
theorem promS_best1 (s : TS) (id base : Int) (x : Vote) (hb : promB s id = true) : (promS s id base [x]).best = (stepV (s.best, s.top) x).1 := by
  rw [promS, if_pos hb]; rfl
theorem HInv.step {I : List Int} {s : TS} (h : HInv I s) (id : Int) (k : Nat) : HInv I (promS s id 0 [chV I id k]) := by
  by_cases hb : promB s id = true
  · have hpr : (promS s id 0 [chV I id k]).pr = putE s.pr id 0 := by rw [promS_pr, if_pos hb]
    have hbest := promS_best1 s id 0 (chV I id k) hb
    have hsl : (chV I id k).slot = 3 := by rw [chV]; split <;> rfl
    have hst : (stepV (s.best, s.top) (chV I id k)).1 = if putB s.best (chV I id k) then putE s.best 3 (chV I id k) else s.best := by
      rw [stepV, if_pos (by rw [hsl]; rfl), hsl]
    rw [hst] at hbest
    refine ⟨fun p hp => ?_, ?_⟩
    · rw [hpr] at hp
      rcases putE_mem hp with rfl | q
      · rfl
      · exact h.zero p q
    · right
      by_cases hI : id ∈ I
      · have hv : chV I id k = vX 3 (chB k) 7 := by rw [chV, if_pos hI]
        have h7 : 7 ≤ chB k := by unfold chB; omega
        rw [hv] at hbest
        by_cases hp : putB s.best (vX 3 (chB k) 7) = true
        · refine ⟨vX 3 (chB k) 7, by rw [hv, hbest, if_pos hp, look_put, if_pos rfl], .inr ⟨h7, rfl⟩⟩
        · rcases h.val with ⟨_, q⟩ | ⟨x, q1, q2⟩
          · exact absurd (by rw [putB, show look s.best (vX 3 (chB k) 7).slot = none from q]) hp
          · refine ⟨x, by rw [hv, hbest, if_neg hp, q1], ?_⟩
            rcases q2 with ⟨q2, _⟩ | q2
            · exact absurd (by rw [putB, show look s.best (vX 3 (chB k) 7).slot = some x from q1]; simp; omega) hp
            · exact .inr q2
      · have hv : chV I id k = vX 3 5 5 := by rw [chV, if_neg hI]
        rw [hv] at hbest
        rw [hv] at hpr ⊢
        rcases h.val with ⟨q0, q⟩ | ⟨x, q1, q2⟩
        · have hp : putB s.best (vX 3 5 5) = true := by rw [putB, show look s.best (vX 3 5 5).slot = none from q]
          refine ⟨vX 3 5 5, by rw [hbest, if_pos hp, look_put, if_pos rfl], .inl ⟨rfl, rfl, fun p hp => ?_⟩⟩
          rw [hpr, q0] at hp
          rcases putE_mem hp with rfl | q
          · exact hI
          · simp at q
        · have hp : putB s.best (vX 3 5 5) = false := by
            rw [putB, show look s.best (vX 3 5 5).slot = some x from q1]
            rcases q2 with ⟨q2, _⟩ | ⟨q2, _⟩ <;> simp <;> omega
          refine ⟨x, by rw [hbest, hp]; exact q1, ?_⟩
          rcases q2 with ⟨q2, q3, q4⟩ | q2
          · refine .inl ⟨q2, q3, fun p hp => ?_⟩
            rw [hpr] at hp
            rcases putE_mem hp with rfl | q
            · exact hI
            · exact q4 p q
          · exact .inr q2
  · have e : promS s id 0 [chV I id k] = s := by rw [promS, if_neg hb]
    rw [e]; exact h
theorem hS_inv (I P : List Int) : ∀ k, HInv I (hS I P k) ∧ TInv k (hS I P k)
  | 0 => ⟨⟨by simp [hS], .inl ⟨rfl, rfl⟩⟩, TInv.new 99 0⟩
  | k + 1 => ⟨(hS_inv I P k).1.step _ _, (hS_inv I P k).2.prom _ _ _⟩
theorem count_two {α : Type} (p q : α → Bool) : ∀ l : List α, (∀ x ∈ l, ¬ (p x = true ∧ q x = true)) → l.countP p + l.countP q ≤ l.length
  | [], _ => by simp
  | x :: l, h => by
    have ih := count_two p q l (fun y hy => h y (by simp [hy]))
    have hx := h x (by simp)
    rw [List.countP_cons, List.countP_cons, List.length_cons]
    cases hp : p x <;> cases hq : q x
    · simp; omega
    · simp; omega
    · simp; omega
    · exact absurd ⟨hp, hq⟩ hx
theorem most_two {M I J : List Int} (h1 : mostB M I = true) (h2 : mostB M J = true) : ∃ x, x ∈ I ∧ x ∈ J := by
  have h1' : quoN M ≤ cntM M I := of_decide_eq_true h1
  have h2' : quoN M ≤ cntM M J := of_decide_eq_true h2
  by_cases hn : ∃ x, x ∈ I ∧ x ∈ J
  · exact hn
  · have := count_two (fun x => I.contains x) (fun x => J.contains x) (setM M) (fun x _ hx => hn ⟨x, by simpa using hx.1, by simpa using hx.2⟩)
    have hl : (setM M).length ≤ M.length := by
      unfold setM
      exact Nat.le_trans (compact_le _) (by rw [List.length_mergeSort]; exact Nat.le_refl _)
    unfold cntM at h1' h2'
    unfold quoN at h1' h2'
    omega
/-- What was chosen counts. -/
theorem HInv.chosen {I M : List Int} {s : TS} (h : HInv I s) (h1 : readyB s 0 M = true) (h2 : mostB M I = true) : valR s 3 = reqX 7 ∧ (look s.best 3).isSome = true := by
  have h3 : mostB M (s.pr.map Prod.fst) = true := by
    rw [← h1]
    refine (mostB_mem (fun x => ?_)).symm
    rw [byR_mem]
    refine ⟨fun q => q.1, fun q => ⟨q, ?_⟩⟩
    have : prAt s x = 0 := by
      rw [prAt]
      cases hq : look s.pr x with
      | none => rfl
      | some a => exact h.zero _ (look_mem hq)
    rw [this]; rfl
  obtain ⟨x, hx1, hx2⟩ := most_two h3 h2
  obtain ⟨p, hp, rfl⟩ := List.mem_map.1 hx1
  rcases h.val with ⟨q, _⟩ | ⟨y, q1, ⟨_, _, q2⟩ | ⟨_, q2⟩⟩
  · rw [q] at hp; simp at hp
  · exact absurd hx2 (q2 p hp)
  · rw [valR, q1]; exact ⟨q2, rfl⟩
end Go.Proofs.Ythlgnilgjeebaaa
