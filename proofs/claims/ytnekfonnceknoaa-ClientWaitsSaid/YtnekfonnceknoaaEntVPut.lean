/- entry.Told: a verdict is written. -/
import Derived.Test.YtnekfonnceknoaaE2
import Derived.Test.YtnekfonnceknoaaEntPureV
namespace Go.Proofs.Ytnekfonnceknoaa
open Go.RowKit
theorem isE (p : ByteArray) : p.toList.isEmpty = decide (p = ByteArray.empty) := by
  have h := path_iff p ByteArray.empty
  have h0 : ByteArray.empty.toList = [] := by rw [ByteArray.toList_eq]; rfl
  rw [h0] at h
  by_cases hp : p = ByteArray.empty
  · rw [decide_eq_true hp, h.2 hp]; rfl
  · rw [decide_eq_false hp]
    cases hl : p.toList
    · exact absurd (h.1 hl) hp
    · rfl
theorem pureB_only (x : Verdict) (h : 0 ≤ x.code ∧ x.code < 15) : pureB x.code (x.session == 0) (x.rev == 0) x.path.toList.isEmpty ((x.digest : Int) == 0) ((x.commits.length : Int) == 0) (x.member == 0) = decide (x = onlyV x) := by
  obtain ⟨k, ses, rev, path, dig, coms, mem⟩ := x
  simp only at h
  rw [isE]
  have : k = 0 ∨ k = 1 ∨ k = 2 ∨ k = 3 ∨ k = 4 ∨ k = 5 ∨ k = 6 ∨ k = 7 ∨ k = 8 ∨ k = 9 ∨ k = 10 ∨ k = 11 ∨ k = 12 ∨ k = 13 ∨ k = 14 := by omega
  have hd : ((dig : Int) == 0) = decide (dig = 0) := by by_cases q : dig = 0 <;> simp [q]
  have hc : ((coms.length : Int) == 0) = decide (coms = []) := by cases coms <;> simp; omega
  rw [hd, hc]
  rcases this with rfl | rfl | rfl | rfl | rfl | rfl | rfl | rfl | rfl | rfl | rfl | rfl | rfl | rfl | rfl <;> rw [Bool.eq_iff_iff] <;> simp [pureB, onlyV]
section
variable {F G H : Nat → Prop} {w : World} {gw gx : Nat} {s : WS} {r : Req} {v u : Value} {x : Verdict}
theorem pureV_calls (hu : Sl .commit w G u x.commits) (hk : 0 ≤ x.code ∧ x.code < 15) : Calls Try.prog 92 #[vdV x u] w fun e w' => e = .returned (.bool (decide (x = onlyV x))) ∧ Keep (fun _ => False) w w' := by
  rw [← pureB_only x hk]
  obtain ⟨A, c, rfl⟩ := hu.shape
  obtain ⟨k, ses, rev, path, dig, coms, mem⟩ := x
  simp only at hk ⊢
  have : k = 0 ∨ k = 1 ∨ k = 2 ∨ k = 3 ∨ k = 4 ∨ k = 5 ∨ k = 6 ∨ k = 7 ∨ k = 8 ∨ k = 9 ∨ k = 10 ∨ k = 11 ∨ k = 12 ∨ k = 13 ∨ k = 14 := by omega
  rcases this with rfl | rfl | rfl | rfl | rfl | rfl | rfl | rfl | rfl | rfl | rfl | rfl | rfl | rfl | rfl
  · exact pure_0
  · exact pure_1
  · exact pure_2
  · exact pure_3
  · exact pure_4
  · exact pure_5
  · exact pure_6
  · exact pure_7
  · exact pure_8
  · exact pure_9
  · exact pure_10
  · exact pure_11
  · exact pure_12
  · exact pure_13
  · exact pure_14
theorem vpart_calls (p : VPart) (hx : w.heap[gx]? = some (XObj gw r v x u)) (h : WrAt F w gw s) (hgx : ¬ F gx) (hl : s.b.length ≤ 20000000000000) (hv : Sl .commit w G u x.commits) (hG : ∀ k, G k → ¬ F k ∧ k < w.heap.size) (hF : ∀ k, F k → k < w.heap.size) :
    Calls Try.prog (vpartF p) #[.pointer (some ⟨gx, 0, none⟩)] w (WrPost F w gw (vPart x p s)) := by
  cases p
  · exact vpart_opened hx h hgx (by omega)
  · exact vpart_rev hx h hgx (by omega)
  · exact vpart_of hx h hgx (by omega)
  · exact vpart_digest hx h hgx (by omega)
  · exact vpart_commits hx h hgx hl hv hG hF
  · exact vpart_who hx h hgx (by omega)
theorem vPart_len {p : VPart} : (vPart x p s).b.length ≤ s.b.length + 600000 := by
  cases p
  all_goals first | exact Nat.le_trans eWord_len (by omega) | exact Nat.le_trans wNum_len (by omega) | exact Nat.le_trans wWord_len (by omega) | exact eComs_len
theorem vparts_len (x : Verdict) (l : List VPart) (s : WS) : (l.foldl (fun s p => vPart x p s) s).b.length ≤ s.b.length + l.length * 600000 := by
  induction l generalizing s with
  | nil => simp
  | cons c l ih =>
    rw [List.foldl_cons, List.length_cons, Nat.succ_mul]
    have := ih (vPart x c s)
    have := vPart_len (x := x) (p := c) (s := s)
    omega
theorem vParts_len (k : Int) : (vParts k).length ≤ 3 := by
  unfold vParts
  repeat (first | (split; · simp) | simp)
end
end Go.Proofs.Ytnekfonnceknoaa
