/- wapentakelaw17.LedgerPlays: the plain law: the ledger's list and the model's, in order, tell the same. -/
import Derived.Test.YtiomeoihekifeaaLedCutsP
import Derived.Test.YtiomeoihekifeaaR15M
namespace Go.Proofs.Ytiomeoihekifeaa
open Go.RowKit
/-- What a deed does to the model. -/
def opR (d : LDeed) (s : LS) : LS :=
  if d.do_ ≤ 4 then (rlearnS s d.slot d.v).2 else if d.do_ ≤ 7 ∧ s.next < 1099511627776 then stepS s else if d.do_ = 8 then rcutS s d.slot else if 8 < d.do_ then jumpS s d.slot else s
structure PSim (s t : LS) (n : Nat) : Prop where
  inv : LInv s n
  nodup : (s.l.map Prod.fst).Nodup
  eqb : t.base = s.base
  eqn : t.next = s.next
  perm : t.l.Perm s.l
  sorted : t.l.Pairwise (fun a b => a.1 < b.1)
theorem look_iff {l : List (Int × Req)} (hn : (l.map Prod.fst).Nodup) (k : Int) (a : Req) : look l k = some a ↔ (k, a) ∈ l :=
  ⟨look_mem, fun h => by obtain ⟨i, hi⟩ := List.getElem?_of_mem h; exact look_at hn hi⟩
variable {s t : LS} {n : Nat}
theorem PSim.nodupT (h : PSim s t n) : (t.l.map Prod.fst).Nodup := (h.perm.map Prod.fst).nodup_iff.2 h.nodup
theorem PSim.lookE (h : PSim s t n) (k : Int) : look t.l k = look s.l k := by
  apply Option.ext
  intro a
  rw [look_iff h.nodupT, look_iff h.nodup, h.perm.mem_iff]
theorem PSim.keys (h : PSim s t n) : keysS s.l = t.l.map Prod.fst := by
  unfold keysS
  refine List.Perm.eq_of_pairwise (le := fun a b => a ≤ b) (fun a b _ _ h1 h2 => by omega) ?_ ?_ ((List.mergeSort_perm _ _).trans (h.perm.map Prod.fst).symm)
  · have := List.pairwise_mergeSort (le := Go.leI) (fun a b c h1 h2 => by simp [Go.leI] at *; omega) (fun a b => by simp [Go.leI]; omega) (s.l.map Prod.fst)
    exact this.imp (fun h => by simpa [Go.leI] using h)
  · rw [List.pairwise_map]
    exact h.sorted.imp (fun h => by omega)
theorem PSim.len (h : PSim s t n) : t.l.length ≤ n := by rw [h.perm.length_eq]; exact h.inv.small
theorem PSim.more (h : PSim s t n) : PSim s t (n + 1) := ⟨h.inv.more, h.nodup, h.eqb, h.eqn, h.perm, h.sorted⟩
theorem while_lt {l : List (Int × Req)} {k : Int} {p : Int × Req} (h : p ∈ l.takeWhile (fun p => decide (p.1 < k))) : p.1 < k := by
  induction l with
  | nil => simp at h
  | cons q l ih =>
    rw [List.takeWhile_cons] at h
    split at h
    · rename_i hq
      rcases List.mem_cons.1 h with rfl | h
      · simpa using hq
      · exact ih h
    · simp at h
theorem while_ge {l : List (Int × Req)} {k : Int} {p : Int × Req} (hs : l.Pairwise (fun a b => a.1 < b.1)) (h : p ∈ l.dropWhile (fun p => decide (p.1 < k))) : k ≤ p.1 := by
  induction l with
  | nil => simp at h
  | cons q l ih =>
    rw [List.dropWhile_cons] at h
    split at h
    · exact ih (List.pairwise_cons.1 hs).2 h
    · rename_i hq
      have hq : k ≤ q.1 := by simpa using hq
      rcases List.mem_cons.1 h with rfl | h
      · exact hq
      · have := (List.pairwise_cons.1 hs).1 p h; omega
theorem ins_perm (l : List (Int × Req)) (k : Int) (r : Req) : (insR l k r).Perm ((k, r) :: l) := by
  unfold insR
  have := @List.perm_middle _ (k, r) (l.takeWhile (fun p => decide (p.1 < k))) (l.dropWhile (fun p => decide (p.1 < k)))
  rwa [List.takeWhile_append_dropWhile] at this
theorem ins_sorted {l : List (Int × Req)} {k : Int} {r : Req} (hs : l.Pairwise (fun a b => a.1 < b.1)) (hk : ∀ p ∈ l, p.1 ≠ k) : (insR l k r).Pairwise (fun a b => a.1 < b.1) := by
  have h0 := hs
  rw [← @List.takeWhile_append_dropWhile _ (fun p => decide (p.1 < k)) l] at h0
  rw [List.pairwise_append] at h0
  obtain ⟨h1, h2, h3⟩ := h0
  unfold insR
  rw [List.pairwise_append, List.pairwise_cons]
  refine ⟨h1, ⟨fun p hp => ?_, h2⟩, fun a ha b hb => ?_⟩
  · have q1 := while_ge hs hp
    have q2 := hk p ((List.dropWhile_sublist _).subset hp)
    simp only; omega
  · rcases List.mem_cons.1 hb with rfl | hb
    · exact while_lt ha
    · exact h3 a ha b hb
theorem put_fresh {l : List (Int × Req)} {k : Int} {r : Req} (h : look l k = none) : putE l k r = l ++ [(k, r)] := put_new (look_none.1 h)
theorem PSim.learn (h : PSim s t n) (k : Int) (r : Req) : (rlearnS t k r).1 = (learnS s k r).1 ∧ PSim (learnS s k r).2 (rlearnS t k r).2 (n + 1) := by
  have hi := (h.inv.learn k r).1
  unfold learnS rlearnS at *
  rw [h.lookE, h.eqb, h.eqn]
  split
  · exact ⟨rfl, h.more⟩
  split
  · exact ⟨rfl, h.more⟩
  cases hl : look s.l k with
  | some o => exact ⟨rfl, h.more⟩
  | none =>
    simp only
    split
    · exact ⟨rfl, h.more⟩
    · rename_i h1 h2 h3
      rw [if_neg h1, if_neg h2, hl] at hi
      simp only at hi
      rw [if_neg h3] at hi
      refine ⟨rfl, ⟨hi, put_keys _ _ _ h.nodup, rfl, rfl, ?_, ins_sorted h.sorted (fun p hp => look_none.1 hl p (h.perm.mem_iff.1 hp))⟩⟩
      simp only
      rw [put_fresh hl]
      exact (ins_perm _ _ _).trans ((h.perm.cons _).trans (List.perm_append_singleton _ _).symm)
theorem PSim.step (h : PSim s t n) (hn : s.next < 1099511627776) : PSim (stepS s) (stepS t) n := by
  have hi := (h.inv.step hn).1
  unfold stepS at *
  rw [h.lookE, h.eqn]
  split
  · rename_i hq
    rw [if_pos hq] at hi
    exact ⟨hi, h.nodup, h.eqb, rfl, h.perm, h.sorted⟩
  · exact h
theorem from_nodup {l : List (Int × Req)} (h : (l.map Prod.fst).Nodup) (b : Int) : ((fromE l b).map Prod.fst).Nodup := by
  unfold fromE
  exact (List.Sublist.map _ (List.filter_sublist)).nodup h
theorem from_all {l : List (Int × Req)} {b : Int} (h : ∀ p ∈ l, b ≤ p.1) : fromE l b = l := by
  unfold fromE
  rw [List.filter_eq_self]
  intro p hp
  have := h p hp
  simp; omega
theorem PSim.cut (h : PSim s t n) (slot : Int) : PSim (cutS s slot) (rcutS t slot) n := by
  have hi := (h.inv.cut slot).1
  have h1 := h.inv.base
  have h2 := h.inv.le
  unfold rcutS
  rw [h.eqb, h.eqn]
  split
  · rename_i hq
    have e : max s.base (min slot s.next) = min slot s.next := by omega
    refine ⟨hi, from_nodup h.nodup _, ?_, rfl, ?_, h.sorted.filter _⟩
    · simp only [cutS]; omega
    · simp only [cutS, e]; exact h.perm.filter _
  · rename_i hq
    have e : max s.base (min slot s.next) = s.base := by omega
    have ec : cutS s slot = s := by
      simp only [cutS, e]
      rw [from_all (fun p hp => h.inv.keys p hp)]
    rw [ec]
    exact h
theorem PSim.jump (h : PSim s t n) {slot : Int} (hs : (Lit.int .i64 slot).wf = true) : PSim (jumpS s slot) (jumpS t slot) n := by
  have hi := (h.inv.jump hs).1
  unfold jumpS at *
  rw [h.eqn]
  split
  · rename_i hq
    rw [if_pos hq] at hi
    exact ⟨hi, from_nodup h.nodup _, rfl, rfl, h.perm.filter _, h.sorted.filter _⟩
  · exact h
theorem PSim.op (h : PSim s t n) (d : LDeed) (hs : (Lit.int .i64 d.slot).wf = true) : PSim (opS d s) (opR d t) (n + 1) := by
  unfold opS opR
  rw [h.eqn]
  split
  · exact (h.learn d.slot d.v).2
  split
  · rename_i hq
    exact (h.step hq.2).more
  split
  · exact (h.cut d.slot).more
  split
  · exact (h.jump hs).more
  · exact h.more
theorem PSim.new (k : Int) (hk : 0 ≤ k) (hw : (Lit.int .i64 k).wf = true) : PSim ⟨k, k, []⟩ ⟨k, k, []⟩ 0 :=
  ⟨⟨hk, Int.le_refl _, hw, by simp, by simp⟩, by simp, rfl, rfl, List.Perm.nil, List.Pairwise.nil⟩
end Go.Proofs.Ytiomeoihekifeaa
