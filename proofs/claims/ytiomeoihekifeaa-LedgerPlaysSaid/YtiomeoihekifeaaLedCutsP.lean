/- wapentakelaw17.LedgerCuts: the plain law. -/
import Derived.Test.YtiomeoihekifeaaLedN2
import Derived.Test.YtiomeoihekifeaaRoom17
namespace Go.Proofs.Ytiomeoihekifeaa
open Go.RowKit
/-- What a deed does. -/
def opS (d : LDeed) (s : LS) : LS :=
  if d.do_ ≤ 4 then (learnS s d.slot d.v).2 else if d.do_ ≤ 7 ∧ s.next < 1099511627776 then stepS s else if d.do_ = 8 then cutS s d.slot else if 8 < d.do_ then jumpS s d.slot else s
/-- What holds of a ledger. -/
structure LInv (s : LS) (n : Nat) : Prop where
  base : 0 ≤ s.base
  le : s.base ≤ s.next
  wf : (Lit.int .i64 s.next).wf = true
  keys : ∀ p ∈ s.l, s.base ≤ p.1
  small : s.l.length ≤ n
theorem mem_put {α : Type} {l : List (Int × α)} {k : Int} {a : α} {p : Int × α} (h : p ∈ putE l k a) : p ∈ l ∨ p.1 = k := by
  induction l with
  | nil => rw [putE] at h; simp at h; right; rw [h]
  | cons q l ih =>
    rw [putE] at h
    split at h
    · rcases List.mem_cons.1 h with rfl | h
      · exact .inr rfl
      · exact .inl (List.mem_cons_of_mem _ h)
    · rcases List.mem_cons.1 h with rfl | h
      · exact .inl (List.mem_cons_self ..)
      · exact (ih h).imp (List.mem_cons_of_mem _) id
theorem put_mem {α : Type} {l : List (Int × α)} {k : Int} {a : α} {x : Int} (h : x ∈ l.map Prod.fst) : x ∈ (putE l k a).map Prod.fst := by
  induction l with
  | nil => simp at h
  | cons q l ih =>
    rw [putE]
    split
    · rename_i hq
      rcases List.mem_cons.1 (by simpa using h : x ∈ q.1 :: l.map Prod.fst) with rfl | h
      · simp [hq]
      · exact List.mem_cons_of_mem _ h
    · rcases List.mem_cons.1 (by simpa using h : x ∈ q.1 :: l.map Prod.fst) with rfl | h
      · simp
      · exact List.mem_cons_of_mem _ (ih h)
theorem put_length {α : Type} (l : List (Int × α)) (k : Int) (a : α) : (putE l k a).length ≤ l.length + 1 := by
  induction l with
  | nil => simp [putE]
  | cons q l ih => rw [putE]; split <;> simp <;> omega
theorem mem_from {l : List (Int × Req)} {b : Int} {x : Int} : x ∈ (fromE l b).map Prod.fst ↔ x ∈ l.map Prod.fst ∧ b ≤ x := by
  simp only [fromE, List.mem_map, List.mem_filter]
  constructor
  · rintro ⟨p, ⟨h1, h2⟩, rfl⟩
    exact ⟨⟨p, h1, rfl⟩, by simpa using h2⟩
  · rintro ⟨⟨p, h1, rfl⟩, h2⟩
    exact ⟨p, ⟨h1, by simpa using h2⟩, rfl⟩
theorem from_length (l : List (Int × Req)) (b : Int) : (fromE l b).length ≤ l.length := List.length_filter_le _ _
/-- No deed turns a ledger back. -/
structure LStep (s t : LS) : Prop where
  base : s.base ≤ t.base
  next : s.next ≤ t.next
  keys : ∀ x ∈ s.l.map Prod.fst, x ∈ t.l.map Prod.fst ↔ t.base ≤ x
theorem LInv.key {s : LS} {n : Nat} (h : LInv s n) {x : Int} (hx : x ∈ s.l.map Prod.fst) : s.base ≤ x := by
  obtain ⟨p, hp, rfl⟩ := List.mem_map.1 hx
  exact h.keys p hp
theorem LInv.same {s : LS} {n : Nat} (h : LInv s n) : LStep s s := ⟨Int.le_refl _, Int.le_refl _, fun _ hx => ⟨fun _ => h.key hx, fun _ => hx⟩⟩
theorem LInv.more {s : LS} {n : Nat} (h : LInv s n) : LInv s (n + 1) := ⟨h.base, h.le, h.wf, h.keys, by have := h.small; omega⟩
theorem LInv.learn {s : LS} {n : Nat} (h : LInv s n) (k : Int) (r : Req) : LInv (learnS s k r).2 (n + 1) ∧ LStep s (learnS s k r).2 := by
  unfold learnS
  split
  · exact ⟨h.more, h.same⟩
  split
  · exact ⟨h.more, h.same⟩
  split
  · exact ⟨h.more, h.same⟩
  split
  · exact ⟨h.more, h.same⟩
  rename_i h1 h2 _ _ h3
  refine ⟨⟨h.base, h.le, h.wf, fun p hp => ?_, by have := put_length s.l k r; have := h.small; simp only; omega⟩, Int.le_refl _, Int.le_refl _, fun x hx => ⟨fun _ => h.key hx, fun _ => put_mem hx⟩⟩
  rcases mem_put hp with q | q
  · exact h.keys p q
  · simp only; omega
theorem LInv.step {s : LS} {n : Nat} (h : LInv s n) (hn : s.next < 1099511627776) : LInv (stepS s) n ∧ LStep s (stepS s) := by
  unfold stepS
  split
  · refine ⟨⟨h.base, by have := h.le; simp only; omega, ?_, h.keys, h.small⟩, Int.le_refl _, by simp only; omega, fun x hx => ⟨fun _ => h.key hx, fun _ => hx⟩⟩
    have h1 := h.base
    have h2 := h.le
    simp [Lit.wf, IntKind.min, IntKind.max, IntKind.signed, IntKind.bits]; omega
  · exact ⟨h, h.same⟩
theorem LInv.cut {s : LS} {n : Nat} (h : LInv s n) (slot : Int) : LInv (cutS s slot) n ∧ LStep s (cutS s slot) ∧ (cutS s slot).next = s.next := by
  have h1 := h.base
  have h2 := h.le
  refine ⟨⟨by simp only [cutS]; omega, by simp only [cutS]; omega, h.wf, fun p hp => ?_, Nat.le_trans (from_length _ _) h.small⟩, ⟨by simp only [cutS]; omega, Int.le_refl _, fun x hx => ?_⟩, rfl⟩
  · exact (mem_from.1 (List.mem_map_of_mem hp)).2
  · simp only [cutS, mem_from]
    exact ⟨fun q => q.2, fun q => ⟨hx, q⟩⟩
theorem LInv.jump {s : LS} {n : Nat} (h : LInv s n) {slot : Int} (hs : (Lit.int .i64 slot).wf = true) : LInv (jumpS s slot) n ∧ LStep s (jumpS s slot) := by
  have h1 := h.base
  have h2 := h.le
  unfold jumpS
  split
  · refine ⟨⟨by simp only; omega, Int.le_refl _, hs, fun p hp => ?_, Nat.le_trans (from_length _ _) h.small⟩, ⟨by simp only; omega, by simp only; omega, fun x hx => ?_⟩⟩
    · exact (mem_from.1 (List.mem_map_of_mem hp)).2
    · simp only [mem_from]
      exact ⟨fun q => q.2, fun q => ⟨hx, q⟩⟩
  · exact ⟨h, h.same⟩
theorem LInv.op {s : LS} {n : Nat} (h : LInv s n) (d : LDeed) (hs : (Lit.int .i64 d.slot).wf = true) : LInv (opS d s) (n + 1) ∧ LStep s (opS d s) ∧ (d.do_ = 8 → (opS d s).next = s.next) := by
  unfold opS
  split
  · obtain ⟨a, b⟩ := h.learn d.slot d.v
    exact ⟨a, b, fun e => by omega⟩
  split
  · rename_i hq
    obtain ⟨a, b⟩ := h.step hq.2
    exact ⟨a.more, b, fun e => by omega⟩
  split
  · obtain ⟨a, b, c⟩ := h.cut d.slot
    exact ⟨a.more, b, fun _ => c⟩
  split
  · obtain ⟨a, b⟩ := h.jump hs
    exact ⟨a.more, b, fun e => by omega⟩
  · exact ⟨h.more, h.same, fun _ => rfl⟩
theorem mem_keysS {α : Type} {l : List (Int × α)} {x : Int} : x ∈ keysS l ↔ x ∈ l.map Prod.fst := by
  unfold keysS
  exact (List.mergeSort_perm _ _).mem_iff
/-- What the law asks of each slot that was known. -/
theorem LStep.has {s t : LS} (h : LStep s t) {x : Int} (hx : x ∈ keysS s.l) : decide (x ∈ keysS t.l) = decide (t.base ≤ x) := by
  rw [mem_keysS] at hx
  exact decide_eq_decide.2 (by rw [mem_keysS]; exact h.keys x hx)
theorem LInv.first {s : LS} {n : Nat} (h : LInv s n) {x : Int} (hx : x ∈ keysS s.l) : s.base ≤ x := by
  rw [mem_keysS] at hx
  exact h.key hx
end Go.Proofs.Ytiomeoihekifeaa
