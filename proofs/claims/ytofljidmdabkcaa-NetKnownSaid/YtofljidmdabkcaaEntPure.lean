/- Requests as bytes: plain functions. What a request's writer writes, what its bytes are, when it may be. -/
import Derived.Test.YtofljidmdabkcaaBackNum
import Derived.Test.YtofljidmdabkcaaMsgT
namespace Go.Proofs.Ytofljidmdabkcaa

def eWord (s : WS) (t : ByteArray) : WS := if 255 < t.size then wRefuse s else wText s t.data.toList
def eChange (s : WS) (c : Change) : WS :=
  if c.gone then if c.digest ≠ 0 then wRefuse (wFlag (eWord s c.path) true) else wFlag (eWord s c.path) true else wWord (wFlag (eWord s c.path) false) c.digest
def eList (s : WS) (l : List Change) : WS := if 64 < l.length then wRefuse s else l.foldl eChange (wNum s l.length)
/-- A request with the fields alone that its kind names. -/
def onlyR (r : Req) : Req :=
  ⟨r.kind, if r.kind = 1 then r.name else ByteArray.empty, if 1 < r.kind ∧ r.kind < 8 then r.session else 0, if 1 < r.kind ∧ r.kind < 8 then r.seq else 0,
    if r.kind = 2 then r.base else 0, if r.kind = 2 then r.ref else ByteArray.empty, if r.kind = 2 then r.changes else [], if r.kind = 4 then r.path else ByteArray.empty,
    if r.kind = 5 then r.from' else 0, if r.kind = 5 then r.many else 0, if r.kind = 6 ∨ r.kind = 7 then r.member else 0⟩
/-- A part of a request, by the number of its function in the order of the text. -/
inductive EPart
  | name | session | seq | base | ref | changes | path | from' | many | member
deriving DecidableEq
def ePart (r : Req) : EPart → WS → WS
  | .name, s => eWord s r.name
  | .session, s => wNum s r.session
  | .seq, s => wNum s r.seq
  | .base, s => wNum s r.base
  | .ref, s => eWord s r.ref
  | .changes, s => eList s r.changes
  | .path, s => eWord s r.path
  | .from', s => wNum s r.from'
  | .many, s => wNum s r.many
  | .member, s => wNum s r.member
def partsOf (k : Int) : List EPart :=
  if k = 0 then [] else if k = 1 then [.name] else if k = 2 then [.session, .seq, .base, .ref, .changes] else if k = 3 then [.session, .seq] else if k = 4 then [.session, .seq, .path]
  else if k = 5 then [.session, .seq, .from', .many] else if k = 6 ∨ k = 7 then [.session, .seq, .member] else []
def ePut (s : WS) (r : Req) : WS :=
  if (0 ≤ r.kind ∧ r.kind < 8) ∧ r = onlyR r then (partsOf r.kind).foldl (fun s p => ePart r p s) (wNum s r.kind) else wRefuse s

/-! ### The bytes -/
def good (n : Int) : Prop := 0 ≤ n ∧ n ≤ 1099511627776
instance (n : Int) : Decidable (good n) := by unfold good; infer_instance
def mayC (c : Change) : Prop := c.path.size ≤ 255 ∧ (c.gone = true → c.digest = 0)
instance (c : Change) : Decidable (mayC c) := by unfold mayC; infer_instance
def mayL (l : List Change) : Prop := l.length ≤ 64 ∧ ∀ c ∈ l, mayC c
instance (l : List Change) : Decidable (mayL l) := by unfold mayL; infer_instance
def encText (t : ByteArray) : List UInt8 := encNum t.size ++ t.data.toList
def encC (c : Change) : List UInt8 := encText c.path ++ (if c.gone then 1 else 0) :: (if c.gone then [] else layBytes 8 c.digest)
def encL (l : List Change) : List UInt8 := encNum l.length ++ l.flatMap encC
def mayPart (r : Req) : EPart → Prop
  | .name => r.name.size ≤ 255
  | .session => good r.session
  | .seq => good r.seq
  | .base => good r.base
  | .ref => r.ref.size ≤ 255
  | .changes => mayL r.changes
  | .path => r.path.size ≤ 255
  | .from' => good r.from'
  | .many => good r.many
  | .member => good r.member
instance (r : Req) (p : EPart) : Decidable (mayPart r p) := by cases p <;> (unfold mayPart; infer_instance)
def encPart (r : Req) : EPart → List UInt8
  | .name => encText r.name
  | .session => encNum r.session.toNat
  | .seq => encNum r.seq.toNat
  | .base => encNum r.base.toNat
  | .ref => encText r.ref
  | .changes => encL r.changes
  | .path => encText r.path
  | .from' => encNum r.from'.toNat
  | .many => encNum r.many.toNat
  | .member => encNum r.member.toNat
/-- A request that may be. -/
def mayR (r : Req) : Prop := (0 ≤ r.kind ∧ r.kind < 8) ∧ r = onlyR r ∧ ∀ p ∈ partsOf r.kind, mayPart r p
instance (r : Req) : Decidable (mayR r) := by unfold mayR; infer_instance
def encR (r : Req) : List UInt8 := encNum r.kind.toNat ++ (partsOf r.kind).flatMap (encPart r)

theorem wNum_good {n : Int} (l : List UInt8) (h : good n) : wNum ⟨l, 0⟩ n = ⟨l ++ encNum n.toNat, 0⟩ := by simp [wNum, good] at *; simp [h]
theorem wNum_bad {n : Int} (l : List UInt8) (h : ¬ good n) : wNum ⟨l, 0⟩ n = ⟨l, 1⟩ := by unfold good at h; simp [wNum, h]
theorem size_list (t : ByteArray) : t.data.toList.length = t.size := by simp
theorem eWord_good {t : ByteArray} (l : List UInt8) (h : t.size ≤ 255) : eWord ⟨l, 0⟩ t = ⟨l ++ encText t, 0⟩ := by
  rw [eWord, if_neg (by omega), wText, if_neg (by simp), if_pos (by rw [size_list]; omega)]
  simp [encText]
theorem eWord_bad {t : ByteArray} (l : List UInt8) (h : ¬ t.size ≤ 255) : eWord ⟨l, 0⟩ t = ⟨l, 1⟩ := by rw [eWord, if_pos (by omega), wRefuse]; rfl
/-- What failed stays so. -/
theorem eWord_f {s : WS} (t : ByteArray) (h : s.f ≠ 0) : eWord s t = s := by unfold eWord wRefuse wText; simp [h]
theorem wNum_f {s : WS} (n : Int) (h : s.f ≠ 0) : wNum s n = s := if_pos h
theorem wFlag_f {s : WS} (b : Bool) (h : s.f ≠ 0) : wFlag s b = s := if_pos h
theorem wWord_f {s : WS} (x : Nat) (h : s.f ≠ 0) : wWord s x = s := if_pos h
theorem wRefuse_f {s : WS} (h : s.f ≠ 0) : wRefuse s = s := if_pos h
theorem eChange_f {s : WS} (c : Change) (h : s.f ≠ 0) : eChange s c = s := by
  unfold eChange
  rw [eWord_f _ h, wFlag_f _ h, wFlag_f _ h, wRefuse_f h, wWord_f _ h]
  simp
theorem fold_f {s : WS} (l : List Change) (h : s.f ≠ 0) : l.foldl eChange s = s := by
  induction l with
  | nil => rfl
  | cons c l ih => rw [List.foldl_cons, eChange_f c h, ih]
theorem eList_f {s : WS} (l : List Change) (h : s.f ≠ 0) : eList s l = s := by
  unfold eList
  rw [wNum_f _ h, fold_f _ h, wRefuse_f h]
  simp
theorem ePart_f {s : WS} (r : Req) (p : EPart) (h : s.f ≠ 0) : ePart r p s = s := by
  cases p
  all_goals first | exact eWord_f _ h | exact wNum_f _ h | exact eList_f _ h
theorem eChange_good {c : Change} (l : List UInt8) (h : mayC c) : eChange ⟨l, 0⟩ c = ⟨l ++ encC c, 0⟩ := by
  unfold eChange
  rw [eWord_good l h.1]
  cases hg : c.gone
  · simp [wFlag, wWord, encC, hg]
  · simp [wFlag, encC, hg, h.2 hg]
theorem eChange_bad {c : Change} (l : List UInt8) (h : ¬ mayC c) : (eChange ⟨l, 0⟩ c).f = 1 := by
  unfold eChange
  by_cases h1 : c.path.size ≤ 255
  · rw [eWord_good l h1]
    have h2 : c.gone = true ∧ c.digest ≠ 0 := by
      unfold mayC at h
      rcases Bool.eq_false_or_eq_true c.gone with e | e
      · exact ⟨e, fun e' => h ⟨h1, fun _ => e'⟩⟩
      · exact absurd ⟨h1, fun e' => by rw [e] at e'; cases e'⟩ h
    rw [if_pos h2.1, if_pos h2.2]
    simp [wFlag, wRefuse]
  · rw [eWord_bad l h1, wFlag_f _ (by simp), wFlag_f _ (by simp), wRefuse_f (by simp), wWord_f _ (by simp)]
    simp
theorem fold_ways (l : List Change) (b : List UInt8) : ((∀ c ∈ l, mayC c) ∧ l.foldl eChange ⟨b, 0⟩ = ⟨b ++ l.flatMap encC, 0⟩) ∨ (¬ (∀ c ∈ l, mayC c) ∧ (l.foldl eChange ⟨b, 0⟩).f = 1) := by
  induction l generalizing b with
  | nil => exact .inl ⟨by simp, by simp⟩
  | cons c l ih =>
    rw [List.foldl_cons]
    by_cases hc : mayC c
    · rw [eChange_good b hc]
      rcases ih (b ++ encC c) with ⟨h1, h2⟩ | ⟨h1, h2⟩
      · exact .inl ⟨fun x hx => by rcases List.mem_cons.1 hx with rfl | hx; exact hc; exact h1 x hx, by rw [h2]; simp⟩
      · exact .inr ⟨fun h => h1 (fun x hx => h x (List.mem_cons_of_mem _ hx)), h2⟩
    · have h1 := eChange_bad b hc
      refine .inr ⟨fun h => hc (h c (List.mem_cons_self ..)), ?_⟩
      rw [fold_f _ (by rw [h1]; decide)]
      exact h1
theorem eList_good {l : List Change} (b : List UInt8) (h : mayL l) : eList ⟨b, 0⟩ l = ⟨b ++ encL l, 0⟩ := by
  have h64 := h.1
  rw [eList, if_neg (by omega), wNum_good b (show good (l.length : Int) from ⟨by omega, by omega⟩)]
  rcases fold_ways l (b ++ encNum ((l.length : Int)).toNat) with ⟨_, h2⟩ | ⟨h1, _⟩
  · rw [h2]; simp [encL]
  · exact absurd h.2 h1
theorem eList_bad {l : List Change} (b : List UInt8) (h : ¬ mayL l) : (eList ⟨b, 0⟩ l).f = 1 := by
  unfold eList
  by_cases h64 : 64 < l.length
  · rw [if_pos h64]; rfl
  · rw [if_neg h64, wNum_good b (show good (l.length : Int) from ⟨by omega, by omega⟩)]
    rcases fold_ways l (b ++ encNum ((l.length : Int)).toNat) with ⟨h1, _⟩ | ⟨_, h2⟩
    · exact absurd ⟨by omega, h1⟩ h
    · exact h2
theorem ePart_good {r : Req} {p : EPart} (b : List UInt8) (h : mayPart r p) : ePart r p ⟨b, 0⟩ = ⟨b ++ encPart r p, 0⟩ := by
  cases p
  all_goals first | exact eWord_good b h | exact wNum_good b h | exact eList_good b h
theorem ePart_bad {r : Req} {p : EPart} (b : List UInt8) (h : ¬ mayPart r p) : (ePart r p ⟨b, 0⟩).f = 1 := by
  cases p
  all_goals first | exact congrArg WS.f (eWord_bad b h) | exact congrArg WS.f (wNum_bad b h) | exact eList_bad b h
theorem parts_f {s : WS} (r : Req) (l : List EPart) (h : s.f ≠ 0) : l.foldl (fun s p => ePart r p s) s = s := by
  induction l with
  | nil => rfl
  | cons p l ih => rw [List.foldl_cons, ePart_f r p h, ih]
theorem parts_ways (r : Req) (l : List EPart) (b : List UInt8) : ((∀ p ∈ l, mayPart r p) ∧ l.foldl (fun s p => ePart r p s) ⟨b, 0⟩ = ⟨b ++ l.flatMap (encPart r), 0⟩) ∨ (¬ (∀ p ∈ l, mayPart r p) ∧ (l.foldl (fun s p => ePart r p s) ⟨b, 0⟩).f = 1) := by
  induction l generalizing b with
  | nil => exact .inl ⟨by simp, by simp⟩
  | cons c l ih =>
    rw [List.foldl_cons]
    by_cases hc : mayPart r c
    · rw [ePart_good b hc]
      rcases ih (b ++ encPart r c) with ⟨h1, h2⟩ | ⟨h1, h2⟩
      · exact .inl ⟨fun x hx => by rcases List.mem_cons.1 hx with rfl | hx; exact hc; exact h1 x hx, by rw [h2]; simp⟩
      · exact .inr ⟨fun h => h1 (fun x hx => h x (List.mem_cons_of_mem _ hx)), h2⟩
    · have h1 := ePart_bad b hc
      refine .inr ⟨fun h => hc (h c (List.mem_cons_self ..)), ?_⟩
      rw [parts_f _ _ (by rw [h1]; decide)]
      exact h1
/-- What Put comes to. -/
theorem ePut_good {r : Req} (b : List UInt8) (h : mayR r) : ePut ⟨b, 0⟩ r = ⟨b ++ encR r, 0⟩ := by
  obtain ⟨h1, h2, h3⟩ := h
  rw [ePut, if_pos ⟨h1, h2⟩, wNum_good b ⟨by omega, by omega⟩]
  rcases parts_ways r (partsOf r.kind) (b ++ encNum r.kind.toNat) with ⟨_, h4⟩ | ⟨h4, _⟩
  · rw [h4]; simp [encR]
  · exact absurd h3 h4
theorem ePut_bad {r : Req} (b : List UInt8) (h : ¬ mayR r) : (ePut ⟨b, 0⟩ r).f = 1 := by
  unfold ePut
  split
  · rename_i hq
    rw [wNum_good b ⟨by omega, by omega⟩]
    rcases parts_ways r (partsOf r.kind) (b ++ encNum r.kind.toNat) with ⟨h4, _⟩ | ⟨_, h4⟩
    · exact absurd ⟨hq.1, hq.2, h4⟩ h
    · exact h4
  · rfl
theorem ePut_f {s : WS} (r : Req) (h : s.f ≠ 0) : ePut s r = s := by
  unfold ePut
  rw [wNum_f _ h, parts_f _ _ h, wRefuse_f h]
  simp
/-! ### How long -/
theorem encText_len {t : ByteArray} (h : t.size ≤ 255) : (encText t).length ≤ 261 := by
  have := encNum_small (n := t.size) (by omega)
  rw [encText, List.length_append, size_list]; omega
theorem encC_len {c : Change} (h : mayC c) : (encC c).length ≤ 270 := by
  have := encText_len h.1
  rw [encC, List.length_append, List.length_cons]
  have : (if c.gone = true then ([] : List UInt8) else layBytes 8 c.digest).length ≤ 8 := by split <;> simp [layBytes_len]
  omega
theorem flat_len (l : List Change) (h : ∀ c ∈ l, mayC c) : (l.flatMap encC).length ≤ l.length * 270 := by
  induction l with
  | nil => simp
  | cons c l ih =>
    have h1 := encC_len (h c (List.mem_cons_self ..))
    have h2 := ih (fun x hx => h x (List.mem_cons_of_mem _ hx))
    rw [List.flatMap_cons, List.length_append, List.length_cons, Nat.succ_mul]; omega
theorem encL_len {l : List Change} (h : mayL l) : (encL l).length ≤ 17286 := by
  have h1 := flat_len l h.2
  have h64 := h.1
  have h2 := encNum_small (n := l.length) (by omega)
  rw [encL, List.length_append]; omega
theorem encPart_len {r : Req} {p : EPart} (h : mayPart r p) : (encPart r p).length ≤ 17286 := by
  have hn : ∀ n : Int, good n → (encNum n.toNat).length ≤ 17286 := fun n hn => by have := encNum_small (n := n.toNat) (by have := hn.2; omega); omega
  have ht : ∀ t : ByteArray, t.size ≤ 255 → (encText t).length ≤ 17286 := fun t ht => by have := encText_len ht; omega
  cases p
  all_goals first | exact hn _ h | exact ht _ h | exact encL_len h
end Go.Proofs.Ytofljidmdabkcaa
