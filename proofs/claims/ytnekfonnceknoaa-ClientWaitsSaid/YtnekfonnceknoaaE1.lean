/- Requests as bytes: plain functions. What a request's writer writes, what its bytes are, when it may be. entry's writer of requests: word, list, the parts. entry's writer of requests: the parts, each a method. -/
import Derived.Test.YtnekfonnceknoaaPu
import Derived.Test.YtnekfonnceknoaaMt
import Derived.Test.YtnekfonnceknoaaWr
import Derived.Deep.RegionHeld3
namespace Go.Proofs.Ytnekfonnceknoaa

def eWord (s : WS) (t : ByteArray) : WS := if 255 < t.size then wRefuse s else wText s t.data.toList
def eChange (s : WS) (c : Change) : WS :=
  if c.gone then if c.digest ≠ 0 then wRefuse (wFlag (eWord s c.path) true) else wFlag (eWord s c.path) true else wWord (wFlag (eWord s c.path) false) c.digest
def eList (s : WS) (l : List Change) : WS := if 64 < l.length then wRefuse s else l.foldl eChange (wNum s l.length)
/-- A request with the fields alone that its kind names. -/
def onlyR (r : Req) : Req :=
  ⟨r.kind, if r.kind = 1 then r.name else ByteArray.empty, if 1 < r.kind ∧ r.kind < 8 then r.session else 0, if 1 < r.kind ∧ r.kind < 8 then r.seq else 0,
    if r.kind = 2 then r.base else 0, if r.kind = 2 then r.ref else ByteArray.empty, if r.kind = 2 then r.changes else [], if r.kind = 4 then r.path else ByteArray.empty,
    if r.kind = 5 then r.from' else 0, if r.kind = 5 then r.many else 0, if r.kind = 6 ∨ r.kind = 7 then r.member else 0⟩
/-- A part of a request, by the number of its function in the order of the text. -/
inductive EPart
  | name | session | seq | base | ref | changes | path | from' | many | member
deriving DecidableEq
def ePart (r : Req) : EPart → WS → WS
  | .name, s => eWord s r.name
  | .session, s => wNum s r.session
  | .seq, s => wNum s r.seq
  | .base, s => wNum s r.base
  | .ref, s => eWord s r.ref
  | .changes, s => eList s r.changes
  | .path, s => eWord s r.path
  | .from', s => wNum s r.from'
  | .many, s => wNum s r.many
  | .member, s => wNum s r.member
def partsOf (k : Int) : List EPart :=
  if k = 0 then [] else if k = 1 then [.name] else if k = 2 then [.session, .seq, .base, .ref, .changes] else if k = 3 then [.session, .seq] else if k = 4 then [.session, .seq, .path]
  else if k = 5 then [.session, .seq, .from', .many] else if k = 6 ∨ k = 7 then [.session, .seq, .member] else []
def ePut (s : WS) (r : Req) : WS :=
  if (0 ≤ r.kind ∧ r.kind < 8) ∧ r = onlyR r then (partsOf r.kind).foldl (fun s p => ePart r p s) (wNum s r.kind) else wRefuse s

/-! ### The bytes -/
def good (n : Int) : Prop := 0 ≤ n ∧ n ≤ 1099511627776
instance (n : Int) : Decidable (good n) := by unfold good; infer_instance
def mayC (c : Change) : Prop := c.path.size ≤ 255 ∧ (c.gone = true → c.digest = 0)
instance (c : Change) : Decidable (mayC c) := by unfold mayC; infer_instance
def mayL (l : List Change) : Prop := l.length ≤ 64 ∧ ∀ c ∈ l, mayC c
instance (l : List Change) : Decidable (mayL l) := by unfold mayL; infer_instance
def encText (t : ByteArray) : List UInt8 := encNum t.size ++ t.data.toList
def encC (c : Change) : List UInt8 := encText c.path ++ (if c.gone then 1 else 0) :: (if c.gone then [] else layBytes 8 c.digest)
def encL (l : List Change) : List UInt8 := encNum l.length ++ l.flatMap encC
def mayPart (r : Req) : EPart → Prop
  | .name => r.name.size ≤ 255
  | .session => good r.session
  | .seq => good r.seq
  | .base => good r.base
  | .ref => r.ref.size ≤ 255
  | .changes => mayL r.changes
  | .path => r.path.size ≤ 255
  | .from' => good r.from'
  | .many => good r.many
  | .member => good r.member
instance (r : Req) (p : EPart) : Decidable (mayPart r p) := by cases p <;> (unfold mayPart; infer_instance)
def encPart (r : Req) : EPart → List UInt8
  | .name => encText r.name
  | .session => encNum r.session.toNat
  | .seq => encNum r.seq.toNat
  | .base => encNum r.base.toNat
  | .ref => encText r.ref
  | .changes => encL r.changes
  | .path => encText r.path
  | .from' => encNum r.from'.toNat
  | .many => encNum r.many.toNat
  | .member => encNum r.member.toNat
/-- A request that may be. -/
def mayR (r : Req) : Prop := (0 ≤ r.kind ∧ r.kind < 8) ∧ r = onlyR r ∧ ∀ p ∈ partsOf r.kind, mayPart r p
instance (r : Req) : Decidable (mayR r) := by unfold mayR; infer_instance
def encR (r : Req) : List UInt8 := encNum r.kind.toNat ++ (partsOf r.kind).flatMap (encPart r)

theorem wNum_good {n : Int} (l : List UInt8) (h : good n) : wNum ⟨l, 0⟩ n = ⟨l ++ encNum n.toNat, 0⟩ := by simp [wNum, good] at *; simp [h]
theorem wNum_bad {n : Int} (l : List UInt8) (h : ¬ good n) : wNum ⟨l, 0⟩ n = ⟨l, 1⟩ := by unfold good at h; simp [wNum, h]
theorem size_list (t : ByteArray) : t.data.toList.length = t.size := by simp
theorem eWord_good {t : ByteArray} (l : List UInt8) (h : t.size ≤ 255) : eWord ⟨l, 0⟩ t = ⟨l ++ encText t, 0⟩ := by
  rw [eWord, if_neg (by omega), wText, if_neg (by simp), if_pos (by rw [size_list]; omega)]
  simp [encText]
theorem eWord_bad {t : ByteArray} (l : List UInt8) (h : ¬ t.size ≤ 255) : eWord ⟨l, 0⟩ t = ⟨l, 1⟩ := by rw [eWord, if_pos (by omega), wRefuse]; rfl
/-- What failed stays so. -/
theorem eWord_f {s : WS} (t : ByteArray) (h : s.f ≠ 0) : eWord s t = s := by unfold eWord wRefuse wText; simp [h]
theorem wNum_f {s : WS} (n : Int) (h : s.f ≠ 0) : wNum s n = s := if_pos h
theorem wFlag_f {s : WS} (b : Bool) (h : s.f ≠ 0) : wFlag s b = s := if_pos h
theorem wWord_f {s : WS} (x : Nat) (h : s.f ≠ 0) : wWord s x = s := if_pos h
theorem wRefuse_f {s : WS} (h : s.f ≠ 0) : wRefuse s = s := if_pos h
theorem eChange_f {s : WS} (c : Change) (h : s.f ≠ 0) : eChange s c = s := by
  unfold eChange
  rw [eWord_f _ h, wFlag_f _ h, wFlag_f _ h, wRefuse_f h, wWord_f _ h]
  simp
theorem fold_f {s : WS} (l : List Change) (h : s.f ≠ 0) : l.foldl eChange s = s := by
  induction l with
  | nil => rfl
  | cons c l ih => rw [List.foldl_cons, eChange_f c h, ih]
theorem eList_f {s : WS} (l : List Change) (h : s.f ≠ 0) : eList s l = s := by
  unfold eList
  rw [wNum_f _ h, fold_f _ h, wRefuse_f h]
  simp
theorem ePart_f {s : WS} (r : Req) (p : EPart) (h : s.f ≠ 0) : ePart r p s = s := by
  cases p
  all_goals first | exact eWord_f _ h | exact wNum_f _ h | exact eList_f _ h
theorem eChange_good {c : Change} (l : List UInt8) (h : mayC c) : eChange ⟨l, 0⟩ c = ⟨l ++ encC c, 0⟩ := by
  unfold eChange
  rw [eWord_good l h.1]
  cases hg : c.gone
  · simp [wFlag, wWord, encC, hg]
  · simp [wFlag, encC, hg, h.2 hg]
theorem eChange_bad {c : Change} (l : List UInt8) (h : ¬ mayC c) : (eChange ⟨l, 0⟩ c).f = 1 := by
  unfold eChange
  by_cases h1 : c.path.size ≤ 255
  · rw [eWord_good l h1]
    have h2 : c.gone = true ∧ c.digest ≠ 0 := by
      unfold mayC at h
      rcases Bool.eq_false_or_eq_true c.gone with e | e
      · exact ⟨e, fun e' => h ⟨h1, fun _ => e'⟩⟩
      · exact absurd ⟨h1, fun e' => by rw [e] at e'; cases e'⟩ h
    rw [if_pos h2.1, if_pos h2.2]
    simp [wFlag, wRefuse]
  · rw [eWord_bad l h1, wFlag_f _ (by simp), wFlag_f _ (by simp), wRefuse_f (by simp), wWord_f _ (by simp)]
    simp
theorem fold_ways (l : List Change) (b : List UInt8) : ((∀ c ∈ l, mayC c) ∧ l.foldl eChange ⟨b, 0⟩ = ⟨b ++ l.flatMap encC, 0⟩) ∨ (¬ (∀ c ∈ l, mayC c) ∧ (l.foldl eChange ⟨b, 0⟩).f = 1) := by
  induction l generalizing b with
  | nil => exact .inl ⟨by simp, by simp⟩
  | cons c l ih =>
    rw [List.foldl_cons]
    by_cases hc : mayC c
    · rw [eChange_good b hc]
      rcases ih (b ++ encC c) with ⟨h1, h2⟩ | ⟨h1, h2⟩
      · exact .inl ⟨fun x hx => by rcases List.mem_cons.1 hx with rfl | hx; exact hc; exact h1 x hx, by rw [h2]; simp⟩
      · exact .inr ⟨fun h => h1 (fun x hx => h x (List.mem_cons_of_mem _ hx)), h2⟩
    · have h1 := eChange_bad b hc
      refine .inr ⟨fun h => hc (h c (List.mem_cons_self ..)), ?_⟩
      rw [fold_f _ (by rw [h1]; decide)]
      exact h1
theorem eList_good {l : List Change} (b : List UInt8) (h : mayL l) : eList ⟨b, 0⟩ l = ⟨b ++ encL l, 0⟩ := by
  have h64 := h.1
  rw [eList, if_neg (by omega), wNum_good b (show good (l.length : Int) from ⟨by omega, by omega⟩)]
  rcases fold_ways l (b ++ encNum ((l.length : Int)).toNat) with ⟨_, h2⟩ | ⟨h1, _⟩
  · rw [h2]; simp [encL]
  · exact absurd h.2 h1
theorem eList_bad {l : List Change} (b : List UInt8) (h : ¬ mayL l) : (eList ⟨b, 0⟩ l).f = 1 := by
  unfold eList
  by_cases h64 : 64 < l.length
  · rw [if_pos h64]; rfl
  · rw [if_neg h64, wNum_good b (show good (l.length : Int) from ⟨by omega, by omega⟩)]
    rcases fold_ways l (b ++ encNum ((l.length : Int)).toNat) with ⟨h1, _⟩ | ⟨_, h2⟩
    · exact absurd ⟨by omega, h1⟩ h
    · exact h2
theorem ePart_good {r : Req} {p : EPart} (b : List UInt8) (h : mayPart r p) : ePart r p ⟨b, 0⟩ = ⟨b ++ encPart r p, 0⟩ := by
  cases p
  all_goals first | exact eWord_good b h | exact wNum_good b h | exact eList_good b h
theorem ePart_bad {r : Req} {p : EPart} (b : List UInt8) (h : ¬ mayPart r p) : (ePart r p ⟨b, 0⟩).f = 1 := by
  cases p
  all_goals first | exact congrArg WS.f (eWord_bad b h) | exact congrArg WS.f (wNum_bad b h) | exact eList_bad b h
theorem parts_f {s : WS} (r : Req) (l : List EPart) (h : s.f ≠ 0) : l.foldl (fun s p => ePart r p s) s = s := by
  induction l with
  | nil => rfl
  | cons p l ih => rw [List.foldl_cons, ePart_f r p h, ih]
theorem parts_ways (r : Req) (l : List EPart) (b : List UInt8) : ((∀ p ∈ l, mayPart r p) ∧ l.foldl (fun s p => ePart r p s) ⟨b, 0⟩ = ⟨b ++ l.flatMap (encPart r), 0⟩) ∨ (¬ (∀ p ∈ l, mayPart r p) ∧ (l.foldl (fun s p => ePart r p s) ⟨b, 0⟩).f = 1) := by
  induction l generalizing b with
  | nil => exact .inl ⟨by simp, by simp⟩
  | cons c l ih =>
    rw [List.foldl_cons]
    by_cases hc : mayPart r c
    · rw [ePart_good b hc]
      rcases ih (b ++ encPart r c) with ⟨h1, h2⟩ | ⟨h1, h2⟩
      · exact .inl ⟨fun x hx => by rcases List.mem_cons.1 hx with rfl | hx; exact hc; exact h1 x hx, by rw [h2]; simp⟩
      · exact .inr ⟨fun h => h1 (fun x hx => h x (List.mem_cons_of_mem _ hx)), h2⟩
    · have h1 := ePart_bad b hc
      refine .inr ⟨fun h => hc (h c (List.mem_cons_self ..)), ?_⟩
      rw [parts_f _ _ (by rw [h1]; decide)]
      exact h1
/-- What Put comes to. -/
theorem ePut_good {r : Req} (b : List UInt8) (h : mayR r) : ePut ⟨b, 0⟩ r = ⟨b ++ encR r, 0⟩ := by
  obtain ⟨h1, h2, h3⟩ := h
  rw [ePut, if_pos ⟨h1, h2⟩, wNum_good b ⟨by omega, by omega⟩]
  rcases parts_ways r (partsOf r.kind) (b ++ encNum r.kind.toNat) with ⟨_, h4⟩ | ⟨h4, _⟩
  · rw [h4]; simp [encR]
  · exact absurd h3 h4
theorem ePut_bad {r : Req} (b : List UInt8) (h : ¬ mayR r) : (ePut ⟨b, 0⟩ r).f = 1 := by
  unfold ePut
  split
  · rename_i hq
    rw [wNum_good b ⟨by omega, by omega⟩]
    rcases parts_ways r (partsOf r.kind) (b ++ encNum r.kind.toNat) with ⟨h4, _⟩ | ⟨_, h4⟩
    · exact absurd ⟨hq.1, hq.2, h4⟩ h
    · exact h4
  · rfl
theorem ePut_f {s : WS} (r : Req) (h : s.f ≠ 0) : ePut s r = s := by
  unfold ePut
  rw [wNum_f _ h, parts_f _ _ h, wRefuse_f h]
  simp
/-! ### How long -/
theorem encText_len {t : ByteArray} (h : t.size ≤ 255) : (encText t).length ≤ 261 := by
  have := encNum_small (n := t.size) (by omega)
  rw [encText, List.length_append, size_list]; omega
theorem encC_len {c : Change} (h : mayC c) : (encC c).length ≤ 270 := by
  have := encText_len h.1
  rw [encC, List.length_append, List.length_cons]
  have : (if c.gone = true then ([] : List UInt8) else layBytes 8 c.digest).length ≤ 8 := by split <;> simp [layBytes_len]
  omega
theorem flat_len (l : List Change) (h : ∀ c ∈ l, mayC c) : (l.flatMap encC).length ≤ l.length * 270 := by
  induction l with
  | nil => simp
  | cons c l ih =>
    have h1 := encC_len (h c (List.mem_cons_self ..))
    have h2 := ih (fun x hx => h x (List.mem_cons_of_mem _ hx))
    rw [List.flatMap_cons, List.length_append, List.length_cons, Nat.succ_mul]; omega
theorem encL_len {l : List Change} (h : mayL l) : (encL l).length ≤ 17286 := by
  have h1 := flat_len l h.2
  have h64 := h.1
  have h2 := encNum_small (n := l.length) (by omega)
  rw [encL, List.length_append]; omega
theorem encPart_len {r : Req} {p : EPart} (h : mayPart r p) : (encPart r p).length ≤ 17286 := by
  have hn : ∀ n : Int, good n → (encNum n.toNat).length ≤ 17286 := fun n hn => by have := encNum_small (n := n.toNat) (by have := hn.2; omega); omega
  have ht : ∀ t : ByteArray, t.size ≤ 255 → (encText t).length ≤ 17286 := fun t ht => by have := encText_len ht; omega
  cases p
  all_goals first | exact hn _ h | exact ht _ h | exact encL_len h
end Go.Proofs.Ytnekfonnceknoaa
namespace Go.Proofs.Ytnekfonnceknoaa
open Go.RowKit
section
variable {F : Nat → Prop} {w : World} {g : Nat} {s : WS}
theorem word'_calls (h : WrAt F w g s) (t : ByteArray) (hl : s.b.length ≤ 35184372088832) :
    Calls Try.prog 88 #[.pointer (some ⟨g, 0, none⟩), .string t] w (WrPost F w g (eWord s t)) := by
  by_cases hbig : 255 < t.size
  · have e := hid (show eWord s t = wRefuse s from if_pos hbig)
    go_enter Try.func88, Try.ntmps88
    go_wp2_with fail
    refine (refuse_calls h).mono ?_
    rintro en w1 ⟨rfl, h1, h2⟩
    go_wp2_with fail
    go_end0
    rw [e.out]
    exact ⟨rfl, h1, h2⟩
  · have e := hid (show eWord s t = wText s t.data.toList from if_neg hbig)
    have htc := text_calls h t (by omega) hl
    go_enter Try.func88, Try.ntmps88
    go_wp2_with fail
    refine htc.mono ?_
    rintro en w1 ⟨rfl, h1, h2⟩
    go_wp2_with fail
    go_end0
    rw [e.out]
    exact ⟨rfl, h1, h2⟩
theorem WrPost.step {w1 w2 : World} {s1 s2 : WS} {e : Ending} (_h1 : WrAt (Grow F w w1) w1 g s1) (k1 : Keep F w w1) {w1' : World} (ka : Keep (fun _ => False) w1 w1') (h2 : WrPost (Grow F w w1) w1' g s2 e w2) : WrPost F w g s2 e w2 := by
  obtain ⟨a, b, c⟩ := h2
  have z1 := k1.size
  have z2 := ka.size
  have z3 := c.size
  refine ⟨a, b.mono (fun q hq => ?_), k1.trans ((ka.mono (T := Grow F w w1) (fun _ _ h => h.elim)).trans c (fun _ _ q => q)) (fun q hq e => e.elim id (fun ⟨e1, _⟩ => by omega))⟩
  rcases hq with hq | ⟨q1, q2⟩
  · rcases hq with hq | ⟨q1, q2⟩
    · exact .inl hq
    · exact .inr ⟨q1, by omega⟩
  · exact .inr ⟨by omega, q2⟩
abbrev chCs (c : Change) : List Value := [.string c.path, .bool c.gone, .int .u64 c.digest]
theorem eWord_len {s : WS} {t : ByteArray} : (eWord s t).b.length ≤ s.b.length + 261 := by
  by_cases hf : s.f = 0
  · obtain ⟨l, f⟩ := s
    obtain rfl : f = 0 := hf
    by_cases ht : t.size ≤ 255
    · rw [eWord_good l ht]; have := encText_len ht; simp; omega
    · rw [eWord_bad l ht]; simp
  · rw [eWord_f _ hf]; omega
theorem wFlag_len {s : WS} {b : Bool} : (wFlag s b).b.length ≤ s.b.length + 1 := by unfold wFlag; split <;> simp
theorem wWord_len {s : WS} {x : Nat} : (wWord s x).b.length ≤ s.b.length + 8 := by unfold wWord; split <;> simp [layBytes_len]
theorem wRefuse_len {s : WS} : (wRefuse s).b.length = s.b.length := by unfold wRefuse; split <;> simp
theorem wNum_len {s : WS} {n : Int} : (wNum s n).b.length ≤ s.b.length + 6 := by
  unfold wNum
  split
  · omega
  split
  · rename_i hq
    have := encNum_small (n := n.toNat) (by omega)
    simp; omega
  · simp
theorem eChange_len {s : WS} {c : Change} : (eChange s c).b.length ≤ s.b.length + 270 := by
  have h1 := eWord_len (s := s) (t := c.path)
  unfold eChange
  have h2 := wFlag_len (s := eWord s c.path) (b := true)
  have h3 := wFlag_len (s := eWord s c.path) (b := false)
  have h4 := wWord_len (s := wFlag (eWord s c.path) false) (x := c.digest)
  split
  · split
    · rw [wRefuse_len]; omega
    · omega
  · omega
theorem fold_len (l : List Change) (s : WS) : (l.foldl eChange s).b.length ≤ s.b.length + l.length * 270 := by
  induction l generalizing s with
  | nil => simp
  | cons c l ih =>
    rw [List.foldl_cons, List.length_cons, Nat.succ_mul]
    have := ih (eChange s c)
    have := eChange_len (s := s) (c := c)
    omega
theorem eList_len {s : WS} {l : List Change} : (eList s l).b.length ≤ s.b.length + 17286 := by
  unfold eList
  split
  · rw [wRefuse_len]; omega
  · have := fold_len l (wNum s l.length)
    have := wNum_len (s := s) (n := l.length)
    omega
theorem ePart_len {r : Req} {p : EPart} {s : WS} : (ePart r p s).b.length ≤ s.b.length + 17286 := by
  cases p
  all_goals first | exact Nat.le_trans eWord_len (by omega) | exact Nat.le_trans wNum_len (by omega) | exact eList_len
set_option maxRecDepth 20000 in
set_option maxHeartbeats 4000000 in
theorem list_calls {G : Nat → Prop} (h : WrAt F w g s) (hF : ∀ k, F k → k < w.heap.size) {v : Value} {l : List Change} (hv : Sl .change w G v l) (hG : ∀ k, G k → ¬ F k ∧ k < w.heap.size) (hl : s.b.length ≤ 30000000000000) :
    Calls Try.prog 89 #[.pointer (some ⟨g, 0, none⟩), v] w (WrPost F w g (eList s l)) := by
  obtain ⟨A, c, rfl⟩ := hv.shape
  have hmax : l.length ≤ 9223372036854775807 := by obtain ⟨_, _, _, q1, q2, _⟩ := hv; unfold maxLen at q2; omega
  obtain ⟨n, hn⟩ : ∃ n, n = l.length := ⟨_, rfl⟩
  rw [← hn] at hv hmax ⊢
  have HN := hid hn; have HV := hid hv; have HG := hid hG; have HF := hid hF
  clear hv hn hG hF
  by_cases h64 : 64 < n
  · have e := hid (show eList s l = wRefuse s from if_pos (by rw [← HN.out]; exact h64))
    go_enter Try.func89, Try.ntmps89
    go_wp2_with fail
    refine (refuse_calls h).mono ?_
    rintro en w1 ⟨rfl, h1, h2⟩
    go_wp2_with fail
    go_end0
    rw [e.out]
    exact ⟨rfl, h1, h2⟩
  · have e := hid (show eList s l = l.foldl eChange (wNum s n) by rw [eList, if_neg (by rw [← HN.out]; exact h64), HN.out])
    have hnc := num_calls h n (by omega)
    have hnl := wNum_len (s := s) (n := n)
    go_enter Try.func89, Try.ntmps89
    go_wp2_with fail
    refine hnc.mono ?_
    rintro en w1 ⟨rfl, h1, k1⟩
    generalize wNum s n = s1 at *
    have H1 := hid h1; have K1 := hid k1
    clear hnc h1 k1
    go_wp2_with fail
    go_loopw [17] (fun i wr => ∃ k : Nat, k ≤ n ∧ i = .int .i64 k ∧ WrAt (Grow F w wr) wr g ((l.take k).foldl eChange s1) ∧ Keep F w wr) (fun i _ => n - (intOf i).toNat)
    case atStart => exact ⟨0, Nat.zero_le _, rfl, H1.out, K1.out⟩
    case round =>
      obtain ⟨k, hk, rfl, hW, hkp⟩ := hrel
      by_cases hlt : k < n
      · obtain ⟨x, hx⟩ : ∃ x, l[k]? = some x := ⟨l[k]'(by rw [← HN.out]; exact hlt), by simp [show k < l.length by rw [← HN.out]; exact hlt]⟩
        have hvk := HV.out.keep hkp (fun q hq => (HG.out q hq).1)
        obtain ⟨b, off, rfl, hGb, d0, d1, d2⟩ := change_at hvk hx
        have htk : (l.take (k + 1)).foldl eChange s1 = eChange ((l.take k).foldl eChange s1) x := by rw [List.take_add_one, hx, List.foldl_append]; rfl
        have hln := fold_len (l.take k) s1
        have hlk : (l.take k).length ≤ 64 := by rw [List.length_take]; omega
        have hln2 : ((l.take k).foldl eChange s1).b.length ≤ 30000000020000 := by omega
        generalize (l.take k).foldl eChange s1 = sk at *
        have hec : eChange sk x = if x.gone = true then (if x.digest ≠ 0 then wRefuse (wFlag (eWord sk x.path) x.gone) else wFlag (eWord sk x.path) x.gone) else wWord (wFlag (eWord sk x.path) x.gone) x.digest := by unfold eChange; cases x.gone <;> rfl
        have HEC := hid hec
        clear hec
        have hlw := eWord_len (s := sk) (t := x.path)
        have hlf := fun b => wFlag_len (s := eWord sk x.path) (b := b)
        have HTK := hid htk; have HW := hid hW; have HKP := hid hkp
        have hrk := hkp.size
        clear hvk hx htk hW hkp hln hlk
        go_wp2_with (first
          | (refine wpl_allocB (z := .agg (chCs ⟨ByteArray.empty, false, 0⟩).toArray) rfl rfl (by kernel_rfl) ?_; intro g5 w5 hg5 hb5 k5 s5; have HG5 := hid hg5; have K5 := hid k5; have z5 : w5.heap.size = g5 + 1 := s5; have Z5 := hid z5; have e0 := k5.cell d0 id; have e1 := k5.cell d1 id; have e2 := k5.cell d2 id; clear hg5 k5 s5 z5)
          | (refine wpl_storeB (v := .agg (chCs x).toArray) rfl rfl rfl rfl hb5 (by kernel_rfl) (Nat.le_refl 3) (by simp [Value.oneCell', Value.cells]) ?_; intro w6 hb6 k6 s6; rw [show spl (Value.agg (chCs ⟨ByteArray.empty, false, 0⟩).toArray).cells 0 (Value.agg (chCs x).toArray).cells.toList = (chCs x).toArray from spl_whole _ _ (Nat.le_refl 3)] at hb6; have K6 := hid k6; have HB6 := hid hb6; have f0 := cell_at hb6 0 (.string x.path) rfl; clear k6 s6))
        have k06 : Keep (fun _ => False) wr w6 := K5.out.trans K6.out (fun b hb e => by have := HG5.out; omega)
        have hW6 := HW.out.keep k06 (fun _ _ => id)
        have hg5F : ¬ Grow F w wr g5 := fun e => by
          have := HG5.out
          rcases e with e | ⟨_, e⟩
          · have := HF.out _ e; omega
          · omega
        have K06 := hid k06; have HGF := hid hg5F
        clear hb5 k06 d0 d1 d2 e0 e1 e2 hg5F
        refine (word'_calls hW6 x.path (by omega)).mono ?_
        rintro en w7 ⟨rfl, h7, k7⟩
        have hb7 := k7.heap HB6.out HGF.out
        have f1 := cell_at hb7 1 (.bool x.gone) rfl
        have HB7 := hid hb7
        have hg7F : ¬ Grow (Grow F w wr) w6 w7 g5 := fun e => by
          rcases e with e | ⟨e, _⟩
          · exact HGF.out e
          · have := lt_heap HB6.out; omega
        have H7 := hid h7; have K7 := hid k7; have HG7 := hid hg7F
        clear hW6 hb7 h7 k7 f0 hg7F
        generalize eWord sk x.path = s7 at *
        go_wp2_with fail
        refine (flag_calls H7.out x.gone (by omega)).mono ?_
        rintro en w8 ⟨rfl, h8, k8⟩
        have hb8 := k8.heap HB7.out HG7.out
        have f1 := cell_at hb8 1 (.bool x.gone) rfl
        have f2 := cell_at hb8 2 (.int .u64 x.digest) rfl
        have h68 := WrPost.after K7.out ⟨rfl, h8, k8⟩
        have H8 := hid h68.2.1; have K8 := hid h68.2.2
        clear h8 k8 h68 hb8
        have hl8 := wFlag_len (s := s7) (b := x.gone)
        obtain ⟨gn, hgn⟩ : ∃ gn, gn = x.gone := ⟨_, rfl⟩
        rw [← hgn] at f1 H8 hl8 HEC
        have hend : ∀ s9 w9 e9, eChange sk x = s9 → WrPost (Grow F w wr) w6 g s9 e9 w9 → WrAt (Grow F w w9) w9 g ((l.take (k + 1)).foldl eChange s1) ∧ Keep F w w9 := fun s9 w9 e9 he hp => by
          rw [HTK.out, he]
          exact (WrPost.step HW.out HKP.out K06.out hp).2
        have HEND := hid hend
        clear hend hgn
        cases gn
        · have hec := HEC.out
          rw [if_neg (by decide)] at hec
          have HEC := hid hec
          clear hec
          have hwc := word_calls H8.out x.digest (by omega)
          generalize wFlag s7 false = s8 at *
          go_wp2_with fail
          refine hwc.mono ?_
          rintro en w9 ⟨rfl, h9, k9⟩
          have HF9 := hid (HEND.out _ _ _ HEC.out (WrPost.after K8.out ⟨rfl, h9, k9⟩))
          clear hwc h9 k9
          go_wp2_with fail
          exact ⟨⟨k + 1, by omega, by simp, HF9.out.1, HF9.out.2⟩, by simp [intOf]; omega⟩
        · have hec := HEC.out
          rw [if_pos rfl] at hec
          generalize wFlag s7 true = s8 at *
          by_cases hd : x.digest = 0
          · rw [if_neg (by simp [hd])] at hec
            have hb0 : ((x.digest : Int) != 0) = false := by simp [hd]
            have HF9 := hid (HEND.out _ _ _ hec ⟨rfl, H8.out, K8.out⟩)
            clear hd hec
            go_wp2_with fail
            exact ⟨⟨k + 1, by omega, by simp, HF9.out.1, HF9.out.2⟩, by simp [intOf]; omega⟩
          · rw [if_pos hd] at hec
            have hb0 : ((x.digest : Int) != 0) = true := by simp [hd]
            have HEC2 := hid hec
            have hwc := refuse_calls H8.out
            clear hd hec
            go_wp2_with fail
            refine hwc.mono ?_
            rintro en w9 ⟨rfl, h9, k9⟩
            have HF9 := hid (HEND.out _ _ _ HEC2.out (WrPost.after K8.out ⟨rfl, h9, k9⟩))
            clear hwc h9 k9
            go_wp2_with fail
            exact ⟨⟨k + 1, by omega, by simp, HF9.out.1, HF9.out.2⟩, by simp [intOf]; omega⟩
      · obtain rfl : k = n := by omega
        have HW := hid hW; have HKP := hid hkp
        clear hW hkp
        go_wp2_with fail
        go_end0
        rw [e.out]
        have := HW.out
        rw [List.take_of_length_le (by rw [← HN.out]; exact Nat.le_refl _)] at this
        exact ⟨rfl, this, HKP.out⟩
end
end Go.Proofs.Ytnekfonnceknoaa
namespace Go.Proofs.Ytnekfonnceknoaa
open Go.RowKit
abbrev XObj (gw : Nat) (r : Req) (v : Value) (x : Verdict) (u : Value) : Obj := .cells (.pointer (some ⟨gw, 0, none⟩) :: (reqCs r v ++ verdictCs x u)).toArray 109
section
variable {F : Nat → Prop} {w : World} {gw gx : Nat} {s : WS} {r : Req} {v u : Value} {x : Verdict}
set_option maxRecDepth 20000 in
set_option maxHeartbeats 2000000 in
theorem part_session (hx : w.heap[gx]? = some (XObj gw r v x u)) (h : WrAt F w gw s) (hgx : ¬ F gx) (hl : s.b.length ≤ 30000000000000) :
    Calls Try.prog 75 #[.pointer (some ⟨gx, 0, none⟩)] w (WrPost F w gw (ePart r .session s)) := by
  have c0 := cell_at hx 0 (.pointer (some ⟨gw, 0, none⟩)) rfl
  have c1 := cell_at hx 3 (.int .i64 r.session) rfl
  have HC := hid (fun (y : World) (hk : Keep F w y) => (⟨hk.cell c0 hgx, hk.cell c1 hgx⟩ : y.cell? ⟨gx, 0, none⟩ = some (.pointer (some ⟨gw, 0, none⟩)) ∧ y.cell? ⟨gx, 3, none⟩ = some (.int .i64 r.session)))
  have NC : ∀ y, Keep (fun _ => False) w y → Calls Try.prog 67 #[.pointer (some ⟨gw, 0, none⟩), .int .i64 r.session] y fun e w' => e = .returned (.tuple #[]) ∧ WrAt (Grow F w w') w' gw (ePart r .session s) ∧ Keep F w w' := fun y hk => by
    refine (num_calls (h.keep hk (fun _ _ => id)) r.session (by omega)).mono ?_
    rintro e w' ⟨he, h1, h2⟩
    have hz := hk.size
    exact ⟨he, h1.mono (fun q hq => hq.imp id (fun ⟨a, b⟩ => ⟨by omega, b⟩)), (hk.mono (fun _ _ f => f.elim)).trans h2 (fun _ _ q => q)⟩
  have kd : Keep (fun _ => False) w w.drew := (Keep.refl _ w).drew
  have kdF : Keep F w w.drew := (Keep.refl _ w).drew
  clear h hx
  go_enter Try.func75, Try.ntmps75
  go_wp2_with fail
  go_region_held3 (fun y => y.cell? ⟨gx, 0, none⟩ = some (.pointer (some ⟨gw, 0, none⟩)) ∧ y.cell? ⟨gx, 3, none⟩ = some (.int .i64 r.session)) (exact HC.out _ (by assumption)) (first
    | (go_at_call 67; with_reducible refine (NC _ (by assumption)).mono ?_; rintro e w2 ⟨rfl, h2, k2⟩))
  all_goals (
    go_wp2_with fail
    go_end0
    exact ⟨rfl, h2, k2⟩)
set_option maxRecDepth 20000 in
set_option maxHeartbeats 2000000 in
theorem part_seq (hx : w.heap[gx]? = some (XObj gw r v x u)) (h : WrAt F w gw s) (hgx : ¬ F gx) (hl : s.b.length ≤ 30000000000000) :
    Calls Try.prog 76 #[.pointer (some ⟨gx, 0, none⟩)] w (WrPost F w gw (ePart r .seq s)) := by
  have c0 := cell_at hx 0 (.pointer (some ⟨gw, 0, none⟩)) rfl
  have c1 := cell_at hx 4 (.int .i64 r.seq) rfl
  have HC := hid (fun (y : World) (hk : Keep F w y) => (⟨hk.cell c0 hgx, hk.cell c1 hgx⟩ : y.cell? ⟨gx, 0, none⟩ = some (.pointer (some ⟨gw, 0, none⟩)) ∧ y.cell? ⟨gx, 4, none⟩ = some (.int .i64 r.seq)))
  have NC : ∀ y, Keep (fun _ => False) w y → Calls Try.prog 67 #[.pointer (some ⟨gw, 0, none⟩), .int .i64 r.seq] y fun e w' => e = .returned (.tuple #[]) ∧ WrAt (Grow F w w') w' gw (ePart r .seq s) ∧ Keep F w w' := fun y hk => by
    refine (num_calls (h.keep hk (fun _ _ => id)) r.seq (by omega)).mono ?_
    rintro e w' ⟨he, h1, h2⟩
    have hz := hk.size
    exact ⟨he, h1.mono (fun q hq => hq.imp id (fun ⟨a, b⟩ => ⟨by omega, b⟩)), (hk.mono (fun _ _ f => f.elim)).trans h2 (fun _ _ q => q)⟩
  have kd : Keep (fun _ => False) w w.drew := (Keep.refl _ w).drew
  have kdF : Keep F w w.drew := (Keep.refl _ w).drew
  clear h hx
  go_enter Try.func76, Try.ntmps76
  go_wp2_with fail
  go_region_held3 (fun y => y.cell? ⟨gx, 0, none⟩ = some (.pointer (some ⟨gw, 0, none⟩)) ∧ y.cell? ⟨gx, 4, none⟩ = some (.int .i64 r.seq)) (exact HC.out _ (by assumption)) (first
    | (go_at_call 67; with_reducible refine (NC _ (by assumption)).mono ?_; rintro e w2 ⟨rfl, h2, k2⟩))
  all_goals (
    go_wp2_with fail
    go_end0
    exact ⟨rfl, h2, k2⟩)
set_option maxRecDepth 20000 in
set_option maxHeartbeats 2000000 in
theorem part_base (hx : w.heap[gx]? = some (XObj gw r v x u)) (h : WrAt F w gw s) (hgx : ¬ F gx) (hl : s.b.length ≤ 30000000000000) :
    Calls Try.prog 78 #[.pointer (some ⟨gx, 0, none⟩)] w (WrPost F w gw (ePart r .base s)) := by
  have c0 := cell_at hx 0 (.pointer (some ⟨gw, 0, none⟩)) rfl
  have c1 := cell_at hx 5 (.int .i64 r.base) rfl
  have HC := hid (fun (y : World) (hk : Keep F w y) => (⟨hk.cell c0 hgx, hk.cell c1 hgx⟩ : y.cell? ⟨gx, 0, none⟩ = some (.pointer (some ⟨gw, 0, none⟩)) ∧ y.cell? ⟨gx, 5, none⟩ = some (.int .i64 r.base)))
  have NC : ∀ y, Keep (fun _ => False) w y → Calls Try.prog 67 #[.pointer (some ⟨gw, 0, none⟩), .int .i64 r.base] y fun e w' => e = .returned (.tuple #[]) ∧ WrAt (Grow F w w') w' gw (ePart r .base s) ∧ Keep F w w' := fun y hk => by
    refine (num_calls (h.keep hk (fun _ _ => id)) r.base (by omega)).mono ?_
    rintro e w' ⟨he, h1, h2⟩
    have hz := hk.size
    exact ⟨he, h1.mono (fun q hq => hq.imp id (fun ⟨a, b⟩ => ⟨by omega, b⟩)), (hk.mono (fun _ _ f => f.elim)).trans h2 (fun _ _ q => q)⟩
  have kd : Keep (fun _ => False) w w.drew := (Keep.refl _ w).drew
  have kdF : Keep F w w.drew := (Keep.refl _ w).drew
  clear h hx
  go_enter Try.func78, Try.ntmps78
  go_wp2_with fail
  go_region_held3 (fun y => y.cell? ⟨gx, 0, none⟩ = some (.pointer (some ⟨gw, 0, none⟩)) ∧ y.cell? ⟨gx, 5, none⟩ = some (.int .i64 r.base)) (exact HC.out _ (by assumption)) (first
    | (go_at_call 67; with_reducible refine (NC _ (by assumption)).mono ?_; rintro e w2 ⟨rfl, h2, k2⟩))
  all_goals (
    go_wp2_with fail
    go_end0
    exact ⟨rfl, h2, k2⟩)
set_option maxRecDepth 20000 in
set_option maxHeartbeats 2000000 in
theorem part_from (hx : w.heap[gx]? = some (XObj gw r v x u)) (h : WrAt F w gw s) (hgx : ¬ F gx) (hl : s.b.length ≤ 30000000000000) :
    Calls Try.prog 82 #[.pointer (some ⟨gx, 0, none⟩)] w (WrPost F w gw (ePart r .from' s)) := by
  have c0 := cell_at hx 0 (.pointer (some ⟨gw, 0, none⟩)) rfl
  have c1 := cell_at hx 9 (.int .i64 r.from') rfl
  have HC := hid (fun (y : World) (hk : Keep F w y) => (⟨hk.cell c0 hgx, hk.cell c1 hgx⟩ : y.cell? ⟨gx, 0, none⟩ = some (.pointer (some ⟨gw, 0, none⟩)) ∧ y.cell? ⟨gx, 9, none⟩ = some (.int .i64 r.from')))
  have NC : ∀ y, Keep (fun _ => False) w y → Calls Try.prog 67 #[.pointer (some ⟨gw, 0, none⟩), .int .i64 r.from'] y fun e w' => e = .returned (.tuple #[]) ∧ WrAt (Grow F w w') w' gw (ePart r .from' s) ∧ Keep F w w' := fun y hk => by
    refine (num_calls (h.keep hk (fun _ _ => id)) r.from' (by omega)).mono ?_
    rintro e w' ⟨he, h1, h2⟩
    have hz := hk.size
    exact ⟨he, h1.mono (fun q hq => hq.imp id (fun ⟨a, b⟩ => ⟨by omega, b⟩)), (hk.mono (fun _ _ f => f.elim)).trans h2 (fun _ _ q => q)⟩
  have kd : Keep (fun _ => False) w w.drew := (Keep.refl _ w).drew
  have kdF : Keep F w w.drew := (Keep.refl _ w).drew
  clear h hx
  go_enter Try.func82, Try.ntmps82
  go_wp2_with fail
  go_region_held3 (fun y => y.cell? ⟨gx, 0, none⟩ = some (.pointer (some ⟨gw, 0, none⟩)) ∧ y.cell? ⟨gx, 9, none⟩ = some (.int .i64 r.from')) (exact HC.out _ (by assumption)) (first
    | (go_at_call 67; with_reducible refine (NC _ (by assumption)).mono ?_; rintro e w2 ⟨rfl, h2, k2⟩))
  all_goals (
    go_wp2_with fail
    go_end0
    exact ⟨rfl, h2, k2⟩)
set_option maxRecDepth 20000 in
set_option maxHeartbeats 2000000 in
theorem part_many (hx : w.heap[gx]? = some (XObj gw r v x u)) (h : WrAt F w gw s) (hgx : ¬ F gx) (hl : s.b.length ≤ 30000000000000) :
    Calls Try.prog 83 #[.pointer (some ⟨gx, 0, none⟩)] w (WrPost F w gw (ePart r .many s)) := by
  have c0 := cell_at hx 0 (.pointer (some ⟨gw, 0, none⟩)) rfl
  have c1 := cell_at hx 10 (.int .i64 r.many) rfl
  have HC := hid (fun (y : World) (hk : Keep F w y) => (⟨hk.cell c0 hgx, hk.cell c1 hgx⟩ : y.cell? ⟨gx, 0, none⟩ = some (.pointer (some ⟨gw, 0, none⟩)) ∧ y.cell? ⟨gx, 10, none⟩ = some (.int .i64 r.many)))
  have NC : ∀ y, Keep (fun _ => False) w y → Calls Try.prog 67 #[.pointer (some ⟨gw, 0, none⟩), .int .i64 r.many] y fun e w' => e = .returned (.tuple #[]) ∧ WrAt (Grow F w w') w' gw (ePart r .many s) ∧ Keep F w w' := fun y hk => by
    refine (num_calls (h.keep hk (fun _ _ => id)) r.many (by omega)).mono ?_
    rintro e w' ⟨he, h1, h2⟩
    have hz := hk.size
    exact ⟨he, h1.mono (fun q hq => hq.imp id (fun ⟨a, b⟩ => ⟨by omega, b⟩)), (hk.mono (fun _ _ f => f.elim)).trans h2 (fun _ _ q => q)⟩
  have kd : Keep (fun _ => False) w w.drew := (Keep.refl _ w).drew
  have kdF : Keep F w w.drew := (Keep.refl _ w).drew
  clear h hx
  go_enter Try.func83, Try.ntmps83
  go_wp2_with fail
  go_region_held3 (fun y => y.cell? ⟨gx, 0, none⟩ = some (.pointer (some ⟨gw, 0, none⟩)) ∧ y.cell? ⟨gx, 10, none⟩ = some (.int .i64 r.many)) (exact HC.out _ (by assumption)) (first
    | (go_at_call 67; with_reducible refine (NC _ (by assumption)).mono ?_; rintro e w2 ⟨rfl, h2, k2⟩))
  all_goals (
    go_wp2_with fail
    go_end0
    exact ⟨rfl, h2, k2⟩)
set_option maxRecDepth 20000 in
set_option maxHeartbeats 2000000 in
theorem part_member (hx : w.heap[gx]? = some (XObj gw r v x u)) (h : WrAt F w gw s) (hgx : ¬ F gx) (hl : s.b.length ≤ 30000000000000) :
    Calls Try.prog 84 #[.pointer (some ⟨gx, 0, none⟩)] w (WrPost F w gw (ePart r .member s)) := by
  have c0 := cell_at hx 0 (.pointer (some ⟨gw, 0, none⟩)) rfl
  have c1 := cell_at hx 11 (.int .i64 r.member) rfl
  have HC := hid (fun (y : World) (hk : Keep F w y) => (⟨hk.cell c0 hgx, hk.cell c1 hgx⟩ : y.cell? ⟨gx, 0, none⟩ = some (.pointer (some ⟨gw, 0, none⟩)) ∧ y.cell? ⟨gx, 11, none⟩ = some (.int .i64 r.member)))
  have NC : ∀ y, Keep (fun _ => False) w y → Calls Try.prog 67 #[.pointer (some ⟨gw, 0, none⟩), .int .i64 r.member] y fun e w' => e = .returned (.tuple #[]) ∧ WrAt (Grow F w w') w' gw (ePart r .member s) ∧ Keep F w w' := fun y hk => by
    refine (num_calls (h.keep hk (fun _ _ => id)) r.member (by omega)).mono ?_
    rintro e w' ⟨he, h1, h2⟩
    have hz := hk.size
    exact ⟨he, h1.mono (fun q hq => hq.imp id (fun ⟨a, b⟩ => ⟨by omega, b⟩)), (hk.mono (fun _ _ f => f.elim)).trans h2 (fun _ _ q => q)⟩
  have kd : Keep (fun _ => False) w w.drew := (Keep.refl _ w).drew
  have kdF : Keep F w w.drew := (Keep.refl _ w).drew
  clear h hx
  go_enter Try.func84, Try.ntmps84
  go_wp2_with fail
  go_region_held3 (fun y => y.cell? ⟨gx, 0, none⟩ = some (.pointer (some ⟨gw, 0, none⟩)) ∧ y.cell? ⟨gx, 11, none⟩ = some (.int .i64 r.member)) (exact HC.out _ (by assumption)) (first
    | (go_at_call 67; with_reducible refine (NC _ (by assumption)).mono ?_; rintro e w2 ⟨rfl, h2, k2⟩))
  all_goals (
    go_wp2_with fail
    go_end0
    exact ⟨rfl, h2, k2⟩)
set_option maxRecDepth 20000 in
set_option maxHeartbeats 2000000 in
theorem part_name (hx : w.heap[gx]? = some (XObj gw r v x u)) (h : WrAt F w gw s) (hgx : ¬ F gx) (hl : s.b.length ≤ 30000000000000) :
    Calls Try.prog 77 #[.pointer (some ⟨gx, 0, none⟩)] w (WrPost F w gw (ePart r .name s)) := by
  have c0 := cell_at hx 0 (.pointer (some ⟨gw, 0, none⟩)) rfl
  have c1 := cell_at hx 2 (.string r.name) rfl
  have HC := hid (fun (y : World) (hk : Keep F w y) => (⟨hk.cell c0 hgx, hk.cell c1 hgx⟩ : y.cell? ⟨gx, 0, none⟩ = some (.pointer (some ⟨gw, 0, none⟩)) ∧ y.cell? ⟨gx, 2, none⟩ = some (.string r.name)))
  have NC : ∀ y, Keep (fun _ => False) w y → Calls Try.prog 88 #[.pointer (some ⟨gw, 0, none⟩), .string r.name] y fun e w' => e = .returned (.tuple #[]) ∧ WrAt (Grow F w w') w' gw (ePart r .name s) ∧ Keep F w w' := fun y hk => by
    refine (word'_calls (h.keep hk (fun _ _ => id)) r.name (by omega)).mono ?_
    rintro e w' ⟨he, h1, h2⟩
    have hz := hk.size
    exact ⟨he, h1.mono (fun q hq => hq.imp id (fun ⟨a, b⟩ => ⟨by omega, b⟩)), (hk.mono (fun _ _ f => f.elim)).trans h2 (fun _ _ q => q)⟩
  have kd : Keep (fun _ => False) w w.drew := (Keep.refl _ w).drew
  have kdF : Keep F w w.drew := (Keep.refl _ w).drew
  clear h hx
  go_enter Try.func77, Try.ntmps77
  go_wp2_with fail
  go_region_held3 (fun y => y.cell? ⟨gx, 0, none⟩ = some (.pointer (some ⟨gw, 0, none⟩)) ∧ y.cell? ⟨gx, 2, none⟩ = some (.string r.name)) (exact HC.out _ (by assumption)) (first
    | (go_at_call 88; with_reducible refine (NC _ (by assumption)).mono ?_; rintro e w2 ⟨rfl, h2, k2⟩))
  all_goals (
    go_wp2_with fail
    go_end0
    exact ⟨rfl, h2, k2⟩)
set_option maxRecDepth 20000 in
set_option maxHeartbeats 2000000 in
theorem part_ref (hx : w.heap[gx]? = some (XObj gw r v x u)) (h : WrAt F w gw s) (hgx : ¬ F gx) (hl : s.b.length ≤ 30000000000000) :
    Calls Try.prog 79 #[.pointer (some ⟨gx, 0, none⟩)] w (WrPost F w gw (ePart r .ref s)) := by
  have c0 := cell_at hx 0 (.pointer (some ⟨gw, 0, none⟩)) rfl
  have c1 := cell_at hx 6 (.string r.ref) rfl
  have HC := hid (fun (y : World) (hk : Keep F w y) => (⟨hk.cell c0 hgx, hk.cell c1 hgx⟩ : y.cell? ⟨gx, 0, none⟩ = some (.pointer (some ⟨gw, 0, none⟩)) ∧ y.cell? ⟨gx, 6, none⟩ = some (.string r.ref)))
  have NC : ∀ y, Keep (fun _ => False) w y → Calls Try.prog 88 #[.pointer (some ⟨gw, 0, none⟩), .string r.ref] y fun e w' => e = .returned (.tuple #[]) ∧ WrAt (Grow F w w') w' gw (ePart r .ref s) ∧ Keep F w w' := fun y hk => by
    refine (word'_calls (h.keep hk (fun _ _ => id)) r.ref (by omega)).mono ?_
    rintro e w' ⟨he, h1, h2⟩
    have hz := hk.size
    exact ⟨he, h1.mono (fun q hq => hq.imp id (fun ⟨a, b⟩ => ⟨by omega, b⟩)), (hk.mono (fun _ _ f => f.elim)).trans h2 (fun _ _ q => q)⟩
  have kd : Keep (fun _ => False) w w.drew := (Keep.refl _ w).drew
  have kdF : Keep F w w.drew := (Keep.refl _ w).drew
  clear h hx
  go_enter Try.func79, Try.ntmps79
  go_wp2_with fail
  go_region_held3 (fun y => y.cell? ⟨gx, 0, none⟩ = some (.pointer (some ⟨gw, 0, none⟩)) ∧ y.cell? ⟨gx, 6, none⟩ = some (.string r.ref)) (exact HC.out _ (by assumption)) (first
    | (go_at_call 88; with_reducible refine (NC _ (by assumption)).mono ?_; rintro e w2 ⟨rfl, h2, k2⟩))
  all_goals (
    go_wp2_with fail
    go_end0
    exact ⟨rfl, h2, k2⟩)
set_option maxRecDepth 20000 in
set_option maxHeartbeats 2000000 in
theorem part_path (hx : w.heap[gx]? = some (XObj gw r v x u)) (h : WrAt F w gw s) (hgx : ¬ F gx) (hl : s.b.length ≤ 30000000000000) :
    Calls Try.prog 81 #[.pointer (some ⟨gx, 0, none⟩)] w (WrPost F w gw (ePart r .path s)) := by
  have c0 := cell_at hx 0 (.pointer (some ⟨gw, 0, none⟩)) rfl
  have c1 := cell_at hx 8 (.string r.path) rfl
  have HC := hid (fun (y : World) (hk : Keep F w y) => (⟨hk.cell c0 hgx, hk.cell c1 hgx⟩ : y.cell? ⟨gx, 0, none⟩ = some (.pointer (some ⟨gw, 0, none⟩)) ∧ y.cell? ⟨gx, 8, none⟩ = some (.string r.path)))
  have NC : ∀ y, Keep (fun _ => False) w y → Calls Try.prog 88 #[.pointer (some ⟨gw, 0, none⟩), .string r.path] y fun e w' => e = .returned (.tuple #[]) ∧ WrAt (Grow F w w') w' gw (ePart r .path s) ∧ Keep F w w' := fun y hk => by
    refine (word'_calls (h.keep hk (fun _ _ => id)) r.path (by omega)).mono ?_
    rintro e w' ⟨he, h1, h2⟩
    have hz := hk.size
    exact ⟨he, h1.mono (fun q hq => hq.imp id (fun ⟨a, b⟩ => ⟨by omega, b⟩)), (hk.mono (fun _ _ f => f.elim)).trans h2 (fun _ _ q => q)⟩
  have kd : Keep (fun _ => False) w w.drew := (Keep.refl _ w).drew
  have kdF : Keep F w w.drew := (Keep.refl _ w).drew
  clear h hx
  go_enter Try.func81, Try.ntmps81
  go_wp2_with fail
  go_region_held3 (fun y => y.cell? ⟨gx, 0, none⟩ = some (.pointer (some ⟨gw, 0, none⟩)) ∧ y.cell? ⟨gx, 8, none⟩ = some (.string r.path)) (exact HC.out _ (by assumption)) (first
    | (go_at_call 88; with_reducible refine (NC _ (by assumption)).mono ?_; rintro e w2 ⟨rfl, h2, k2⟩))
  all_goals (
    go_wp2_with fail
    go_end0
    exact ⟨rfl, h2, k2⟩)
set_option maxRecDepth 20000 in
set_option maxHeartbeats 2000000 in
theorem part_changes (hx : w.heap[gx]? = some (XObj gw r v x u)) (h : WrAt F w gw s) (hgx : ¬ F gx) (hl : s.b.length ≤ 30000000000000) {G : Nat → Prop} (hv : Sl .change w G v r.changes) (hG : ∀ k, G k → ¬ F k ∧ k < w.heap.size) (hF : ∀ k, F k → k < w.heap.size) :
    Calls Try.prog 80 #[.pointer (some ⟨gx, 0, none⟩)] w (WrPost F w gw (ePart r .changes s)) := by
  obtain ⟨A, c, rfl⟩ := hv.shape
  have c0 := cell_at hx 0 (.pointer (some ⟨gw, 0, none⟩)) rfl
  have c1 := cell_at hx 7 (.slice A r.changes.length c) rfl
  have HC := hid (fun (y : World) (hk : Keep F w y) => (⟨hk.cell c0 hgx, hk.cell c1 hgx⟩ : y.cell? ⟨gx, 0, none⟩ = some (.pointer (some ⟨gw, 0, none⟩)) ∧ y.cell? ⟨gx, 7, none⟩ = some (.slice A r.changes.length c)))
  have NC : ∀ y, Keep (fun _ => False) w y → Calls Try.prog 89 #[.pointer (some ⟨gw, 0, none⟩), .slice A r.changes.length c] y fun e w' => e = .returned (.tuple #[]) ∧ WrAt (Grow F w w') w' gw (ePart r .changes s) ∧ Keep F w w' := fun y hk => by
    refine (list_calls (G := G) (h.keep hk (fun _ _ => id)) (fun q hq => by have := hF q hq; have := hk.size; omega) (hv.keep hk (fun _ _ => id)) (fun q hq => ⟨(hG q hq).1, by have := (hG q hq).2; have := hk.size; omega⟩) hl).mono ?_
    rintro e w' ⟨he, h1, h2⟩
    have hz := hk.size
    exact ⟨he, h1.mono (fun q hq => hq.imp id (fun ⟨a, b⟩ => ⟨by omega, b⟩)), (hk.mono (fun _ _ f => f.elim)).trans h2 (fun _ _ q => q)⟩
  have kd : Keep (fun _ => False) w w.drew := (Keep.refl _ w).drew
  have kdF : Keep F w w.drew := (Keep.refl _ w).drew
  clear h hx
  go_enter Try.func80, Try.ntmps80
  go_wp2_with fail
  go_region_held3 (fun y => y.cell? ⟨gx, 0, none⟩ = some (.pointer (some ⟨gw, 0, none⟩)) ∧ y.cell? ⟨gx, 7, none⟩ = some (.slice A r.changes.length c)) (exact HC.out _ (by assumption)) (first
    | (go_at_call 89; with_reducible refine (NC _ (by assumption)).mono ?_; rintro e w2 ⟨rfl, h2, k2⟩))
  all_goals (
    go_wp2_with fail
    go_end0
    exact ⟨rfl, h2, k2⟩)
end
end Go.Proofs.Ytnekfonnceknoaa
