/- Requests that are read of bytes: plain functions. -/
import Derived.Test.YtdijafolldneeaaEntPure
import Derived.Test.YtdijafolldneeaaStr
namespace Go.Proofs.Ytdijafolldneeaa

def reqE : Req := ⟨0, ByteArray.empty, 0, 0, 0, ByteArray.empty, [], ByteArray.empty, 0, 0, 0⟩
def rText (s : RS) : ByteArray × RS := (ba (rBytes s 255).1, (rBytes s 255).2)
def rChange (s : RS) : Change × RS :=
  let p := rText s
  let g := rFlag p.2
  if g.1 = false then (⟨p.1, g.1, (rWord g.2).1⟩, (rWord g.2).2) else (⟨p.1, g.1, 0⟩, g.2)
def rChanges : Nat → RS → List Change × RS
  | 0, s => ([], s)
  | n + 1, s => if s.f ≠ 0 then ([], s) else ((rChange s).1 :: (rChanges n (rChange s).2).1, (rChanges n (rChange s).2).2)
def rTaken (s : RS) : List Change × RS := rChanges (rNum s).1 (if 64 < (rNum s).1 then rStop (rNum s).2 4 else (rNum s).2)
inductive RPart
  | part (p : EPart)
  | none
def rdPart (x : Req × RS) : RPart → Req × RS
  | .part .name => ({ x.1 with name := (rText x.2).1 }, (rText x.2).2)
  | .part .session => ({ x.1 with session := (rNum x.2).1 }, (rNum x.2).2)
  | .part .seq => ({ x.1 with seq := (rNum x.2).1 }, (rNum x.2).2)
  | .part .base => ({ x.1 with base := (rNum x.2).1 }, (rNum x.2).2)
  | .part .ref => ({ x.1 with ref := (rText x.2).1 }, (rText x.2).2)
  | .part .changes => ({ x.1 with changes := (rTaken x.2).1 }, (rTaken x.2).2)
  | .part .path => ({ x.1 with path := (rText x.2).1 }, (rText x.2).2)
  | .part .from' => ({ x.1 with from' := (rNum x.2).1 }, (rNum x.2).2)
  | .part .many => ({ x.1 with many := (rNum x.2).1 }, (rNum x.2).2)
  | .part .member => ({ x.1 with member := (rNum x.2).1 }, (rNum x.2).2)
  | .none => (x.1, rStop x.2 4)
def rpartsOf (k : Int) : List RPart := if 0 ≤ k ∧ k < 8 then (partsOf k).map .part else [.none]
def rPartsAll (s : RS) : Req × RS := (rpartsOf (rNum s).1).foldl rdPart ({ reqE with kind := (rNum s).1 }, (rNum s).2)
def rTake (s : RS) : Req × RS := if (rPartsAll s).2.f ≠ 0 then (reqE, (rPartsAll s).2) else rPartsAll s
def decR (b : List UInt8) : Req × Int := if rEnd (rTake ⟨b, 0⟩).2 ≠ 0 then (reqE, rEnd (rTake ⟨b, 0⟩).2) else ((rTake ⟨b, 0⟩).1, 0)

/-! ### How much is left: never more -/
theorem rDo_b {α : Type} (s : RS) (z : α) (r : Int ⊕ (α × List UInt8)) (h : ∀ x l, r = .inr (x, l) → l.length ≤ s.b.length) : (rDo s z r).2.b.length ≤ s.b.length := by
  unfold rDo
  split
  · exact Nat.le_refl _
  · split
    · simp
    · exact h _ _ rfl
theorem takeN_b {n : Nat} {l x r : List UInt8} (h : takeN n l = .inr (x, r)) : r.length ≤ l.length := by
  unfold takeN at h
  split at h
  · simp only [Sum.inr.injEq, Prod.mk.injEq] at h; rw [← h.2]; simp
  · cases h
theorem rBytes_b (s : RS) (m : Int) : (rBytes s m).2.b.length ≤ s.b.length := by
  refine rDo_b s _ _ (fun x l h => ?_)
  unfold decBytes at h
  cases hd : decNum s.b with
  | inl e => rw [hd] at h; cases h
  | inr p =>
    rw [hd] at h
    have h1 := (numFrom_le 6 0 0 s.b p.1 p.2 hd).2
    simp only at h
    split at h
    · have := takeN_b h; omega
    · cases h
theorem rNum_b (s : RS) : (rNum s).2.b.length ≤ s.b.length := by
  unfold rNum rDo
  split
  · exact Nat.le_refl _
  · cases hd : decNum s.b with
    | inl e => simp
    | inr p => exact (numFrom_le 6 0 0 s.b p.1 p.2 hd).2
theorem rNum_le (s : RS) : (rNum s).1 ≤ 1099511627776 := by
  unfold rNum rDo
  split
  · simp
  · cases hd : decNum s.b with
    | inl e => simp
    | inr p => exact (numFrom_le 6 0 0 s.b p.1 p.2 hd).1
theorem rFlag_b (s : RS) : (rFlag s).2.b.length ≤ s.b.length := by
  refine rDo_b s _ _ (fun x l h => ?_)
  cases hb : s.b with
  | nil => rw [hb] at h; cases h
  | cons c r =>
    rw [hb, decFlag] at h
    split at h
    · simp only [Sum.inr.injEq, Prod.mk.injEq] at h; rw [← h.2]; simp
    · cases h
theorem rWord_b (s : RS) : (rWord s).2.b.length ≤ s.b.length := by
  refine rDo_b s _ _ (fun x l h => ?_)
  unfold decWord at h
  split at h
  · simp only [Sum.inr.injEq, Prod.mk.injEq] at h; rw [← h.2]; simp
  · cases h
theorem rStop_b (s : RS) (e : Int) : (rStop s e).b.length ≤ s.b.length := by unfold rStop; split <;> simp
theorem rChange_b (s : RS) : (rChange s).2.b.length ≤ s.b.length := by
  have h1 := rBytes_b s 255
  have h2 := rFlag_b (rText s).2
  have h3 := rWord_b (rFlag (rText s).2).2
  have h4 : (rText s).2 = (rBytes s 255).2 := rfl
  unfold rChange
  simp only
  split
  · rw [h4] at h2 h3 ⊢; simp only; omega
  · rw [h4] at h2 ⊢; simp only; omega
theorem rChanges_b (n : Nat) (s : RS) : (rChanges n s).2.b.length ≤ s.b.length := by
  induction n generalizing s with
  | zero => exact Nat.le_refl _
  | succ n ih =>
    unfold rChanges
    split
    · exact Nat.le_refl _
    · have := ih (rChange s).2; have := rChange_b s; simp only; omega
theorem rTaken_b (s : RS) : (rTaken s).2.b.length ≤ s.b.length := by
  unfold rTaken
  refine Nat.le_trans (rChanges_b _ _) ?_
  have := rNum_b s
  have := rStop_b (rNum s).2 4
  split <;> omega
theorem rdPart_b (x : Req × RS) (p : RPart) : (rdPart x p).2.b.length ≤ x.2.b.length := by
  rcases p with p | _
  · cases p
    all_goals first | exact rBytes_b _ _ | exact rNum_b _ | exact rTaken_b _
  · exact rStop_b _ _
theorem rChanges_f (n : Nat) {s : RS} (h : s.f ≠ 0) : rChanges n s = ([], s) := by
  cases n with
  | zero => rfl
  | succ n => rw [rChanges, if_pos h]
end Go.Proofs.Ytdijafolldneeaa
