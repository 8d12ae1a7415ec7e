/- Requests and verdicts as bytes: one to one. Plain. -/
import Derived.Test.YtdijafolldneeaaEntBackP
import Derived.Test.YtdijafolldneeaaEntTold2
namespace Go.Proofs.Ytdijafolldneeaa
theorem enc_prefix {a b : Req} (ha : mayR a) (hb : mayR b) (hda : ∀ c ∈ a.changes, c.digest ≤ 18446744073709551615) (hdb : ∀ c ∈ b.changes, c.digest ≤ 18446744073709551615) {t : List UInt8} (h : encR b = encR a ++ t) : a = b := by
  have h1 := back_take t ha hda
  have h2 := back_take [] hb hdb
  rw [List.append_nil, h, h1] at h2
  exact (Prod.mk.inj h2).1
theorem one_req {a b : Req} (ha : mayR a) (hb : mayR b) (hda : ∀ c ∈ a.changes, c.digest ≤ 18446744073709551615) (hdb : ∀ c ∈ b.changes, c.digest ≤ 18446744073709551615) :
    ((encR a).length ≤ (encR b).length ∧ encR a = (encR b).take (encR a).length) ↔ a = b := by
  constructor
  · rintro ⟨_, h⟩
    refine enc_prefix ha hb hda hdb (t := (encR b).drop (encR a).length) ?_
    conv => lhs; rw [← List.take_append_drop (encR a).length (encR b), ← h]
  · rintro rfl
    exact ⟨Nat.le_refl _, by rw [List.take_length]⟩
def Ext (s t : WS) : Prop := ∃ l, t.b = s.b ++ l
theorem Ext.refl (s : WS) : Ext s s := ⟨[], by simp⟩
theorem Ext.trans {s t u : WS} (h : Ext s t) (k : Ext t u) : Ext s u := by
  obtain ⟨l, h⟩ := h; obtain ⟨m, k⟩ := k
  exact ⟨l ++ m, by rw [k, h, List.append_assoc]⟩
theorem ext_num (s : WS) (n : Int) : Ext s (wNum s n) := by
  unfold wNum; (repeat' split) <;> first | exact ⟨[], (List.append_nil _).symm⟩ | exact ⟨_, rfl⟩
theorem ext_flag (s : WS) (n : Bool) : Ext s (wFlag s n) := by
  unfold wFlag; (repeat' split) <;> first | exact ⟨[], (List.append_nil _).symm⟩ | exact ⟨_, rfl⟩
theorem ext_word (s : WS) (n : Nat) : Ext s (wWord s n) := by
  unfold wWord; (repeat' split) <;> first | exact ⟨[], (List.append_nil _).symm⟩ | exact ⟨_, rfl⟩
theorem ext_refuse (s : WS) : Ext s (wRefuse s) := by
  unfold wRefuse; (repeat' split) <;> first | exact ⟨[], (List.append_nil _).symm⟩ | exact ⟨_, rfl⟩
theorem ext_text (s : WS) (t : List UInt8) : Ext s (wText s t) := by
  unfold wText; (repeat' split) <;> first | exact ⟨[], (List.append_nil _).symm⟩ | exact ⟨_, List.append_assoc _ _ _⟩
theorem ext_eword (s : WS) (t : ByteArray) : Ext s (eWord s t) := by
  unfold eWord; split
  · exact ext_refuse s
  · exact ext_text s _
theorem ext_change (s : WS) (c : Change) : Ext s (eChange s c) := by
  unfold eChange
  split
  · split
    · exact ((ext_eword s _).trans (ext_flag _ _)).trans (ext_refuse _)
    · exact (ext_eword s _).trans (ext_flag _ _)
  · exact ((ext_eword s _).trans (ext_flag _ _)).trans (ext_word _ _)
theorem ext_fold {α : Type} (f : WS → α → WS) (hf : ∀ s a, Ext s (f s a)) (l : List α) (s : WS) : Ext s (l.foldl f s) := by
  induction l generalizing s with
  | nil => exact Ext.refl s
  | cons a l ih => exact (hf s a).trans (ih _)
theorem ext_list (s : WS) (l : List Change) : Ext s (eList s l) := by
  unfold eList; split
  · exact ext_refuse s
  · exact (ext_num s _).trans (ext_fold _ ext_change _ _)
theorem ext_commit (s : WS) (c : Commit) : Ext s (eCommit s c) := (((ext_num s _).trans (ext_num _ _)).trans (ext_eword _ _)).trans (ext_list _ _)
theorem ext_coms (s : WS) (l : List Commit) : Ext s (eComs s l) := by
  unfold eComs; split
  · exact ext_refuse s
  · exact (ext_num s _).trans (ext_fold _ ext_commit _ _)
theorem ext_vpart (x : Verdict) (p : VPart) (s : WS) : Ext s (vPart x p s) := by
  cases p
  all_goals first | exact ext_num _ _ | exact ext_eword _ _ | exact ext_word _ _ | exact ext_coms _ _
/-- A verdict's bytes begin with its code. -/
theorem vS_head {x : Verdict} (h : (vS x).f = 0) : (0 ≤ x.code ∧ x.code < 15) ∧ x = onlyV x ∧ ∃ l, vB x = UInt8.ofNat x.code.toNat :: l := by
  by_cases hx : (0 ≤ x.code ∧ x.code < 15) ∧ x = onlyV x
  · refine ⟨hx.1, hx.2, ?_⟩
    have h1 := ext_fold (fun s p => vPart x p s) (fun s p => ext_vpart x p s) (vParts x.code) (wNum ⟨[], 0⟩ x.code)
    obtain ⟨l, hl⟩ := h1
    rw [wNum_good [] (show good x.code from ⟨hx.1.1, by omega⟩), encNum_lt (by omega)] at hl
    refine ⟨l, ?_⟩
    rw [vB, if_pos h, vS, eTold, if_pos hx]
    rw [wNum_good [] (show good x.code from ⟨hx.1.1, by omega⟩), encNum_lt (by omega), hl]
    rfl
  · exfalso
    rw [vS, eTold, if_neg hx] at h
    simp [wRefuse] at h
/-- Two verdicts of which one has code 2 and revision 7. -/
theorem one_verdict {x : Verdict} (h1 : (vS x).f = 0) (h2 : (vS ⟨2, x.session, 7, x.path, x.digest, x.commits, x.member⟩).f = 0) :
    (vB x = vB ⟨2, x.session, 7, x.path, x.digest, x.commits, x.member⟩) ↔ (x.code = 2 ∧ x.rev = 7) := by
  constructor
  · intro h
    obtain ⟨hk, ho, l, hl⟩ := vS_head h1
    obtain ⟨_, ho2, l2, hl2⟩ := vS_head h2
    have hc : x.code = 2 := by
      rw [hl, hl2] at h
      have := (List.cons.inj h).1
      have := congrArg UInt8.toNat this
      simp only [UInt8.toNat_ofNat'] at this
      rw [show (2 : Int).toNat = 2 from rfl] at this
      omega
    refine ⟨hc, ?_⟩
    have e2 : vB ⟨2, x.session, 7, x.path, x.digest, x.commits, x.member⟩ = encNum 2 ++ encNum 7 := by
      rw [vB, if_pos h2, vS, eTold, if_pos ⟨⟨(by decide : (0 : Int) ≤ 2), (by decide : (2 : Int) < 15)⟩, ho2⟩]
      simp only [vParts, vPart]
      rw [wNum_good [] (show good 2 by decide)]
      simp only [show ¬ ((2 : Int) = 1) by decide, if_false, true_or, if_true, List.foldl_cons, List.foldl_nil]
      rw [wNum_good _ (show good 7 by decide)]
      rfl
    have e1 : vS x = wNum ⟨encNum 2, 0⟩ x.rev := by
      rw [vS, eTold, if_pos ⟨hk, ho⟩, hc, wNum_good [] (show good 2 by decide)]
      simp only [vParts, show ¬ ((2 : Int) = 1) by decide, if_false, true_or, if_true, List.foldl_cons, List.foldl_nil, vPart]
      rfl
    have hg : good x.rev := by
      by_cases hg : good x.rev
      · exact hg
      · rw [e1, wNum_bad _ hg] at h1; simp at h1
    rw [e2, vB, if_pos h1, e1, wNum_good _ hg] at h
    have h7 := List.append_cancel_left h
    have b1 := decNum_back (n := x.rev.toNat) [] (by have := hg.2; omega)
    have b2 := decNum_back (n := 7) [] (by decide)
    rw [h7, b2] at b1
    simp at b1
    have := hg.1
    omega
  · rintro ⟨h2, h7⟩
    obtain ⟨code, ses, rev, path, dig, coms, mem⟩ := x
    simp only at h2 h7
    subst h2 h7
    rfl
end Go.Proofs.Ytdijafolldneeaa
