/- wapentakelaw17.LedgerKnown: the walk. -/
import Derived.Test.YtiomeoihekifeaaLedN
import Derived.Test.YtiomeoihekifeaaLedCut2
import Derived.Test.YtiomeoihekifeaaLedK
import Derived.Test.YtiomeoihekifeaaSameI
namespace Go.Proofs.Ytiomeoihekifeaa
open Go.RowKit
section
variable {B : Nat} {w w' : World} {g : Nat} {s : LS}
theorem cutN_calls (h : LedN B w g s) (slot : Int) :
    Calls Try.prog 19 #[.pointer (some ⟨g, 0, none⟩), .int .i64 slot] w fun e w' => e = .returned (.tuple #[]) ∧ LedN B w' g (cutS s slot) ∧ Keep (fun k => B ≤ k) w w' := by
  obtain ⟨F, h1, h2⟩ := h
  refine (cut_calls h1 (fun k q => (h2 k q).2) slot).mono ?_
  rintro e w' ⟨he, hl, hkp⟩
  have hs := hkp.size
  exact ⟨he, ⟨F, hl, fun k q => ⟨(h2 k q).1, by have := (h2 k q).2; omega⟩⟩, hkp.mono (fun k _ q => (h2 k q).1)⟩
theorem knownN_calls (h : LedN B w g s) (hl : s.l.length ≤ 100000) :
    Calls Try.prog 21 #[.pointer (some ⟨g, 0, none⟩)] w fun e w' => ∃ v, e = .returned v ∧ Row (fun b => w.heap.size ≤ b ∧ b < w'.heap.size) w' v (keysS s.l).length 1 ((keysS s.l).map Go.encZ) ∧ LedN B w' g s ∧ Keep (fun _ => False) w w' := by
  have h0 := h
  obtain ⟨F, h1, h2⟩ := h
  refine (known_calls h1 hl).mono ?_
  rintro e w' ⟨v, he, hr, hk⟩
  exact ⟨v, he, hr, h0.keep hk, hk⟩
end
theorem wfI (n : Int) (h : -1000 ≤ n) (h2 : n ≤ 1000) : (Lit.int .i64 n).wf = true := by
  simp [Lit.wf, IntKind.min, IntKind.max, IntKind.signed, IntKind.bits]; omega
abbrev kS1 : LS := ⟨0, 0, [(1, reqX 1)]⟩
abbrev kS2 (n : Int) : LS := ⟨0, n, [(1, reqX 1), (0, reqX 2)]⟩
abbrev kS3 : LS := ⟨1, 2, [(1, reqX 1)]⟩
set_option maxRecDepth 20000 in
set_option maxHeartbeats 2000000 in
theorem ledgerKnown_calls (w : World) : Calls Try.prog 4 #[] w fun e w' => e = .returned (.bool true) ∧ Below w.heap.size w w' := by
  have e1 : learnS ⟨0, 0, []⟩ 1 (reqX 1) = (0, kS1) := by rfl
  have e2 : learnS kS1 0 (reqX 2) = (0, kS2 0) := by rfl
  have e3 : stepS (kS2 0) = kS2 1 := by rfl
  have e4 : stepS (kS2 1) = kS2 2 := by rfl
  have e5 : learnS (kS2 2) 0 (reqX 2) = (9, kS2 2) := by
    show (if (0 : Int) < 0 then _ else if (0 : Int) < 0 then _ else _) = _
    rfl
  have e6 : learnS (kS2 2) 0 (reqX 1) = (10, kS2 2) := by rfl
  have e7 : cutS (kS2 2) 1 = kS3 := by rfl
  have e8 : learnS kS3 0 (reqX 2) = (11, kS3) := by rfl
  have e9 : keysS kS3.l = [1] := by simp [keysS]
  have e10 : learnS kS3 (-1) (reqX 1) = (1, kS3) := by rfl
  have E1 := hid e1
  have E2 := hid e2
  have E3 := hid e3
  have E4 := hid e4
  have E5 := hid e5
  have E6 := hid e6
  have E7 := hid e7
  have E8 := hid e8
  have E9 := hid e9
  have E10 := hid e10
  clear e1 e2 e3 e4 e5 e6 e7 e8 e9 e10
  go_enter Try.func4, Try.ntmps4
  go_wp2_with fail
  refine (awake17_calls w).mono ?_
  rintro e w1 ⟨rfl, k1⟩
  have K1 := hid (k1.mono (T := fun k => w.heap.size ≤ k) (fun _ _ f => f.elim))
  have hs1 := k1.size
  clear k1
  go_wp2_with fail
  refine (newN_calls 0 (by decide)).mono ?_
  rintro e w2 ⟨g, rfl, h2, k2⟩
  have L2 := hid h2
  have K2 := hid (K1.out.trans k2 (fun _ _ f => f.elim))
  obtain ⟨B, hB⟩ : ∃ B, B = w1.heap.size := ⟨_, rfl⟩
  rw [← hB] at L2
  rw [← hB] at hs1
  clear h2 k2 hB
  go_wp2_with fail
  refine (x_calls 1).mono ?_
  rintro e w3 ⟨rfl, k⟩
  have L3 := hid (L2.out.keep k)
  have K3 := hid (K2.out.trans k (fun _ _ f => f.elim))
  clear k
  go_wp2_with fail
  have hc := learnN_calls L3.out 1 (wfI _ (by decide) (by decide)) 1
  rw [E1.out] at hc
  refine hc.mono ?_
  rintro e w4 ⟨rfl, h, k⟩
  have L4 := hid h
  have K4 := hid (K3.out.trans k (fun b hb q => by omega))
  clear h k hc
  go_wp2_with fail
  refine (x_calls 2).mono ?_
  rintro e w5 ⟨rfl, k⟩
  have L5 := hid (L4.out.keep k)
  have K5 := hid (K4.out.trans k (fun _ _ f => f.elim))
  clear k
  go_wp2_with fail
  have hc := learnN_calls L5.out 0 (wfI _ (by decide) (by decide)) 2
  rw [E2.out] at hc
  refine hc.mono ?_
  rintro e w6 ⟨rfl, h, k⟩
  have L6 := hid h
  have K6 := hid (K5.out.trans k (fun b hb q => by omega))
  clear h k hc
  go_wp2_with fail
  have hc := stepN_calls L6.out (wfI _ (by decide) (by decide)) (wfI _ (by decide) (by decide))
  rw [E3.out] at hc
  refine hc.mono ?_
  rintro e w7 ⟨rfl, h, k⟩
  have L7 := hid h
  have K7 := hid (K6.out.trans k (fun b hb q => by omega))
  clear h k hc
  go_wp2_with fail
  have hc := stepN_calls L7.out (wfI _ (by decide) (by decide)) (wfI _ (by decide) (by decide))
  rw [E4.out] at hc
  refine hc.mono ?_
  rintro e w8 ⟨rfl, h, k⟩
  have L8 := hid h
  have K8 := hid (K7.out.trans k (fun b hb q => by omega))
  clear h k hc
  go_wp2_with fail
  refine (x_calls 2).mono ?_
  rintro e w9 ⟨rfl, k⟩
  have L9 := hid (L8.out.keep k)
  have K9 := hid (K8.out.trans k (fun _ _ f => f.elim))
  clear k
  go_wp2_with fail
  have hc := learnN_calls L9.out 0 (wfI _ (by decide) (by decide)) 2
  rw [E5.out] at hc
  refine hc.mono ?_
  rintro e w10 ⟨rfl, h, k⟩
  have L10 := hid h
  have K10 := hid (K9.out.trans k (fun b hb q => by omega))
  clear h k hc
  go_wp2_with fail
  refine (x_calls 1).mono ?_
  rintro e w11 ⟨rfl, k⟩
  have L11 := hid (L10.out.keep k)
  have K11 := hid (K10.out.trans k (fun _ _ f => f.elim))
  clear k
  go_wp2_with fail
  have hc := learnN_calls L11.out 0 (wfI _ (by decide) (by decide)) 1
  rw [E6.out] at hc
  refine hc.mono ?_
  rintro e w12 ⟨rfl, h, k⟩
  have L12 := hid h
  have K12 := hid (K11.out.trans k (fun b hb q => by omega))
  clear h k hc
  go_wp2_with fail
  have hc := cutN_calls L12.out 1
  rw [E7.out] at hc
  refine hc.mono ?_
  rintro e w13 ⟨rfl, h, k⟩
  have L13 := hid h
  have K13 := hid (K12.out.trans k (fun b hb q => by omega))
  clear h k hc
  go_wp2_with fail
  refine (x_calls 2).mono ?_
  rintro e w14 ⟨rfl, k⟩
  have L14 := hid (L13.out.keep k)
  have K14 := hid (K13.out.trans k (fun _ _ f => f.elim))
  clear k
  go_wp2_with fail
  have hc := learnN_calls L14.out 0 (wfI _ (by decide) (by decide)) 2
  rw [E8.out] at hc
  refine hc.mono ?_
  rintro e w15 ⟨rfl, h, k⟩
  have L15 := hid h
  have K15 := hid (K14.out.trans k (fun b hb q => by omega))
  clear h k hc
  go_wp2_with fail
  refine (knownN_calls L15.out (by simp)).mono ?_
  rintro e w16 ⟨v, rfl, hr, h, k⟩
  rw [E9.out] at hr
  obtain ⟨A, c, rfl⟩ := hr.shape
  have L16 := hid h
  have K16 := hid (K15.out.trans k (fun _ _ f => f.elim))
  have hr5 := hr.keep ((Keep.refl (fun _ => False) w16).alloc (.cells (([1] : List Int).map I64).toArray 3)) (fun _ _ => id)
  have hsi := (sameInts_calls (l := [1]) hr5 (row_ints w16 [1] 3 (by decide))).mono (R' := fun e w' => e = .returned (.bool true) ∧ Keep (fun _ => False) w16 w') (fun e w' ⟨he, z, hw⟩ => ⟨by rw [he, decide_eq_true rfl], by rw [hw]; exact ((Keep.refl _ w16).alloc _).drewN z⟩)
  clear h k hr hr5
  go_wp2_with fail
  refine hsi.mono ?_
  rintro e w17 ⟨rfl, k⟩
  have L17 := hid (L16.out.keep k)
  have K17 := hid (K16.out.trans k (fun _ _ f => f.elim))
  clear k hsi
  go_wp2_with fail
  refine (x_calls 1).mono ?_
  rintro e w18 ⟨rfl, k⟩
  have L18 := hid (L17.out.keep k)
  have K18 := hid (K17.out.trans k (fun _ _ f => f.elim))
  clear k
  go_wp2_with fail
  have hc := learnN_calls L18.out (-1) (wfI _ (by decide) (by decide)) 1
  rw [E10.out] at hc
  refine hc.mono ?_
  rintro e w19 ⟨rfl, h, k⟩
  have L19 := hid h
  have K19 := hid (K18.out.trans k (fun b hb q => by omega))
  clear h k hc
  go_wp2_with fail
  go_ret
  exact ⟨rfl, K19.out.below (Nat.le_refl _) (fun b hb h => by omega)⟩
end Go.Proofs.Ytiomeoihekifeaa
