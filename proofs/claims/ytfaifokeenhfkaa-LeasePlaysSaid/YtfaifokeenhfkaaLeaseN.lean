/- wapentakelaw18.awake, LeaseKnown: the walks. -/
import Derived.Test.YtfaifokeenhfkaaHolds
namespace Go.Proofs.Ytfaifokeenhfkaa
open Go.RowKit
instance (n : Int) : Decidable (okI n) := inferInstanceAs (Decidable (_ ∧ _))
theorem setM_one (x : Int) : setM [x] = [x] := by
  have : (List.mergeSort [x] leI) = [x] := by simp
  rw [setM, this]
  simp [Go.Lib.compact, Go.Lib.compactUpTo, Go.Lib.keeps, List.range_succ]
theorem mostB_one (x : Int) (I : List Int) : mostB [x] I = I.contains x := by
  rw [mostB, cntM, setM_one, quoN]
  by_cases h : x ∈ I <;> simp [h]
theorem holdsB_one (s : LeS) (now x : Int) : holdsB s now [x] = (freshIds s now).contains x := mostB_one _ _
theorem LeAt.keepF {F : Nat → Prop} {w w' : World} {g : Nat} {s : LeS} (h : LeAt F w g s) (hk : Keep (fun _ => False) w w') : LeAt F w' g s := h.keep hk (fun _ _ => id)
def s0 (a b c : Int) : LeS := ⟨a, b, c, [], false, 0, 0⟩
theorem mk_calls {w : World} {B : Nat} (hB : B ≤ w.heap.size) {len num den : Int} (h : newOk len num den) : Calls Try.prog 9 #[.int .i64 len, .int .i64 num, .int .i64 den] w fun e w' => ∃ g, e = .returned (.tuple #[.pointer (some ⟨g, 0, none⟩), .int .i64 0]) ∧ LeAt (fun k => B ≤ k) w' g (s0 len num den) ∧ Keep (fun _ => False) w w' :=
  (new_calls h).mono fun _ _ ⟨g, he, hl, hk⟩ => ⟨g, he, hl.mono (fun _ h => Nat.le_trans hB h.1), hk⟩
set_option maxRecDepth 20000 in
set_option maxHeartbeats 800000 in
theorem awake18_calls (w : World) : Calls Try.prog 8 #[] w fun e w' => e = .returned (.bool true) ∧ Keep (fun _ => False) w w' := by
  have e1 : shortP (s0 10 3 2) = 6 := by decide
  have e2 : giveB (s0 10 3 2) 1 4 = true := by decide
  have e3 : holdsB (giveS (s0 10 3 2) 1 4) 9 [1] = true := by rw [holdsB_one]; decide
  have e4 : holdsB (giveS (s0 10 3 2) 1 4) 10 [1] = false := by rw [holdsB_one]; decide
  go_enter Try.func8, Try.ntmps8
  go_wp2_with fail
  refine (mk_calls (B := w.heap.size) (Nat.le_refl _) (by decide : newOk 10 3 2)).mono ?_
  rintro e w1 ⟨g, rfl, hl1, k1⟩
  have hsh := short_calls hl1
  rw [e1] at hsh
  have HL1 := hid hl1
  have K1 := hid k1
  clear hl1 k1
  go_wp2_with fail
  refine hsh.mono ?_
  rintro e w2 ⟨rfl, n, rfl⟩
  have hl2 := HL1.out.keepF ((Keep.refl (fun _ => False) w1).drewN n)
  have hgv := give_calls hl2 1 4 (by decide)
  rw [e2] at hgv
  clear hsh hl2
  go_wp2_with fail
  refine hgv.mono ?_
  rintro e w3 ⟨rfl, hl3, k3⟩
  have HL3 := hid hl3
  have K3 := hid k3
  clear hgv hl3 k3
  go_wp2_with fail
  have hh := fun (o : Obj) (v : Value) (G : Nat → Prop) (hr : Row G (w3.alloc o) v 1 1 [I64 1]) => holds_calls (M := [1]) (HL3.out.keepF ((Keep.refl (fun _ => False) w3).alloc o)) (now := 9) (by decide) hr (by decide) (by decide)
  rw [e3] at hh
  refine (hh _ _ _ (Row.one w3 _ _)).mono ?_
  rintro e w4 ⟨rfl, k4⟩
  have hl4 := HL3.out.keepF ((((Keep.refl (fun _ => False) w3).alloc _).trans k4 (fun _ _ h => h)))
  have K4 := hid k4
  have HL4 := hid hl4
  clear hh k4 hl4
  go_wp2_with fail
  have hh := fun (o : Obj) (v : Value) (G : Nat → Prop) (hr : Row G (w4.alloc o) v 1 1 [I64 1]) => holds_calls (M := [1]) (HL4.out.keepF ((Keep.refl (fun _ => False) w4).alloc o)) (now := 10) (by decide) hr (by decide) (by decide)
  rw [e4] at hh
  refine (hh _ _ _ (Row.one w4 _ _)).mono ?_
  rintro e w5 ⟨rfl, k5⟩
  clear hh
  go_wp2_with fail
  go_ret
  refine ⟨rfl, ?_⟩
  have ka := K1.out.trans ((Keep.refl (fun _ => False) w1).drewN n) (fun _ _ h => h)
  have kb := ka.trans K3.out (S := fun _ => False) (fun b hb h => by omega)
  have kc := (kb.alloc _).trans K4.out (fun _ _ h => h)
  exact (kc.alloc _).trans k5 (fun _ _ h => h)
set_option maxRecDepth 20000 in
set_option maxHeartbeats 800000 in
theorem leaseKnown_calls (w : World) : Calls Try.prog 5 #[] w fun e w' => e = .returned (.bool true) ∧ Below w.heap.size w w' := by
  have e1 : giveB (s0 10 3 2) 1 4 = true := by decide
  have e2 : giveB (giveS (s0 10 3 2) 1 4) 1 4 = false := by decide
  obtain ⟨s, hs⟩ : ∃ s, s = bindS (giveS (giveS (s0 10 3 2) 1 4) 1 4) 16 5 := ⟨_, rfl⟩
  have e3 : freeB s 32 14 = false := by rw [hs]; decide
  have e4 : freeB s 16 6 = true := by rw [hs]; decide
  have e5 : freeB s 32 15 = true := by rw [hs]; decide
  have e6 : s.till = 15 := by rw [hs]; decide
  go_enter Try.func5, Try.ntmps5
  go_wp2_with fail
  refine (awake18_calls w).mono ?_
  rintro e w0 ⟨rfl, k0⟩
  go_wp2_with fail
  refine (mk_calls (B := w.heap.size) k0.size (by decide : newOk 10 3 2)).mono ?_
  rintro e w1 ⟨g, rfl, hl1, k1⟩
  have ka := k0.trans k1 (fun _ _ h => h)
  have hgv := give_calls hl1 1 4 (by decide)
  rw [e1] at hgv
  have KA := hid ka
  clear ka k0 k1 hl1
  go_wp2_with fail
  refine hgv.mono ?_
  rintro e w2 ⟨rfl, hl2, k2⟩
  have kb := KA.out.trans k2 (S := fun _ => False) (fun b hb h => by omega)
  have hgv2 := give_calls hl2 1 4 (by decide)
  rw [e2] at hgv2
  have KB := hid kb
  clear kb k2 hl2 hgv
  go_wp2_with fail
  refine hgv2.mono ?_
  rintro e w3 ⟨rfl, hl3, k3⟩
  have kc := KB.out.trans k3 (S := fun _ => False) (fun b hb h => by omega)
  have hbd := bind_calls hl3 16 5
  rw [← hs] at hbd
  have HL3 := hid hl3
  have KC := hid kc
  clear kc k3 hl3 hgv2
  go_wp2_with fail
  refine hbd.mono ?_
  rintro e w4 ⟨rfl, hl4, k4⟩
  have hgB : w.heap.size ≤ g := by obtain ⟨m, h1, h2, h3, h4⟩ := HL3.out; exact h3
  have kd := KC.out.trans k4 (S := fun _ => False) (fun b hb h => by omega)
  have KD := hid kd
  have hf1 := free_calls hl4 32 14
  have hf2 := free_calls hl4 16 6
  have hf3 := free_calls hl4 32 15
  have hun := until_calls hl4
  rw [e3] at hf1
  rw [e4] at hf2
  rw [e5] at hf3
  rw [e6] at hun
  clear kd k4 hl4 hbd e1 e2 e3 e4 e5 e6 hs
  go_wp2_with fail
  refine (new_bad (by decide : ¬ newOk 10 1 2)).mono ?_
  rintro e w' ⟨rfl, rfl⟩
  go_wp2_with fail
  refine hf1.mono ?_
  rintro e w' ⟨rfl, rfl⟩
  go_wp2_with fail
  refine hf2.mono ?_
  rintro e w' ⟨rfl, rfl⟩
  go_wp2_with fail
  refine hf3.mono ?_
  rintro e w' ⟨rfl, rfl⟩
  go_wp2_with fail
  refine hun.mono ?_
  rintro e w' ⟨rfl, rfl⟩
  go_wp2_with fail
  go_ret
  exact ⟨rfl, KD.out.below (Nat.le_refl _) (fun _ _ h => h)⟩
end Go.Proofs.Ytfaifokeenhfkaa
