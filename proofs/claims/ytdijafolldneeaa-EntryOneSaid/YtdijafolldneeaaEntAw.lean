/- wapentakelaw9.awake, EntryKnown: a request is written and read; chapter 9's examples. -/
import Derived.Test.YtdijafolldneeaaEntTop
import Derived.Test.YtdijafolldneeaaRef1
namespace Go.Proofs.Ytdijafolldneeaa
open Go.RowKit
def rOpen : Req := ⟨1, ⟨#[99]⟩, 0, 0, 0, ByteArray.empty, [], ByteArray.empty, 0, 0, 0⟩
def rHead : Req := ⟨3, ByteArray.empty, 1, 2, 0, ByteArray.empty, [], ByteArray.empty, 0, 0, 0⟩
def rBad : Req := ⟨3, ByteArray.empty, 0, 0, 0, ByteArray.empty, [], ⟨#[97]⟩, 0, 0, 0⟩
theorem may_open : mayR rOpen := by decide +kernel
theorem may_none : mayR reqE := by decide +kernel
theorem may_head : mayR rHead := by decide +kernel
theorem may_bad : ¬ mayR rBad := by decide +kernel
theorem enc1 : encNum 1 = [1] := encNum_lt (by decide)
theorem enc2 : encNum 2 = [2] := encNum_lt (by decide)
theorem enc3 : encNum 3 = [3] := encNum_lt (by decide)
theorem enc0 : encNum 0 = [0] := encNum_lt (by decide)
theorem enc_open : encB rOpen = [1, 1, 99] := by
  rw [encB, if_pos may_open]
  simp [encR, rOpen, partsOf, encPart, encText, enc1, ByteArray.size]
theorem enc_none : encB reqE = [0] := by
  rw [encB, if_pos may_none]
  simp [encR, reqE, partsOf, enc0]
theorem enc_head : encB rHead = [3, 1, 2] := by
  rw [encB, if_pos may_head]
  simp [encR, rHead, partsOf, encPart, enc1, enc2, enc3]
theorem dec_open : decR [1, 1, 99] = (rOpen, 0) := by decide +kernel
theorem dec_nil : decR [] = (reqE, 2) := by decide +kernel
theorem dec_8 : decR [8] = (reqE, 4) := by decide +kernel
theorem nilC9 (w : World) (F : Nat → Prop) : Sl .change w F (.slice none 0 0) [] := ⟨none, 0, rfl, Nat.le_refl _, Nat.zero_le _, .inl rfl⟩
set_option maxRecDepth 20000 in
set_option maxHeartbeats 4000000 in
theorem awake9_calls (w : World) : Calls Try.prog 8 #[] w fun e w' => e = .returned (.bool true) ∧ Keep (fun _ => False) w w' := by
  go_enter Try.func8, Try.ntmps8
  go_wp2_with (first
    | (refine wpl_build rfl rfl (reqCs rOpen (.slice none 0 0)).toArray (by kernel_rfl) ?_))
  refine (enc_calls (r := rOpen) (v := .slice none 0 0) (G := fun _ => False) (nilC9 _ _) (fun _ f => f.elim)).mono ?_
  rintro e w1 ⟨v1, rfl, ho1, hn1, k1⟩
  rw [enc_open] at ho1
  rw [if_pos may_open]
  obtain ⟨A1, c1, rfl⟩ := own_slice ho1
  have hr1 := Row.ofOwn ho1
  have HR1 := hid hr1; have K1 := hid k1
  clear ho1 hn1 k1 hr1
  go_wp2_with fail
  refine (dec_calls (b := [1, 1, 99]) HR1.out (by decide)).mono ?_
  rintro e w2 ⟨A2, c2, rfl, hs2, k2⟩
  rw [dec_open] at hs2 ⊢
  have K2 := hid k2
  clear hs2 k2
  go_wp2_with (first
    | (refine wpl_allocB (z := .agg (reqCs reqE (.slice none 0 0)).toArray) rfl rfl (by kernel_rfl) ?_; intro g5 w5 hg5 hb5 k5 s5; have HG5 := hid hg5; have K5 := hid k5; clear hg5 k5 s5)
    | (refine wpl_storeB (v := .agg (reqCs rOpen (.slice A2 rOpen.changes.length c2)).toArray) rfl rfl rfl rfl hb5 (by kernel_rfl) (Nat.le_refl 11) (by simp [Value.oneCell', reqCs, Value.cells]) ?_; intro w6 hb6 k6 s6; rw [show spl (Value.agg (reqCs reqE (.slice none 0 0)).toArray).cells 0 (Value.agg (reqCs rOpen (.slice A2 rOpen.changes.length c2)).toArray).cells.toList = (reqCs rOpen (.slice A2 rOpen.changes.length c2)).toArray from spl_whole _ _ (Nat.le_refl 11)] at hb6; have K6 := hid k6; have HB6 := hid hb6; clear k6 s6 hb6 hb5))
  have k26 : Keep (fun _ => False) w2 w6 := K5.out.trans K6.out (fun b hb e => by have := HG5.out; omega)
  have hrow : Row (fun k => k = w6.heap.size) (w6.alloc (.cells #[.int .u8 1, .int .u8 1, .int .u8 99] 5)) (.slice (some ⟨w6.heap.size, 0, none⟩) 3 3) 3 1 [.int .u8 1, .int .u8 1, .int .u8 99] := row_lit (n := 3) w6 _ _ rfl (by decide)
  have kal : Keep (fun _ => False) w6 (w6.alloc (.cells #[.int .u8 1, .int .u8 1, .int .u8 99] 5)) := (Keep.refl _ w6).alloc _
  refine (same_calls (a := [1, 1, 99]) (b := [1, 1, 99]) (((HR1.out.keep K2.out (fun _ _ => id)).keep k26 (fun _ _ => id)).keep kal (fun _ _ => id)) hrow).mono ?_
  rintro e w7 ⟨rfl, k7⟩
  have k67 : Keep (fun _ => False) w6 w7 := kal.trans k7 (fun _ _ f => f)
  have hb7 := k67.heap HB6.out id
  have c0 := cell_at hb7 0 (.int .i64 1) rfl
  have c1 := cell_at hb7 1 (.string ⟨#[99]⟩) rfl
  have K7 := hid ((K1.out.trans K2.out (fun _ _ f => f)).trans (k26.trans k67 (fun _ _ f => f)) (fun _ _ f => f))
  clear hrow kal k7 k67 k26 hb7
  simp only [decide_true]
  go_wp2_with fail
  go_ret
  exact ⟨rfl, K7.out⟩
set_option maxRecDepth 20000 in
set_option maxHeartbeats 8000000 in
theorem entryKnown_calls (w : World) : Calls Try.prog 3 #[] w fun e w' => e = .returned (.bool true) ∧ Below w.heap.size w w' := by
  go_enter Try.func3, Try.ntmps3
  go_wp2_with fail
  refine (awake9_calls w).mono ?_
  rintro e w0 ⟨rfl, k0⟩
  have K0 := hid k0
  clear k0
  go_wp2_with (first
    | (refine wpl_build rfl rfl (reqCs reqE (.slice none 0 0)).toArray (by kernel_rfl) ?_))
  refine (enc_calls (r := reqE) (v := .slice none 0 0) (G := fun _ => False) (nilC9 _ _) (fun _ f => f.elim)).mono ?_
  rintro e w1 ⟨v1, rfl, ho1, hn1, k1⟩
  rw [enc_none] at ho1
  rw [if_pos may_none]
  obtain ⟨A1, c1, rfl⟩ := own_slice ho1
  have HR1 := hid (Row.ofOwn ho1); have K1 := hid (K0.out.trans k1 (fun _ _ f => f))
  clear ho1 hn1 k1
  go_wp2_with (first
    | (refine wpl_build rfl rfl (reqCs rHead (.slice none 0 0)).toArray (by kernel_rfl) ?_))
  refine (enc_calls (r := rHead) (v := .slice none 0 0) (G := fun _ => False) (nilC9 _ _) (fun _ f => f.elim)).mono ?_
  rintro e w2 ⟨v2, rfl, ho2, hn2, k2⟩
  rw [enc_head] at ho2
  rw [if_pos may_head]
  obtain ⟨A2, c2, rfl⟩ := own_slice ho2
  have HR2 := hid (Row.ofOwn ho2); have K2 := hid k2
  clear ho2 hn2 k2
  go_wp2_with fail
  refine (dec_calls (G := fun _ => False) (b := []) (Row.nil _ _ _) (by decide)).mono ?_
  rintro e w3 ⟨A3, c3, rfl, hs3, k3⟩
  rw [dec_nil] at hs3 ⊢
  have K3 := hid k3
  clear hs3 k3
  go_wp2_with (first
    | (refine wpl_allocB (z := .agg (reqCs reqE (.slice none 0 0)).toArray) rfl rfl (by kernel_rfl) ?_; intro g5 w5 hg5 hb5 k5 s5; have HG5 := hid hg5; have K5 := hid k5; clear hg5 k5 s5)
    | (refine wpl_storeB (v := .agg (reqCs reqE (.slice A3 reqE.changes.length c3)).toArray) rfl rfl rfl rfl hb5 (by kernel_rfl) (Nat.le_refl 11) (by simp [Value.oneCell', reqCs, Value.cells]) ?_; intro w6 hb6 k6 s6; have K6 := hid k6; clear k6 s6 hb6 hb5))
  have K36 := hid (K3.out.trans (K5.out.trans K6.out (fun b hb e => by have := HG5.out; omega)) (fun _ _ f => f) : Keep (fun _ => False) w2 w6)
  have hrow8 : Row (fun k => k = w6.heap.size) (w6.alloc (.cells #[.int .u8 8] 5)) (.slice (some ⟨w6.heap.size, 0, none⟩) 1 1) 1 1 [.int .u8 8] := row_lit (n := 1) w6 _ _ rfl (by decide)
  have kal8 : Keep (fun _ => False) w6 (w6.alloc (.cells #[.int .u8 8] 5)) := (Keep.refl _ w6).alloc _
  refine (dec_calls (b := [8]) hrow8 (by decide)).mono ?_
  rintro e w7 ⟨A7, c7, rfl, hs7, k7⟩
  rw [dec_8] at hs7 ⊢
  have K7 := hid ((K36.out.trans kal8 (fun _ _ f => f)).trans k7 (fun _ _ f => f))
  clear hs7 k7 hrow8 kal8
  go_wp2_with (first
    | (refine wpl_allocB (z := .agg (reqCs reqE (.slice none 0 0)).toArray) rfl rfl (by kernel_rfl) ?_; intro g8 w8 hg8 hb8 k8 s8; have HG8 := hid hg8; have K8 := hid k8; clear hg8 k8 s8)
    | (refine wpl_storeB (v := .agg (reqCs reqE (.slice A7 reqE.changes.length c7)).toArray) rfl rfl rfl rfl hb8 (by kernel_rfl) (Nat.le_refl 11) (by simp [Value.oneCell', reqCs, Value.cells]) ?_; intro w9 hb9 k9 s9; have K9 := hid k9; clear k9 s9 hb9 hb8)
    | (refine wpl_build rfl rfl (reqCs rBad (.slice none 0 0)).toArray (by kernel_rfl) ?_))
  have K19 := hid (K7.out.trans (K8.out.trans K9.out (fun b hb e => by have := HG8.out; omega)) (fun _ _ f => f) : Keep (fun _ => False) w2 w9)
  refine (enc_calls (r := rBad) (v := .slice none 0 0) (G := fun _ => False) (nilC9 _ _) (fun _ f => f.elim)).mono ?_
  rintro e w10 ⟨v10, rfl, ho10, hn10, k10⟩
  rw [if_neg may_bad]
  obtain ⟨A10, c10, rfl⟩ := own_slice ho10
  have K10 := hid (K19.out.trans k10 (fun _ _ f => f))
  clear ho10 hn10 k10
  go_wp2_with fail
  have kal : Keep (fun _ => False) w10 (w10.alloc (.cells #[.int .u8 0] 5)) := (Keep.refl _ w10).alloc _
  have hrow : Row (fun k => k = w10.heap.size) (w10.alloc (.cells #[.int .u8 0] 5)) (.slice (some ⟨w10.heap.size, 0, none⟩) 1 1) 1 1 [.int .u8 0] := row_lit (n := 1) w10 _ _ rfl (by decide)
  refine (same_calls (a := [0]) (b := [0]) ((HR1.out.keep (K2.out.trans K10.out (fun _ _ f => f)) (fun _ _ => id)).keep kal (fun _ _ => id)) hrow).mono ?_
  rintro e w11 ⟨rfl, k11⟩
  have K11 := hid (K10.out.trans (kal.trans k11 (fun _ _ f => f)) (fun _ _ f => f))
  simp only [decide_true]
  clear kal hrow k11
  go_wp2_with fail
  have kal : Keep (fun _ => False) w11 (w11.alloc (.cells #[.int .u8 3, .int .u8 1, .int .u8 2] 5)) := (Keep.refl _ w11).alloc _
  have hrow : Row (fun k => k = w11.heap.size) (w11.alloc (.cells #[.int .u8 3, .int .u8 1, .int .u8 2] 5)) (.slice (some ⟨w11.heap.size, 0, none⟩) 3 3) 3 1 [.int .u8 3, .int .u8 1, .int .u8 2] := row_lit (n := 3) w11 _ _ rfl (by decide)
  refine (same_calls (a := [3, 1, 2]) (b := [3, 1, 2]) ((HR2.out.keep K11.out (fun _ _ => id)).keep kal (fun _ _ => id)) hrow).mono ?_
  rintro e w12 ⟨rfl, k12⟩
  have K12 := hid ((K1.out.trans K2.out (fun _ _ f => f)).trans (K11.out.trans (kal.trans k12 (fun _ _ f => f)) (fun _ _ f => f)) (fun _ _ f => f))
  simp only [decide_true]
  clear kal hrow k12
  go_wp2_with fail
  go_ret
  exact ⟨rfl, K12.out.below (Nat.le_refl _) (fun _ _ f => f)⟩
end Go.Proofs.Ytdijafolldneeaa
