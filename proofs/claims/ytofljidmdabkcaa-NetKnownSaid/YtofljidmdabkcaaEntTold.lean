/- entry's writer of verdicts: which parts a code has. -/
import Derived.Test.YtofljidmdabkcaaEntVParts
import Derived.Test.YtofljidmdabkcaaEntPut
namespace Go.Proofs.Ytofljidmdabkcaa
open Go.RowKit
def vpartF : VPart → FuncId
  | .opened => 89
  | .rev => 90
  | .of => 91
  | .digest => 92
  | .commits => 93
  | .who => 94
abbrev vpartV (g : Nat) (p : VPart) : Value := .func (.func (vpartF p)) #[.pointer (some ⟨g, 0, none⟩)] #[]
def VPartsPost (w : World) (gx : Nat) (k : Int) (e : Ending) (w' : World) : Prop :=
  ∃ A c n, n = (vParts k).length ∧ e = .returned (.tuple #[.slice A n c, .bool (decide (0 ≤ k ∧ k < 15))]) ∧ Row (NewIn w w') w' (.slice A n c) n 1 ((vParts k).map (vpartV gx)) ∧ Keep (fun _ => False) w w'
section
variable {w : World} {gx : Nat}
theorem VPartsPost.of {w' : World} {k : Int} {A : Option Addr} {n c : Nat} {l : List VPart} {b : Bool} (hl : vParts k = l) (hn : n = l.length) (hb : decide (0 ≤ k ∧ k < 15) = b) (hr : Row (NewIn w w') w' (.slice A n c) n 1 (l.map (vpartV gx))) (hk : Keep (fun _ => False) w w') :
    VPartsPost w gx k (.returned (.tuple #[.slice A n c, .bool b])) w' := ⟨A, c, n, by rw [hl]; exact hn, by rw [hb], by rw [hl]; exact hr, hk⟩
set_option maxRecDepth 20000 in
set_option maxHeartbeats 2000000 in
theorem vparts_0 : Calls Try.prog 75 #[.pointer (some ⟨gx, 0, none⟩), .int .i64 0] w (VPartsPost w gx 0) := by
  go_enter Try.func75, Try.ntmps75
  go_wp2_with fail
  go_ret2
  exact VPartsPost.of (l := []) rfl rfl rfl ⟨none, 0, rfl, by simp, Nat.le_refl _, Nat.zero_le _, .inl rfl⟩ (Keep.refl _ w)
set_option maxRecDepth 20000 in
set_option maxHeartbeats 2000000 in
theorem vparts_1 : Calls Try.prog 75 #[.pointer (some ⟨gx, 0, none⟩), .int .i64 1] w (VPartsPost w gx 1) := by
  go_enter Try.func75, Try.ntmps75
  go_wp2_with fail
  go_ret2
  refine VPartsPost.of (l := [.opened]) rfl rfl rfl ((row_lit (n := 1) w [vpartV gx .opened] _ rfl (by decide)).mono (fun b hb => ?_)) ((Keep.refl _ w).alloc _)
  exact ⟨by omega, by simp; omega⟩
set_option maxRecDepth 20000 in
set_option maxHeartbeats 2000000 in
theorem vparts_2 : Calls Try.prog 75 #[.pointer (some ⟨gx, 0, none⟩), .int .i64 2] w (VPartsPost w gx 2) := by
  go_enter Try.func75, Try.ntmps75
  go_wp2_with fail
  go_ret2
  refine VPartsPost.of (l := [.rev]) rfl rfl rfl ((row_lit (n := 1) w [vpartV gx .rev] _ rfl (by decide)).mono (fun b hb => ?_)) ((Keep.refl _ w).alloc _)
  exact ⟨by omega, by simp; omega⟩
set_option maxRecDepth 20000 in
set_option maxHeartbeats 2000000 in
theorem vparts_3 : Calls Try.prog 75 #[.pointer (some ⟨gx, 0, none⟩), .int .i64 3] w (VPartsPost w gx 3) := by
  go_enter Try.func75, Try.ntmps75
  go_wp2_with fail
  go_ret2
  refine VPartsPost.of (l := [.of, .rev]) rfl rfl rfl ((row_lit (n := 2) w [vpartV gx .of, vpartV gx .rev] _ rfl (by decide)).mono (fun b hb => ?_)) ((Keep.refl _ w).alloc _)
  exact ⟨by omega, by simp; omega⟩
set_option maxRecDepth 20000 in
set_option maxHeartbeats 2000000 in
theorem vparts_4 : Calls Try.prog 75 #[.pointer (some ⟨gx, 0, none⟩), .int .i64 4] w (VPartsPost w gx 4) := by
  go_enter Try.func75, Try.ntmps75
  go_wp2_with fail
  go_ret2
  refine VPartsPost.of (l := [.rev]) rfl rfl rfl ((row_lit (n := 1) w [vpartV gx .rev] _ rfl (by decide)).mono (fun b hb => ?_)) ((Keep.refl _ w).alloc _)
  exact ⟨by omega, by simp; omega⟩
set_option maxRecDepth 20000 in
set_option maxHeartbeats 2000000 in
theorem vparts_5 : Calls Try.prog 75 #[.pointer (some ⟨gx, 0, none⟩), .int .i64 5] w (VPartsPost w gx 5) := by
  go_enter Try.func75, Try.ntmps75
  go_wp2_with fail
  go_ret2
  exact VPartsPost.of (l := []) rfl rfl rfl ⟨none, 0, rfl, by simp, Nat.le_refl _, Nat.zero_le _, .inl rfl⟩ (Keep.refl _ w)
set_option maxRecDepth 20000 in
set_option maxHeartbeats 2000000 in
theorem vparts_6 : Calls Try.prog 75 #[.pointer (some ⟨gx, 0, none⟩), .int .i64 6] w (VPartsPost w gx 6) := by
  go_enter Try.func75, Try.ntmps75
  go_wp2_with fail
  go_ret2
  exact VPartsPost.of (l := []) rfl rfl rfl ⟨none, 0, rfl, by simp, Nat.le_refl _, Nat.zero_le _, .inl rfl⟩ (Keep.refl _ w)
set_option maxRecDepth 20000 in
set_option maxHeartbeats 2000000 in
theorem vparts_7 : Calls Try.prog 75 #[.pointer (some ⟨gx, 0, none⟩), .int .i64 7] w (VPartsPost w gx 7) := by
  go_enter Try.func75, Try.ntmps75
  go_wp2_with fail
  go_ret2
  exact VPartsPost.of (l := []) rfl rfl rfl ⟨none, 0, rfl, by simp, Nat.le_refl _, Nat.zero_le _, .inl rfl⟩ (Keep.refl _ w)
set_option maxRecDepth 20000 in
set_option maxHeartbeats 2000000 in
theorem vparts_8 : Calls Try.prog 75 #[.pointer (some ⟨gx, 0, none⟩), .int .i64 8] w (VPartsPost w gx 8) := by
  go_enter Try.func75, Try.ntmps75
  go_wp2_with fail
  go_ret2
  refine VPartsPost.of (l := [.rev]) rfl rfl rfl ((row_lit (n := 1) w [vpartV gx .rev] _ rfl (by decide)).mono (fun b hb => ?_)) ((Keep.refl _ w).alloc _)
  exact ⟨by omega, by simp; omega⟩
set_option maxRecDepth 20000 in
set_option maxHeartbeats 2000000 in
theorem vparts_9 : Calls Try.prog 75 #[.pointer (some ⟨gx, 0, none⟩), .int .i64 9] w (VPartsPost w gx 9) := by
  go_enter Try.func75, Try.ntmps75
  go_wp2_with fail
  go_ret2
  refine VPartsPost.of (l := [.of, .digest, .rev]) rfl rfl rfl ((row_lit (n := 3) w [vpartV gx .of, vpartV gx .digest, vpartV gx .rev] _ rfl (by decide)).mono (fun b hb => ?_)) ((Keep.refl _ w).alloc _)
  exact ⟨by omega, by simp; omega⟩
set_option maxRecDepth 20000 in
set_option maxHeartbeats 2000000 in
theorem vparts_10 : Calls Try.prog 75 #[.pointer (some ⟨gx, 0, none⟩), .int .i64 10] w (VPartsPost w gx 10) := by
  go_enter Try.func75, Try.ntmps75
  go_wp2_with fail
  go_ret2
  refine VPartsPost.of (l := [.of]) rfl rfl rfl ((row_lit (n := 1) w [vpartV gx .of] _ rfl (by decide)).mono (fun b hb => ?_)) ((Keep.refl _ w).alloc _)
  exact ⟨by omega, by simp; omega⟩
set_option maxRecDepth 20000 in
set_option maxHeartbeats 2000000 in
theorem vparts_11 : Calls Try.prog 75 #[.pointer (some ⟨gx, 0, none⟩), .int .i64 11] w (VPartsPost w gx 11) := by
  go_enter Try.func75, Try.ntmps75
  go_wp2_with fail
  go_ret2
  refine VPartsPost.of (l := [.commits]) rfl rfl rfl ((row_lit (n := 1) w [vpartV gx .commits] _ rfl (by decide)).mono (fun b hb => ?_)) ((Keep.refl _ w).alloc _)
  exact ⟨by omega, by simp; omega⟩
set_option maxRecDepth 20000 in
set_option maxHeartbeats 2000000 in
theorem vparts_12 : Calls Try.prog 75 #[.pointer (some ⟨gx, 0, none⟩), .int .i64 12] w (VPartsPost w gx 12) := by
  go_enter Try.func75, Try.ntmps75
  go_wp2_with fail
  go_ret2
  refine VPartsPost.of (l := [.who]) rfl rfl rfl ((row_lit (n := 1) w [vpartV gx .who] _ rfl (by decide)).mono (fun b hb => ?_)) ((Keep.refl _ w).alloc _)
  exact ⟨by omega, by simp; omega⟩
set_option maxRecDepth 20000 in
set_option maxHeartbeats 2000000 in
theorem vparts_13 : Calls Try.prog 75 #[.pointer (some ⟨gx, 0, none⟩), .int .i64 13] w (VPartsPost w gx 13) := by
  go_enter Try.func75, Try.ntmps75
  go_wp2_with fail
  go_ret2
  refine VPartsPost.of (l := [.who]) rfl rfl rfl ((row_lit (n := 1) w [vpartV gx .who] _ rfl (by decide)).mono (fun b hb => ?_)) ((Keep.refl _ w).alloc _)
  exact ⟨by omega, by simp; omega⟩
set_option maxRecDepth 20000 in
set_option maxHeartbeats 2000000 in
theorem vparts_14 : Calls Try.prog 75 #[.pointer (some ⟨gx, 0, none⟩), .int .i64 14] w (VPartsPost w gx 14) := by
  go_enter Try.func75, Try.ntmps75
  go_wp2_with fail
  go_ret2
  refine VPartsPost.of (l := [.who]) rfl rfl rfl ((row_lit (n := 1) w [vpartV gx .who] _ rfl (by decide)).mono (fun b hb => ?_)) ((Keep.refl _ w).alloc _)
  exact ⟨by omega, by simp; omega⟩
set_option maxRecDepth 20000 in
set_option maxHeartbeats 2000000 in
theorem vparts_none {k : Int} (hk : ¬ (0 ≤ k ∧ k < 15)) : Calls Try.prog 75 #[.pointer (some ⟨gx, 0, none⟩), .int .i64 k] w (VPartsPost w gx k) := by
  have hp : vParts k = [] := by
    unfold vParts
    iterate 7 rw [if_neg (by omega)]
  have HP := hid hp; have HK := hid (decide_eq_false hk)
  have h0 : (k == 0) = false := by simp; omega
  have h1 : (k == 1) = false := by simp; omega
  have h2 : (k == 2) = false := by simp; omega
  have h3 : (k == 3) = false := by simp; omega
  have h4 : (k == 4) = false := by simp; omega
  have h5 : (k == 5) = false := by simp; omega
  have h6 : (k == 6) = false := by simp; omega
  have h7 : (k == 7) = false := by simp; omega
  have h8 : (k == 8) = false := by simp; omega
  have h9 : (k == 9) = false := by simp; omega
  have h10 : (k == 10) = false := by simp; omega
  have h11 : (k == 11) = false := by simp; omega
  have h12 : (k == 12) = false := by simp; omega
  have h13 : (k == 13) = false := by simp; omega
  have h14 : (k == 14) = false := by simp; omega
  clear hp hk
  go_enter Try.func75, Try.ntmps75
  go_wp2_with fail
  go_ret2
  exact VPartsPost.of HP.out rfl HK.out ⟨none, 0, rfl, by simp, Nat.le_refl _, Nat.zero_le _, .inl rfl⟩ (Keep.refl _ w)
theorem vparts_calls (k : Int) : Calls Try.prog 75 #[.pointer (some ⟨gx, 0, none⟩), .int .i64 k] w (VPartsPost w gx k) := by
  by_cases hk : 0 ≤ k ∧ k < 15
  · have : k = 0 ∨ k = 1 ∨ k = 2 ∨ k = 3 ∨ k = 4 ∨ k = 5 ∨ k = 6 ∨ k = 7 ∨ k = 8 ∨ k = 9 ∨ k = 10 ∨ k = 11 ∨ k = 12 ∨ k = 13 ∨ k = 14 := by omega
    rcases this with rfl | rfl | rfl | rfl | rfl | rfl | rfl | rfl | rfl | rfl | rfl | rfl | rfl | rfl | rfl
    · exact vparts_0
    · exact vparts_1
    · exact vparts_2
    · exact vparts_3
    · exact vparts_4
    · exact vparts_5
    · exact vparts_6
    · exact vparts_7
    · exact vparts_8
    · exact vparts_9
    · exact vparts_10
    · exact vparts_11
    · exact vparts_12
    · exact vparts_13
    · exact vparts_14
  · exact vparts_none hk
end
end Go.Proofs.Ytofljidmdabkcaa
