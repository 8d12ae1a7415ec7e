/- entry.Same: are two requests the same? -/
import Derived.Test.YtnekfonnceknoaaMt
namespace Go.Proofs.Ytnekfonnceknoaa
open Go.RowKit
section
variable {F G : Nat → Prop} {w : World}
theorem reqW_keep (w : World) (a b : Array Value) (e : TypeId) (S : Nat → Prop) : Keep S w ((w.alloc (.cells a e)).alloc (.cells b e)) := ((Keep.refl S w).alloc _).alloc _
set_option maxRecDepth 100000 in
set_option maxHeartbeats 4000000 in
theorem sameR_calls {r s : Req} {v u : Value} (hv : Sl .change w F v r.changes) (hu : Sl .change w G u s.changes) :
    Calls Try.prog 64 #[reqV r v, reqV s u] w fun e w' => e = .returned (.bool (decide (r = s))) ∧ Keep (fun _ => False) w w' := by
  obtain ⟨A, c, rfl⟩ := hv.shape
  obtain ⟨B, d, rfl⟩ := hu.shape
  have HV := hid (fun a b e => hv.keep (reqW_keep w a b e (fun _ => False)) (fun _ _ => id))
  have HU := hid (fun a b e => hu.keep (reqW_keep w a b e (fun _ => False)) (fun _ _ => id))
  clear hv hu
  rcases Bool.eq_false_or_eq_true (r.kind == s.kind) with b0 | b0
  case' inr =>
    have hne := hid (show r ≠ s from fun e => by rw [e] at b0; simp at b0)
    go_enter Try.func64, Try.ntmps64
    go_wp2_with fail
    go_ret
    rw [decide_eq_false hne.out]
    exact ⟨rfl, reqW_keep _ _ _ _ _⟩
  rcases Bool.eq_false_or_eq_true (r.name.toList == s.name.toList) with b1 | b1
  case' inr =>
    have hne := hid (show r ≠ s from fun e => by rw [e] at b1; simp at b1)
    go_enter Try.func64, Try.ntmps64
    go_wp2_with fail
    go_ret
    rw [decide_eq_false hne.out]
    exact ⟨rfl, reqW_keep _ _ _ _ _⟩
  rcases Bool.eq_false_or_eq_true (r.session == s.session) with b2 | b2
  case' inr =>
    have hne := hid (show r ≠ s from fun e => by rw [e] at b2; simp at b2)
    go_enter Try.func64, Try.ntmps64
    go_wp2_with fail
    go_ret
    rw [decide_eq_false hne.out]
    exact ⟨rfl, reqW_keep _ _ _ _ _⟩
  rcases Bool.eq_false_or_eq_true (r.seq == s.seq) with b3 | b3
  case' inr =>
    have hne := hid (show r ≠ s from fun e => by rw [e] at b3; simp at b3)
    go_enter Try.func64, Try.ntmps64
    go_wp2_with fail
    go_ret
    rw [decide_eq_false hne.out]
    exact ⟨rfl, reqW_keep _ _ _ _ _⟩
  rcases Bool.eq_false_or_eq_true (r.base == s.base) with b4 | b4
  case' inr =>
    have hne := hid (show r ≠ s from fun e => by rw [e] at b4; simp at b4)
    go_enter Try.func64, Try.ntmps64
    go_wp2_with fail
    go_ret
    rw [decide_eq_false hne.out]
    exact ⟨rfl, reqW_keep _ _ _ _ _⟩
  rcases Bool.eq_false_or_eq_true (r.ref.toList == s.ref.toList) with b5 | b5
  case' inr =>
    have hne := hid (show r ≠ s from fun e => by rw [e] at b5; simp at b5)
    go_enter Try.func64, Try.ntmps64
    go_wp2_with fail
    go_ret
    rw [decide_eq_false hne.out]
    exact ⟨rfl, reqW_keep _ _ _ _ _⟩
  rcases Bool.eq_false_or_eq_true (r.path.toList == s.path.toList) with b6 | b6
  case' inr =>
    have hne := hid (show r ≠ s from fun e => by rw [e] at b6; simp at b6)
    go_enter Try.func64, Try.ntmps64
    go_wp2_with fail
    go_ret
    rw [decide_eq_false hne.out]
    exact ⟨rfl, reqW_keep _ _ _ _ _⟩
  rcases Bool.eq_false_or_eq_true (r.from' == s.from') with b7 | b7
  case' inr =>
    have hne := hid (show r ≠ s from fun e => by rw [e] at b7; simp at b7)
    go_enter Try.func64, Try.ntmps64
    go_wp2_with fail
    go_ret
    rw [decide_eq_false hne.out]
    exact ⟨rfl, reqW_keep _ _ _ _ _⟩
  rcases Bool.eq_false_or_eq_true (r.many == s.many) with b8 | b8
  case' inr =>
    have hne := hid (show r ≠ s from fun e => by rw [e] at b8; simp at b8)
    go_enter Try.func64, Try.ntmps64
    go_wp2_with fail
    go_ret
    rw [decide_eq_false hne.out]
    exact ⟨rfl, reqW_keep _ _ _ _ _⟩
  rcases Bool.eq_false_or_eq_true (r.member == s.member) with b9 | b9
  case' inr =>
    have hne := hid (show r ≠ s from fun e => by rw [e] at b9; simp at b9)
    go_enter Try.func64, Try.ntmps64
    go_wp2_with fail
    go_ret
    rw [decide_eq_false hne.out]
    exact ⟨rfl, reqW_keep _ _ _ _ _⟩
  have hrs : (r = s) ↔ r.changes = s.changes := by
    constructor
    · intro e; rw [e]
    · intro e
      simp only [beq_iff_eq, path_iff] at b0 b1 b2 b3 b4 b5 b6 b7 b8 b9
      cases r; cases s
      simp_all
  have hd := hid (show decide (r = s) = decide (r.changes = s.changes) by simp only [hrs])
  clear hrs
  go_enter Try.func64, Try.ntmps64
  go_wp2_with fail
  refine (sameC_calls (HV.out _ _ _) (HU.out _ _ _)).mono ?_
  rintro e w1 ⟨rfl, n, rfl⟩
  rw [← hd.out]
  go_wp2
  go_ret
  exact ⟨rfl, (reqW_keep _ _ _ _ _).drewN n⟩
end
end Go.Proofs.Ytnekfonnceknoaa
