/- epoch.Most of no members, and so of any. -/
import Derived.Test.YthlgnilgjeebaaaMost
namespace Go.Proofs.Ythlgnilgjeebaaa
open Go.RowKit
theorem mostB_nil (I : List Int) : mostB [] I = false := by
  have h : ([] : List Int).mergeSort leI = [] := by simp
  rw [mostB, cntM, setM, h]
  simp [quoN, Go.Lib.compact, Go.Lib.compactUpTo]
section
variable {F G : Nat → Prop} {w w' : World} {vm vi : Value} {M I : List Int}
theorem clone_zero {A : Option Addr} {c : Nat} : Calls Try.prog 66 #[.slice A 0 c] w fun e w' => ∃ p cap, e = .returned (.slice p 0 cap) ∧ Keep (fun _ => False) w w' := by
  cases A with
  | none => exact (Go.Proofs.Try.slices_Clone_int_nil 0 c w).mono fun e w' ⟨he, hw⟩ => ⟨none, 0, he, by rw [hw]; exact Keep.refl _ _⟩
  | some a =>
    refine (Go.Proofs.Try.slices_Clone_int_zero a c w).mono ?_
    rintro e w' ⟨v', rfl, hown, hne, hbel⟩
    have hk : Keep (fun _ => False) w w' := ⟨hbel.os, hbel.tape, hbel.output, hbel.size, fun k hk _ => hbel.block k hk⟩
    obtain ⟨_, ⟨rfl, _⟩ | ⟨g, cap, cur, rfl, _⟩⟩ := hown
    · exact absurd rfl hne
    · exact ⟨_, _, rfl, hk⟩
set_option maxRecDepth 20000 in
theorem most_nil {A : Option Addr} {c : Nat} (hM : Row F w (.slice A 0 c) 0 1 []) : Calls Try.prog 52 #[.slice A 0 c, vi] w fun e w' => e = .returned (.bool false) ∧ Keep (fun _ => False) w w' := by
  go_enter Try.func52, Try.ntmps52
  go_wp2_with fail
  refine clone_zero.mono ?_
  rintro e w1 ⟨p, cap, rfl, hk⟩
  have HK := hid hk
  clear hk
  go_wp2_with fail
  refine (Go.Proofs.Try.slices_Sort_int_none p cap w1).mono ?_
  rintro e w' ⟨rfl, rfl⟩
  go_wp2_with fail
  refine (Go.Proofs.Try.slices_Compact_int_empty p cap _).mono ?_
  rintro e w2 ⟨rfl, rfl⟩
  have hq := quorum_calls (l := []) (hM.keep HK.out (fun _ _ => id)) (by simp)
  go_wp2_with fail
  go_loop [6, 16] (fun n i => i = .int .i64 0 ∧ n = .int .i64 0) (fun _ _ => 0)
  case atStart => exact ⟨rfl, rfl⟩
  case round =>
    obtain ⟨rfl, rfl⟩ := hrel
    go_wp2_with fail
    refine hq.mono ?_
    rintro e w3 ⟨rfl, rfl⟩
    go_wp2_with fail
    go_ret
    exact ⟨rfl, HK.out⟩
/-- Of any members. -/
theorem most_any (hM : Row F w vm M.length 1 (M.map I64)) (hl : M.length ≤ 1000000) (hI : Row G w vi I.length 1 (I.map I64)) :
    Calls Try.prog 52 #[vm, vi] w fun e w' => e = .returned (.bool (mostB M I)) ∧ Keep (fun _ => False) w w' := by
  rcases Nat.eq_zero_or_pos M.length with h0 | h0
  · obtain rfl := List.eq_nil_of_length_eq_zero h0
    obtain ⟨A, c, rfl⟩ := hM.shape
    rw [mostB_nil]
    exact most_nil hM
  · exact most_calls hM h0 hl hI
end
end Go.Proofs.Ythlgnilgjeebaaa
