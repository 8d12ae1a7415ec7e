/- client: New; path.Name of a name of one letter. -/
import Derived.Test.YtnekfonnceknoaaCl7
namespace Go.Proofs.Ytnekfonnceknoaa
open Go.RowKit Go.Lib
def newS (id : Int) (name : ByteArray) (rep pat : Int) : CS := ⟨id, rep, pat, name, 0, 0, 0, false, 0, 0, false, false, false, false, 0, reqZ', reqZ', false, reqZ', vdZ'⟩
theorem reqZ_ok : reqZ'.Ok := ⟨ok0, ok0, ok0, ok0, ok0, ok0, ok0⟩
theorem newS_inv {id : Int} {name : ByteArray} {rep pat : Int} (h1 : 0 ≤ id ∧ id < 100) (h2 : 1 ≤ rep ∧ rep ≤ 15) (h3 : 1 ≤ pat ∧ pat ≤ 1048576) : CInv 0 (newS id name rep pat) :=
  ⟨h1, h2, h3, ⟨Int.le_refl _, by simp only [newS]; omega⟩, ⟨Int.le_refl _, by simp only [newS]; omega⟩, ⟨Int.le_refl _, Int.le_refl _⟩, ⟨Int.le_refl _, Int.le_refl _⟩, ok0, ⟨Int.le_refl _, by simp only [newS]; omega⟩, reqZ_ok, reqZ_ok, reqZ_ok, vdZ_ok⟩
section
variable {X Y : Nat → Prop} {w w' : World} {g : Nat} {s : CS} {vw va vt vk : Value} {F : Nat → Prop} {N : Int}
def OneName (name : ByteArray) : Prop := ∀ w : World, Calls Try.prog 20 #[.string name] w fun e w' => e = .returned (.bool true) ∧ w = w'
set_option maxRecDepth 20000 in
theorem letter99 (w : World) : Calls Try.prog 47 #[.int .u8 99] w fun e w' => e = .returned (.bool true) ∧ w = w' := by
  go_enter Try.func47, Try.ntmps47
  go_wp2_with fail
  go_ret
  exact ⟨rfl, rfl⟩
set_option maxRecDepth 20000 in
set_option maxHeartbeats 4000000 in
theorem name99 : OneName ⟨#[99]⟩ := fun w => by
  go_enter Try.func20, Try.ntmps20
  go_wp2_with fail
  go_loopw [6] (fun i wr => ∃ k : Nat, k ≤ 1 ∧ i = .int .i64 k ∧ w = wr) (fun i _ => 1 - (intOf i).toNat)
  case atStart => exact ⟨0, Nat.zero_le _, rfl, rfl⟩
  case round =>
    obtain ⟨wx, hwx⟩ : ∃ x, x = wr := ⟨_, rfl⟩
    obtain ⟨k, hk, rfl, rfl⟩ := hrel
    clear hwx
    have hk' : k = 0 ∨ k = 1 := by omega
    rcases hk' with rfl | rfl
    · go_wp2_with fail
      refine (letter99 w).mono ?_
      rintro e w' ⟨rfl, rfl⟩
      go_wp2_with fail
      exact ⟨⟨1, by omega, by simp, by first | trivial | rfl⟩, by simp [intOf]⟩
    · go_wp2_with fail
      go_ret
      exact ⟨rfl, rfl⟩
set_option maxRecDepth 20000 in
theorem letter120 (w : World) : Calls Try.prog 47 #[.int .u8 120] w fun e w' => e = .returned (.bool true) ∧ w = w' := by
  go_enter Try.func47, Try.ntmps47
  go_wp2_with fail
  go_ret
  exact ⟨rfl, rfl⟩
set_option maxRecDepth 20000 in
set_option maxHeartbeats 4000000 in
theorem name120 : OneName ⟨#[120]⟩ := fun w => by
  go_enter Try.func20, Try.ntmps20
  go_wp2_with fail
  go_loopw [6] (fun i wr => ∃ k : Nat, k ≤ 1 ∧ i = .int .i64 k ∧ w = wr) (fun i _ => 1 - (intOf i).toNat)
  case atStart => exact ⟨0, Nat.zero_le _, rfl, rfl⟩
  case round =>
    obtain ⟨wx, hwx⟩ : ∃ x, x = wr := ⟨_, rfl⟩
    obtain ⟨k, hk, rfl, rfl⟩ := hrel
    clear hwx
    have hk' : k = 0 ∨ k = 1 := by omega
    rcases hk' with rfl | rfl
    · go_wp2_with fail
      refine (letter120 w).mono ?_
      rintro e w' ⟨rfl, rfl⟩
      go_wp2_with fail
      exact ⟨⟨1, by omega, by simp, by first | trivial | rfl⟩, by simp [intOf]⟩
    · go_wp2_with fail
      go_ret
      exact ⟨rfl, rfl⟩
set_option maxRecDepth 20000 in
set_option maxHeartbeats 8000000 in
theorem cnew_calls {id : Int} {name : ByteArray} {rep pat : Int} (hnm : OneName name) (h1 : 0 ≤ id ∧ id < 100) (h2 : 1 ≤ rep ∧ rep ≤ 15) (h3 : 1 ≤ pat ∧ pat ≤ 1048576) :
    Calls Try.prog 8 #[.int .i64 id, .string name, .int .i64 rep, .int .i64 pat] w fun e w' => ∃ g, e = .returned (.tuple #[.pointer (some ⟨g, 0, none⟩), .int .i64 0]) ∧ w.heap.size ≤ g ∧ g < w'.heap.size ∧ CliM (fun k => k = g) w' g (newS id name rep pat) nilV nilV nilV nilV ∧ Keep (fun _ => False) w w' := by
  have d1 : decide (id < 0) = false := decide_eq_false (by omega)
  have d2 : decide (100 ≤ id) = false := decide_eq_false (by omega)
  have d3 : decide (rep < 1) = false := decide_eq_false (by omega)
  have d4 : decide (15 < rep) = false := decide_eq_false (by omega)
  have d5 : decide (pat < 1) = false := decide_eq_false (by omega)
  have d6 : decide (1048576 < pat) = false := decide_eq_false (by omega)
  have HNM := hid hnm; have H2 := hid h2
  clear hnm h1 h2 h3
  go_enter Try.func8, Try.ntmps8
  go_wp2_with fail
  refine (HNM.out w).mono ?_
  rintro e w' ⟨rfl, rfl⟩
  go_wp2_with (first
    | (refine wpl_build rfl rfl (cliCs (newS id name rep pat) nilV nilV nilV nilV).toArray (by kernel_rfl) ?_)
    | (refine wpl_boxB (v := .agg (cliCs (newS id name rep pat) nilV nilV nilV nilV).toArray) rfl rfl rfl ?_; intro g1 w1 hg1 hb1 k1 s1; have HG1 := hid hg1; have K1 := hid k1; clear hg1 s1 k1; replace hb1 : w1.heap[g1]? = some (CObj (newS id name rep pat) nilV nilV nilV nilV) := hb1))
  go_ret2
  have hg := HG1.out
  have hl := lt_heap hb1
  exact ⟨g1, rfl, by omega, hl, ⟨hb1, rfl, fun k e => by subst e; exact hl, nilSl _ _ _, nilSl _ _ _, nilSl _ _ _, nilSl _ _ _, Nat.zero_le _, Nat.zero_le _, Nat.zero_le _, by have := H2.out; simp only [newS]; omega⟩, K1.out⟩
set_option maxRecDepth 20000 in
theorem cnew_bad (name : ByteArray) : Calls Try.prog 8 #[.int .i64 100, .string name, .int .i64 3, .int .i64 5] w fun e w' => e = .returned (.tuple #[.pointer none, .int .i64 1]) ∧ w = w' := by
  go_enter Try.func8, Try.ntmps8
  go_wp2_with fail
  go_ret2
  exact ⟨rfl, rfl⟩
end
end Go.Proofs.Ytnekfonnceknoaa
