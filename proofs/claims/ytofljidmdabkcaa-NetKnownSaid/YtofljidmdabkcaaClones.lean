/- Copies of slices of votes, of bytes, of commits. -/
import Derived.Test.YtofljidmdabkcaaMsgT
import Derived.Test.YtofljidmdabkcaaBlk
namespace Go.Proofs.Ytofljidmdabkcaa
open Go.RowKit
def reqZ' : Req := ⟨0, ByteArray.empty, 0, 0, 0, ByteArray.empty, [], ByteArray.empty, 0, 0, 0⟩
theorem T_V : SlT Try.prog 25 43 (.agg (voteCs ⟨0, 0, reqZ'⟩ (.slice none 0 0)).toArray) 13 144 := SlT.mk' Try.underlying25 (by kernel_rfl) rfl (by decide)
set_option maxRecDepth 20000 in
theorem clone_V {F : Nat → Prop} {w : World} {A : Option Addr} {n c : Nat} {cs : List Value} (hv : Row F w (.slice A n c) n 13 cs) (h1c : ∀ u ∈ cs, u.oneCell' = true) (hl : n ≤ 4294967296) :
    Calls Try.prog 45 #[.slice A n c] w fun e w' => ∃ A' c', e = .returned (.slice A' n c') ∧ w'.ownsRow 0 43 13 (.slice A' n c') n cs ∧ (∀ k, (Value.slice A' n c').ownBlock = some k → w.heap.size ≤ k) ∧ Keep (fun _ => False) w w' := by
  rcases A with _ | ⟨b, off, p⟩
  · have hnil := fun w => Lib.run_eql_slice_nil (P := Try.prog) w 25 43 none n c 0 0 Try.underlying25
    have hl0 : n = 0 := by
      obtain ⟨_, _, he, _, h, _, h0 | ⟨b, off, hA, _⟩⟩ := hv
      · simp only [Value.slice.injEq] at he; omega
      · simp only [Value.slice.injEq] at he; rw [← he.1] at hA; cases hA
    subst hl0
    have hcs : cs = [] := by obtain ⟨_, _, _, h, _⟩ := hv; exact List.eq_nil_of_length_eq_zero (by simpa using h)
    subst hcs
    clear hv h1c
    go_enter Try.func45, Try.ntmps45
    go_wp2_with fail
    refine bodyPost_ret (v := .slice none 0 0) (by simp [results, Try.results45, go_sem]) rfl ?_
    exact ⟨none, 0, rfl, World.ownsRow_nil _ 0 _ _, fun k hk => by simp [Value.ownBlock] at hk, Keep.refl _ _⟩
  · have hnil := fun w => Lib.run_eql_slice_nil (P := Try.prog) w 25 43 (some ⟨b, off, p⟩) n c 0 0 Try.underlying25
    have hown : (w.alloc (.cells #[] 43)).ownsRow 0 43 13 (.slice (some ⟨w.heap.size, 0, none⟩) 0 0) 0 [] := ⟨rfl, .inr ⟨w.heap.size, 0, #[], rfl, Nat.zero_le _, heap_alloc_new w _, Nat.le_refl _, Nat.zero_le _, rfl, rfl⟩⟩
    have hrow' : Row F (w.alloc (.cells #[] 43)) (.slice (some ⟨b, off, p⟩) n c) n 13 cs := hv.keep ((Keep.refl (fun _ => False) w).alloc _) (fun _ _ => id)
    clear hv
    go_enter Try.func45, Try.ntmps45
    go_wp2_with (at_builtin; refine stopHere ?_)
    refine goOn (wpl_app (v := .slice (some ⟨w.heap.size, 0, none⟩) 0 0) rfl rfl T_V rfl hown rfl hrow' h1c (by omega) (by omega) ?_)
    intro A1 c1 w1 ho1 hk1 hn1
    have hk : Keep (fun _ => False) w w1 := ((Keep.refl (fun _ => False) w).alloc _).trans hk1 (fun q hq e => by simp only [Value.ownBlock, Option.some.injEq] at e; omega)
    rw [Nat.zero_add, List.nil_append] at ho1
    rw [Nat.zero_add] at hn1
    go_wp2_with fail
    refine bodyPost_ret (v := .slice A1 n c1) (by simp [results, Try.results45, go_sem]) rfl ?_
    refine ⟨_, _, rfl, ho1, fun k hk => ?_, hk⟩
    rcases hn1 k hk with q | q
    · simp only [Value.ownBlock, Option.some.injEq] at q; omega
    · simp at q; omega

theorem T_B : SlT Try.prog 26 5 (.int .u8 0) 1 1 := SlT.mk' Try.underlying26 (by kernel_rfl) rfl (by decide)
set_option maxRecDepth 20000 in
theorem clone_B {F : Nat → Prop} {w : World} {A : Option Addr} {n c : Nat} {cs : List Value} (hv : Row F w (.slice A n c) n 1 cs) (h1c : ∀ u ∈ cs, u.oneCell' = true) (hl : n ≤ 4294967296) :
    Calls Try.prog 46 #[.slice A n c] w fun e w' => ∃ A' c', e = .returned (.slice A' n c') ∧ w'.ownsRow 0 5 1 (.slice A' n c') n cs ∧ (∀ k, (Value.slice A' n c').ownBlock = some k → w.heap.size ≤ k) ∧ Keep (fun _ => False) w w' := by
  rcases A with _ | ⟨b, off, p⟩
  · have hnil := fun w => Lib.run_eql_slice_nil (P := Try.prog) w 26 5 none n c 0 0 Try.underlying26
    have hl0 : n = 0 := by
      obtain ⟨_, _, he, _, h, _, h0 | ⟨b, off, hA, _⟩⟩ := hv
      · simp only [Value.slice.injEq] at he; omega
      · simp only [Value.slice.injEq] at he; rw [← he.1] at hA; cases hA
    subst hl0
    have hcs : cs = [] := by obtain ⟨_, _, _, h, _⟩ := hv; exact List.eq_nil_of_length_eq_zero (by simpa using h)
    subst hcs
    clear hv h1c
    go_enter Try.func46, Try.ntmps46
    go_wp2_with fail
    refine bodyPost_ret (v := .slice none 0 0) (by simp [results, Try.results46, go_sem]) rfl ?_
    exact ⟨none, 0, rfl, World.ownsRow_nil _ 0 _ _, fun k hk => by simp [Value.ownBlock] at hk, Keep.refl _ _⟩
  · have hnil := fun w => Lib.run_eql_slice_nil (P := Try.prog) w 26 5 (some ⟨b, off, p⟩) n c 0 0 Try.underlying26
    have hown : (w.alloc (.cells #[] 5)).ownsRow 0 5 1 (.slice (some ⟨w.heap.size, 0, none⟩) 0 0) 0 [] := ⟨rfl, .inr ⟨w.heap.size, 0, #[], rfl, Nat.zero_le _, heap_alloc_new w _, Nat.le_refl _, Nat.zero_le _, rfl, rfl⟩⟩
    have hrow' : Row F (w.alloc (.cells #[] 5)) (.slice (some ⟨b, off, p⟩) n c) n 1 cs := hv.keep ((Keep.refl (fun _ => False) w).alloc _) (fun _ _ => id)
    clear hv
    go_enter Try.func46, Try.ntmps46
    go_wp2_with (at_builtin; refine stopHere ?_)
    refine goOn (wpl_app (v := .slice (some ⟨w.heap.size, 0, none⟩) 0 0) rfl rfl T_B rfl hown rfl hrow' h1c (by omega) (by omega) ?_)
    intro A1 c1 w1 ho1 hk1 hn1
    have hk : Keep (fun _ => False) w w1 := ((Keep.refl (fun _ => False) w).alloc _).trans hk1 (fun q hq e => by simp only [Value.ownBlock, Option.some.injEq] at e; omega)
    rw [Nat.zero_add, List.nil_append] at ho1
    rw [Nat.zero_add] at hn1
    go_wp2_with fail
    refine bodyPost_ret (v := .slice A1 n c1) (by simp [results, Try.results46, go_sem]) rfl ?_
    refine ⟨_, _, rfl, ho1, fun k hk => ?_, hk⟩
    rcases hn1 k hk with q | q
    · simp only [Value.ownBlock, Option.some.injEq] at q; omega
    · simp at q; omega

theorem T_K : SlT Try.prog 28 73 (.agg (commitCs ⟨0, 0, ByteArray.empty, []⟩ (.slice none 0 0)).toArray) 4 56 := SlT.mk' Try.underlying28 (by kernel_rfl) rfl (by decide)
set_option maxRecDepth 20000 in
theorem clone_K {F : Nat → Prop} {w : World} {A : Option Addr} {n c : Nat} {cs : List Value} (hv : Row F w (.slice A n c) n 4 cs) (h1c : ∀ u ∈ cs, u.oneCell' = true) (hl : n ≤ 4294967296) :
    Calls Try.prog 47 #[.slice A n c] w fun e w' => ∃ A' c', e = .returned (.slice A' n c') ∧ w'.ownsRow 0 73 4 (.slice A' n c') n cs ∧ (∀ k, (Value.slice A' n c').ownBlock = some k → w.heap.size ≤ k) ∧ Keep (fun _ => False) w w' := by
  rcases A with _ | ⟨b, off, p⟩
  · have hnil := fun w => Lib.run_eql_slice_nil (P := Try.prog) w 28 73 none n c 0 0 Try.underlying28
    have hl0 : n = 0 := by
      obtain ⟨_, _, he, _, h, _, h0 | ⟨b, off, hA, _⟩⟩ := hv
      · simp only [Value.slice.injEq] at he; omega
      · simp only [Value.slice.injEq] at he; rw [← he.1] at hA; cases hA
    subst hl0
    have hcs : cs = [] := by obtain ⟨_, _, _, h, _⟩ := hv; exact List.eq_nil_of_length_eq_zero (by simpa using h)
    subst hcs
    clear hv h1c
    go_enter Try.func47, Try.ntmps47
    go_wp2_with fail
    refine bodyPost_ret (v := .slice none 0 0) (by simp [results, Try.results47, go_sem]) rfl ?_
    exact ⟨none, 0, rfl, World.ownsRow_nil _ 0 _ _, fun k hk => by simp [Value.ownBlock] at hk, Keep.refl _ _⟩
  · have hnil := fun w => Lib.run_eql_slice_nil (P := Try.prog) w 28 73 (some ⟨b, off, p⟩) n c 0 0 Try.underlying28
    have hown : (w.alloc (.cells #[] 73)).ownsRow 0 73 4 (.slice (some ⟨w.heap.size, 0, none⟩) 0 0) 0 [] := ⟨rfl, .inr ⟨w.heap.size, 0, #[], rfl, Nat.zero_le _, heap_alloc_new w _, Nat.le_refl _, Nat.zero_le _, rfl, rfl⟩⟩
    have hrow' : Row F (w.alloc (.cells #[] 73)) (.slice (some ⟨b, off, p⟩) n c) n 4 cs := hv.keep ((Keep.refl (fun _ => False) w).alloc _) (fun _ _ => id)
    clear hv
    go_enter Try.func47, Try.ntmps47
    go_wp2_with (at_builtin; refine stopHere ?_)
    refine goOn (wpl_app (v := .slice (some ⟨w.heap.size, 0, none⟩) 0 0) rfl rfl T_K rfl hown rfl hrow' h1c (by omega) (by omega) ?_)
    intro A1 c1 w1 ho1 hk1 hn1
    have hk : Keep (fun _ => False) w w1 := ((Keep.refl (fun _ => False) w).alloc _).trans hk1 (fun q hq e => by simp only [Value.ownBlock, Option.some.injEq] at e; omega)
    rw [Nat.zero_add, List.nil_append] at ho1
    rw [Nat.zero_add] at hn1
    go_wp2_with fail
    refine bodyPost_ret (v := .slice A1 n c1) (by simp [results, Try.results47, go_sem]) rfl ?_
    refine ⟨_, _, rfl, ho1, fun k hk => ?_, hk⟩
    rcases hn1 k hk with q | q
    · simp only [Value.ownBlock, Option.some.injEq] at q; omega
    · simp at q; omega
end Go.Proofs.Ytofljidmdabkcaa
