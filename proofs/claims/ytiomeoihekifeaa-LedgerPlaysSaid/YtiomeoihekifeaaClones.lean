/- Copies of slices of votes, of bytes, of commits. -/
import Derived.Test.YtiomeoihekifeaaMsgT
import Derived.Test.YtiomeoihekifeaaBlk
namespace Go.Proofs.Ytiomeoihekifeaa
open Go.RowKit
def reqZ' : Req := ⟨0, ByteArray.empty, 0, 0, 0, ByteArray.empty, [], ByteArray.empty, 0, 0, 0⟩
theorem T_V : SlT Try.prog 53 67 (.agg (voteCs ⟨0, 0, reqZ'⟩ (.slice none 0 0)).toArray) 13 144 := SlT.mk' Try.underlying53 (by kernel_rfl) rfl (by decide)
set_option maxRecDepth 20000 in
theorem clone_V {F : Nat → Prop} {w : World} {A : Option Addr} {n c : Nat} {cs : List Value} (hv : Row F w (.slice A n c) n 13 cs) (h1c : ∀ u ∈ cs, u.oneCell' = true) (hl : n ≤ 4294967296) :
    Calls Try.prog 74 #[.slice A n c] w fun e w' => ∃ A' c', e = .returned (.slice A' n c') ∧ w'.ownsRow 0 67 13 (.slice A' n c') n cs ∧ (∀ k, (Value.slice A' n c').ownBlock = some k → w.heap.size ≤ k) ∧ Keep (fun _ => False) w w' := by
  rcases A with _ | ⟨b, off, p⟩
  · have hnil := fun w => Lib.run_eql_slice_nil (P := Try.prog) w 53 67 none n c 0 0 Try.underlying53
    have hl0 : n = 0 := by
      obtain ⟨_, _, he, _, h, _, h0 | ⟨b, off, hA, _⟩⟩ := hv
      · simp only [Value.slice.injEq] at he; omega
      · simp only [Value.slice.injEq] at he; rw [← he.1] at hA; cases hA
    subst hl0
    have hcs : cs = [] := by obtain ⟨_, _, _, h, _⟩ := hv; exact List.eq_nil_of_length_eq_zero (by simpa using h)
    subst hcs
    clear hv h1c
    go_enter Try.func74, Try.ntmps74
    go_wp2_with fail
    refine bodyPost_ret (v := .slice none 0 0) (by simp [results, Try.results74, go_sem]) rfl ?_
    exact ⟨none, 0, rfl, World.ownsRow_nil _ 0 _ _, fun k hk => by simp [Value.ownBlock] at hk, Keep.refl _ _⟩
  · have hnil := fun w => Lib.run_eql_slice_nil (P := Try.prog) w 53 67 (some ⟨b, off, p⟩) n c 0 0 Try.underlying53
    have hown : (w.alloc (.cells #[] 67)).ownsRow 0 67 13 (.slice (some ⟨w.heap.size, 0, none⟩) 0 0) 0 [] := ⟨rfl, .inr ⟨w.heap.size, 0, #[], rfl, Nat.zero_le _, heap_alloc_new w _, Nat.le_refl _, Nat.zero_le _, rfl, rfl⟩⟩
    have hrow' : Row F (w.alloc (.cells #[] 67)) (.slice (some ⟨b, off, p⟩) n c) n 13 cs := hv.keep ((Keep.refl (fun _ => False) w).alloc _) (fun _ _ => id)
    clear hv
    go_enter Try.func74, Try.ntmps74
    go_wp2_with (at_builtin; refine stopHere ?_)
    refine goOn (wpl_app (v := .slice (some ⟨w.heap.size, 0, none⟩) 0 0) rfl rfl T_V rfl hown rfl hrow' h1c (by omega) (by omega) ?_)
    intro A1 c1 w1 ho1 hk1 hn1
    have hk : Keep (fun _ => False) w w1 := ((Keep.refl (fun _ => False) w).alloc _).trans hk1 (fun q hq e => by simp only [Value.ownBlock, Option.some.injEq] at e; omega)
    rw [Nat.zero_add, List.nil_append] at ho1
    rw [Nat.zero_add] at hn1
    go_wp2_with fail
    refine bodyPost_ret (v := .slice A1 n c1) (by simp [results, Try.results74, go_sem]) rfl ?_
    refine ⟨_, _, rfl, ho1, fun k hk => ?_, hk⟩
    rcases hn1 k hk with q | q
    · simp only [Value.ownBlock, Option.some.injEq] at q; omega
    · simp at q; omega

theorem T_B : SlT Try.prog 54 5 (.int .u8 0) 1 1 := SlT.mk' Try.underlying54 (by kernel_rfl) rfl (by decide)
set_option maxRecDepth 20000 in
theorem clone_B {F : Nat → Prop} {w : World} {A : Option Addr} {n c : Nat} {cs : List Value} (hv : Row F w (.slice A n c) n 1 cs) (h1c : ∀ u ∈ cs, u.oneCell' = true) (hl : n ≤ 4294967296) :
    Calls Try.prog 75 #[.slice A n c] w fun e w' => ∃ A' c', e = .returned (.slice A' n c') ∧ w'.ownsRow 0 5 1 (.slice A' n c') n cs ∧ (∀ k, (Value.slice A' n c').ownBlock = some k → w.heap.size ≤ k) ∧ Keep (fun _ => False) w w' := by
  rcases A with _ | ⟨b, off, p⟩
  · have hnil := fun w => Lib.run_eql_slice_nil (P := Try.prog) w 54 5 none n c 0 0 Try.underlying54
    have hl0 : n = 0 := by
      obtain ⟨_, _, he, _, h, _, h0 | ⟨b, off, hA, _⟩⟩ := hv
      · simp only [Value.slice.injEq] at he; omega
      · simp only [Value.slice.injEq] at he; rw [← he.1] at hA; cases hA
    subst hl0
    have hcs : cs = [] := by obtain ⟨_, _, _, h, _⟩ := hv; exact List.eq_nil_of_length_eq_zero (by simpa using h)
    subst hcs
    clear hv h1c
    go_enter Try.func75, Try.ntmps75
    go_wp2_with fail
    refine bodyPost_ret (v := .slice none 0 0) (by simp [results, Try.results75, go_sem]) rfl ?_
    exact ⟨none, 0, rfl, World.ownsRow_nil _ 0 _ _, fun k hk => by simp [Value.ownBlock] at hk, Keep.refl _ _⟩
  · have hnil := fun w => Lib.run_eql_slice_nil (P := Try.prog) w 54 5 (some ⟨b, off, p⟩) n c 0 0 Try.underlying54
    have hown : (w.alloc (.cells #[] 5)).ownsRow 0 5 1 (.slice (some ⟨w.heap.size, 0, none⟩) 0 0) 0 [] := ⟨rfl, .inr ⟨w.heap.size, 0, #[], rfl, Nat.zero_le _, heap_alloc_new w _, Nat.le_refl _, Nat.zero_le _, rfl, rfl⟩⟩
    have hrow' : Row F (w.alloc (.cells #[] 5)) (.slice (some ⟨b, off, p⟩) n c) n 1 cs := hv.keep ((Keep.refl (fun _ => False) w).alloc _) (fun _ _ => id)
    clear hv
    go_enter Try.func75, Try.ntmps75
    go_wp2_with (at_builtin; refine stopHere ?_)
    refine goOn (wpl_app (v := .slice (some ⟨w.heap.size, 0, none⟩) 0 0) rfl rfl T_B rfl hown rfl hrow' h1c (by omega) (by omega) ?_)
    intro A1 c1 w1 ho1 hk1 hn1
    have hk : Keep (fun _ => False) w w1 := ((Keep.refl (fun _ => False) w).alloc _).trans hk1 (fun q hq e => by simp only [Value.ownBlock, Option.some.injEq] at e; omega)
    rw [Nat.zero_add, List.nil_append] at ho1
    rw [Nat.zero_add] at hn1
    go_wp2_with fail
    refine bodyPost_ret (v := .slice A1 n c1) (by simp [results, Try.results75, go_sem]) rfl ?_
    refine ⟨_, _, rfl, ho1, fun k hk => ?_, hk⟩
    rcases hn1 k hk with q | q
    · simp only [Value.ownBlock, Option.some.injEq] at q; omega
    · simp at q; omega

theorem T_K : SlT Try.prog 56 113 (.agg (commitCs ⟨0, 0, ByteArray.empty, []⟩ (.slice none 0 0)).toArray) 4 56 := SlT.mk' Try.underlying56 (by kernel_rfl) rfl (by decide)
set_option maxRecDepth 20000 in
theorem clone_K {F : Nat → Prop} {w : World} {A : Option Addr} {n c : Nat} {cs : List Value} (hv : Row F w (.slice A n c) n 4 cs) (h1c : ∀ u ∈ cs, u.oneCell' = true) (hl : n ≤ 4294967296) :
    Calls Try.prog 76 #[.slice A n c] w fun e w' => ∃ A' c', e = .returned (.slice A' n c') ∧ w'.ownsRow 0 113 4 (.slice A' n c') n cs ∧ (∀ k, (Value.slice A' n c').ownBlock = some k → w.heap.size ≤ k) ∧ Keep (fun _ => False) w w' := by
  rcases A with _ | ⟨b, off, p⟩
  · have hnil := fun w => Lib.run_eql_slice_nil (P := Try.prog) w 56 113 none n c 0 0 Try.underlying56
    have hl0 : n = 0 := by
      obtain ⟨_, _, he, _, h, _, h0 | ⟨b, off, hA, _⟩⟩ := hv
      · simp only [Value.slice.injEq] at he; omega
      · simp only [Value.slice.injEq] at he; rw [← he.1] at hA; cases hA
    subst hl0
    have hcs : cs = [] := by obtain ⟨_, _, _, h, _⟩ := hv; exact List.eq_nil_of_length_eq_zero (by simpa using h)
    subst hcs
    clear hv h1c
    go_enter Try.func76, Try.ntmps76
    go_wp2_with fail
    refine bodyPost_ret (v := .slice none 0 0) (by simp [results, Try.results76, go_sem]) rfl ?_
    exact ⟨none, 0, rfl, World.ownsRow_nil _ 0 _ _, fun k hk => by simp [Value.ownBlock] at hk, Keep.refl _ _⟩
  · have hnil := fun w => Lib.run_eql_slice_nil (P := Try.prog) w 56 113 (some ⟨b, off, p⟩) n c 0 0 Try.underlying56
    have hown : (w.alloc (.cells #[] 113)).ownsRow 0 113 4 (.slice (some ⟨w.heap.size, 0, none⟩) 0 0) 0 [] := ⟨rfl, .inr ⟨w.heap.size, 0, #[], rfl, Nat.zero_le _, heap_alloc_new w _, Nat.le_refl _, Nat.zero_le _, rfl, rfl⟩⟩
    have hrow' : Row F (w.alloc (.cells #[] 113)) (.slice (some ⟨b, off, p⟩) n c) n 4 cs := hv.keep ((Keep.refl (fun _ => False) w).alloc _) (fun _ _ => id)
    clear hv
    go_enter Try.func76, Try.ntmps76
    go_wp2_with (at_builtin; refine stopHere ?_)
    refine goOn (wpl_app (v := .slice (some ⟨w.heap.size, 0, none⟩) 0 0) rfl rfl T_K rfl hown rfl hrow' h1c (by omega) (by omega) ?_)
    intro A1 c1 w1 ho1 hk1 hn1
    have hk : Keep (fun _ => False) w w1 := ((Keep.refl (fun _ => False) w).alloc _).trans hk1 (fun q hq e => by simp only [Value.ownBlock, Option.some.injEq] at e; omega)
    rw [Nat.zero_add, List.nil_append] at ho1
    rw [Nat.zero_add] at hn1
    go_wp2_with fail
    refine bodyPost_ret (v := .slice A1 n c1) (by simp [results, Try.results76, go_sem]) rfl ?_
    refine ⟨_, _, rfl, ho1, fun k hk => ?_, hk⟩
    rcases hn1 k hk with q | q
    · simp only [Value.ownBlock, Option.some.injEq] at q; omega
    · simp at q; omega
end Go.Proofs.Ytiomeoihekifeaa
