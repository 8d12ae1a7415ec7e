/- The ledger: Cut. -/
import Derived.Test.YtiomeoihekifeaaLedCut
namespace Go.Proofs.Ytiomeoihekifeaa
open Go.RowKit
section
variable {F G : Nat → Prop} {w w' : World} {g m c : Nat} {s : LS} {slot : Int}
set_option maxRecDepth 20000 in
set_option maxHeartbeats 1600000 in
theorem cut_calls (h : LedAt F w g s) (hF : ∀ k, F k → k < w.heap.size) (slot : Int) :
    Calls Try.prog 19 #[.pointer (some ⟨g, 0, none⟩), .int .i64 slot] w fun e w' => e = .returned (.tuple #[]) ∧ LedAt F w' g (cutS s slot) ∧ Keep F w w' := by
  have hr := ready_calls h
  have hgF : F g := by obtain ⟨_, _, _, h, _⟩ := h; exact h
  have c1 : w.cell? ⟨g, 1, none⟩ = some (.int .i64 s.base) := by obtain ⟨_, hg, _⟩ := h; exact cell_at hg 1 _ rfl
  have c2 : w.cell? ⟨g, 2, none⟩ = some (.int .i64 s.next) := by obtain ⟨_, hg, _⟩ := h; exact cell_at hg 2 _ rfl
  have f1 : w.frozen? ⟨g, 1, none⟩ = false := by obtain ⟨_, hg, _⟩ := h; exact frozen_at hg 1
  have hfor := fun n => forget_calls (w := (w.setCell ⟨g, 1, none⟩ (.int .i64 n)).drew) ((h.setBase n).keep ((Keep.refl (fun _ => False) _).drew) (fun _ _ => id)) (fun k hk' => by have := hF k hk'; simpa using this) n
  have HFOR := hid hfor
  have HC1 := hid (fun n => ((Keep.refl F w).setCell ⟨g, 1, none⟩ (.int .i64 n) (fun _ => hgF)).drew)
  clear h hF hfor
  obtain ⟨b, hb⟩ : ∃ b, b = max s.base (min slot s.next) := ⟨_, rfl⟩
  have hcs := hid (show cutS s slot = ⟨b, s.next, fromE s.l b⟩ by rw [cutS, hb])
  have HE := hid (show (if s.base < if s.next < slot then s.next else slot then if s.next < slot then s.next else slot else s.base) = b by
    rw [hb]
    by_cases h1 : s.next < slot
    · simp only [if_pos h1]
      split <;> omega
    · simp only [if_neg h1]
      split <;> omega)
  clear hb
  go_enter Try.func19, Try.ntmps19
  go_wp2_with fail
  refine hr.mono ?_
  rintro e w' ⟨rfl, rfl⟩
  clear hr
  go_wp2_with fail
  go_region_with fail
  all_goals (
    rw [HE.out]
    generalize (if s.next < slot then s.next else slot) = y
    go_wp2_with fail
    refine (HFOR.out b).mono ?_
    rintro e w' ⟨rfl, hl, hk⟩
    have HLL := hid hl; have HKK := hid hk
    clear hl hk
    go_wp2_with fail
    go_end0
    rw [hcs.out]
    exact ⟨rfl, HLL.out, (HC1.out b).trans HKK.out (fun _ _ q => q.1)⟩)
end
end Go.Proofs.Ytiomeoihekifeaa
