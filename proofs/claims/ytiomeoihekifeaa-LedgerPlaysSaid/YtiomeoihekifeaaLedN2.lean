/- The ledger's methods, where its blocks are the call's own: Cut, Jump, Known, Base. -/
import Derived.Test.YtiomeoihekifeaaLedN
import Derived.Test.YtiomeoihekifeaaLedCut2
import Derived.Test.YtiomeoihekifeaaLedK
namespace Go.Proofs.Ytiomeoihekifeaa
open Go.RowKit
section
variable {B : Nat} {w w' : World} {g : Nat} {s : LS}
theorem cutN_calls (h : LedN B w g s) (slot : Int) :
    Calls Try.prog 19 #[.pointer (some ⟨g, 0, none⟩), .int .i64 slot] w fun e w' => e = .returned (.tuple #[]) ∧ LedN B w' g (cutS s slot) ∧ Keep (fun k => B ≤ k) w w' := by
  obtain ⟨F, h1, h2⟩ := h
  refine (cut_calls h1 (fun k q => (h2 k q).2) slot).mono ?_
  rintro e w' ⟨he, hl, hkp⟩
  have hs := hkp.size
  exact ⟨he, ⟨F, hl, fun k q => ⟨(h2 k q).1, by have := (h2 k q).2; omega⟩⟩, hkp.mono (fun k _ q => (h2 k q).1)⟩
theorem knownN_calls (h : LedN B w g s) (hl : s.l.length ≤ 100000) :
    Calls Try.prog 21 #[.pointer (some ⟨g, 0, none⟩)] w fun e w' => ∃ v, e = .returned v ∧ Row (fun b => w.heap.size ≤ b ∧ b < w'.heap.size) w' v (keysS s.l).length 1 ((keysS s.l).map Go.encZ) ∧ LedN B w' g s ∧ Keep (fun _ => False) w w' := by
  have h0 := h
  obtain ⟨F, h1, h2⟩ := h
  refine (known_calls h1 hl).mono ?_
  rintro e w' ⟨v, he, hr, hk⟩
  exact ⟨v, he, hr, h0.keep hk, hk⟩
theorem jumpN_calls (h : LedN B w g s) (slot : Int) :
    Calls Try.prog 27 #[.pointer (some ⟨g, 0, none⟩), .int .i64 slot] w fun e w' => e = .returned (.tuple #[]) ∧ LedN B w' g (jumpS s slot) ∧ Keep (fun k => B ≤ k) w w' := by
  obtain ⟨F, h1, h2⟩ := h
  refine (jump_calls h1 (fun k q => (h2 k q).2) slot).mono ?_
  rintro e w' ⟨he, hl, hkp⟩
  have hs := hkp.size
  exact ⟨he, ⟨F, hl, fun k q => ⟨(h2 k q).1, by have := (h2 k q).2; omega⟩⟩, hkp.mono (fun k _ q => (h2 k q).1)⟩
theorem base_calls {F : Nat → Prop} (h : LedAt F w g s) : Calls Try.prog 32 #[.pointer (some ⟨g, 0, none⟩)] w fun e w' => e = .returned (.int .i64 s.base) ∧ w = w' := by
  have h0 := h
  obtain ⟨m, hg, _⟩ := h
  have c1 := cell_at hg 1 (.int .i64 s.base) rfl
  clear hg
  go_enter Try.func32, Try.ntmps32
  go_wp2_with fail
  refine (ready_calls h0).mono ?_
  rintro e w' ⟨rfl, rfl⟩
  go_wp2_with fail
  go_ret
  exact ⟨rfl, rfl⟩
theorem baseN_calls (h : LedN B w g s) : Calls Try.prog 32 #[.pointer (some ⟨g, 0, none⟩)] w fun e w' => e = .returned (.int .i64 s.base) ∧ w = w' := by
  obtain ⟨F, h1, _⟩ := h
  exact base_calls h1
end
end Go.Proofs.Ytiomeoihekifeaa
