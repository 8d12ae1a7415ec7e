/- wapentakelaw1.awake: a number is written and read. -/
import Derived.Test.YtbfdnhffcdbidaaWr
import Derived.Test.YtbfdnhffcdbidaaRd2
import Derived.Test.YtbfdnhffcdbidaaRef1
namespace Go.Proofs.Ytbfdnhffcdbidaa
open Go.RowKit

theorem enc300 : encNum 300 = [172, 2] := by
  rw [encNum_ge (by decide), encNum_lt (by decide)]
  decide
theorem dec300 : rNum ⟨[172, 2], 0⟩ = (300, ⟨[], 0⟩) := by rfl

set_option maxRecDepth 20000 in
set_option maxHeartbeats 800000 in
theorem awake_calls (w : World) :
    Calls Try.prog 10 #[] w fun e w' => e = .returned (.bool true) ∧ Keep (fun _ => False) w w' := by
  go_enter Try.func10, Try.ntmps10
  go_wp2_with fail
  refine (newWriter_calls w).mono ?_
  rintro e w1 ⟨rfl, rfl⟩
  have hw := WrAt.fresh w
  go_wp2_with fail
  refine (num_calls hw 300 (by simp)).mono ?_
  rintro e w2 ⟨rfl, hw2, hk2⟩
  have hs : wNum ⟨[], 0⟩ 300 = ⟨[172, 2], 0⟩ := by simp [wNum, enc300]
  rw [hs] at hw2
  clear hs
  go_wp2_with fail
  refine (done_calls hw2 (by simp)).mono ?_
  rintro e w3 ⟨v, rfl, ho, hn, hk3⟩
  simp only [if_true, List.length_cons, List.length_nil] at ho
  have hrow := Row.ofOwn ho
  obtain ⟨b, off, c, rfl, h1, h2, hcell⟩ := Row.byte (l := [172, 2]) hrow (by decide)
  have d0 := hcell 0 (by decide)
  have d1 := hcell 1 (by decide)
  simp at d0 d1
  clear hcell h1 h2 hw ho hw2
  go_wp2_with fail
  refine (newReader_calls (l := [172, 2]) hrow (by decide)).mono ?_
  rintro e w4 ⟨g, rfl, hr, hk4⟩
  have d0' := hk4.cell d0 id
  have d1' := hk4.cell d1 id
  clear d0 d1 hrow
  go_wp2_with fail
  refine (rnum_calls hr (fun k hk => hk.2)).mono ?_
  rintro e w5 ⟨v, rfl, hv, hr5, hk5⟩
  rw [dec300] at hv hr5
  subst hv
  go_wp2_with fail
  refine (end_calls hr5).mono ?_
  rintro e w' ⟨rfl, rfl⟩
  go_wp2
  go_ret
  have hs2 := hk2.size
  have hs3 := hk3.size
  have hs4 := hk4.size
  have hgn : w3.heap.size ≤ g := by obtain ⟨_, _, _, q⟩ := hr; exact q.1
  simp at hs2
  refine ⟨rfl, ((((Keep.refl _ w).alloc _).trans hk2 (fun b hb q => ?_)).trans hk3 (fun _ _ => id)).trans hk4 (fun _ _ => id) |>.trans hk5 (fun b hb q => ?_)⟩
  · have := q.1; omega
  · have q : b = g := q; omega
end Go.Proofs.Ytbfdnhffcdbidaa
