/- epoch.Cut, ref6's Cut, of an Epochs beside others. -/
import Derived.Test.YtbkgobdpgokbaaaEpRefN
namespace Go.Proofs.Ytbkgobdpgokbaaa
open Go.RowKit
section
variable {F G S : Nat → Prop} {w w' : World} {v vm : Value} {L : List Ep} {M : List Int} {g B : Nat} {al : Int}
theorem EpOwn.putF {v0 : Value} {w0 : World} (hO : EpOwn (fun b => w0.heap.size ≤ b) (fun b => w0.heap.size ≤ b ∧ b < w.heap.size ∧ some b ≠ v.ownBlock) w v L) (hg : w.heap[g]? = some (EpO al v0)) (hgF : F g) (hC : g < w0.heap.size) (hok : EOk al L) :
    EpAt (Grow F w0 (w.setCell ⟨g, 1, none⟩ v)) (w.setCell ⟨g, 1, none⟩ v) g al L := by
  have ks : Keep (fun k => k = g) w (w.setCell ⟨g, 1, none⟩ v) := (Keep.refl _ w).setCell _ _ (fun _ => rfl)
  have hs := ks.size
  have hgl := lt_heap hg
  obtain ⟨cs, q1, q2, q3⟩ := hO
  refine ⟨v, _, ?_, ⟨cs, ks.owns q1 (fun b hb e => by have := (q3 b hb).1; omega), q2.keep ks (fun b hb e => by have := hb.1; omega), fun b hb => ?_⟩, fun b hb => ⟨.inr ⟨hb.1, by have := hb.2.1; omega⟩, by have := hb.1; omega, by have := hb.2.1; omega⟩, .inl hgF, hok⟩
  · rw [heap_set hg]; rfl
  · have h1 := own_lt' q1 b hb
    have h2 := (q3 b hb).1
    exact ⟨⟨.inr ⟨h2, by omega⟩, by omega⟩, (q3 b hb).2⟩
theorem EpOwn.rputF {v0 : Value} {w0 : World} (hO : EpOwn (fun b => w0.heap.size ≤ b) (fun b => w0.heap.size ≤ b ∧ b < w.heap.size ∧ some b ≠ v.ownBlock) w v L) (hg : w.heap[g]? = some (REpO al v0)) (hgF : F g) (hC : g < w0.heap.size) (hok : EOk al L) :
    REpAt (Grow F w0 (w.setCell ⟨g, 1, none⟩ v)) (w.setCell ⟨g, 1, none⟩ v) g al L := by
  have ks : Keep (fun k => k = g) w (w.setCell ⟨g, 1, none⟩ v) := (Keep.refl _ w).setCell _ _ (fun _ => rfl)
  have hs := ks.size
  have hgl := lt_heap hg
  obtain ⟨cs, q1, q2, q3⟩ := hO
  refine ⟨v, _, ?_, ⟨cs, ks.owns q1 (fun b hb e => by have := (q3 b hb).1; omega), q2.keep ks (fun b hb e => by have := hb.1; omega), fun b hb => ?_⟩, fun b hb => ⟨.inr ⟨hb.1, by have := hb.2.1; omega⟩, by have := hb.1; omega, by have := hb.2.1; omega⟩, .inl hgF, hok⟩
  · rw [heap_set hg]; rfl
  · have h1 := own_lt' q1 b hb
    have h2 := (q3 b hb).1
    exact ⟨⟨.inr ⟨h2, by omega⟩, by omega⟩, (q3 b hb).2⟩
set_option maxRecDepth 20000 in
set_option maxHeartbeats 1600000 in
/-- Cut at a slot. -/
theorem ecut_callsF (h : EpAt F w g al L) (hF : ∀ k, F k → k < w.heap.size) (slot : Int) (hl : L.length ≤ 100000) : Calls Try.prog 19 #[.pointer (some ⟨g, 0, none⟩), .int .i64 slot] w fun e w' => e = .returned (.tuple #[]) ∧ EpAt (Grow F w w') w' g al (L.drop (atP L slot L.length)) ∧ Keep (fun k => k = g) w w' := by
  have hmade := emade_calls h
  have hat := fun w' (hk : Keep (fun _ => False) w w') => eat_calls (h.keepF hk) slot (by omega)
  have hok := h.ok
  have hgB := h.inF
  obtain ⟨v, hg, hs⟩ := h.val
  obtain ⟨i, hi⟩ : ∃ i, i = atP L slot L.length := ⟨_, rfl⟩
  have hil := atP_lt L slot L.length hok.2.2.1
  rw [← hi] at hil hat ⊢
  obtain ⟨A, c, rfl⟩ := hs.shape
  obtain ⟨b, off, vm, rfl, _⟩ := hs.elem (atE_mem hok.2.2.1 slot)
  have hnc : L.length ≤ c := by
    obtain ⟨_, ⟨_, _, he, _, h1, _⟩, _⟩ := hs
    simp only [Value.slice.injEq] at he; omega
  have hok2 : EOk al (L.drop i) := hok.mono (by rw [List.length_drop]; omega) (fun x hx => List.mem_of_mem_drop hx)
  have hown := fun w' (hk : Keep (fun _ => False) w w') => own_in (hs.drop hil) hF hok2 (by rw [List.length_drop]; omega) hk
  have hcm : c ≤ maxLen := by
    obtain ⟨_, ⟨_, _, he, _, _, h1, _⟩, _⟩ := hs
    simp only [Value.slice.injEq] at he; omega
  have c1 := cell_at hg 1 (.slice (some ⟨b, off, none⟩) L.length c) rfl
  have HST := hid (fun w' (hk : Keep (fun _ => False) w w') => (⟨cell_at (hk.heap hg id) 1 _ rfl, free_at (hk.heap hg id) 1⟩ : w'.cell? ⟨g, 1, none⟩ = some (.slice (some ⟨b, off, none⟩) L.length c) ∧ w'.frozen? ⟨g, 1, none⟩ = false))
  have HG := hid hg
  have hld : (L.drop i).length = L.length - i := List.length_drop
  rw [hld] at hown
  obtain ⟨n, hn⟩ : ∃ n, n = L.length := ⟨_, rfl⟩
  rw [← hn] at c1 hown hil hnc HG HST
  have HOK := hid hok2
  have HGB := hid hgB
  have HFF := hid hF
  clear hF hs h hok hok2 hn hg hi hl hld hgB
  go_enter Try.func19, Try.ntmps19
  go_wp2_with fail
  refine hmade.mono ?_
  rintro e w' ⟨rfl, rfl⟩
  clear hmade
  have kd : Keep (fun _ => False) w w.drew := (Keep.refl _ w).drew
  have hi0 : (0 : Int) ≤ (i : Int) := by omega
  have hin : (i : Int) ≤ (n : Int) := by omega
  have hin2 : (i : Int) < (n : Int) := by omega
  unfold maxLen at hcm
  go_wp2_with fail
  have hci : ¬ c = i := by omega
  go_region_with (first
    | (go_at_call 39; refine (hat _ (by assumption)).mono ?_; rintro e w4 ⟨rfl, k4'⟩; have k4 := kd.trans k4' (fun _ _ h => h); have q1 := k4.cell c1 id)
    | (go_at_call 41; (try rw [if_neg hci]); with_reducible refine (hown _ (by assumption)).mono ?_; rintro e w5 ⟨A5, c5, rfl, hO5, k5⟩; obtain ⟨p1, p2⟩ := HST.out _ k5))
  all_goals (
    go_wp2_with fail
    go_end0
    exact ⟨rfl, hO5.putF (k5.heap HG.out id) HGB.out (HFF.out g HGB.out) HOK.out, (k5.mono (fun _ _ h => h.elim)).setCell _ _ (fun _ => rfl)⟩)
set_option maxRecDepth 20000 in
set_option maxHeartbeats 1600000 in
/-- Cut at a slot. -/
theorem recut_callsF (h : REpAt F w g al L) (hF : ∀ k, F k → k < w.heap.size) (slot : Int) (hl : L.length ≤ 100000) : Calls Try.prog 31 #[.pointer (some ⟨g, 0, none⟩), .int .i64 slot] w fun e w' => e = .returned (.tuple #[]) ∧ REpAt (Grow F w w') w' g al (L.drop (atP L slot L.length)) ∧ Keep (fun k => k = g) w w' := by
  have hat := fun w' (hk : Keep (fun _ => False) w w') => reat_calls (h.keepF hk) slot (by omega)
  have hok := h.ok
  have hgB := h.inF
  obtain ⟨v, hg, hs⟩ := h.val
  obtain ⟨i, hi⟩ : ∃ i, i = atP L slot L.length := ⟨_, rfl⟩
  have hil := atP_lt L slot L.length hok.2.2.1
  rw [← hi] at hil hat ⊢
  obtain ⟨A, c, rfl⟩ := hs.shape
  obtain ⟨b, off, vm, rfl, _⟩ := hs.elem (atE_mem hok.2.2.1 slot)
  have hnc : L.length ≤ c := by
    obtain ⟨_, ⟨_, _, he, _, h1, _⟩, _⟩ := hs
    simp only [Value.slice.injEq] at he; omega
  have hok2 : EOk al (L.drop i) := hok.mono (by rw [List.length_drop]; omega) (fun x hx => List.mem_of_mem_drop hx)
  have hown := fun w' (hk : Keep (fun _ => False) w w') => copy_in (hs.drop hil) hF hok2 (by rw [List.length_drop]; omega) hk
  have hcm : c ≤ maxLen := by
    obtain ⟨_, ⟨_, _, he, _, _, h1, _⟩, _⟩ := hs
    simp only [Value.slice.injEq] at he; omega
  have c1 := cell_at hg 1 (.slice (some ⟨b, off, none⟩) L.length c) rfl
  have HST := hid (fun w' (hk : Keep (fun _ => False) w w') => (⟨cell_at (hk.heap hg id) 1 _ rfl, free_at (hk.heap hg id) 1⟩ : w'.cell? ⟨g, 1, none⟩ = some (.slice (some ⟨b, off, none⟩) L.length c) ∧ w'.frozen? ⟨g, 1, none⟩ = false))
  have HG := hid hg
  have hld : (L.drop i).length = L.length - i := List.length_drop
  rw [hld] at hown
  obtain ⟨n, hn⟩ : ∃ n, n = L.length := ⟨_, rfl⟩
  rw [← hn] at c1 hown hil hnc HG HST
  have HOK := hid hok2
  have HGB := hid hgB
  have HFF := hid hF
  clear hF hs h hok hok2 hn hg hi hl hld hgB
  go_enter Try.func31, Try.ntmps31
  have kd : Keep (fun _ => False) w w.drew := (Keep.refl _ w).drew
  have hi0 : (0 : Int) ≤ (i : Int) := by omega
  have hin : (i : Int) ≤ (n : Int) := by omega
  have hin2 : (i : Int) < (n : Int) := by omega
  unfold maxLen at hcm
  go_wp2_with fail
  have hci : ¬ c = i := by omega
  go_region_with (first
    | (go_at_call 43; refine (hat _ (by assumption)).mono ?_; rintro e w4 ⟨rfl, rfl⟩)
    | (go_at_call 42; (try rw [if_neg hci]); with_reducible refine (hown _ (by assumption)).mono ?_; rintro e w5 ⟨A5, c5, rfl, hO5, k5⟩; obtain ⟨p1, p2⟩ := HST.out _ k5))
  all_goals (
    go_wp2_with fail
    go_end0
    exact ⟨rfl, hO5.rputF (k5.heap HG.out id) HGB.out (HFF.out g HGB.out) HOK.out, (k5.mono (fun _ _ h => h.elim)).setCell _ _ (fun _ => rfl)⟩)
end
end Go.Proofs.Ytbkgobdpgokbaaa
