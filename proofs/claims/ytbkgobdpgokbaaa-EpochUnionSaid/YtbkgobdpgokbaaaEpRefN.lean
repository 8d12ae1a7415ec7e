/- wapentakeref6: NewEpochs, Cut. -/
import Derived.Test.YtbkgobdpgokbaaaEpLoadR
import Derived.Deep.RegionWith
namespace Go.Proofs.Ytbkgobdpgokbaaa
open Go.RowKit
section
variable {F G S : Nat → Prop} {w w' : World} {v vm : Value} {L : List Ep} {M : List Int} {g B : Nat} {al : Int}
theorem EpOwn.rput {v0 : Value} {C : Nat} (hO : EpOwn (fun b => C ≤ b) (fun b => C ≤ b ∧ b < w.heap.size ∧ some b ≠ v.ownBlock) w v L) (hg : w.heap[g]? = some (REpO al v0)) (hB : B ≤ g) (hC : g < C) (hok : EOk al L) :
    REpAt (fun k => B ≤ k ∧ k < (w.setCell ⟨g, 1, none⟩ v).heap.size) (w.setCell ⟨g, 1, none⟩ v) g al L := by
  have ks : Keep (fun k => k = g) w (w.setCell ⟨g, 1, none⟩ v) := (Keep.refl _ w).setCell _ _ (fun _ => rfl)
  have hs := ks.size
  have hgl := lt_heap hg
  obtain ⟨cs, q1, q2, q3⟩ := hO
  refine ⟨v, _, ?_, ⟨cs, ks.owns q1 (fun b hb e => by have := (q3 b hb).1; omega), q2.keep ks (fun b hb e => by have := hb.1; omega), fun b hb => ?_⟩, fun b hb => ⟨⟨by have := hb.1; omega, by have := hb.2.1; omega⟩, by have := hb.1; omega, by have := hb.2.1; omega⟩, ⟨hB, by omega⟩, hok⟩
  · rw [heap_set hg]; rfl
  · have h1 := own_lt' q1 b hb
    have h2 := (q3 b hb).1
    exact ⟨⟨⟨by omega, by omega⟩, by omega⟩, (q3 b hb).2⟩
set_option maxRecDepth 20000 in
set_option maxHeartbeats 1600000 in
/-- Cut at a slot. -/
theorem recut_calls (h : REpAt (fun k => B ≤ k ∧ k < w.heap.size) w g al L) (slot : Int) (hl : L.length ≤ 100000) : Calls Try.prog 31 #[.pointer (some ⟨g, 0, none⟩), .int .i64 slot] w fun e w' => e = .returned (.tuple #[]) ∧ REpAt (fun k => B ≤ k ∧ k < w'.heap.size) w' g al (L.drop (atP L slot L.length)) ∧ Keep (fun k => B ≤ k) w w' := by
  have hat := fun w' (hk : Keep (fun _ => False) w w') => reat_calls (h.keepF hk) slot (by omega)
  have hok := h.ok
  have hgB := h.inF
  obtain ⟨v, hg, hs⟩ := h.val
  obtain ⟨i, hi⟩ : ∃ i, i = atP L slot L.length := ⟨_, rfl⟩
  have hil := atP_lt L slot L.length hok.2.2.1
  rw [← hi] at hil hat ⊢
  obtain ⟨A, c, rfl⟩ := hs.shape
  obtain ⟨b, off, vm, rfl, _⟩ := hs.elem (atE_mem hok.2.2.1 slot)
  have hnc : L.length ≤ c := by
    obtain ⟨_, ⟨_, _, he, _, h1, _⟩, _⟩ := hs
    simp only [Value.slice.injEq] at he; omega
  have hok2 : EOk al (L.drop i) := hok.mono (by rw [List.length_drop]; omega) (fun x hx => List.mem_of_mem_drop hx)
  have hown := fun w' (hk : Keep (fun _ => False) w w') => copy_in (hs.drop hil) (fun k hk => hk.2) hok2 (by rw [List.length_drop]; omega) hk
  have hcm : c ≤ maxLen := by
    obtain ⟨_, ⟨_, _, he, _, _, h1, _⟩, _⟩ := hs
    simp only [Value.slice.injEq] at he; omega
  have c1 := cell_at hg 1 (.slice (some ⟨b, off, none⟩) L.length c) rfl
  have HST := hid (fun w' (hk : Keep (fun _ => False) w w') => (⟨cell_at (hk.heap hg id) 1 _ rfl, free_at (hk.heap hg id) 1⟩ : w'.cell? ⟨g, 1, none⟩ = some (.slice (some ⟨b, off, none⟩) L.length c) ∧ w'.frozen? ⟨g, 1, none⟩ = false))
  have HG := hid hg
  have hld : (L.drop i).length = L.length - i := List.length_drop
  rw [hld] at hown
  obtain ⟨n, hn⟩ : ∃ n, n = L.length := ⟨_, rfl⟩
  rw [← hn] at c1 hown hil hnc HG HST
  have HOK := hid hok2
  have HGB := hid hgB
  clear hs h hok hok2 hn hg hi hl hld hgB
  go_enter Try.func31, Try.ntmps31
  have kd : Keep (fun _ => False) w w.drew := (Keep.refl _ w).drew
  have hi0 : (0 : Int) ≤ (i : Int) := by omega
  have hin : (i : Int) ≤ (n : Int) := by omega
  have hin2 : (i : Int) < (n : Int) := by omega
  unfold maxLen at hcm
  go_wp2_with fail
  have hci : ¬ c = i := by omega
  go_region_with (first
    | (go_at_call 43; refine (hat _ (by assumption)).mono ?_; rintro e w4 ⟨rfl, rfl⟩)
    | (go_at_call 42; (try rw [if_neg hci]); with_reducible refine (hown _ (by assumption)).mono ?_; rintro e w5 ⟨A5, c5, rfl, hO5, k5⟩; obtain ⟨p1, p2⟩ := HST.out _ k5))
  all_goals (
    go_wp2_with fail
    go_end0
    exact ⟨rfl, hO5.rput (k5.heap HG.out id) HGB.out.1 HGB.out.2 HOK.out, (k5.mono (fun _ _ h => h.elim)).setCell _ _ (fun _ => HGB.out.1)⟩)
set_option maxRecDepth 20000 in
set_option maxHeartbeats 1600000 in
/-- A new Epochs. -/
theorem renew_calls (h : Row F w v M.length 1 (M.map I64)) (hF : ∀ k, F k → k < w.heap.size) (hok : ∀ y ∈ M, okI y) : Calls Try.prog 29 #[v, .int .i64 al] w fun e w' => Keep (fun _ => False) w w' ∧
    ((newE M al = true ∧ ∃ g, e = .returned (.tuple #[.pointer (some ⟨g, 0, none⟩), .int .i64 0]) ∧ REpAt (fun k => w.heap.size ≤ k ∧ k < w'.heap.size) w' g al [(0, M)]) ∨ (newE M al = false ∧ e = .returned (.tuple #[.pointer none, .int .i64 1]))) := by
  have hm := rmay_calls h
  have H := hid h
  obtain ⟨A, c, rfl⟩ := h.shape
  obtain ⟨n, hn⟩ : ∃ n, n = M.length := ⟨_, rfl⟩
  rw [← hn] at hm H ⊢
  have HN := hid hn
  have HF := hid hF
  have HOK := hid hok
  clear h hn hF hok
  cases hb : mayB M with
  | false =>
    rw [hb] at hm
    have hne : newE M al = false := by simp [newE, hb]
    have HNE := hid hne
    clear hne hb
    go_enter Try.func29, Try.ntmps29
    go_wp2_with fail
    refine hm.mono ?_
    rintro e w' ⟨rfl, z, rfl⟩
    go_wp2_with fail
    go_ret2
    exact ⟨(Keep.refl _ w).drewN z, .inr ⟨HNE.out, rfl⟩⟩
  | true =>
    rw [hb] at hm
    have hmy : mayP M := of_decide_eq_true hb
    by_cases a1 : al < 1
    · have hne : newE M al = false := by simp [newE]; intro _ q; omega
      have HNE := hid hne
      clear hne hb
      go_enter Try.func29, Try.ntmps29
      go_wp2_with fail
      refine hm.mono ?_
      rintro e w' ⟨rfl, z, rfl⟩
      go_wp2_with fail
      go_ret2
      exact ⟨(Keep.refl _ w).drewN z, .inr ⟨HNE.out, rfl⟩⟩
    by_cases a8 : 8 < al
    · have hne : newE M al = false := by simp [newE]; intro _ q; omega
      have HNE := hid hne
      clear hne hb
      go_enter Try.func29, Try.ntmps29
      go_wp2_with fail
      refine hm.mono ?_
      rintro e w' ⟨rfl, z, rfl⟩
      go_wp2_with fail
      go_ret2
      exact ⟨(Keep.refl _ w).drewN z, .inr ⟨HNE.out, rfl⟩⟩
    have hne : newE M al = true := by simp [newE, hb]; omega
    have HNE := hid hne
    have HEK := hid (newE_ok hne)
    have HMY := hid hmy
    clear hne hb hmy
    go_enter Try.func29, Try.ntmps29
    go_wp2_with fail
    refine hm.mono ?_
    rintro e w1 ⟨rfl, z, hz⟩
    have hkz : Keep (fun _ => False) w w1 := by rw [hz]; exact (Keep.refl _ w).drewN z
    have kal : Keep (fun _ => False) w1 (w1.alloc (.cells #[.int .i64 0, .slice A n c] 42)) := (Keep.refl _ w1).alloc _
    have hsl : EpSl (fun k => k < w1.heap.size + 1) (fun k => k < w1.heap.size + 1) (w1.alloc (.cells #[.int .i64 0, .slice A n c] 42)) (.slice (some ⟨w1.heap.size, 0, none⟩) 1 1) [(0, M)] := by
      refine ⟨_, (row_one2 w1 (.int .i64 0) (.slice A n c) 42).mono (fun k hk => by omega), EpRow.one ?_ ⟨by simp only; omega, by simp only; omega⟩ HOK.out⟩
      have := ((H.out.keep hkz (fun _ _ => id)).keep kal (fun _ _ => id)).mono (G := fun k => k < w1.heap.size + 1) (fun k hk => by have := HF.out k hk; have := hkz.size; omega)
      rw [HN.out] at this ⊢
      exact this
    have hcp := copy_in hsl (fun k hk => by simpa using hk) HEK.out (by simp) (Keep.refl _ _)
    have K1 := hid (hkz.trans kal (fun _ _ h => h))
    clear hm hz hkz kal hsl
    go_wp2_with fail
    refine hcp.mono ?_
    rintro e w4 ⟨A4, c4, rfl, hO4, k4⟩
    have K4 := hid (K1.out.trans k4 (fun _ _ h => h))
    have hO5 : EpOwn (fun b => w.heap.size ≤ b) (fun b => w.heap.size ≤ b ∧ b < w4.heap.size ∧ some b ≠ (Value.slice A4 [((0 : Int), M)].length c4).ownBlock) w4 (.slice A4 [((0 : Int), M)].length c4) [(0, M)] := by
      obtain ⟨cs, q1, q2, q3⟩ := hO4
      have h1 := K1.out.size
      exact ⟨cs, q1, q2.mono (fun b hb => ⟨by omega, hb.2⟩), fun b hb => ⟨by have := (q3 b hb).1; omega, fun e => e.2.2 hb.symm⟩⟩
    have HO5 := hid hO5
    clear hcp hO4 k4 hO5
    go_wp2_with fail
    go_ret2
    exact ⟨K4.out.alloc _, .inl ⟨HNE.out, _, rfl, HO5.out.rboxed K4.out.size HEK.out⟩⟩
end
end Go.Proofs.Ytbkgobdpgokbaaa
