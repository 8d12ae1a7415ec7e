/- epoch.Epochs: how it lies; New, made, at, At, Change. -/
import Derived.Test.YtbkgobdpgokbaaaEpPure
import Derived.Deep.RegionHeld3
namespace Go.Proofs.Ytbkgobdpgokbaaa
open Go.RowKit
abbrev EpO (al : Int) (v : Value) : Obj := .cells #[.int .i64 al, v] 62
def EpAt (F : Nat → Prop) (w : World) (g : Nat) (al : Int) (L : List Ep) : Prop :=
  ∃ v G, w.heap[g]? = some (EpO al v) ∧ EpOwn (fun b => F b ∧ b ≠ g) G w v L ∧ (∀ b, G b → F b ∧ b ≠ g ∧ b < w.heap.size) ∧ F g ∧ EOk al L
section
variable {F G S : Nat → Prop} {w w' : World} {v vm : Value} {L : List Ep} {M : List Int} {g : Nat} {al : Int}
theorem EpAt.keep (h : EpAt F w g al L) (hk : Keep S w w') (hd : ∀ k, F k → ¬ S k) : EpAt F w' g al L := by
  obtain ⟨v, G, h1, h2, h3, h4, h5⟩ := h
  have hs := hk.size
  exact ⟨v, G, hk.heap h1 (hd g h4), h2.keep hk (fun k q => hd k q.1) (fun k q => hd k (h3 k q).1), fun b q => ⟨(h3 b q).1, (h3 b q).2.1, by have := (h3 b q).2.2; omega⟩, h4, h5⟩
theorem EpAt.keepF (h : EpAt F w g al L) (hk : Keep (fun _ => False) w w') : EpAt F w' g al L := h.keep hk (fun _ _ => id)
theorem EpAt.mono {F' : Nat → Prop} (h : EpAt F w g al L) (hF : ∀ k, F k → F' k) : EpAt F' w g al L := by
  obtain ⟨v, G, h1, ⟨cs, q1, q2, q3⟩, h3, h4, h5⟩ := h
  exact ⟨v, G, h1, ⟨cs, q1, q2, fun b hb => ⟨⟨hF b (q3 b hb).1.1, (q3 b hb).1.2⟩, (q3 b hb).2⟩⟩, fun b q => ⟨hF b (h3 b q).1, (h3 b q).2⟩, hF g h4, h5⟩
theorem EpAt.ok (h : EpAt F w g al L) : EOk al L := by obtain ⟨_, _, _, _, _, _, h⟩ := h; exact h
theorem EpAt.inF (h : EpAt F w g al L) : F g := by obtain ⟨_, _, _, _, _, h, _⟩ := h; exact h
theorem EpAt.lt (h : EpAt F w g al L) : g < w.heap.size := by obtain ⟨_, _, h, _⟩ := h; exact lt_heap h
theorem EpAt.val (h : EpAt F w g al L) : ∃ v, w.heap[g]? = some (EpO al v) ∧ EpSl F F w v L := by
  obtain ⟨v, G, h1, h2, h3, h4, h5⟩ := h
  obtain ⟨cs, q1, q2⟩ := h2.sl
  exact ⟨v, h1, cs, q1.mono (fun b hb => hb.1), q2.mono (fun b hb => (h3 b hb).1)⟩
set_option maxRecDepth 20000 in
theorem emade_calls (h : EpAt F w g al L) : Calls Try.prog 35 #[.pointer (some ⟨g, 0, none⟩)] w fun e w' => e = .returned (.bool true) ∧ w = w' := by
  have hp := h.ok.2.2.1
  obtain ⟨v, hg, hs⟩ := h.val
  obtain ⟨A, c, rfl⟩ := hs.shape
  have c1 := cell_at hg 1 (.slice A L.length c) rfl
  clear hg hs h
  go_enter Try.func35, Try.ntmps35
  go_wp2_with fail
  go_ret
  exact ⟨rfl, rfl⟩
set_option maxRecDepth 20000 in
set_option maxHeartbeats 1600000 in
theorem eat_calls (h : EpAt F w g al L) (slot : Int) (hl : L.length ≤ 1000000) : Calls Try.prog 39 #[.pointer (some ⟨g, 0, none⟩), .int .i64 slot] w fun e w' => e = .returned (.int .i64 (atP L slot L.length)) ∧ Keep (fun _ => False) w w' := by
  obtain ⟨v, hg, hs⟩ := h.val
  have HS := hid hs
  obtain ⟨A, c, rfl⟩ := hs.shape
  have c1 := cell_at hg 1 (.slice A L.length c) rfl
  obtain ⟨n, hn⟩ : ∃ n, n = L.length := ⟨_, rfl⟩
  rw [← hn] at c1 HS hl ⊢
  have HN := hid hn
  clear hg hs h hn
  go_enter Try.func39, Try.ntmps39
  go_wp2_with fail
  go_loopw [5, 13] (fun a i wr => ∃ k : Nat, k ≤ n ∧ i = .int .i64 k ∧ a = .int .i64 (atP L slot k : Nat) ∧ Keep (fun _ => False) w wr) (fun _ i _ => n - (intOf i).toNat)
  case atStart => exact ⟨0, Nat.zero_le _, rfl, rfl, Keep.refl _ _⟩
  case round =>
    obtain ⟨k, hk, rfl, rfl, hkp⟩ := hrel
    by_cases hlt : k < n
    · obtain ⟨x, hx⟩ : ∃ x, L[k]? = some x := ⟨L[k]'(by rw [← HN.out]; exact hlt), by simp [show k < L.length by rw [← HN.out]; exact hlt]⟩
      obtain ⟨b, off, vm, rfl, _, d0, d1, d2, _⟩ := (HS.out.keepF hkp).elem hx
      obtain ⟨Am, cm, rfl⟩ := d2.shape
      have hat : atP L slot (k + 1) = if x.1 ≤ slot then k else atP L slot k := by rw [atP, List.getD_eq_getElem?_getD, hx]; rfl
      obtain ⟨y, hy⟩ : ∃ y, y = x.1 := ⟨_, rfl⟩
      obtain ⟨q, hq⟩ : ∃ q, q = atP L slot k := ⟨_, rfl⟩
      rw [← hy] at d0 hat
      rw [← hq] at hat ⊢
      have HAT := hid hat
      have HKP := hid hkp
      clear hat hx d2 hy hq hkp
      by_cases hle : y ≤ slot
      · go_wp2_with fail
        exact ⟨⟨k + 1, by omega, by simp, by rw [HAT.out, if_pos hle], HKP.out.alloc _⟩, by simp [intOf]; omega⟩
      · go_wp2_with fail
        exact ⟨⟨k + 1, by omega, by simp, by rw [HAT.out, if_neg hle], HKP.out.alloc _⟩, by simp [intOf]; omega⟩
    · obtain rfl : k = n := by omega
      go_wp2_with fail
      go_ret
      exact ⟨rfl, hkp⟩
set_option maxRecDepth 20000 in
set_option maxHeartbeats 1600000 in
theorem eAt_calls (h : EpAt F w g al L) (slot : Int) (hl : L.length ≤ 1000000) : Calls Try.prog 14 #[.pointer (some ⟨g, 0, none⟩), .int .i64 slot] w fun e w' => ∃ g2 c2, e = .returned (.slice (some ⟨g2, 0, none⟩) (atE L slot).2.length c2) ∧ w'.ownsRow 0 3 1 (.slice (some ⟨g2, 0, none⟩) (atE L slot).2.length c2) (atE L slot).2.length ((atE L slot).2.map I64) ∧ w.heap.size ≤ g2 ∧ Keep (fun _ => False) w w' := by
  have hmade := emade_calls h
  have hat : ∀ w', Keep (fun _ => False) w w' → Calls Try.prog 39 #[.pointer (some ⟨g, 0, none⟩), .int .i64 slot] w' fun e w'' => e = .returned (.int .i64 (atP L slot L.length)) ∧ Keep (fun _ => False) w w'' := fun w' hk => (eat_calls (h.keepF hk) slot hl).mono fun e w'' ⟨he, hk2⟩ => ⟨he, hk.trans hk2 (fun _ _ h => h)⟩
  have hok := h.ok
  obtain ⟨v, hg, hs⟩ := h.val
  have hmem := atE_mem hok.2.2.1 slot
  have hmay := (hok.at slot).1
  obtain ⟨A, c, rfl⟩ := hs.shape
  obtain ⟨b, off, vm, rfl, _, d0, d1, d2, _⟩ := hs.elem hmem
  have c1 := cell_at hg 1 (.slice (some ⟨b, off, none⟩) L.length c) rfl
  have hcl : ∀ w', Keep (fun _ => False) w w' → Calls Try.prog 34 #[vm] w' fun e w'' => ∃ g2 c2, e = .returned (.slice (some ⟨g2, 0, none⟩) (atE L slot).2.length c2) ∧ w''.ownsRow 0 3 1 (.slice (some ⟨g2, 0, none⟩) (atE L slot).2.length c2) (atE L slot).2.length ((atE L slot).2.map I64) ∧ w.heap.size ≤ g2 ∧ Keep (fun _ => False) w w'' := fun w' hk =>
    (cloneI (d2.keep hk (fun _ _ => id)) hmay.1 (by have := hmay.2.1; omega)).mono fun e w'' ⟨g2, c2, he, ho, hge, hk2⟩ => ⟨g2, c2, he, ho, by have := hk.size; omega, hk.trans hk2 (fun _ _ h => h)⟩
  obtain ⟨Am, cm, rfl⟩ := d2.shape
  obtain ⟨i, hi⟩ : ∃ i, i = atP L slot L.length := ⟨_, rfl⟩
  have hil := atP_lt L slot L.length hok.2.2.1
  obtain ⟨n, hn⟩ : ∃ n, n = L.length := ⟨_, rfl⟩
  obtain ⟨M, hM⟩ : ∃ M, M = (atE L slot).2 := ⟨_, rfl⟩
  rw [← hi] at hat d0 d1 hil
  rw [← hn] at c1 hil
  rw [← hM] at hcl d1 ⊢
  clear hg hs d0 d2 hmem hok hmay h hi hn hM hl
  go_enter Try.func14, Try.ntmps14
  go_wp2_with fail
  refine hmade.mono ?_
  rintro e w' ⟨rfl, rfl⟩
  clear hmade
  have hi0 : (0 : Int) ≤ (i : Int) := by omega
  have hin : (i : Int) < (n : Int) := by omega
  have kd : Keep (fun _ => False) w w.drew := (Keep.refl _ w).drew
  have HC := hid (fun w' (hk : Keep (fun _ => False) w w') => (⟨hk.cell c1 id, hk.cell d1 id⟩ : w'.cell? ⟨g, 1, none⟩ = some (.slice (some ⟨b, off, none⟩) n c) ∧ w'.cell? ⟨b, off + i * 2 + 1, none⟩ = some (.slice Am M.length cm)))
  go_wp2_with fail
  go_region_held3 (fun w' => w'.cell? ⟨g, 1, none⟩ = some (.slice (some ⟨b, off, none⟩) n c) ∧ w'.cell? ⟨b, off + i * 2 + 1, none⟩ = some (.slice Am M.length cm)) (first | exact HC.out _ (by assumption) | go_keep) (first
    | (go_at_call 39; refine (hat _ (by assumption)).mono ?_; rintro e w4 ⟨rfl, k4⟩)
    | (go_at_call 34; refine (hcl _ (by assumption)).mono ?_; rintro e w5 ⟨g5, c5, rfl, ho5, hg5, k5⟩))
  go_wp2_with fail
  refine bodyPost_ret (v := .slice (some ⟨g5, 0, none⟩) M.length c5) (by simp [results, Try.results14, go_sem]) rfl ?_
  exact ⟨g5, c5, rfl, ho5, hg5, k5⟩
end
end Go.Proofs.Ytbkgobdpgokbaaa
