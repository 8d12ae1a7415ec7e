/- wapentakeref6.Epochs: how it lies; at, At, SameEpochs. -/
import Derived.Test.YtbkgobdpgokbaaaEpRef
import Derived.Test.YtbkgobdpgokbaaaEpMay
namespace Go.Proofs.Ytbkgobdpgokbaaa
open Go.RowKit
abbrev REpO (al : Int) (v : Value) : Obj := .cells #[.int .i64 al, v] 50
def REpAt (F : Nat → Prop) (w : World) (g : Nat) (al : Int) (L : List Ep) : Prop :=
  ∃ v G, w.heap[g]? = some (REpO al v) ∧ EpOwn (fun b => F b ∧ b ≠ g) G w v L ∧ (∀ b, G b → F b ∧ b ≠ g ∧ b < w.heap.size) ∧ F g ∧ EOk al L
section
variable {F G S : Nat → Prop} {w w' : World} {v vm : Value} {L : List Ep} {M : List Int} {g : Nat} {al : Int}
theorem REpAt.keep (h : REpAt F w g al L) (hk : Keep S w w') (hd : ∀ k, F k → ¬ S k) : REpAt F w' g al L := by
  obtain ⟨v, G, h1, h2, h3, h4, h5⟩ := h
  have hs := hk.size
  exact ⟨v, G, hk.heap h1 (hd g h4), h2.keep hk (fun k q => hd k q.1) (fun k q => hd k (h3 k q).1), fun b q => ⟨(h3 b q).1, (h3 b q).2.1, by have := (h3 b q).2.2; omega⟩, h4, h5⟩
theorem REpAt.keepF (h : REpAt F w g al L) (hk : Keep (fun _ => False) w w') : REpAt F w' g al L := h.keep hk (fun _ _ => id)
theorem REpAt.mono {F' : Nat → Prop} (h : REpAt F w g al L) (hF : ∀ k, F k → F' k) : REpAt F' w g al L := by
  obtain ⟨v, G, h1, ⟨cs, q1, q2, q3⟩, h3, h4, h5⟩ := h
  exact ⟨v, G, h1, ⟨cs, q1, q2, fun b hb => ⟨⟨hF b (q3 b hb).1.1, (q3 b hb).1.2⟩, (q3 b hb).2⟩⟩, fun b q => ⟨hF b (h3 b q).1, (h3 b q).2⟩, hF g h4, h5⟩
theorem REpAt.ok (h : REpAt F w g al L) : EOk al L := by obtain ⟨_, _, _, _, _, _, h⟩ := h; exact h
theorem REpAt.inF (h : REpAt F w g al L) : F g := by obtain ⟨_, _, _, _, _, h, _⟩ := h; exact h
theorem REpAt.lt (h : REpAt F w g al L) : g < w.heap.size := by obtain ⟨_, _, h, _⟩ := h; exact lt_heap h
theorem REpAt.val (h : REpAt F w g al L) : ∃ v, w.heap[g]? = some (REpO al v) ∧ EpSl F F w v L := by
  obtain ⟨v, G, h1, h2, h3, h4, h5⟩ := h
  obtain ⟨cs, q1, q2⟩ := h2.sl
  exact ⟨v, h1, cs, q1.mono (fun b hb => hb.1), q2.mono (fun b hb => (h3 b hb).1)⟩
set_option maxRecDepth 20000 in
set_option maxHeartbeats 1600000 in
theorem reat_calls (h : REpAt F w g al L) (slot : Int) (hl : L.length ≤ 1000000) : Calls Try.prog 43 #[.pointer (some ⟨g, 0, none⟩), .int .i64 slot] w fun e w' => e = .returned (.int .i64 (atP L slot L.length : Nat)) ∧ w = w' := by
  obtain ⟨v, hg, hs⟩ := h.val
  have HS := hid hs
  obtain ⟨A, c, rfl⟩ := hs.shape
  have c1 := cell_at hg 1 (.slice A L.length c) rfl
  obtain ⟨n, hn⟩ : ∃ n, n = L.length := ⟨_, rfl⟩
  rw [← hn] at c1 HS hl ⊢
  have HN := hid hn
  clear hg hs h hn
  go_enter Try.func43, Try.ntmps43
  go_wp2_with fail
  go_loopw [5, 6] (fun a i wr => ∃ k : Nat, k ≤ n ∧ i = .int .i64 k ∧ a = .int .i64 (atP L slot k : Nat) ∧ wr = w) (fun _ i _ => n - (intOf i).toNat)
  case atStart => exact ⟨0, Nat.zero_le _, rfl, rfl, rfl⟩
  case round =>
    obtain ⟨k, hk, rfl, rfl, rfl⟩ := hrel
    by_cases hlt : k < n
    · obtain ⟨x, hx⟩ : ∃ x, L[k]? = some x := ⟨L[k]'(by rw [← HN.out]; exact hlt), by simp [show k < L.length by rw [← HN.out]; exact hlt]⟩
      obtain ⟨b, off, vm, rfl, _, d0, d1, d2, _⟩ := HS.out.elem hx
      have hat : atP L slot (k + 1) = if x.1 ≤ slot then k else atP L slot k := by rw [atP, List.getD_eq_getElem?_getD, hx]; rfl
      obtain ⟨y, hy⟩ : ∃ y, y = x.1 := ⟨_, rfl⟩
      obtain ⟨q, hq⟩ : ∃ q, q = atP L slot k := ⟨_, rfl⟩
      rw [← hy] at d0 hat
      rw [← hq] at hat ⊢
      have HAT := hid hat
      clear hat hx d1 d2 hy hq
      by_cases hle : y ≤ slot
      · go_wp2_with fail
        exact ⟨⟨k + 1, by omega, by simp, by rw [HAT.out, if_pos hle], trivial⟩, by simp [intOf]; omega⟩
      · go_wp2_with fail
        exact ⟨⟨k + 1, by omega, by simp, by rw [HAT.out, if_neg hle], trivial⟩, by simp [intOf]; omega⟩
    · obtain rfl : k = n := by omega
      go_wp2_with fail
      go_ret
      exact ⟨rfl, rfl⟩
set_option maxRecDepth 20000 in
set_option maxHeartbeats 1600000 in
theorem reAt_calls (h : REpAt F w g al L) (slot : Int) (hl : L.length ≤ 1000000) : Calls Try.prog 23 #[.pointer (some ⟨g, 0, none⟩), .int .i64 slot] w fun e w' => ∃ A2 c2, e = .returned (.slice A2 (atE L slot).2.length c2) ∧ w'.ownsRow 0 3 1 (.slice A2 (atE L slot).2.length c2) (atE L slot).2.length ((atE L slot).2.map I64) ∧ Keep (fun _ => False) w w' := by
  have hat : ∀ w', Keep (fun _ => False) w w' → Calls Try.prog 43 #[.pointer (some ⟨g, 0, none⟩), .int .i64 slot] w' fun e w'' => e = .returned (.int .i64 (atP L slot L.length : Nat)) ∧ w' = w'' := fun w' hk => reat_calls (h.keepF hk) slot hl
  have hok := h.ok
  obtain ⟨v, hg, hs⟩ := h.val
  have hmem := atE_mem hok.2.2.1 slot
  have hmay := (hok.at slot).1
  obtain ⟨A, c, rfl⟩ := hs.shape
  obtain ⟨b, off, vm, rfl, _, d0, d1, d2, _⟩ := hs.elem hmem
  have c1 := cell_at hg 1 (.slice (some ⟨b, off, none⟩) L.length c) rfl
  obtain ⟨Am, cm, rfl⟩ := d2.shape
  obtain ⟨i, hi⟩ : ∃ i, i = atP L slot L.length := ⟨_, rfl⟩
  have hil := atP_lt L slot L.length hok.2.2.1
  obtain ⟨n, hn⟩ : ∃ n, n = L.length := ⟨_, rfl⟩
  obtain ⟨M, hM⟩ : ∃ M, M = (atE L slot).2 := ⟨_, rfl⟩
  have hm15 : (atE L slot).2.length ≤ 15 := hmay.2.1
  rw [← hi] at hat d1 hil
  rw [← hn] at c1 hil
  rw [← hM] at d1 d2 hm15 ⊢
  obtain ⟨m, hme⟩ : ∃ m, m = M.length := ⟨_, rfl⟩
  rw [← hme] at d1 d2 hm15 ⊢
  have HD2 := hid d2
  clear hg hs d0 d2 hmem hok hmay h hi hn hM hl hme
  have hi0 : (0 : Int) ≤ (i : Int) := by omega
  have hin : (i : Int) < (n : Int) := by omega
  have kd : Keep (fun _ => False) w w.drew := (Keep.refl _ w).drew
  have HC := hid (fun w' (hk : Keep (fun _ => False) w w') => (⟨hk.cell c1 id, hk.cell d1 id⟩ : w'.cell? ⟨g, 1, none⟩ = some (.slice (some ⟨b, off, none⟩) n c) ∧ w'.cell? ⟨b, off + i * 2 + 1, none⟩ = some (.slice Am m cm)))
  go_enter Try.func23, Try.ntmps23
  go_wp2_with fail
  go_region_held3 (fun w' => w'.cell? ⟨g, 1, none⟩ = some (.slice (some ⟨b, off, none⟩) n c) ∧ w'.cell? ⟨b, off + i * 2 + 1, none⟩ = some (.slice Am m cm)) (first | exact HC.out _ (by assumption) | exact HC.out _ (Keep.alloc (by assumption) _)) (first
    | (refine step_app (v := .slice (some ⟨w.heap.size, 0, none⟩) 0 0) (by rfl) (by rfl) SLI7 (by rfl) (owns_empty w.drew 3 1) (by rfl) ((HD2.out.keep ((Keep.refl (fun _ => False) w).drew.alloc _) (fun _ _ => id))) (ints_one _) (by omega) (by omega) ?_; intro A6 c6 w6 ho6 hk6 hn6; have k6 := keep_emp hk6)
    | (go_at_call 43; first | (refine (hat _ (by assumption)).mono ?_; rintro e w4 ⟨rfl, rfl⟩) | (refine (hat _ (Keep.alloc (by assumption) _)).mono ?_; rintro e w4 ⟨rfl, rfl⟩)))
  all_goals (
    go_wp2_with fail
    simp only [Nat.zero_add, List.nil_append] at ho6
    refine bodyPost_ret (v := .slice A6 m c6) (by simp [results, Try.results23, go_sem]) rfl ?_
    exact ⟨A6, c6, rfl, ho6, k6⟩)
set_option maxRecDepth 20000 in
set_option maxHeartbeats 1600000 in
theorem sameE_calls {v1 v2 : Value} {F1 F2 : Nat → Prop} (h1 : EpSl F1 F1 w v1 L) (h2 : EpSl F2 F2 w v2 L) (hm : ∀ x ∈ L, x.2.length ≤ 1000) (hl : L.length ≤ 100000) : Calls Try.prog 22 #[v1, v2] w fun e w' => e = .returned (.bool true) ∧ ∃ z, w' = w.drewN z := by
  have HS1 := hid h1
  have HS2 := hid h2
  have HM := hid hm
  obtain ⟨A1, c1, rfl⟩ := h1.shape
  obtain ⟨A2, c2, rfl⟩ := h2.shape
  obtain ⟨n, hn⟩ : ∃ n, n = L.length := ⟨_, rfl⟩
  rw [← hn] at HS1 HS2 hl ⊢
  have HN := hid hn
  clear h1 h2 hm hn
  go_enter Try.func22, Try.ntmps22
  go_wp2_with fail
  go_loopw [5] (fun i wr => ∃ k z : Nat, k ≤ n ∧ i = .int .i64 k ∧ wr = w.drewN z) (fun i _ => n - (intOf i).toNat)
  case atStart => exact ⟨0, 0, Nat.zero_le _, rfl, rfl⟩
  case round =>
    obtain ⟨k, z, hk, rfl, hz⟩ := hrel
    by_cases hlt : k < n
    · obtain ⟨x, hx⟩ : ∃ x, L[k]? = some x := ⟨L[k]'(by rw [← HN.out]; exact hlt), by simp [show k < L.length by rw [← HN.out]; exact hlt]⟩
      have hkp : Keep (fun _ => False) w wr := by rw [hz]; exact (Keep.refl _ w).drewN z
      obtain ⟨b, off, vx, rfl, _, d0, d1, d2, _⟩ := (HS1.out.keepF hkp).elem hx
      obtain ⟨b', off', vy, rfl, _, e0, e1, e2, _⟩ := (HS2.out.keepF hkp).elem hx
      have hsi := fun z => sameInts_calls (d2.drewN z) (e2.drewN z)
      rw [decide_eq_true (rfl : x.2 = x.2)] at hsi
      obtain ⟨Ax, cx, rfl⟩ := d2.shape
      obtain ⟨Ay, cy, rfl⟩ := e2.shape
      have hx0 := HM.out x (List.mem_of_getElem? hx)
      obtain ⟨f, hf⟩ : ∃ f, f = x.1 := ⟨_, rfl⟩
      obtain ⟨m, hme⟩ : ∃ m, m = x.2.length := ⟨_, rfl⟩
      rw [← hf] at d0 e0
      rw [← hme] at d1 e1 hsi hx0
      have HZ := hid hz
      clear hx d2 e2 hf hme hz hkp
      go_wp2_with fail
      go_quiet ((first | (go_at_call 13; exact Calls.quiet_of (hsi _))))
      go_wp2_with fail
      exact ⟨⟨k + 1, z + nq, by omega, by simp, by rw [HZ.out]; exact World.drewN_drewN _ _ _⟩, by simp [intOf]; omega⟩
    · go_wp2_with fail
      go_ret
      exact ⟨rfl, z, rfl⟩
end
end Go.Proofs.Ytbkgobdpgokbaaa
