/- epoch.New, epoch.Change. -/
import Derived.Test.YtbkgobdpgokbaaaEpObj
import Derived.Test.YtbkgobdpgokbaaaStep
namespace Go.Proofs.Ytbkgobdpgokbaaa
open Go.RowKit
section
variable {F G S : Nat → Prop} {w w' : World} {v vm : Value} {L : List Ep} {M : List Int} {g : Nat} {al : Int}
def newE (M : List Int) (al : Int) : Bool := mayB M && decide (1 ≤ al) && decide (al ≤ 8)
theorem newE_ok {M : List Int} {al : Int} (h : newE M al = true) : EOk al [(0, M)] := by
  simp only [newE, Bool.and_eq_true, decide_eq_true_eq] at h
  exact ⟨h.1.2, h.2, by simp, fun x hx => by rw [List.mem_singleton] at hx; subst hx; exact ⟨of_decide_eq_true h.1.1, Int.le_refl _, by simp only; omega⟩⟩
theorem EpAt.made {B rb mb g c : Nat} {al : Int} {M : List Int} (hM : w.ownsRow 0 3 1 (.slice (some ⟨mb, 0, none⟩) M.length c) M.length (M.map I64)) (hok : ∀ y ∈ M, okI y) (he : EOk al [(0, M)])
    (h1 : w.heap[rb]? = some (.cells #[.int .i64 0, .slice (some ⟨mb, 0, none⟩) M.length c] 42)) (h2 : w.heap[g]? = some (EpO al (.slice (some ⟨rb, 0, none⟩) 1 1))) (hrb : B ≤ rb) (hmb : B ≤ mb) (hg : B ≤ g) (n1 : rb ≠ g) (n2 : mb ≠ g) (n3 : mb ≠ rb) : EpAt (fun k => B ≤ k) w g al [(0, M)] := by
  refine ⟨_, fun b => b = mb, h2, ⟨[.int .i64 0, .slice (some ⟨mb, 0, none⟩) M.length c], ⟨rfl, .inr ⟨rb, 1, _, rfl, Nat.zero_le _, h1, Nat.le_refl _, by decide, rfl, rfl⟩⟩, EpRow.one (x := (0, M)) ((Row.ofOwn hM).mono (fun b hb => by simp only [Value.ownBlock, Option.some.injEq] at hb; exact hb)) ⟨by simp only; omega, by simp only; omega⟩ hok, fun b hb => ?_⟩, fun b hb => by subst hb; exact ⟨hmb, n2, (own_lt' hM b rfl)⟩, hg, he⟩
  simp only [Value.ownBlock, Option.some.injEq] at hb
  subst hb
  exact ⟨⟨hrb, n1⟩, fun e => n3 e.symm⟩
set_option maxRecDepth 20000 in
set_option maxHeartbeats 1600000 in
theorem enew_calls {B : Nat} (hB : B ≤ w.heap.size) (h : Row F w v M.length 1 (M.map I64)) (hok : ∀ y ∈ M, okI y) (hn : newE M al = true) : Calls Try.prog 11 #[v, .int .i64 al] w fun e w' => ∃ g, e = .returned (.tuple #[.pointer (some ⟨g, 0, none⟩), .int .i64 0]) ∧ EpAt (fun k => B ≤ k) w' g al [(0, M)] ∧ Keep (fun _ => False) w w' := by
  have HE := hid (newE_ok hn)
  simp only [newE, Bool.and_eq_true, decide_eq_true_eq] at hn
  obtain ⟨⟨h1, h2⟩, h3⟩ := hn
  have hm := pmay_calls h
  rw [h1] at hm
  have hmy := of_decide_eq_true h1
  have hcl := cloneI h hmy.1 (by have := hmy.2.1; omega)
  obtain ⟨A, c, rfl⟩ := h.shape
  have HOK := hid hok
  obtain ⟨n, hn⟩ : ∃ n, n = M.length := ⟨_, rfl⟩
  rw [← hn] at hcl hm ⊢
  have HN := hid hn
  clear h h1 hmy hok hn
  go_enter Try.func11, Try.ntmps11
  go_wp2_with fail
  refine hm.mono ?_
  rintro e w' ⟨rfl, rfl⟩
  clear hm
  go_wp2_with fail
  refine hcl.mono ?_
  rintro e w1 ⟨mb, c1, rfl, ho, hmb, hk⟩
  have HO := hid ho
  have HK := hid hk
  clear hcl ho hk
  go_wp2_with fail
  go_ret2
  have hs := HK.out.size
  have hml := own_lt' HO.out mb rfl
  have e1 := heap_alloc_new w1 (.cells #[.int .i64 0, .slice (some ⟨mb, 0, none⟩) n c1] 42)
  have kk : Keep (fun _ => False) w1 ((w1.alloc (.cells #[.int .i64 0, .slice (some ⟨mb, 0, none⟩) n c1] 42)).alloc (EpO al (.slice (some ⟨w1.heap.size, 0, none⟩) 1 1))) := ((Keep.refl _ w1).alloc _).alloc _
  refine ⟨_, rfl, EpAt.made (rb := w1.heap.size) (mb := mb) (c := c1) ?_ HOK.out HE.out ?_ (by have := heap_alloc_new (w1.alloc (.cells #[.int .i64 0, .slice (some ⟨mb, 0, none⟩) n c1] 42)) (EpO al (.slice (some ⟨w1.heap.size, 0, none⟩) 1 1)); simpa using this) (by omega) (by omega) (by omega) (by omega) (by omega) (by omega), HK.out.trans kk (fun _ _ h => h)⟩
  · have := kk.owns HO.out (fun _ _ => id)
    rw [HN.out] at this ⊢
    exact this
  · have := heap_alloc e1 (EpO al (.slice (some ⟨w1.heap.size, 0, none⟩) 1 1))
    rw [HN.out] at this ⊢
    exact this
set_option maxRecDepth 20000 in
set_option maxHeartbeats 1600000 in
theorem enew_bad (h : Row F w v M.length 1 (M.map I64)) (hn : newE M al = false) : Calls Try.prog 11 #[v, .int .i64 al] w fun e w' => e = .returned (.tuple #[.pointer none, .int .i64 1]) ∧ w = w' := by
  have hm := pmay_calls h
  obtain ⟨A, c, rfl⟩ := h.shape
  clear h
  cases hb : mayB M with
  | false =>
    rw [hb] at hm
    clear hn hb
    go_enter Try.func11, Try.ntmps11
    go_wp2_with fail
    refine hm.mono ?_
    rintro e w' ⟨rfl, rfl⟩
    go_wp2_with fail
    go_ret2
    exact ⟨rfl, rfl⟩
  | true =>
    rw [hb] at hm
    by_cases h1 : al < 1
    · clear hn hb
      go_enter Try.func11, Try.ntmps11
      go_wp2_with fail
      refine hm.mono ?_
      rintro e w' ⟨rfl, rfl⟩
      go_wp2_with fail
      go_ret2
      exact ⟨rfl, rfl⟩
    · have h2 : 8 < al := by
        have h1' : 1 ≤ al := by omega
        simp only [newE, hb, decide_eq_true h1', Bool.true_and, decide_eq_false_iff_not] at hn
        omega
      clear hn hb
      go_enter Try.func11, Try.ntmps11
      go_wp2_with fail
      refine hm.mono ?_
      rintro e w' ⟨rfl, rfl⟩
      go_wp2_with fail
      go_ret2
      exact ⟨rfl, rfl⟩
end
end Go.Proofs.Ytbkgobdpgokbaaa
