/- wapentakeref6.LoadEpochs. -/
import Derived.Test.YtbkgobdpgokbaaaEpLoad
namespace Go.Proofs.Ytbkgobdpgokbaaa
open Go.RowKit
section
variable {F G S : Nat → Prop} {w w' : World} {v vm : Value} {L : List Ep} {M : List Int} {g B : Nat} {al : Int}
theorem EpOwn.rboxed (hO : EpOwn (fun b => B ≤ b) (fun b => B ≤ b ∧ b < w.heap.size ∧ some b ≠ v.ownBlock) w v L) (hB : B ≤ w.heap.size) (hok : EOk al L) :
    REpAt (fun k => B ≤ k ∧ k < (w.alloc (REpO al v)).heap.size) (w.alloc (REpO al v)) w.heap.size al L := by
  have ka := (Keep.refl (fun _ => False) w).alloc (REpO al v)
  have hs : (w.alloc (REpO al v)).heap.size = w.heap.size + 1 := by simp
  obtain ⟨cs, q1, q2, q3⟩ := hO
  refine ⟨v, _, heap_alloc_new w _, ⟨cs, ownsAlloc q1 _, q2.keep ka (fun _ _ => id), fun b hb => ?_⟩, fun b hb => ⟨⟨hb.1, by rw [hs]; omega⟩, by omega, by rw [hs]; omega⟩, ⟨hB, by rw [hs]; omega⟩, hok⟩
  have h1 := own_lt' q1 b hb
  exact ⟨⟨⟨(q3 b hb).1, by rw [hs]; omega⟩, by omega⟩, (q3 b hb).2⟩
/-- CopyEpochs, of what lies below. -/
theorem copy_in (h : EpSl F F w v L) (hF : ∀ k, F k → k < w.heap.size) (hok : EOk al L) (hl : L.length ≤ 100000) {w' : World} (hk : Keep (fun _ => False) w w') :
    Calls Try.prog 42 #[v] w' fun e w'' => ∃ A c, e = .returned (.slice A L.length c) ∧ EpOwn (fun b => w.heap.size ≤ b) (fun b => w.heap.size ≤ b ∧ b < w''.heap.size ∧ some b ≠ (Value.slice A L.length c).ownBlock) w'' (.slice A L.length c) L ∧ Keep (fun _ => False) w w'' := by
  have hs := hk.size
  refine (copyE_calls (h.keepF hk) (fun k hk => by have := hF k hk; omega) (fun x hx => by have := (hok.2.2.2 x hx).1.2.1; omega) hl).mono ?_
  rintro e w'' ⟨v', he, hO, hk2⟩
  obtain ⟨A, c, rfl⟩ := hO.sl.shape
  obtain ⟨cs, q1, q2, q3⟩ := hO
  exact ⟨A, c, he, ⟨cs, q1, q2.mono (fun b hb => ⟨by omega, hb.2⟩), fun b hb => ⟨by have := (q3 b hb).1; omega, fun q => q.2.2 hb.symm⟩⟩, hk.trans hk2 (fun _ _ h => h)⟩
/-- What LoadEpochs leaves. -/
def RLoadPost (al : Int) (L : List Ep) (w : World) (e : Ending) (w' : World) : Prop :=
  Keep (fun _ => False) w w' ∧ ((loadE al L = 0 ∧ ∃ g, e = .returned (.tuple #[.pointer (some ⟨g, 0, none⟩), .int .i64 0]) ∧ REpAt (fun k => w.heap.size ≤ k ∧ k < w'.heap.size) w' g al L) ∨ (loadE al L ≠ 0 ∧ e = .returned (.tuple #[.pointer none, .int .i64 (loadE al L)])))
set_option maxRecDepth 20000 in
set_option maxHeartbeats 4000000 in
theorem rload_calls (h : EpSl F F w v L) (hF : ∀ k, F k → k < w.heap.size) (hl : L.length ≤ 100000) :
    Calls Try.prog 21 #[.int .i64 al, v] w (RLoadPost al L w) := by
  have HS := hid h
  have HF := hid hF
  obtain ⟨A, c, rfl⟩ := h.shape
  obtain ⟨n, hn⟩ : ∃ n, n = L.length := ⟨_, rfl⟩
  rw [← hn] at hl HS ⊢
  have HN := hid hn
  clear h hF hn
  have hbad1 : ∀ w', Keep (fun _ => False) w w' → loadE al L = 1 → RLoadPost al L w (.returned (.tuple #[.pointer none, .int .i64 1])) w' := fun w' hk he => ⟨hk, .inr ⟨by omega, by rw [he]⟩⟩
  have hbad4 : ∀ w', Keep (fun _ => False) w w' → loadE al L = 4 → RLoadPost al L w (.returned (.tuple #[.pointer none, .int .i64 4])) w' := fun w' hk he => ⟨hk, .inr ⟨by omega, by rw [he]⟩⟩
  have HB1 := hid hbad1; have HB4 := hid hbad4
  clear hbad1 hbad4
  go_enter Try.func21, Try.ntmps21
  by_cases a1 : al < 1
  · have he : loadE al L = 1 := by rw [loadE, if_pos (.inl a1)]
    have HE := hid he
    clear he
    go_wp2_with fail
    go_ret2
    exact HB1.out _ (Keep.refl _ _) HE.out
  by_cases a8 : 8 < al
  · have he : loadE al L = 1 := by rw [loadE, if_pos (.inr a8)]
    have HE := hid he
    clear he
    go_wp2_with fail
    go_ret2
    exact HB1.out _ (Keep.refl _ _) HE.out
  rcases Nat.eq_zero_or_pos n with hk0 | hk0
  · have he : loadE al L = 4 := by rw [loadE, if_neg (by omega), if_neg (fun q => by have := q.1; rw [← HN.out] at this; omega)]
    have HE := hid he
    clear he
    go_wp2_with fail
    go_ret2
    exact HB4.out _ (Keep.refl _ _) HE.out
  go_wp2_with fail
  go_loopw [6] (fun i wr => ∃ k : Nat, k ≤ n ∧ i = .int .i64 k ∧ (∀ j, j < k → okAt L j) ∧ Keep (fun _ => False) w wr) (fun i _ => n - (intOf i).toNat)
  case atStart => exact ⟨0, Nat.zero_le _, rfl, fun j hj => by omega, Keep.refl _ _⟩
  case round =>
    obtain ⟨k, hk, rfl, hall, hkp⟩ := hrel
    by_cases hlt : k < n
    · obtain ⟨x, hx⟩ : ∃ x, L[k]? = some x := ⟨L[k]'(by rw [← HN.out]; exact hlt), by simp [show k < L.length by rw [← HN.out]; exact hlt]⟩
      obtain ⟨b, off, vm, rfl, _, d0, d1, d2, _⟩ := (HS.out.keepF hkp).elem hx
      have hmy := fun z => rmay_calls (d2.drewN z)
      obtain ⟨Am, cm, rfl⟩ := d2.shape
      have hiff := okAt_iff hx hall
      obtain ⟨f, hf⟩ : ∃ f, f = x.1 := ⟨_, rfl⟩
      obtain ⟨m, hme⟩ : ∃ m, m = x.2.length := ⟨_, rfl⟩
      rw [← hf] at d0 hiff
      rw [← hme] at d1 hmy
      have hbad : ¬ okAt L k → loadE al L = 4 := loadE_bad ⟨by omega, by omega⟩ (by rw [← HN.out]; exact hlt)
      have HIFF := hid hiff; have HBAD := hid hbad; have HALL := hid hall; have HKP := hid hkp; have HX := hid hx
      clear hx d2 hf hme hiff hbad hall hkp
      cases hb : mayB x.2 with
      | false =>
        have hmn : ¬ mayP x.2 := fun q => by rw [show mayB x.2 = true from decide_eq_true q] at hb; cases hb
        simp only [hb] at hmy
        have HMN := hid hmn
        clear hmn hb
        go_wp2_with fail
        go_quiet ((first | (go_at_call 17; exact Calls.quiet_of (hmy _))))
        go_wp2_with fail
        go_ret2
        exact HB4.out _ (HKP.out.drewN _) (HBAD.out (fun q => HMN.out (HIFF.out.1 q).1))
      | true =>
        have hmp : mayP x.2 := of_decide_eq_true hb
        simp only [hb] at hmy
        have HMP := hid hmp
        clear hmp hb
        by_cases c0 : f < 0
        · have u0 : decide (f < 0) = true := decide_eq_true c0
          go_wp2_with fail
          go_quiet ((first | (go_at_call 17; exact Calls.quiet_of (hmy _))))
          go_wp2_with fail
          go_ret2
          refine HB4.out _ (HKP.out.drewN _) (HBAD.out (fun q => ?_))
          have := q.2.1
          rw [List.getD_eq_getElem?_getD, HX.out] at this
          have h3 := (HIFF.out.1 q).2.1
          rcases Nat.eq_zero_or_pos k with rfl | hkp
          · rw [lastN, if_pos rfl] at h3; omega
          · rw [lastN, if_neg (by omega)] at h3
            have := (HALL.out (k - 1) (by omega)).2.1
            omega
        have u0 : decide (f < 0) = false := decide_eq_false c0
        by_cases c2 : 1099511627776 < f
        · have u2 : decide (1099511627776 < f) = true := decide_eq_true c2
          go_wp2_with fail
          go_quiet ((first | (go_at_call 17; exact Calls.quiet_of (hmy _))))
          go_wp2_with fail
          go_ret2
          exact HB4.out _ (HKP.out.drewN _) (HBAD.out (fun q => by have := (HIFF.out.1 q).2.2; omega))
        have u2 : decide (1099511627776 < f) = false := decide_eq_false c2
        rcases Nat.eq_zero_or_pos k with hk0 | hk0
        · have hz : decide (0 < k) = false := by simp; omega
          have HK0 := hid hk0
          clear hk0
          go_wp2_with fail
          go_quiet ((first | (go_at_call 17; exact Calls.quiet_of (hmy _))))
          go_wp2_with fail
          refine ⟨⟨k + 1, by omega, by simp, fun j hj => ?_, HKP.out.drewN _⟩, by simp [intOf]; omega⟩
          by_cases hjk : j < k
          · exact HALL.out j hjk
          · obtain rfl : j = k := by omega
            exact HIFF.out.2 ⟨HMP.out, by rw [lastN, if_pos HK0.out]; omega, by omega⟩
        · obtain ⟨j, hj⟩ : ∃ j, j + 1 = k := ⟨k - 1, by omega⟩
          obtain ⟨y, hy⟩ : ∃ y, L[j]? = some y := ⟨L[j]'(by rw [← HN.out]; omega), by simp [show j < L.length by rw [← HN.out]; omega]⟩
          obtain ⟨b', off', vy, he, _, e0, _⟩ := (HS.out.keepF HKP.out).elem hy
          simp only [Option.some.injEq, Addr.mk.injEq, and_true] at he
          obtain ⟨rfl, rfl⟩ := he
          obtain ⟨fy, hfy⟩ : ∃ fy, fy = y.1 := ⟨_, rfl⟩
          rw [← hfy] at e0
          have hla : lastN L k = fy := by rw [← hj, lastN_succ hy, hfy]
          have HLA := hid hla
          have t1 : IntKind.i64.wrap ((k : Int) - 1) = (j : Int) := by rw [IntKind.wrap_i64]; omega
          have t1' : wrap64 ((k : Int) - 1) = (j : Int) := by unfold wrap64; omega
          have hz : decide (0 < k) = true := by simp; omega
          have hjn : j < n := by omega
          clear hy hfy hla hj hk0
          by_cases c3 : f ≤ fy
          · have u3 : decide (f ≤ fy) = true := decide_eq_true c3
            go_wp2_with fail
            go_quiet ((first | (go_at_call 17; exact Calls.quiet_of (hmy _))))
            go_wp2_with fail
            go_ret2
            exact HB4.out _ (HKP.out.drewN _) (HBAD.out (fun q => by have := (HIFF.out.1 q).2.1; rw [HLA.out] at this; omega))
          · have u3 : decide (f ≤ fy) = false := decide_eq_false c3
            go_wp2_with fail
            go_quiet ((first | (go_at_call 17; exact Calls.quiet_of (hmy _))))
            go_wp2_with fail
            refine ⟨⟨k + 1, by omega, by simp, fun i hi => ?_, HKP.out.drewN _⟩, by simp [intOf]; omega⟩
            by_cases hjk : i < k
            · exact HALL.out i hjk
            · obtain rfl : i = k := by omega
              exact HIFF.out.2 ⟨HMP.out, by rw [HLA.out]; omega, by omega⟩
    · obtain rfl : k = n := by omega
      have he : loadE al L = 0 := loadE_zero.2 ⟨⟨by omega, by omega⟩, by rw [← HN.out]; exact hk0, fun i hi => hall i (by rw [HN.out]; exact hi)⟩
      have hown := copy_in HS.out HF.out (loadE_ok he) (by rw [← HN.out]; exact hl) hkp
      rw [← HN.out] at hown
      have HE := hid he
      have HKP := hid hkp
      clear he hall hkp
      go_wp2_with fail
      refine hown.mono ?_
      rintro e w4 ⟨A4, c4, rfl, hO4, k4⟩
      have HO4 := hid hO4; have K4 := hid k4
      clear hown hO4 k4
      go_wp2_with fail
      go_ret2
      exact ⟨K4.out.alloc _, .inl ⟨HE.out, _, rfl, HO4.out.rboxed K4.out.size (loadE_ok HE.out)⟩⟩
end
end Go.Proofs.Ytbkgobdpgokbaaa
