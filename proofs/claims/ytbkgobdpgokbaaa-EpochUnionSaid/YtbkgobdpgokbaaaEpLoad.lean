/- epoch.Load, wapentakeref6.LoadEpochs. -/
import Derived.Test.YtbkgobdpgokbaaaEpRef2
namespace Go.Proofs.Ytbkgobdpgokbaaa
open Go.RowKit
def okAt (L : List Ep) (i : Nat) : Prop := mayP (L.getD i (0, [])).2 ∧ 0 ≤ (L.getD i (0, [])).1 ∧ (L.getD i (0, [])).1 ≤ 1099511627776 ∧ (0 < i → (L.getD (i - 1) (0, [])).1 < (L.getD i (0, [])).1)
open Classical in
/-- What Load answers. -/
noncomputable def loadE (al : Int) (L : List Ep) : Int := if al < 1 ∨ 8 < al then 1 else if 0 < L.length ∧ ∀ i, i < L.length → okAt L i then 0 else 4
def lastN (L : List Ep) (k : Nat) : Int := if k = 0 then -1 else (L.getD (k - 1) (0, [])).1
theorem okAt_iff {L : List Ep} {k : Nat} {x : Ep} (hx : L[k]? = some x) (h : ∀ j, j < k → okAt L j) : okAt L k ↔ mayP x.2 ∧ lastN L k < x.1 ∧ x.1 ≤ 1099511627776 := by
  have e : L.getD k (0, []) = x := by rw [List.getD_eq_getElem?_getD, hx]; rfl
  unfold okAt lastN
  rw [e]
  rcases Nat.eq_zero_or_pos k with rfl | hk
  · simp only [if_pos, Nat.lt_irrefl, false_implies, and_true]
    constructor
    · rintro ⟨a, b, c⟩; exact ⟨a, by omega, c⟩
    · rintro ⟨a, b, c⟩; exact ⟨a, by omega, c⟩
  · have h1 := (h (k - 1) (by omega)).2.1
    rw [if_neg (by omega)]
    constructor
    · rintro ⟨a, b, c, d⟩; exact ⟨a, d hk, c⟩
    · rintro ⟨a, b, c⟩; exact ⟨a, by omega, c, fun _ => b⟩
theorem lastN_succ {L : List Ep} {k : Nat} {x : Ep} (hx : L[k]? = some x) : lastN L (k + 1) = x.1 := by
  rw [lastN, if_neg (by omega), Nat.add_sub_cancel, List.getD_eq_getElem?_getD, hx]; rfl
theorem loadE_bad {al : Int} {L : List Ep} {k : Nat} (ha : 1 ≤ al ∧ al ≤ 8) (hk : k < L.length) (h : ¬ okAt L k) : loadE al L = 4 := by
  rw [loadE, if_neg (by omega), if_neg (fun q => h (q.2 k hk))]
theorem loadE_zero {al : Int} {L : List Ep} : loadE al L = 0 ↔ (1 ≤ al ∧ al ≤ 8) ∧ 0 < L.length ∧ ∀ i, i < L.length → okAt L i := by
  unfold loadE
  by_cases h : al < 1 ∨ 8 < al
  · rw [if_pos h]
    constructor
    · intro q; omega
    · rintro ⟨q, _⟩; omega
  · rw [if_neg h]
    by_cases h2 : 0 < L.length ∧ ∀ i, i < L.length → okAt L i
    · rw [if_pos h2]; exact ⟨fun _ => ⟨by omega, h2⟩, fun _ => rfl⟩
    · rw [if_neg h2]
      constructor
      · intro q; omega
      · rintro ⟨_, q⟩; exact absurd q h2
theorem loadE_ok {al : Int} {L : List Ep} (h : loadE al L = 0) : EOk al L := by
  obtain ⟨h1, h2, h3⟩ := loadE_zero.1 h
  refine ⟨h1.1, h1.2, h2, fun x hx => ?_⟩
  obtain ⟨i, hi⟩ := List.getElem?_of_mem hx
  have h4 := h3 i (List.getElem?_eq_some_iff.1 hi).1
  have e : L.getD i (0, []) = x := by rw [List.getD_eq_getElem?_getD, hi]; rfl
  unfold okAt at h4
  rw [e] at h4
  exact ⟨h4.1, h4.2.1, h4.2.2.1⟩
section
variable {F G S : Nat → Prop} {w w' : World} {v vm : Value} {L : List Ep} {M : List Int} {g B : Nat} {al : Int}
/-- What Load leaves. -/
def LoadPost (al : Int) (L : List Ep) (w : World) (e : Ending) (w' : World) : Prop :=
  Keep (fun _ => False) w w' ∧ ((loadE al L = 0 ∧ ∃ g, e = .returned (.tuple #[.pointer (some ⟨g, 0, none⟩), .int .i64 0]) ∧ EpAt (fun k => w.heap.size ≤ k ∧ k < w'.heap.size) w' g al L) ∨ (loadE al L ≠ 0 ∧ e = .returned (.tuple #[.pointer none, .int .i64 (loadE al L)])))
set_option maxRecDepth 20000 in
set_option maxHeartbeats 1600000 in
theorem load_calls (h : EpSl F F w v L) (hF : ∀ k, F k → k < w.heap.size) (hl : L.length ≤ 100000) :
    Calls Try.prog 20 #[.int .i64 al, v] w (LoadPost al L w) := by
  have HS := hid h
  have HF := hid hF
  obtain ⟨A, c, rfl⟩ := h.shape
  obtain ⟨n, hn⟩ : ∃ n, n = L.length := ⟨_, rfl⟩
  rw [← hn] at hl HS ⊢
  have HN := hid hn
  clear h hF hn
  have hbad1 : ∀ w', Keep (fun _ => False) w w' → loadE al L = 1 → LoadPost al L w (.returned (.tuple #[.pointer none, .int .i64 1])) w' := fun w' hk he => ⟨hk, .inr ⟨by omega, by rw [he]⟩⟩
  have hbad4 : ∀ w', Keep (fun _ => False) w w' → loadE al L = 4 → LoadPost al L w (.returned (.tuple #[.pointer none, .int .i64 4])) w' := fun w' hk he => ⟨hk, .inr ⟨by omega, by rw [he]⟩⟩
  have HB1 := hid hbad1; have HB4 := hid hbad4
  clear hbad1 hbad4
  go_enter Try.func20, Try.ntmps20
  by_cases a1 : al < 1
  · have he : loadE al L = 1 := by rw [loadE, if_pos (.inl a1)]
    have HE := hid he
    clear he
    go_wp2_with fail
    go_ret2
    exact HB1.out _ (Keep.refl _ _) HE.out
  by_cases a8 : 8 < al
  · have he : loadE al L = 1 := by rw [loadE, if_pos (.inr a8)]
    have HE := hid he
    clear he
    go_wp2_with fail
    go_ret2
    exact HB1.out _ (Keep.refl _ _) HE.out
  go_wp2_with fail
  go_loopw [6, 17] (fun la i wr => ∃ k : Nat, k ≤ n ∧ i = .int .i64 k ∧ la = .int .i64 (lastN L k) ∧ (∀ j, j < k → okAt L j) ∧ Keep (fun _ => False) w wr) (fun _ i _ => n - (intOf i).toNat)
  case atStart => exact ⟨0, Nat.zero_le _, rfl, rfl, fun j hj => by omega, Keep.refl _ _⟩
  case round =>
    obtain ⟨k, hk, rfl, rfl, hall, hkp⟩ := hrel
    by_cases hlt : k < n
    · obtain ⟨x, hx⟩ : ∃ x, L[k]? = some x := ⟨L[k]'(by rw [← HN.out]; exact hlt), by simp [show k < L.length by rw [← HN.out]; exact hlt]⟩
      obtain ⟨b, off, vm, rfl, _, d0, d1, d2, _⟩ := (HS.out.keepF hkp).elem hx
      have hmy := fun o => pmay_calls (d2.keep ((Keep.refl (fun _ => False) wr).alloc o) (fun _ _ => id))
      obtain ⟨Am, cm, rfl⟩ := d2.shape
      have hiff := okAt_iff hx hall
      have hls := lastN_succ hx
      obtain ⟨f, hf⟩ : ∃ f, f = x.1 := ⟨_, rfl⟩
      obtain ⟨m, hme⟩ : ∃ m, m = x.2.length := ⟨_, rfl⟩
      obtain ⟨la, hla⟩ : ∃ la, la = lastN L k := ⟨_, rfl⟩
      rw [← hf] at d0 hiff hls
      rw [← hme] at d1 hmy
      rw [← hla] at hiff ⊢
      have hbad : ¬ okAt L k → loadE al L = 4 := loadE_bad ⟨by omega, by omega⟩ (by rw [← HN.out]; exact hlt)
      have HIFF := hid hiff; have HLS := hid hls; have HBAD := hid hbad; have HALL := hid hall; have HKP := hid hkp
      clear hx d2 hf hme hla hiff hls hbad hall hkp
      cases hb : mayB x.2 with
      | false =>
        have hmn : ¬ mayP x.2 := fun q => by rw [show mayB x.2 = true from decide_eq_true q] at hb; cases hb
        simp only [hb] at hmy
        have HMN := hid hmn
        clear hmn hb
        go_wp2_with fail
        refine (hmy _).mono ?_
        rintro e w4 ⟨rfl, rfl⟩
        clear hmy
        go_wp2_with fail
        go_ret2
        exact HB4.out _ (HKP.out.alloc _) (HBAD.out (fun q => HMN.out (HIFF.out.1 q).1))
      | true =>
        have hmp : mayP x.2 := of_decide_eq_true hb
        simp only [hb] at hmy
        have HMP := hid hmp
        clear hmp hb
        by_cases c1 : f ≤ la
        · go_wp2_with fail
          refine (hmy _).mono ?_
          rintro e w4 ⟨rfl, rfl⟩
          clear hmy
          go_wp2_with fail
          go_ret2
          exact HB4.out _ (HKP.out.alloc _) (HBAD.out (fun q => by have := (HIFF.out.1 q).2.1; omega))
        by_cases c2 : 1099511627776 < f
        · go_wp2_with fail
          refine (hmy _).mono ?_
          rintro e w4 ⟨rfl, rfl⟩
          clear hmy
          go_wp2_with fail
          go_ret2
          exact HB4.out _ (HKP.out.alloc _) (HBAD.out (fun q => by have := (HIFF.out.1 q).2.2; omega))
        go_wp2_with fail
        refine (hmy _).mono ?_
        rintro e w4 ⟨rfl, rfl⟩
        clear hmy
        go_wp2_with fail
        refine ⟨⟨k + 1, by omega, by simp, by rw [HLS.out], fun j hj => ?_, HKP.out.alloc _⟩, by simp [intOf]; omega⟩
        by_cases hjk : j < k
        · exact HALL.out j hjk
        · obtain rfl : j = k := by omega
          exact HIFF.out.2 ⟨HMP.out, by omega, by omega⟩
    · obtain rfl : k = n := by omega
      rcases Nat.eq_zero_or_pos k with hk0 | hk0
      · have he : loadE al L = 4 := by rw [loadE, if_neg (by omega), if_neg (fun q => by have := q.1; rw [← HN.out] at this; omega)]
        have HE := hid he
        have HKP := hid hkp
        subst hk0
        clear he hall hkp
        go_wp2_with fail
        go_ret2
        exact HB4.out _ HKP.out HE.out
      · have he : loadE al L = 0 := loadE_zero.2 ⟨⟨by omega, by omega⟩, by rw [← HN.out]; exact hk0, fun i hi => hall i (by rw [HN.out]; exact hi)⟩
        have hown := own_in HS.out HF.out (loadE_ok he) (by rw [← HN.out]; exact hl) hkp
        rw [← HN.out] at hown
        have HE := hid he
        have HKP := hid hkp
        clear he hall hkp
        go_wp2_with fail
        refine hown.mono ?_
        rintro e w4 ⟨A4, c4, rfl, hO4, k4⟩
        have HO4 := hid hO4; have K4 := hid k4
        clear hown hO4 k4
        go_wp2_with fail
        go_ret2
        exact ⟨K4.out.alloc _, .inl ⟨HE.out, _, rfl, HO4.out.boxed K4.out.size (loadE_ok HE.out)⟩⟩
end
end Go.Proofs.Ytbkgobdpgokbaaa
