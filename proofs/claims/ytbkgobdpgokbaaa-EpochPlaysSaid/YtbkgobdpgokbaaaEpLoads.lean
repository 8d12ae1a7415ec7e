/- wapentakelaw7.EpochLoads: the walk. -/
import Derived.Test.YtbkgobdpgokbaaaEpLoadR
import Derived.Test.YtbkgobdpgokbaaaEpDeed
import Derived.Test.YtbkgobdpgokbaaaEpIter
namespace Go.Proofs.Ytbkgobdpgokbaaa
open Go.RowKit
def Rep.ep : Rep Ep := Rep.pair Rep.int Rep.int.slice
theorem opens_ints7 : Opens Try.prog Rep.int.slice 22 := Opens.slice Try.underlying22 (by kernel_rfl) opens_int7 (by decide)
theorem opens_ep : Opens Try.prog Rep.ep 42 := Opens.struct Try.underlying42 (by kernel_rfl) (.cons rfl opens_int7 (.one rfl opens_ints7))
theorem opens_eps : Opens Try.prog Rep.ep.slice 33 := Opens.slice Try.underlying33 (by kernel_rfl) opens_ep (by decide)
theorem Sl.rowI {w : World} {F : Nat → Prop} {v : Value} {l : List Int} (h : Sl Rep.int w F v l) : Row F w v l.length 1 (l.map I64) ∧ ∀ y ∈ l, okI y := by
  obtain ⟨A, c, rfl, hl, hc, h⟩ := h
  constructor
  · refine ⟨A, c, rfl, by simp, hl, hc, h.imp id ?_⟩
    rintro ⟨b, off, hA, hF, hb, he⟩
    refine ⟨b, off, hA, hF, hb, fun j u hu => ?_⟩
    rw [List.getElem?_map, Option.map_eq_some_iff] at hu
    obtain ⟨x, hx, rfl⟩ := hu
    obtain ⟨cs, ⟨h1, _⟩, h2⟩ := he j x hx
    have h1 : cs = [.int .i64 x] := h1
    subst h1
    have := h2 0 _ rfl
    have hs : Rep.int.size = 1 := rfl
    rw [hs] at this
    simpa [I64] using this
  · intro y hy
    obtain ⟨i, hi⟩ := List.getElem?_of_mem hy
    have hil := (List.getElem?_eq_some_iff.1 hi).1
    obtain ⟨b, off, hA, hF, hb, he⟩ := h.resolve_left (by omega)
    obtain ⟨cs, ⟨_, h1⟩, _⟩ := he i y hi
    exact h1
theorem Elems.eps {w : World} {F : Nat → Prop} {b : Nat} : ∀ {L : List Ep} {off : Nat}, Elems Rep.ep w F b off L → ∃ cs, cs.length = L.length * 2 ∧ EpRow w F L cs ∧ ∀ j u, cs[j]? = some u → w.cell? ⟨b, off + j, none⟩ = some u
  | [], _, _ => ⟨[], rfl, rfl, fun j u hu => by simp at hu⟩
  | x :: L, off, h => by
    have hs : Rep.ep.size = 2 := rfl
    obtain ⟨cs0, ⟨c, d, rfl, ⟨hc, hx1⟩, vm, rfl, hsl⟩, h2⟩ := h 0 x rfl
    have hc : c = [.int .i64 x.1] := hc
    subst hc
    obtain ⟨cs, q1, q2, q3⟩ := Elems.eps (L := L) (off := off + 2) (fun i y hy => by
      obtain ⟨cs', p1, p2⟩ := h (i + 1) y (by simpa using hy)
      refine ⟨cs', p1, fun k u hu => ?_⟩
      have := p2 k u hu
      rw [hs] at this ⊢
      rw [show off + 2 + i * 2 + k = off + (i + 1) * 2 + k by omega]
      exact this)
    obtain ⟨r1, r2⟩ := hsl.rowI
    refine ⟨.int .i64 x.1 :: vm :: cs, by simp [q1]; omega, ⟨vm, cs, rfl, r1, hx1, r2, q2⟩, fun j u hu => ?_⟩
    rcases j with _ | _ | j
    · have := h2 0 _ rfl
      simp only [List.getElem?_cons_zero, Option.some.injEq] at hu
      subst hu
      simpa using this
    · have := h2 1 _ rfl
      simp only [List.getElem?_cons_succ, List.getElem?_cons_zero, Option.some.injEq] at hu
      subst hu
      simpa using this
    · have := q3 j u (by simpa using hu)
      rw [show off + (j + 1 + 1) = off + 2 + j by omega]
      exact this
theorem Sl.eps {w : World} {F : Nat → Prop} {v : Value} {L : List Ep} (h : Sl Rep.ep w F v L) : EpSl F F w v L := by
  obtain ⟨A, c, rfl, hl, hc, h⟩ := h
  rcases h with h0 | ⟨b, off, hA, hF, hb, he⟩
  · have : L = [] := List.eq_nil_of_length_eq_zero (by omega)
    subst this
    exact ⟨[], ⟨A, c, rfl, rfl, hl, hc, .inl h0⟩, rfl⟩
  · obtain ⟨cs, q1, q2, q3⟩ := he.eps
    exact ⟨cs, ⟨A, c, rfl, q1, hl, hc, .inr ⟨b, off, hA, hF, hb, q3⟩⟩, q2⟩
set_option maxRecDepth 20000 in
set_option maxHeartbeats 1600000 in
theorem epochLoads_calls {w : World} {v0 : Value} {L : List Ep} (al : Int) (_ha : (Lit.int .i64 al).wf = true) (h0 : Sl Rep.ep w (fun k => k < w.heap.size) v0 L) (slot : Int) (_hs : (Lit.int .i64 slot).wf = true) :
    Calls Try.prog 5 #[.int .i64 al, v0, .int .i64 slot] w fun e w' => e = .returned (.bool true) ∧ Below w.heap.size w w' := by
  have hmax : L.length ≤ 9223372036854775807 := by obtain ⟨_, _, _, q1, q2, _⟩ := h0; unfold maxLen at q2; omega
  have h1 := h0.eps
  have H1 := hid h1
  obtain ⟨A0, c0, rfl⟩ := h1.shape
  obtain ⟨n, hn⟩ : ∃ n, n = L.length := ⟨_, rfl⟩
  rw [← hn] at hmax H1 ⊢
  have HN := hid hn
  clear h0 h1 hn
  go_enter Try.func5, Try.ntmps5
  go_wp2_with fail
  refine (awake7_calls w).mono ?_
  rintro e w0 ⟨rfl, k0⟩
  have K0 := hid k0
  by_cases b0 : 50 < n
  · go_wp2_with fail
    go_ret
    exact ⟨rfl, k0.below (Nat.le_refl _) (fun _ _ h => h)⟩
  have HS := hid (H1.out.keepF k0)
  clear k0
  go_wp2_with fail
  go_loopw [7] (fun i wr => ∃ k : Nat, k ≤ n ∧ i = .int .i64 k ∧ wr = w0) (fun i _ => n - (intOf i).toNat)
  case atStart => exact ⟨0, Nat.zero_le _, rfl, rfl⟩
  case round =>
    obtain ⟨k, hk, rfl, rfl⟩ := hrel
    by_cases hlt : k < n
    · obtain ⟨x, hx⟩ : ∃ x, L[k]? = some x := ⟨L[k]'(by rw [← HN.out]; exact hlt), by simp [show k < L.length by rw [← HN.out]; exact hlt]⟩
      obtain ⟨b, off, vm, rfl, _, d0, d1, d2, _⟩ := HS.out.elem hx
      have hx63 : x.2.length ≤ 9223372036854775807 := by obtain ⟨_, _, _, _, q1, q2, _⟩ := d2; unfold maxLen at q2; omega
      obtain ⟨Am, cm, rfl⟩ := d2.shape
      obtain ⟨m, hme⟩ : ∃ m, m = x.2.length := ⟨_, rfl⟩
      rw [← hme] at d1 hx63
      clear hx d0 d2 hme
      by_cases hm : 50 < m
      · go_wp2_with fail
        go_ret
        exact ⟨rfl, K0.out.below (Nat.le_refl _) (fun _ _ h => h)⟩
      · go_wp2_with fail
        exact ⟨⟨k + 1, by omega, by simp, trivial⟩, by simp [intOf]; omega⟩
    · obtain rfl : k = n := by omega
      have hld := load_calls (al := al) HS.out (fun q hq => by have := K0.out.size; omega) (by rw [← HN.out]; omega)
      clear hlt hk
      go_wp2_with fail
      refine hld.mono ?_
      rintro e w1 ⟨k1, hp1⟩
      have hrl := rload_calls (al := al) (HS.out.keepF k1) (fun q hq => by have := K0.out.size; have := k1.size; omega) (by rw [← HN.out]; omega)
      have K1 := hid (K0.out.trans k1 (fun _ _ h => h))
      clear hld k1
      rcases hp1 with ⟨hz, g, rfl, hE⟩ | ⟨hz, rfl⟩
      case inr =>
        obtain ⟨r, hr⟩ : ∃ r, r = loadE al L := ⟨_, rfl⟩
        rw [← hr] at hz ⊢
        have HR := hid hr
        clear hr
        go_wp2_with fail
        refine hrl.mono ?_
        rintro e w2 ⟨k2, hp2⟩
        have K2 := hid (K1.out.trans k2 (fun _ _ h => h))
        clear hrl k2
        rw [← HR.out] at hp2
        rcases hp2 with ⟨hz2, _⟩ | ⟨_, rfl⟩
        · exact absurd hz2 hz
        · have hd1 : (r != 0) = true := by simp [hz]
          go_wp2_with fail
          go_ret
          exact ⟨rfl, K2.out.below (Nat.le_refl _) (fun _ _ h => h)⟩
      case inl =>
        have HE := hid hE
        have HZ := hid hz
        clear hE hz
        go_wp2_with fail
        refine hrl.mono ?_
        rintro e w2 ⟨k2, hp2⟩
        rcases hp2 with ⟨_, m, rfl, hM⟩ | ⟨hz2, _⟩
        case inr => exact absurd HZ.out hz2
        have HE2 := hid (HE.out.keepF k2)
        have HM := hid hM
        have K2 := hid (K1.out.trans k2 (fun _ _ h => h))
        have hli := list_in (HE.out.keepF k2) (fun q hq => by have := hq.2; have := k2.size; omega) (by rw [← HN.out]; omega)
        have hs1 := HE.out.lt
        have hs2 := k2.size
        clear hrl k2 hM
        go_wp2_with fail
        refine hli.mono ?_
        rintro e w3 ⟨v3, rfl, hO3, k3⟩
        have hs3 := k3.size
        have hsl3 : EpSl (fun q => q < w3.heap.size) (fun q => q < w3.heap.size) w3 v3 L := by
          obtain ⟨cs, q1, q2, q3⟩ := hO3
          exact ⟨cs, (Row.ofOwn q1).mono (fun q hq => own_lt' q1 q hq.symm), q2.mono (fun q hq => hq.2.1)⟩
        have hld2 := load_calls (al := al) hsl3 (fun q hq => hq) (by rw [← HN.out]; omega)
        obtain ⟨A3, c3, rfl⟩ := hsl3.shape
        rw [← HN.out] at hld2 ⊢
        have HE3 := hid (HE2.out.keepF k3)
        have HM3 := hid (HM.out.keepF k3)
        have K3 := hid (K2.out.trans k3 (fun _ _ h => h))
        clear hli hO3 k3 hsl3
        go_wp2_with fail
        with_reducible refine hld2.mono ?_
        rintro e w4 ⟨k4, hp4⟩
        rcases hp4 with ⟨_, f, rfl, hFp⟩ | ⟨hz2, _⟩
        case inr => exact absurd HZ.out hz2
        have hE4 := HE3.out.keepF k4
        have hM4 := HM3.out.keepF k4
        have K4 := hid (K3.out.trans k4 (fun _ _ h => h))
        have hs4 := k4.size
        have hm1000 : ∀ x ∈ L, x.2.length ≤ 1000 := fun x hx => by have := ((loadE_ok HZ.out).2.2.2 x hx).1.2.1; omega
        have LE := fun w' (hk : Keep (fun _ => False) w4 w') => (list_in (hE4.keepF hk) (fun q hq => by have := hq.2; have := hk.size; omega) (by rw [← HN.out]; omega)).mono (R' := fun e w'' => ∃ A c, e = .returned (.slice A k c) ∧ EpSl (fun _ => True) (fun _ => True) w'' (.slice A k c) L ∧ Keep (fun _ => False) w4 w'') (fun e w'' ⟨v', he, hO, hk2⟩ => by
          have hsl : EpSl (fun _ => True) (fun _ => True) w'' v' L := by
            obtain ⟨cs, q1, q2⟩ := hO.sl
            exact ⟨cs, q1.mono (fun _ _ => trivial), q2.mono (fun _ _ => trivial)⟩
          obtain ⟨A, c, rfl⟩ := hO.sl.shape
          rw [← HN.out] at he hsl
          exact ⟨A, c, he, hsl, hk.trans hk2 (fun _ _ h => h)⟩)
        have LF := fun w' (hk : Keep (fun _ => False) w4 w') => (list_in (hFp.keepF hk) (fun q hq => by have := hq.2; have := hk.size; omega) (by rw [← HN.out]; omega)).mono (R' := fun e w'' => ∃ A c, e = .returned (.slice A k c) ∧ EpSl (fun _ => True) (fun _ => True) w'' (.slice A k c) L ∧ Keep (fun _ => False) w4 w'') (fun e w'' ⟨v', he, hO, hk2⟩ => by
          have hsl : EpSl (fun _ => True) (fun _ => True) w'' v' L := by
            obtain ⟨cs, q1, q2⟩ := hO.sl
            exact ⟨cs, q1.mono (fun _ _ => trivial), q2.mono (fun _ _ => trivial)⟩
          obtain ⟨A, c, rfl⟩ := hO.sl.shape
          rw [← HN.out] at he hsl
          exact ⟨A, c, he, hsl, hk.trans hk2 (fun _ _ h => h)⟩)
        have TE := fun w' (hk : Keep (fun _ => False) w4 w') => (eAt_calls (hE4.keepF hk) slot (by rw [← HN.out]; omega)).mono (R' := fun e w'' => ∃ g2 c2, e = .returned (.slice (some ⟨g2, 0, none⟩) (atE L slot).2.length c2) ∧ w''.ownsRow 0 3 1 (.slice (some ⟨g2, 0, none⟩) (atE L slot).2.length c2) (atE L slot).2.length ((atE L slot).2.map I64) ∧ Keep (fun _ => False) w' w'' ∧ Keep (fun _ => False) w4 w'') (fun e w'' ⟨g2, c2, h1, h2, _, h4⟩ => ⟨g2, c2, h1, h2, h4, hk.trans h4 (fun _ _ h => h)⟩)
        have TM := fun w' (hk : Keep (fun _ => False) w4 w') => (reAt_calls (hM4.keepF hk) slot (by rw [← HN.out]; omega)).mono (R' := fun e w'' => ∃ A2 c2, e = .returned (.slice A2 (atE L slot).2.length c2) ∧ w''.ownsRow 0 3 1 (.slice A2 (atE L slot).2.length c2) (atE L slot).2.length ((atE L slot).2.map I64) ∧ Keep (fun _ => False) w' w'' ∧ Keep (fun _ => False) w4 w'') (fun e w'' ⟨A2, c2, h1, h2, h4⟩ => ⟨A2, c2, h1, h2, h4, hk.trans h4 (fun _ _ h => h)⟩)
        obtain ⟨vm, hg, hsm⟩ := hM4.val
        obtain ⟨Am, cm, rfl⟩ := hsm.shape
        rw [← HN.out] at hg hsm
        have c1 := cell_at hg 1 (.slice Am k cm) rfl
        have HC := hid (fun w' (hk : Keep (fun _ => False) w4 w') => hk.cell c1 id)
        have SE : ∀ w' A c, Keep (fun _ => False) w4 w' → EpSl (fun _ => True) (fun _ => True) w' (.slice A k c) L → Calls Try.prog 22 #[.slice A k c, .slice Am k cm] w' fun e w'' => e = .returned (.bool true) ∧ Keep (fun _ => False) w4 w'' := fun w' A c hk hs => (sameE_calls hs (hsm.keepF hk) hm1000 (by rw [← HN.out]; omega)).mono (fun e w'' ⟨h1, z, h2⟩ => ⟨h1, by rw [h2]; exact hk.drewN z⟩)
        obtain ⟨M, hMM⟩ : ∃ M, M = (atE L slot).2 := ⟨_, rfl⟩
        rw [← hMM] at TE TM
        have SI : ∀ w' v1 v2 F1 F2, Keep (fun _ => False) w4 w' → Row F1 w' v1 M.length 1 (M.map I64) → Row F2 w' v2 M.length 1 (M.map I64) → Calls Try.prog 13 #[v1, v2] w' fun e w'' => e = .returned (.bool true) ∧ Keep (fun _ => False) w4 w'' := fun w' v1 v2 F1 F2 hk r1 r2 => (sameInts_calls r1 r2).mono (fun e w'' ⟨h1, z, h2⟩ => ⟨by rw [h1, decide_eq_true rfl], by rw [h2]; exact hk.drewN z⟩)
        have kd : Keep (fun _ => False) w4 w4.drew := (Keep.refl _ w4).drew
        clear hld2 hE4 hM4 hFp hg hsm c1 hm1000 hMM k4 hs1 hs2 hs3 hs4
        go_wp2_with fail
        go_region_held3 (fun w' => w'.cell? ⟨m, 1, none⟩ = some (.slice Am k cm)) (exact HC.out _ (by assumption)) (first
          | (go_at_call 15; first | (with_reducible refine (LE _ (by assumption)).mono ?_; rintro e w5 ⟨A5, c5, rfl, hs5, k5⟩) | (with_reducible refine (LF _ (by assumption)).mono ?_; rintro e w6 ⟨A6, c6, rfl, hs6, k6⟩))
          | (go_at_call 22; first | (with_reducible refine (SE _ _ _ (by assumption) hs5).mono ?_; rintro e w7 ⟨rfl, k7⟩) | (with_reducible refine (SE _ _ _ (by assumption) hs6).mono ?_; rintro e w7 ⟨rfl, k7⟩))
          | (go_at_call 14; with_reducible refine (TE _ (by assumption)).mono ?_; rintro e w8 ⟨g8, c8, rfl, o8, q8, k8⟩)
          | (go_at_call 23; with_reducible refine (TM _ (by assumption)).mono ?_; rintro e w9 ⟨A9, c9, rfl, o9, q9, k9⟩)
          | (go_at_call 13; first | (with_reducible refine (SI _ _ _ _ _ (by assumption) ((Row.ofOwn o8).keep q9 (fun _ _ => id)) (Row.ofOwn o9)).mono ?_; rintro e w10 ⟨rfl, k10⟩) | (with_reducible refine (SI _ _ _ _ _ (by assumption) (Row.ofOwn o8) ((Row.ofOwn o9).keep q8 (fun _ _ => id))).mono ?_; rintro e w10 ⟨rfl, k10⟩)))
        all_goals (
          go_wp2_with fail
          go_ret
          exact ⟨rfl, (K4.out.trans k10 (fun _ _ h => h)).below (Nat.le_refl _) (fun _ _ h => h)⟩)
end Go.Proofs.Ytbkgobdpgokbaaa
