/- wapentakelaw7.EpochCuts: the walk. -/
import Derived.Test.YtbkgobdpgokbaaaEpLater
import Derived.Test.YtbkgobdpgokbaaaEpCut
namespace Go.Proofs.Ytbkgobdpgokbaaa
open Go.RowKit
theorem atP_le (L : List Ep) (slot : Int) (k : Nat) : atP L slot k ≤ k := by
  rcases Nat.eq_zero_or_pos k with rfl | hk
  · simp [atP]
  · have := atP_lt L slot k hk; omega
theorem atP_mono (L : List Ep) {a b : Int} (h : a ≤ b) : ∀ k, atP L a k ≤ atP L b k
  | 0 => by simp [atP]
  | k + 1 => by
    have ih := atP_mono L h k
    have h1 := atP_le L a k
    rw [atP, atP]
    split <;> split <;> omega
theorem atP_drop (L : List Ep) (slot : Int) (c : Nat) : ∀ k, atP (L.drop c) slot k = atP L slot (k + c) - c
  | 0 => by have := atP_le L slot c; simp [atP]; omega
  | k + 1 => by
    have ih := atP_drop L slot c k
    rw [show k + 1 + c = (k + c) + 1 by omega, atP, atP, ih]
    have : (L.drop c).getD k (0, []) = L.getD (k + c) (0, []) := by
      rw [List.getD_eq_getElem?_getD, List.getD_eq_getElem?_getD, List.getElem?_drop, Nat.add_comm]
    rw [this]
    split <;> omega
/-- Cut at a slot, the members of it and of all later ones are who they were. -/
theorem atE_drop {L : List Ep} {cut slot : Int} (h0 : 0 < L.length) (h : cut ≤ slot) : atE (L.drop (atP L cut L.length)) slot = atE L slot := by
  obtain ⟨c, hc⟩ : ∃ c, c = atP L cut L.length := ⟨_, rfl⟩
  have h1 := atP_lt L cut L.length h0
  have h2 := atP_mono L h L.length
  rw [← hc] at h1 h2 ⊢
  rw [atE, atE, atP_drop, List.length_drop, show L.length - c + c = L.length by omega, List.getD_eq_getElem?_getD, List.getElem?_drop, show c + (atP L slot L.length - c) = atP L slot L.length by omega, ← List.getD_eq_getElem?_getD]
/-- One change at a time, by one member, and the next one two slots behind it. -/
def EInv (L : List Ep) : Prop := ∀ i x y, L[i]? = some x → L[i + 1]? = some y → (y.2.length = x.2.length + 1 ∨ x.2.length = y.2.length + 1) ∧ x.1 + 2 ≤ y.1
theorem EInv.change {L : List Ep} (h : EInv L) (hok : EOk 2 L) (slot m : Int) (add : Bool) : EInv (chL 2 L slot m add) := by
  unfold chL
  split
  case isFalse => exact h
  case isTrue h0 =>
    obtain ⟨⟨a, b, c, d⟩, e, f⟩ := chE_zero.1 h0
    intro i x y hx hy
    have hl := hok.2.2.1
    by_cases hi : i + 1 < L.length
    · rw [List.getElem?_append_left (by omega)] at hx hy
      exact h i x y hx hy
    · have hi1 : i + 1 = L.length := by
        have := (List.getElem?_eq_some_iff.1 hy).1
        simp at this; omega
      rw [List.getElem?_append_left (by omega)] at hx
      have hlast := lastE_mem hl
      rw [show L.length - 1 = i by omega, hx] at hlast
      rw [List.getElem?_append_right (by omega), show i + 1 - L.length = 0 by omega] at hy
      simp only [List.getElem?_cons_zero, Option.some.injEq] at hy hlast
      subst hy
      have hcl := chM_len hok.last.1 ⟨c, d⟩ f
      rw [← hlast] at hcl e f ⊢
      refine ⟨?_, by simp only; omega⟩
      simp only
      cases add with
      | true => simp only [if_true] at hcl; exact .inl hcl
      | false =>
        simp only [Bool.false_eq_true, if_false] at hcl
        have h1 := (hok.2.2.2 x (List.mem_of_getElem? hx)).1.1
        exact .inr (by omega)
theorem EInv.one (x : Ep) : EInv [x] := fun i a b _ hb => by
  have := (List.getElem?_eq_some_iff.1 hb).1
  simp at this
theorem chL_len {al : Int} {L : List Ep} (slot m : Int) (add : Bool) : (chL al L slot m add).length ≤ L.length + 1 := by
  unfold chL; split <;> simp
set_option maxRecDepth 20000 in
set_option maxHeartbeats 4000000 in
theorem epochCuts_calls {w : World} {v0 : Value} {l : List EDeed} (h0 : Sl Rep.edeed w (fun k => k < w.heap.size) v0 l) (cut : Int) (_hc : (Lit.int .i64 cut).wf = true) (slot : Int) (_hs : (Lit.int .i64 slot).wf = true) :
    Calls Try.prog 4 #[v0, .int .i64 cut, .int .i64 slot] w fun e w' => e = .returned (.bool true) ∧ Below w.heap.size w w' := by
  have hmax : l.length ≤ 9223372036854775807 := by obtain ⟨_, _, _, q1, q2, _⟩ := h0; unfold maxLen at q2; omega
  have H0 := hid h0
  obtain ⟨A0, c0, rfl⟩ := h0.shape
  obtain ⟨n, hn⟩ : ∃ n, n = l.length := ⟨_, rfl⟩
  rw [← hn] at hmax H0 ⊢
  have HN := hid hn
  clear h0 hn
  go_enter Try.func4, Try.ntmps4
  go_wp2_with fail
  refine (awake7_calls w).mono ?_
  rintro e w0 ⟨rfl, k0⟩
  have K0 := hid k0
  by_cases b0 : 200 < n
  · go_wp2_with fail
    go_ret
    exact ⟨rfl, k0.below (Nat.le_refl _) (fun _ _ h => h)⟩
  have hnew := enew_lit (w := w0) (B := w.heap.size) k0.size [0, 1, 2] 2 3 (fun y hy => by simp at hy; rcases hy with rfl | rfl | rfl <;> exact ⟨by omega, by omega⟩) (by decide)
  clear k0
  go_wp2_with fail
  refine hnew.mono ?_
  rintro e w1 ⟨g, rfl, hE, hk, hBs⟩
  have HK := hid (K0.out.trans hk (fun _ _ h => h))
  have HE := hid hE
  clear hnew hE hk hBs
  go_wp2_with fail
  go_loopw [9] (fun i wr => ∃ (k : Nat) (L : List Ep), k ≤ n ∧ i = .int .i64 k ∧ EpAt (fun b => w.heap.size ≤ b ∧ b < wr.heap.size) wr g 2 L ∧ EInv L ∧ L.length ≤ k + 1 ∧ Keep (fun _ => False) w wr) (fun i _ => n - (intOf i).toNat)
  case atStart => exact ⟨0, _, Nat.zero_le _, rfl, HE.out, EInv.one _, by simp, HK.out⟩
  case round =>
    obtain ⟨k, L, hk, rfl, hE, hI, hL, hkp⟩ := hrel
    by_cases hlt : k < n
    · have HS := hid (H0.out.keep hkp (fun _ _ => id))
      obtain ⟨d, hd⟩ : ∃ d, l[k]? = some d := by
        have : k < l.length := by rw [← HN.out]; exact hlt
        exact ⟨l[k], by simp [this]⟩
      obtain ⟨bl, ol, rfl, hbl, cs, hcs, hcell⟩ := HS.out.elem hd
      obtain ⟨rfl, g1, g2, g3⟩ := edeed_cells hcs
      have hsize : Rep.edeed.size = 4 := rfl
      rw [hsize] at hcell
      obtain ⟨do_, ds, dm, da⟩ := d
      simp only [edeedCs] at hcell g2 g3
      have d1 := hcell 1 _ rfl
      have d2 := hcell 2 _ rfl
      have d3 := hcell 3 _ rfl
      have HC := hid (fun w' (hk : Keep (fun b => w.heap.size ≤ b) wr w') => (⟨hk.cell d1 (show ¬ w.heap.size ≤ bl by omega), hk.cell d2 (show ¬ w.heap.size ≤ bl by omega), hk.cell d3 (show ¬ w.heap.size ≤ bl by omega)⟩ : w'.cell? ⟨bl, ol + k * 4 + 1, none⟩ = some (.int .i64 ds) ∧ w'.cell? ⟨bl, ol + k * 4 + 2, none⟩ = some (.int .i64 dm) ∧ w'.cell? ⟨bl, ol + k * 4 + 3, none⟩ = some (.bool da)))
      have hch := fun w' (hk : Keep (fun _ => False) wr w') => (changeB (hE.keepB hk) ds dm g2 g3 da (by omega)).mono (R' := fun e w'' => e = .returned (.int .i64 (chE 2 L ds dm da)) ∧ EpAt (fun b => w.heap.size ≤ b ∧ b < w''.heap.size) w'' g 2 (chL 2 L ds dm da) ∧ Keep (fun b => w.heap.size ≤ b) wr w'') (fun e w'' ⟨h1, h2, h3⟩ => ⟨h1, h2, (hk.mono (fun _ _ h => h.elim)).trans h3 (fun _ _ h => h)⟩)
      have HI := hid (hI.change hE.ok ds dm da)
      have hL2 := chL_len (al := 2) (L := L) ds dm da
      have kd : Keep (fun _ => False) wr wr.drew := (Keep.refl _ wr).drew
      have HKP := hid hkp
      clear hE hI d1 d2 d3 hcs hcell hsize hkp HS hd g1 hbl
      go_wp2_with fail
      go_region_held3 (fun w' => w'.cell? ⟨bl, ol + k * 4 + 1, none⟩ = some (.int .i64 ds) ∧ w'.cell? ⟨bl, ol + k * 4 + 2, none⟩ = some (.int .i64 dm) ∧ w'.cell? ⟨bl, ol + k * 4 + 3, none⟩ = some (.bool da)) (first | exact HC.out _ (by assumption) | exact HC.out _ (Keep.mono (S := fun _ => False) (by assumption) (fun _ _ h => h.elim))) (first
        | (go_at_call 12; refine (hch _ (by assumption)).mono ?_; rintro e w5 ⟨rfl, hE5, k5⟩))
      go_wp2_with fail
      exact ⟨⟨k + 1, _, by omega, by simp, hE5, HI.out, by omega, HKP.out.trans k5 (fun b hb h => by omega)⟩, by simp [intOf]; omega⟩
    · obtain rfl : k = n := by omega
      have hok := hE.ok
      have hcl := eclone_calls hE (fun k hk => hk.2) (by omega)
      have HE1 := hid hE; have HKP := hid hkp; have HI := hid hI; have HOK := hid hok
      clear hE hkp hI hok hlt hk
      go_wp2_with fail
      refine hcl.mono ?_
      rintro e w3 ⟨g3, rfl, hE3, k3⟩
      have hcu := ecut_calls hE3 cut (by omega)
      have h3 := k3.size
      have HE2 := hid ((HE1.out.keepF k3).mono (F' := fun b => w.heap.size ≤ b ∧ b < wr.heap.size) (fun _ h => h))
      have HK3 := hid (HKP.out.trans k3 (fun _ _ h => h))
      clear hcl hE3 k3
      go_wp2_with fail
      refine hcu.mono ?_
      rintro e w4 ⟨rfl, hE4, k4⟩
      have h4 := k4.size
      have HE5 := hid ((HE2.out.keep k4 (fun b q1 q2 => by omega)).mono (F' := fun b => w.heap.size ≤ b ∧ b < w4.heap.size) (fun b hb => ⟨hb.1, by omega⟩))
      have HE4 := hid (hE4.mono (F' := fun b => w.heap.size ≤ b ∧ b < w4.heap.size) (fun b hb => ⟨by have := HKP.out.size; omega, hb.2⟩))
      have HK4 := hid (HK3.out.trans k4 (S := fun _ => False) (fun b hb h => by have := HKP.out.size; omega))
      obtain ⟨L2, hL2⟩ : ∃ L2, L2 = L.drop (atP L cut L.length) := ⟨_, rfl⟩
      rw [← hL2] at HE4
      have h20 : 0 < L2.length := HE4.out.ok.2.2.1
      have h2l : L2.length ≤ L.length := by rw [hL2, List.length_drop]; omega
      have HL2 := hid hL2
      clear hcu hE4 k4 hL2
      go_upto_region 14 with fail
      go_cut [70] from 58 to 70 (fun s wx => s = .bool false ∧ Keep (fun _ => False) w4 wx)
      case first =>
        by_cases hsc : cut ≤ slot
        · have hde : atE L2 slot = atE L slot := by rw [HL2.out]; exact atE_drop HOK.out.2.2.1 hsc
          have hat1 := eAt_calls HE5.out slot (by omega)
          have hat2 := fun w' (hk : Keep (fun _ => False) w4 w') => eAt_calls (HE4.out.keepB hk) slot (by omega)
          rw [hde] at hat2
          obtain ⟨M, hM⟩ : ∃ M, M = (atE L slot).2 := ⟨_, rfl⟩
          rw [← hM] at hat1 hat2
          clear hM hde
          go_wp2_with fail
          refine hat1.mono ?_
          rintro e w5 ⟨g5, c5, rfl, ho5, _, k5⟩
          have hat := hat2 w5 k5
          clear hat1 hat2
          go_wp2_with fail
          refine hat.mono ?_
          rintro e w6 ⟨g6, c6, rfl, ho6, _, k6⟩
          have hsi := sameInts_calls (Row.ofOwn (k6.owns ho5 (fun _ _ => id))) (Row.ofOwn ho6)
          rw [decide_eq_true rfl] at hsi
          have K6 := hid (k5.trans k6 (fun _ _ h => h))
          clear hat ho5 ho6 k5 k6
          go_wp2_with fail
          refine hsi.mono ?_
          rintro e w7 ⟨rfl, z, rfl⟩
          clear hsi
          go_wp2_with fail
          go_meet
          exact ⟨rfl, K6.out.drewN z⟩
        · go_wp2_with fail
          go_meet
          exact ⟨rfl, Keep.refl _ _⟩
      case rest =>
        obtain ⟨rfl, kx⟩ := hcut
        revert wc
        intro w5 k5
        have hli := list_in (HE5.out.keepB k5) (fun k hk => hk.2) (by omega)
        have HEC := hid (HE4.out.keepB k5)
        have HK5 := hid (HK4.out.trans k5 (fun _ _ h => h))
        clear k5
        go_wp2_with fail
        refine hli.mono ?_
        rintro e w6 ⟨v6, rfl, hO6, k6⟩
        have HSL := hid hO6.sl
        obtain ⟨A6, c6, rfl⟩ := hO6.sl.shape
        have HEC6 := hid (HEC.out.keepB k6)
        have HK6 := hid (HK5.out.trans k6 (fun _ _ h => h))
        obtain ⟨N, hN⟩ : ∃ N, N = L.length := ⟨_, rfl⟩
        rw [← hN] at HSL h2l hL ⊢
        have HNN := hid hN
        clear hli hO6 k6 hN
        go_wp2_with fail
        go_loopw [12, 13] (fun i _ wr => ∃ k : Nat, 1 ≤ k ∧ k ≤ N + 1 ∧ i = .int .i64 k ∧ Keep (fun _ => False) w6 wr) (fun i _ _ => N + 1 - (intOf i).toNat)
        case atStart => exact ⟨1, by omega, by omega, rfl, Keep.refl _ _⟩
        case round =>
          obtain ⟨k, hk1, hkN, rfl, hkp⟩ := hrel
          by_cases hlt : k < N
          · obtain ⟨y, hy⟩ : ∃ y, L[k]? = some y := ⟨L[k]'(by rw [← HNN.out]; exact hlt), by simp [show k < L.length by rw [← HNN.out]; exact hlt]⟩
            obtain ⟨j, hj⟩ : ∃ j, j + 1 = k := ⟨k - 1, by omega⟩
            obtain ⟨x, hx⟩ : ∃ x, L[j]? = some x := ⟨L[j]'(by rw [← HNN.out]; omega), by simp [show j < L.length by rw [← HNN.out]; omega]⟩
            obtain ⟨hlen, hfr⟩ := HI.out j x y hx (by rw [hj]; exact hy)
            have hx2 := HOK.out.2.2.2 x (List.mem_of_getElem? hx)
            have hy2 := HOK.out.2.2.2 y (List.mem_of_getElem? hy)
            obtain ⟨b, off, vy, rfl, _, d0, d1, d2, _⟩ := (HSL.out.keepF hkp).elem hy
            obtain ⟨b', off', vx, he, _, e0, e1, e2, _⟩ := (HSL.out.keepF hkp).elem hx
            simp only [Option.some.injEq, Addr.mk.injEq, and_true] at he
            obtain ⟨rfl, rfl⟩ := he
            obtain ⟨Ay, cy, rfl⟩ := d2.shape
            obtain ⟨Ax, cx, rfl⟩ := e2.shape
            obtain ⟨fy, hfy⟩ : ∃ fy, fy = y.1 := ⟨_, rfl⟩
            obtain ⟨fx, hfx⟩ : ∃ fx, fx = x.1 := ⟨_, rfl⟩
            obtain ⟨ny, hny⟩ : ∃ ny, ny = y.2.length := ⟨_, rfl⟩
            obtain ⟨nx, hnx⟩ : ∃ nx, nx = x.2.length := ⟨_, rfl⟩
            have hy15 := hy2.1.2.1
            have hx15 := hx2.1.2.1
            rw [← hny] at hlen d1 hy15
            rw [← hnx] at hlen e1 hx15
            rw [← hfy] at d0 hfr hy2
            rw [← hfx] at e0 hfr hx2
            have t1 : IntKind.i64.wrap ((k : Int) - 1) = (j : Int) := by rw [IntKind.wrap_i64]; omega
            have t1' : wrap64 ((k : Int) - 1) = (j : Int) := by unfold wrap64; omega
            have t2 : IntKind.i64.wrap (fy - fx) = fy - fx := by rw [IntKind.wrap_i64]; omega
            have t2' : wrap64 (fy - fx) = fy - fx := by unfold wrap64; omega
            have u1 : decide (fy ≤ fx) = false := decide_eq_false (by omega)
            have u2 : decide (fy - fx < 2) = false := decide_eq_false (by omega)
            have HKP := hid hkp
            have hjN : j < N := by omega
            clear hfr hx2 hy2 hfy hfx hny hnx d2 e2 hx hy hkp hj
            rcases hlen with hlen | hlen
            · have t3 : IntKind.i64.wrap ((ny : Int) - (nx : Int)) = 1 := by rw [IntKind.wrap_i64]; omega
              have t3' : wrap64 ((ny : Int) - (nx : Int)) = 1 := by unfold wrap64; omega
              clear hlen hx15 hy15
              go_wp2_with fail
              go_quiet (fail)
              go_wp2_with fail
              go_quiet (fail)
              go_wp2_with fail
              exact ⟨⟨k + 1, by omega, by omega, by simp, HKP.out.drewN _⟩, by simp [intOf]; omega⟩
            · have t3 : IntKind.i64.wrap ((ny : Int) - (nx : Int)) = -1 := by rw [IntKind.wrap_i64]; omega
              have t3' : wrap64 ((ny : Int) - (nx : Int)) = -1 := by unfold wrap64; omega
              clear hlen hx15 hy15
              go_wp2_with fail
              go_quiet (fail)
              go_wp2_with fail
              go_quiet (fail)
              go_wp2_with fail
              exact ⟨⟨k + 1, by omega, by omega, by simp, HKP.out.drewN _⟩, by simp [intOf]; omega⟩
          · have hli2 := list_in (HEC6.out.keepB hkp) (fun k hk => hk.2) (by omega)
            have HEC7 := hid (HEC6.out.keepB hkp)
            have HKP := hid hkp
            obtain ⟨N2, hN2⟩ : ∃ N2, N2 = L2.length := ⟨_, rfl⟩
            rw [← hN2] at h20 h2l
            have HN2 := hid hN2
            clear hkp hN2
            go_wp2_with fail
            refine hli2.mono ?_
            rintro e w7 ⟨v7, rfl, hO7, k7⟩
            obtain ⟨A7, c7, rfl⟩ := hO7.sl.shape
            have hli3 := list_in (HEC7.out.keepB k7) (fun k hk => hk.2) (by have := HN2.out; omega)
            have K7 := hid (HKP.out.trans k7 (fun _ _ h => h))
            rw [← HN2.out]
            clear hli2 hO7 k7
            go_wp2_with fail
            refine hli3.mono ?_
            rintro e w8 ⟨v8, rfl, hO8, k8⟩
            obtain ⟨A8, c8, rfl⟩ := hO8.sl.shape
            have K8 := hid (K7.out.trans k8 (fun _ _ h => h))
            rw [← HN2.out]
            clear hli3 hO8 k8
            go_wp2_with fail
            go_ret
            exact ⟨rfl, (HK6.out.trans K8.out (fun _ _ h => h)).below (Nat.le_refl _) (fun _ _ h => h)⟩
end Go.Proofs.Ytbkgobdpgokbaaa
