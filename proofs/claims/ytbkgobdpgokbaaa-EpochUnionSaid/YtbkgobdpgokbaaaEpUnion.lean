/- wapentakelaw7.EpochUnion: the walk. -/
import Derived.Test.YtbkgobdpgokbaaaEpUnionP
import Derived.Deep.OwnRows
namespace Go.Proofs.Ytbkgobdpgokbaaa
open Go.RowKit
abbrev boolO (p : Int → Bool) : Obj := .cells (boolC p) 4
theorem boolO_congr {p q : Int → Bool} (h : ∀ x, p x = q x) : boolO p = boolO q := by rw [show p = q from funext h]
theorem make15 (W : World) : (Instr.makeSlice 55 (.int .i64 15) (.int .i64 15)).run Try.prog W = .ok (.slice (some ⟨W.heap.size, 0, none⟩) 15 15) (W.alloc (boolO (fun _ => false))) := by
  have := run_make_row' (P := Try.prog) 55 4 (.bool false) 1 Try.underlying55 (by kernel_rfl) rfl .i64 .i64 15 (by omega) (by omega) W
  rw [show madeCells #[Value.bool false] 15 = boolC (fun _ => false) from Array.ext (by simp [madeCells, boolC]) (fun i h1 h2 => by simp [madeCells, boolC, Nat.mod_one])] at this
  exact this
set_option maxRecDepth 20000 in
set_option maxHeartbeats 4000000 in
theorem epochUnion_calls {w : World} {v0 : Value} {l : List EDeed} (h0 : Sl Rep.edeed w (fun k => k < w.heap.size) v0 l) (cut0 : Int) (_hc : (Lit.int .i64 cut0).wf = true) :
    Calls Try.prog 8 #[v0, .int .i64 cut0] w fun e w' => e = .returned (.bool true) ∧ Below w.heap.size w w' := by
  have hmax : l.length ≤ 9223372036854775807 := by obtain ⟨_, _, _, q1, q2, _⟩ := h0; unfold maxLen at q2; omega
  have H0 := hid h0
  obtain ⟨A0, c0, rfl⟩ := h0.shape
  obtain ⟨n, hn⟩ : ∃ n, n = l.length := ⟨_, rfl⟩
  rw [← hn] at hmax H0 ⊢
  have HN := hid hn
  clear h0 hn
  obtain ⟨cu, hcu, hand⟩ := and63 cut0
  go_enter Try.func8, Try.ntmps8
  go_wp2_with fail
  refine (awake7_calls w).mono ?_
  rintro e w0 ⟨rfl, k0⟩
  have K0 := hid k0
  by_cases b0 : 200 < n
  · go_wp2_with fail
    go_ret
    exact ⟨rfl, k0.below (Nat.le_refl _) (fun _ _ h => h)⟩
  have hnew := enew_lit (w := w0) (B := w.heap.size) k0.size [0, 1, 2] 3 3 (fun y hy => by simp at hy; rcases hy with rfl | rfl | rfl <;> exact ⟨by omega, by omega⟩) (by decide)
  clear k0
  go_wp2_with fail
  refine hnew.mono ?_
  rintro e w1 ⟨g, rfl, hE, hk, hBs⟩
  have HK := hid (K0.out.trans hk (fun _ _ h => h))
  have HE := hid hE
  clear hnew hE hk hBs
  go_wp2_with fail
  go_loopw [7, 8] (fun la i wr => ∃ (k : Nat) (L : List Ep) (ls : Nat), k ≤ n ∧ i = .int .i64 k ∧ la = .int .i64 ls ∧ cu ≤ ls ∧ ls ≤ 103 ∧ EpAt (fun b => w.heap.size ≤ b ∧ b < wr.heap.size) wr g 3 L ∧ USort L ∧ (∀ x ∈ L, x.1 ≤ ls) ∧ L.length ≤ k + 1 ∧ Keep (fun _ => False) w wr) (fun _ i _ => n - (intOf i).toNat)
  case atStart => exact ⟨0, _, cu, Nat.zero_le _, rfl, rfl, Nat.le_refl _, by omega, HE.out, List.pairwise_singleton _ _, fun x hx => by simp at hx; subst hx; simp, by simp, HK.out⟩
  case round =>
    obtain ⟨k, L, ls, hk, rfl, rfl, hcl, hls, hE, hS, hla, hL, hkp⟩ := hrel
    by_cases hlt : k < n
    · have HS := hid (H0.out.keep hkp (fun _ _ => id))
      obtain ⟨d, hd⟩ : ∃ d, l[k]? = some d := by
        have : k < l.length := by rw [← HN.out]; exact hlt
        exact ⟨l[k], by simp [this]⟩
      obtain ⟨bl, ol, rfl, hbl, cs, hcs, hcell⟩ := HS.out.elem hd
      obtain ⟨rfl, g1, g2, g3⟩ := edeed_cells hcs
      have hsize : Rep.edeed.size = 4 := rfl
      rw [hsize] at hcell
      obtain ⟨do_, ds, dm, da⟩ := d
      simp only [edeedCs] at hcell g2 g3
      have d1 := hcell 1 _ rfl
      have d2 := hcell 2 _ rfl
      have d3 := hcell 3 _ rfl
      have HC := hid (fun w' (hk : Keep (fun b => w.heap.size ≤ b) wr w') => (⟨hk.cell d1 (show ¬ w.heap.size ≤ bl by omega), hk.cell d2 (show ¬ w.heap.size ≤ bl by omega), hk.cell d3 (show ¬ w.heap.size ≤ bl by omega)⟩ : w'.cell? ⟨bl, ol + k * 4 + 1, none⟩ = some (.int .i64 ds) ∧ w'.cell? ⟨bl, ol + k * 4 + 2, none⟩ = some (.int .i64 dm) ∧ w'.cell? ⟨bl, ol + k * 4 + 3, none⟩ = some (.bool da)))
      have HKP := hid hkp; have HLA := hid hla; have HSO := hid hS; have HEE := hid hE
      clear hcs hcell hsize hkp HS hd g1 hbl hla hS
      by_cases hs : ds ≤ 100
      · have hch := fun w' (hk : Keep (fun _ => False) wr w') => (changeB (hE.keepB hk) ds dm g2 g3 da (by omega)).mono (R' := fun e w'' => e = .returned (.int .i64 (chE 3 L ds dm da)) ∧ EpAt (fun b => w.heap.size ≤ b ∧ b < w''.heap.size) w'' g 3 (chL 3 L ds dm da) ∧ Keep (fun b => w.heap.size ≤ b) wr w'') (fun e w'' ⟨h1, h2, h3⟩ => ⟨h1, h2, (hk.mono (fun _ _ h => h.elim)).trans h3 (fun _ _ h => h)⟩)
        have HSC := hid (HSO.out.change hE.ok ds dm da)
        have hL2 := chL_len (al := 3) (L := L) ds dm da
        have kd : Keep (fun _ => False) wr wr.drew := (Keep.refl _ wr).drew
        obtain ⟨r, hr⟩ : ∃ r, r = chE 3 L ds dm da := ⟨_, rfl⟩
        rw [← hr] at hch
        have dle : decide (ds ≤ 100) = true := decide_eq_true hs
        have HR := hid hr
        clear hE d1 d2 d3 hr
        by_cases hr0 : r = 0
        · subst hr0
          have hz := chE_zero.1 HR.out.symm
          have hd0 : 0 ≤ ds := hz.1.1
          have hLe : chL 3 L ds dm da = L ++ [(ds + 3, chM (lastE L).2 dm da)] := by rw [chL, if_pos HR.out.symm]
          have HLE := hid hLe
          obtain ⟨dn, hdn⟩ : ∃ dn : Nat, ds = (dn : Int) := ⟨ds.toNat, by omega⟩
          subst hdn
          clear hz hLe hd0
          go_wp2_with fail
          go_region_held3 (fun w' => w'.cell? ⟨bl, ol + k * 4 + 1, none⟩ = some (.int .i64 (dn : Int)) ∧ w'.cell? ⟨bl, ol + k * 4 + 2, none⟩ = some (.int .i64 dm) ∧ w'.cell? ⟨bl, ol + k * 4 + 3, none⟩ = some (.bool da)) (first | exact HC.out _ (by assumption) | exact HC.out _ (Keep.mono (S := fun _ => False) (by assumption) (fun _ _ h => h.elim))) (first
            | (go_at_call 12; refine (hch _ (by assumption)).mono ?_; rintro e w5 ⟨rfl, hE5, k5⟩))
          have q1 := (HC.out _ k5).1
          have hmx : max ls (dn + 3) ≤ 103 := by omega
          have HE5 := hid hE5
          have K5 := hid k5
          clear hch hE5 k5
          go_wp2_with fail
          refine ⟨⟨k + 1, _, max ls (dn + 3), by omega, by simp, ?_, by omega, hmx, HE5.out, HSC.out, fun x hx => ?_, by omega, HKP.out.trans K5.out (fun b hb h => by omega)⟩, by simp [intOf]; omega⟩
          · rw [show ((max ls (dn + 3) : Nat) : Int) = max (ls : Int) ((dn : Int) + 3) by omega]
          · rw [HLE.out, List.mem_append, List.mem_singleton] at hx
            rcases hx with hx | rfl
            · have := HLA.out x hx; omega
            · simp only; omega
        · have hrd : (r == 0) = false := by simp [hr0]
          have hLe : chL 3 L ds dm da = L := by rw [chL, if_neg (by rw [← HR.out]; exact hr0)]
          rw [hLe] at hch hL2
          have HSC2 := HSC.out
          rw [hLe] at HSC2
          have HSD := hid HSC2
          clear hLe HSC2 hr0
          go_wp2_with fail
          go_region_held3 (fun w' => w'.cell? ⟨bl, ol + k * 4 + 1, none⟩ = some (.int .i64 ds) ∧ w'.cell? ⟨bl, ol + k * 4 + 2, none⟩ = some (.int .i64 dm) ∧ w'.cell? ⟨bl, ol + k * 4 + 3, none⟩ = some (.bool da)) (first | exact HC.out _ (by assumption) | exact HC.out _ (Keep.mono (S := fun _ => False) (by assumption) (fun _ _ h => h.elim))) (first
            | (go_at_call 12; refine (hch _ (by assumption)).mono ?_; rintro e w5 ⟨rfl, hE5, k5⟩))
          have HE5 := hid hE5
          have K5 := hid k5
          clear hch hE5 k5
          go_wp2_with fail
          exact ⟨⟨k + 1, _, ls, by omega, by simp, rfl, hcl, hls, HE5.out, HSD.out, HLA.out, by omega, HKP.out.trans K5.out (fun b hb h => by omega)⟩, by simp [intOf]; omega⟩
      · have dle : decide (ds ≤ 100) = false := decide_eq_false hs
        clear hE d2 d3
        go_wp2_with fail
        go_quiet (fail)
        go_wp2_with fail
        exact ⟨⟨k + 1, L, ls, by omega, by simp, rfl, hcl, hls, HEE.out.keepB ((Keep.refl _ wr).drewN _), HSO.out, HLA.out, by omega, HKP.out.drewN _⟩, by simp [intOf]; omega⟩
    · obtain rfl : k = n := by omega
      have hok := hE.ok
      have hcut := ecut_calls hE (cu : Int) (by omega)
      have hdl : (L.drop (atP L (cu : Int) L.length)).length ≤ L.length := by rw [List.length_drop]; omega
      have HSA := hid (fun x => seen_all hok.2.2.1 hS hla (show (cu : Int) ≤ (ls : Int) by omega) x)
      have HKP := hid hkp
      obtain ⟨L2, hL2⟩ : ∃ L2, L2 = L.drop (atP L (cu : Int) L.length) := ⟨_, rfl⟩
      rw [← hL2] at hcut hdl HSA
      obtain ⟨K, hK⟩ : ∃ K, K + cu = ls + 1 := ⟨ls + 1 - cu, by omega⟩
      rw [show (((ls : Int) - (cu : Int)).toNat + 1) = K by omega] at HSA
      clear hE hS hla hkp hok hlt hk hL2
      go_wp2_with fail
      refine hcut.mono ?_
      rintro e w3 ⟨rfl, hE3, k3⟩
      have hmay := hE3.ok.2.2.2
      have hun := union_in hE3 (fun k hk => hk.2) (by omega)
      rw [union_same (fun x hx => (hmay x hx).1)] at hun
      have HE3 := hid hE3
      have K3 := hid (HKP.out.trans k3 (fun b hb h => by omega))
      obtain ⟨U, hU⟩ : ∃ U, U = memL (inU L2) := ⟨_, rfl⟩
      rw [← hU] at hun
      have HU := hid hU
      have hUl : U.length ≤ 15 := by rw [hU]; exact memL_len _
      clear hcut hE3 k3 hmay hU
      go_wp2_with fail
      refine hun.mono ?_
      rintro e w4 ⟨A4, c4, rfl, hr4, k4⟩
      have HR4 := hid hr4
      have HE4 := hid (HE3.out.keepB k4)
      have K4 := hid (K3.out.trans k4 (fun _ _ h => h))
      have hs3 := K3.out.size
      have hs4 := k4.size
      have hmk := make15
      clear hun hr4 k4
      go_wp2_with fail
      have hib := heap_alloc_new w4 (boolO (fun _ => false))
      have ka := (Keep.refl (fun _ => False) w4).alloc (boolO (fun _ => false))
      generalize w4.alloc (boolO (fun _ => false)) = w5 at *
      generalize hibd : w4.heap.size = ib at *
      have HE5 := hid (HE4.out.keepF ka)
      have HR5 := hid (HR4.out.keep ka (fun _ _ => id))
      have K5 := hid (K4.out.trans ka (fun _ _ h => h))
      clear ka hmk
      go_loopw [11, 12, 13] (fun s _ _ wr => ∃ j : Nat, j ≤ K ∧ s = .int .i64 ((cu : Int) + (j : Int)) ∧ wr.heap[ib]? = some (boolO (seenE L2 (cu : Int) j)) ∧ Keep (fun b => b = ib) w5 wr) (fun s _ _ _ => cu + K - (intOf s).toNat)
      case atStart => exact ⟨0, Nat.zero_le _, by simp, hib, Keep.refl _ _⟩
      case round =>
        obtain ⟨j, hj, rfl, hbl, hkp⟩ := hrel
        by_cases hlt : j < K
        · have hat := eAt_calls (HE5.out.keep hkp (fun b q e => by omega)) ((cu : Int) + (j : Int)) (by omega)
          have hm := (HE5.out.ok.at ((cu : Int) + (j : Int))).1
          have hkw := hkp.size
          have hib5 := lt_heap hib
          obtain ⟨M, hM⟩ : ∃ M, M = (atE L2 ((cu : Int) + (j : Int))).2 := ⟨_, rfl⟩
          rw [← hM] at hat hm
          have hss : ∀ x, seenE L2 (cu : Int) (j + 1) x = (seenE L2 (cu : Int) j x || M.contains x) := fun x => by rw [seenE_succ, hM]
          have HSS := hid hss
          have HMM := hid hm
          have HBL := hid hbl
          have HKP := hid hkp
          obtain ⟨nM, hnM⟩ : ∃ nM, nM = M.length := ⟨_, rfl⟩
          have hn15 := hm.2.1
          rw [← hnM] at hat hn15
          have HNM := hid hnM
          clear hM hm hbl hkp hss hnM
          go_wp2_with fail
          refine hat.mono ?_
          rintro e w6 ⟨g6, c6, rfl, ho6, hg6, k6⟩
          have HR6 := hid (Row.ofOwn ho6)
          have HB6 := hid (k6.heap HBL.out id)
          have K6 := hid (HKP.out.trans k6 (fun _ _ h => h.elim))
          have hs6 := k6.size
          clear hat ho6 k6
          go_wp2_with fail
          go_loopw [13] (fun i wr2 => ∃ q : Nat, q ≤ nM ∧ i = .int .i64 q ∧ wr2.heap[ib]? = some (boolO (fun x => seenE L2 (cu : Int) j x || (M.take q).contains x)) ∧ Keep (fun b => b = ib) w6 wr2) (fun i _ => nM - (intOf i).toNat)
          case atStart => exact ⟨0, Nat.zero_le _, rfl, by rw [HB6.out]; simp, Keep.refl _ _⟩
          case round =>
            obtain ⟨q, hq, rfl, hb2, hkp2⟩ := hrel
            by_cases hlt2 : q < nM
            · obtain ⟨x, hx⟩ : ∃ x, M[q]? = some x := ⟨M[q]'(by rw [← HNM.out]; exact hlt2), by simp [show q < M.length by rw [← HNM.out]; exact hlt2]⟩
              have hx15 := HMM.out.mem (List.mem_of_getElem? hx)
              obtain ⟨xn, hxn⟩ : ∃ xn : Nat, x = (xn : Int) := ⟨x.toNat, by omega⟩
              subst hxn
              have hxl : xn < 15 := by omega
              obtain ⟨A', c', he, _, hnc, _, hrow⟩ := HR6.out.keep hkp2 (fun b e1 e2 => by simp [Value.ownBlock] at e1; omega)
              simp only [Value.slice.injEq, true_and] at he
              obtain ⟨rfl, rfl⟩ := he
              obtain ⟨b', off', hbo, _, _, hcell⟩ := hrow.resolve_left (by omega)
              simp only [Option.some.injEq, Addr.mk.injEq, and_true] at hbo
              obtain ⟨rfl, rfl⟩ := hbo
              have hcx : wr.cell? ⟨g6, q, none⟩ = some (.int .i64 (xn : Int)) := by have := hcell q (I64 (xn : Int)) (by rw [List.getElem?_map, hx]; rfl); simpa [I64] using this
              have hcb := cell_at hb2 xn _ (boolC_get _ hxl)
              have hfz := free_at hb2 xn
              have hnew := heap_set hb2 xn (.bool true)
              rw [boolC_set _ hxl] at hnew
              have hks := (hkp2.setCell ⟨ib, xn, none⟩ (.bool true) (fun _ => rfl))
              have hte : ∀ y, ((seenE L2 (cu : Int) j y || (M.take q).contains y) || y == (xn : Int)) = (seenE L2 (cu : Int) j y || (M.take (q + 1)).contains y) := fun y => by
                rw [List.take_add_one, hx, Bool.or_assoc]
                congr 1
                rw [Bool.eq_iff_iff]
                simp [List.mem_append]
              rw [boolC_congr hte] at hnew
              have HNEW := hid hnew; have HKS := hid hks
              clear hnew hks hte hx hrow hcell hnc hkp2 hb2
              go_wp2_with fail
              exact ⟨⟨q + 1, by omega, by simp, HNEW.out, HKS.out⟩, by simp [intOf]; omega⟩
            · obtain rfl : q = nM := by omega
              rw [List.take_of_length_le (by rw [← HNM.out]; exact Nat.le_refl _)] at hb2
              rw [boolO_congr (fun x => (HSS.out x).symm)] at hb2
              have HB2 := hid hb2; have HK2 := hid (K6.out.trans hkp2 (fun _ _ h => h))
              clear hb2 hkp2 hq hlt2
              go_wp2_with fail
              exact ⟨⟨j + 1, by omega, by simp only [Value.int.injEq, true_and]; omega, HB2.out, HK2.out⟩, by simp [intOf]; omega⟩
        · obtain rfl : j = K := by omega
          rw [boolO_congr HSA.out] at hbl
          obtain ⟨p, hp⟩ : ∃ p, p = inU L2 := ⟨_, rfl⟩
          rw [← hp] at hbl HU
          have HBL := hid hbl
          have HR7 := hid (HR5.out.keep hkp (fun b q e => by omega))
          have K7 := hid (K5.out.trans hkp (fun b hb e => by omega))
          obtain ⟨nU, hnU⟩ : ∃ nU, nU = U.length := ⟨_, rfl⟩
          rw [← hnU] at hUl HR7 ⊢
          have HNU := hid hnU
          clear hbl hkp hj hlt hp hnU hib
          have hd84 : decide ((cu : Int) + (j : Int) ≤ (ls : Int)) = false := decide_eq_false (by omega)
          go_wp2_with fail
          go_loopw [14, 15] (fun m i wr2 => ∃ q : Nat, q ≤ 15 ∧ i = .int .i64 q ∧ m = .int .i64 ((memK p q).length : Nat) ∧ wr2 = wr) (fun _ i _ => 15 - (intOf i).toNat)
          case atStart => exact ⟨0, by omega, rfl, rfl, rfl⟩
          case round =>
            obtain ⟨q, hq, rfl, rfl, rfl⟩ := hrel
            by_cases hlt2 : q < 15
            · have hcb := cell_at HBL.out q _ (boolC_get _ hlt2)
              have hsucc := memK_succ p q
              have hnth := memL_nth (p := p) hlt2
              cases hpq : p (q : Int) with
              | true =>
                have h1 := hnth hpq
                rw [← HU.out] at h1
                have h2 := (List.getElem?_eq_some_iff.1 h1).1
                rw [← HNU.out] at h2
                obtain ⟨N, hN⟩ : ∃ N, N = (memK p q).length := ⟨_, rfl⟩
                have hl2 : (memK p (q + 1)).length = N + 1 := by rw [hsucc, if_pos hpq, List.length_append, ← hN]; rfl
                rw [← hN] at h1 h2 ⊢
                obtain ⟨A', c', he, _, hnc, _, hrow⟩ := HR7.out
                simp only [Value.slice.injEq] at he
                obtain ⟨rfl, _, rfl⟩ := he
                obtain ⟨b', off', rfl, _, _, hcell⟩ := hrow.resolve_left (by omega)
                have hcx : wr.cell? ⟨b', off' + N, none⟩ = some (.int .i64 (q : Int)) := hcell N (I64 (q : Int)) (by rw [List.getElem?_map, h1]; rfl)
                rw [hpq] at hcb
                have HL2 := hid hl2
                clear hrow hcell hnc h1 hl2 hN hsucc hnth hpq
                go_wp2_with fail
                exact ⟨⟨q + 1, by omega, by simp, by rw [HL2.out]; simp, trivial⟩, by simp [intOf]; omega⟩
              | false =>
                rw [hpq] at hcb
                have hl2 : memK p (q + 1) = memK p q := by rw [hsucc, if_neg (by rw [hpq]; simp), List.append_nil]
                have HL2 := hid hl2
                clear hl2 hsucc hnth hpq
                go_wp2_with fail
                exact ⟨⟨q + 1, by omega, by simp, by rw [HL2.out], trivial⟩, by simp [intOf]; omega⟩
            · obtain rfl : q = 15 := by omega
              have hfin : (memK p 15).length = nU := by rw [memK_all, HNU.out, HU.out]
              rw [hfin]
              clear hfin
              go_wp2_with fail
              go_ret
              exact ⟨rfl, K7.out.below (Nat.le_refl _) (fun _ _ h => h)⟩
end Go.Proofs.Ytbkgobdpgokbaaa
