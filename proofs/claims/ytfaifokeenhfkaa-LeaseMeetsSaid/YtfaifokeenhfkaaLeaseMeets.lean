/- wapentakelaw18.LeaseMeets: the walk. -/
import Derived.Test.YtfaifokeenhfkaaMeetsPure
import Derived.Test.YtfaifokeenhfkaaLeaseB
namespace Go.Proofs.Ytfaifokeenhfkaa
open Go.RowKit
theorem and15i (x : Int) : ∃ s : Nat, s ≤ 15 ∧ bits .and .i64 x 15 = (s : Int) := by
  have h : (BitVec.ofInt 64 x &&& 15#64).toNat ≤ 15 := by rw [BitVec.toNat_and]; exact Nat.and_le_right
  have e : bits .and .i64 x 15 = IntKind.i64.wrap ((BitVec.ofInt 64 x &&& 15#64).toNat : Int) := rfl
  refine ⟨_, h, ?_⟩
  rw [e]
  generalize (BitVec.ofInt 64 x &&& 15#64).toNat = q at *
  simp [IntKind.wrap, IntKind.signed, IntKind.bits]
  omega
/-- A lease of the law, given by some of G. -/
def MS (G : List Int) (s : LeS) : Prop := s.len = 8 ∧ s.num = 1 ∧ s.den = 1 ∧ ∀ p ∈ s.given, p.1 ∈ G ∧ p.2 = 50
theorem MS.start (G : List Int) : MS G (s0 8 1 1) := ⟨rfl, rfl, rfl, fun p hp => by simp [s0] at hp⟩
theorem MS.give {G : List Int} {s : LeS} (h : MS G s) {x : Int} (hx : x ∈ G) : MS G (giveS s x 50) := by
  unfold giveS
  split
  · refine ⟨h.1, h.2.1, h.2.2.1, fun p hp => ?_⟩
    rcases mem_put hp with rfl | hp
    · exact ⟨hx, rfl⟩
    · exact h.2.2.2 p hp
  · exact h
theorem MS.fresh {G : List Int} {s : LeS} (h : MS G s) {now x : Int} (hx : x ∈ freshIds s now) : x ∈ G ∧ now - 50 < 8 := by
  rw [freshIds, List.mem_map] at hx
  obtain ⟨p, hp, rfl⟩ := hx
  obtain ⟨hp, hf⟩ := List.mem_filter.1 hp
  obtain ⟨h1, h2⟩ := h.2.2.2 p hp
  refine ⟨h1, ?_⟩
  simp only [freshB, shortP, h.1, h.2.1, h.2.2.1, h2] at hf
  simp at hf
  exact hf.2
theorem s0_free {b now : Int} (h : 0 ≤ now ∧ now ≤ 1099511627776) : freeB (s0 8 1 1) b now = true := by
  simp [freeB, s0, h.1, h.2]
theorem row_elem {F : Nat → Prop} {w : World} {v : Value} {l : List Int} (h : Row F w v l.length 1 (l.map I64)) (hwf : ∀ n ∈ l, (Lit.int .i64 n).wf = true) :
    ∃ A c, v = .slice A l.length c ∧ (0 < l.length → ∃ b off, A = some ⟨b, off, none⟩ ∧ ∀ j, j < l.length → w.cell? ⟨b, off + j, none⟩ = some (.int .i64 (l.getD j 0)) ∧ l.getD j 0 ∈ l ∧ okI (l.getD j 0)) := by
  obtain ⟨A, c, hv, hc⟩ := h.int'
  refine ⟨A, c, hv, fun h0 => ?_⟩
  obtain ⟨b, off, hA, _, hcc⟩ := hc h0
  refine ⟨b, off, hA, fun j hj => ?_⟩
  have hm : l.getD j 0 ∈ l := by simp [hj]
  exact ⟨hcc j hj, hm, okI.of (hwf _ hm)⟩
set_option maxRecDepth 20000 in
set_option maxHeartbeats 4000000 in
theorem leaseMeets_calls {w : World} {v0 v1 v2 : Value} {M G A : List Int} (h0 : Row (fun k => k < w.heap.size) w v0 M.length 1 (M.map I64)) (_hw0 : ∀ n ∈ M, (Lit.int .i64 n).wf = true) (h1 : Row (fun k => k < w.heap.size) w v1 G.length 1 (G.map I64)) (hw1 : ∀ n ∈ G, (Lit.int .i64 n).wf = true) (h2 : Row (fun k => k < w.heap.size) w v2 A.length 1 (A.map I64)) (hw2 : ∀ n ∈ A, (Lit.int .i64 n).wf = true) :
    Calls Try.prog 4 #[v0, v1, v2] w fun e w' => e = .returned (.bool true) ∧ Below w.heap.size w w' := by
  have T : SlT Try.prog 33 3 (.int .i64 0) 1 8 := SlT.mk' Try.underlying33 (by kernel_rfl) rfl (by decide)
  have H0 := hid h0; have H1 := hid h1
  have hmaxA : A.length ≤ 9223372036854775807 := by obtain ⟨_, _, _, _, q1, q2, _⟩ := h2; unfold maxLen at q2; omega
  have hmaxG : G.length ≤ 9223372036854775807 := by obtain ⟨_, _, _, _, q1, q2, _⟩ := h1; unfold maxLen at q2; omega
  obtain ⟨A0, c0, rfl, _⟩ := h0.int'
  obtain ⟨A1, c1, rfl, hcG⟩ := row_elem h1 hw1
  obtain ⟨A2, c2, rfl, hcA⟩ := row_elem h2 hw2
  obtain ⟨nM, hnM⟩ : ∃ nM, nM = M.length := ⟨_, rfl⟩
  obtain ⟨nG, hnG⟩ : ∃ nG, nG = G.length := ⟨_, rfl⟩
  obtain ⟨nA, hnA⟩ : ∃ nA, nA = A.length := ⟨_, rfl⟩
  rw [← hnG] at hcG hmaxG
  rw [← hnA] at hcA hmaxA
  rw [← hnM] at H0 ⊢
  rw [← hnG] at H1 ⊢
  rw [← hnA]
  have HCG := hid hcG; have HCA := hid hcA; have HNM := hid hnM; have HNG := hid hnG
  clear h0 h1 h2 hw1 hw2 hcG hcA hnM hnG hnA
  go_enter Try.func4, Try.ntmps4
  go_wp2_with fail
  refine (awake18_calls w).mono ?_
  rintro e w0 ⟨rfl, k0⟩
  have K0 := hid k0
  clear k0
  go_wp2_with fail
  go_loopw [7, 8] (fun z i wr => ∃ (k : Nat) (y : Int), k ≤ nA ∧ i = .int .i64 k ∧ z = .int .i64 y ∧ Keep (fun _ => False) w wr) (fun _ i _ => nA - (intOf i).toNat)
  case atStart => exact ⟨0, 0, Nat.zero_le _, rfl, rfl, K0.out⟩
  case round =>
    obtain ⟨k, y, hk, rfl, rfl, hkp⟩ := hrel
    have HKP := hid hkp
    clear hkp
    by_cases hlt : k < nA
    · obtain ⟨b, off, rfl, hcc⟩ := HCA.out (by omega)
      have hcell := HKP.out.cell (hcc k hlt).1 id
      clear hcc
      by_cases h100 : k < 100
      · go_wp2_with fail
        exact ⟨⟨k + 1, _, by omega, by simp, rfl, HKP.out⟩, by simp [intOf]; omega⟩
      · have hm := may_calls (H0.out.keep HKP.out (fun _ _ => id) |> fun h => by rw [HNM.out] at h; exact h)
        rw [← HNM.out] at hm
        go_wp2_with fail
        refine hm.mono ?_
        rintro e w2 ⟨bm, rfl, _, k2⟩
        have K2 := hid k2
        clear k2 hm
        have hbig : 100 < nA := by omega
        by_cases hG : 100 < nG
        · cases bm <;> (
            go_wp2_with fail
            go_ret
            exact ⟨rfl, (HKP.out.trans K2.out (fun _ _ h => h)).below (Nat.le_refl _) (fun _ _ h => h)⟩)
        · cases bm <;> (
            go_wp2_with fail
            go_ret
            exact ⟨rfl, (HKP.out.trans K2.out (fun _ _ h => h)).below (Nat.le_refl _) (fun _ _ h => h)⟩)
    · have hm := may_calls (H0.out.keep HKP.out (fun _ _ => id) |> fun h => by rw [HNM.out] at h; exact h)
      rw [← HNM.out] at hm
      go_wp2_with fail
      refine hm.mono ?_
      rintro e w2 ⟨bm, rfl, hgood, k2⟩
      have K2 := hid (HKP.out.trans k2 (fun _ _ h => h))
      have HGOOD := hid hgood
      clear k2 hm hgood
      cases bm
      case false =>
        go_wp2_with fail
        go_ret
        exact ⟨rfl, K2.out.below (Nat.le_refl _) (fun _ _ h => h)⟩
      by_cases hG : 100 < nG
      · go_wp2_with fail
        go_ret
        exact ⟨rfl, K2.out.below (Nat.le_refl _) (fun _ _ h => h)⟩
      by_cases hA : 100 < nA
      · go_wp2_with fail
        go_ret
        exact ⟨rfl, K2.out.below (Nat.le_refl _) (fun _ _ h => h)⟩
      obtain ⟨d, hd15, hd⟩ := and15i y
      go_wp2_with fail
      refine (mk_calls (B := w.heap.size) K2.out.size (by decide : newOk 8 1 1)).mono ?_
      rintro e w3 ⟨g, rfl, hl3, k3⟩
      have HL3 := hid hl3
      have K3 := hid (K2.out.trans k3 (fun _ _ h => h))
      clear hl3 k3
      have hd50 : wrap64 (50 + (d : Int)) = 50 + (d : Int) := by unfold wrap64; omega
      have HD50 := hid hd50
      clear hd50
      go_wp2_with fail
      go_loopw [11] (fun i wr => ∃ (k : Nat) (s : LeS), k ≤ nG ∧ i = .int .i64 k ∧ LeAt (fun k => w.heap.size ≤ k) wr g s ∧ MS G s ∧ Keep (fun _ => False) w wr) (fun i _ => nG - (intOf i).toNat)
      case atStart => exact ⟨0, s0 8 1 1, Nat.zero_le _, rfl, HL3.out, MS.start G, K3.out⟩
      case round =>
        obtain ⟨k2, s, hk2, rfl, hle, hms, hkp⟩ := hrel
        have HKP2 := hid hkp; have HMS := hid hms; have HLE := hid hle
        clear hkp hms hle
        by_cases hlt2 : k2 < nG
        · obtain ⟨b, off, rfl, hcc⟩ := HCG.out (by omega)
          have hcell := HKP2.out.cell (hcc k2 hlt2).1 id
          have hmem := (hcc k2 hlt2).2.1
          have hok := (hcc k2 hlt2).2.2
          obtain ⟨x, hx⟩ : ∃ x, x = G.getD k2 0 := ⟨_, rfl⟩
          rw [← hx] at hcell hmem hok
          have hgv := give_calls HLE.out x 50 hok
          obtain ⟨gb, hgb⟩ : ∃ gb, gb = giveB s x 50 := ⟨_, rfl⟩
          rw [← hgb] at hgv
          have HMEM := hid hmem
          clear hcc hx hgb hmem hok
          go_wp2_with fail
          refine hgv.mono ?_
          rintro e w5 ⟨rfl, hl5, k5⟩
          have HL5 := hid hl5
          have HK5 := hid (HKP2.out.trans k5 (S := fun _ => False) (fun b hb h => by omega))
          clear hgv hl5 k5
          go_wp2_with fail
          exact ⟨⟨k2 + 1, _, by omega, by simp, HL5.out, HMS.out.give HMEM.out, HK5.out⟩, by simp [intOf]; omega⟩
        · have hgood := HGOOD.out trivial
          have hh := holds_calls HLE.out (now := 50 + (d : Int)) ⟨by omega, by omega⟩ (H0.out.keep HKP2.out (fun _ _ => id) |> fun h => by rw [HNM.out] at h; exact h) hgood.1 (by have := hgood.2.1; omega)
          rw [← HNM.out] at hh
          have HG2 := hid hgood
          clear hgood
          go_wp2_with fail
          refine hh.mono ?_
          rintro e w6 ⟨rfl, k6⟩
          have K6 := hid (HKP2.out.trans k6 (fun _ _ h => h))
          clear hh k6
          cases hb : holdsB s (50 + (d : Int)) M
          · clear hb
            go_wp2_with fail
            go_ret
            exact ⟨rfl, K6.out.below (Nat.le_refl _) (fun _ _ h => h)⟩
          · have hfr : ∀ x ∈ freshIds s (50 + (d : Int)), x ∈ G := fun x hx => (HMS.out.fresh hx).1
            have hd8 : (d : Int) < 8 := by
              obtain ⟨x, hx⟩ := most_some hb
              have := (HMS.out.fresh hx).2
              omega
            have HB := hid hb
            have HFR := hid hfr
            clear hb hfr
            go_wp2_with fail
            go_loopw [12, 13] (fun u i wr => ∃ (k : Nat) (ids : List Int), k ≤ nA ∧ i = .int .i64 k ∧ wr.ownsRow 0 3 1 u ids.length (ids.map I64) ∧ ids.length ≤ k ∧ (∀ b, u.ownBlock = some b → w.heap.size ≤ b) ∧ (∀ x ∈ ids, x ∉ G) ∧ Keep (fun _ => False) w wr) (fun _ i _ => nA - (intOf i).toNat)
            case atStart => exact ⟨0, [], Nat.zero_le _, rfl, by simpa using World.ownsRow_nil _ _ _ _, Nat.zero_le _, fun b hb => by simp [Value.ownBlock] at hb, fun x hx => by simp at hx, K6.out⟩
            case round =>
              obtain ⟨k3, ids, hk3, rfl, ho, hil, hnb, hni, hkp⟩ := hrel
              have HKP3 := hid hkp; have HO := hid ho; have HNB := hid hnb; have HNI := hid hni
              clear hkp ho hnb hni
              by_cases hlt3 : k3 < nA
              · obtain ⟨b, off, rfl, hcc⟩ := HCA.out (by omega)
                have hcell0 := (hcc k3 hlt3).1
                obtain ⟨x, hx⟩ : ∃ x, x = A.getD k3 0 := ⟨_, rfl⟩
                rw [← hx] at hcell0
                have HC0 := hid hcell0
                clear hcc hx hcell0
                go_wp2_with fail
                refine (mk_calls (B := wr.heap.size) (Nat.le_refl _) (by decide : newOk 8 1 1)).mono ?_
                rintro e w7 ⟨f, rfl, hl7, k7⟩
                have hf7 : wr.heap.size ≤ f := by obtain ⟨m, q1, q2, q3, q4⟩ := hl7; exact q3
                have ho7 := k7.owns HO.out (fun _ _ => id)
                have hk7 := HKP3.out.trans k7 (fun _ _ h => h)
                have hcell := hk7.cell HC0.out id
                have hhas := has_calls (H1.out.keep hk7 (fun _ _ => id) |> fun h => by rw [HNG.out] at h; exact h) x
                rw [← HNG.out] at hhas
                have HO7 := hid ho7; have HK7 := hid hk7; have HL7 := hid hl7
                clear k7 ho7 hk7 hl7
                by_cases hxG : x ∈ G
                · rw [decide_eq_true hxG] at hhas
                  have hbd := bind_calls HL7.out 16 50
                  rw [y_bind (by omega) (by omega)] at hbd
                  clear hxG
                  go_wp2_with fail
                  refine hhas.mono ?_
                  rintro e w' ⟨rfl, rfl⟩
                  clear hhas hcell
                  go_wp2_with fail
                  refine hbd.mono ?_
                  rintro e w8 ⟨rfl, hl8, k8⟩
                  have hown : ∀ q, (u12 : Value).ownBlock = some q → ¬ q = f := fun q hq e => by have := own_lt' HO.out q hq; omega
                  have ho8 := k8.owns HO7.out hown
                  have hws := HKP3.out.size
                  have hk8 := HK7.out.trans k8 (S := fun _ => False) (fun b hb h => by omega)
                  have hfree := free_calls hl8 32 (50 + (d : Int))
                  rw [y_free (by omega)] at hfree
                  have HO8 := hid ho8; have HK8 := hid hk8
                  clear hbd ho8 hk8 k8 hown hl8
                  go_wp2_with fail
                  refine hfree.mono ?_
                  rintro e w' ⟨rfl, rfl⟩
                  go_wp2_with fail
                  exact ⟨⟨k3 + 1, ids, by omega, by simp, HO8.out, by omega, HNB.out, HNI.out, HK8.out⟩, by simp [intOf]; omega⟩
                · rw [decide_eq_false hxG] at hhas
                  have hfree := free_calls HL7.out 32 (50 + (d : Int))
                  rw [s0_free (by omega)] at hfree
                  have HXG := hid hxG
                  clear hxG
                  go_wp2_with fail
                  refine hhas.mono ?_
                  rintro e w' ⟨rfl, rfl⟩
                  clear hhas
                  go_wp2_with fail
                  refine hfree.mono ?_
                  rintro e w' ⟨rfl, rfl⟩
                  clear hfree
                  have ho7 := HO7.out
                  go_wp2_with (at_builtin; refine stopHere ?_)
                  refine goOn (wpl_app (v := u12) rfl rfl T rfl (ownsAlloc ho7 _) rfl (Row.one w7 _ _) (by simp [Value.oneCell']) (by omega) (by omega) ?_)
                  intro A4 c4 w9 ho9 hk9 hn9
                  go_wp2
                  have hws := HKP3.out.size
                  have hws7 := HK7.out.size
                  refine ⟨⟨k3 + 1, ids ++ [x], by omega, by simp, by simpa using ho9, by simp; omega, fun q hq => ?_, fun z hz => ?_, ?_⟩, by simp [intOf]; omega⟩
                  · rcases hn9 q (by simpa using hq) with r | r
                    · exact HNB.out q r
                    · have : w7.heap.size + 1 ≤ q := by simpa using r
                      omega
                  · rcases List.mem_append.1 hz with hz | hz
                    · exact HNI.out z hz
                    · rw [List.mem_singleton] at hz
                      rw [hz]; exact HXG.out
                  · exact (HK7.out.alloc _).trans hk9 (fun b hb e => by have := HNB.out b e.symm; omega)
              · have hmost := rmost_calls (M := M) (H0.out.keep HKP3.out (fun _ _ => id) |> fun h => by rw [HNM.out] at h; exact h) (by have := HG2.out.2.1; omega) (Row.ofOwn HO.out)
                rw [meets HG2.out HB.out (fun x hx hi => HNI.out x hi (HFR.out x hx)), ← HNM.out] at hmost
                go_wp2_with fail
                refine hmost.mono ?_
                rintro e w7 ⟨rfl, k7⟩
                have K7 := hid (HKP3.out.trans k7 (fun _ _ h => h))
                clear k7 hmost
                go_wp2_with fail
                go_ret
                exact ⟨rfl, K7.out.below (Nat.le_refl _) (fun _ _ h => h)⟩
end Go.Proofs.Ytfaifokeenhfkaa
