/- entry's reader of requests: taken. -/
import Derived.Test.YtdijafolldneeaaEntRPure
import Derived.Test.YtdijafolldneeaaRd2
import Derived.Test.YtdijafolldneeaaBlk
import Derived.Test.YtdijafolldneeaaSlc
namespace Go.Proofs.Ytdijafolldneeaa
open Go.RowKit
theorem T_Ch : SlT Try.prog 27 57 (.agg #[.string ByteArray.empty, .bool false, .int .u64 0]) 3 32 := SlT.mk' Try.underlying27 (by kernel_rfl) rfl (by decide)
theorem change_mk {w : World} {F : Nat → Prop} {c : Change} (h : c.digest ≤ 18446744073709551615) : Rep.change.cells w F c [.string c.path, .bool c.gone, .int .u64 c.digest] := ⟨_, _, rfl, rfl, _, _, rfl, rfl, ⟨rfl, h⟩⟩
theorem bigNum_lt8 (l : List UInt8) (h : l.length ≤ 8) : bigNum l ≤ 18446744073709551615 := by
  have h1 := bigNum_lt l
  have h2 : 256 ^ l.length ≤ 256 ^ 8 := Nat.pow_le_pow_right (by decide) h
  have h3 : (256 : Nat) ^ 8 = 18446744073709551616 := by decide
  omega
theorem rWord_le (s : RS) : (rWord s).1 ≤ 18446744073709551615 := by
  unfold rWord rDo decWord
  split
  · simp
  · split
    · simp
    · rename_i h
      split at h
      · simp only [Sum.inr.injEq, Prod.mk.injEq] at h
        rw [← h.1]
        exact bigNum_lt8 _ (by rw [List.length_take]; omega)
      · cases h
theorem rChange_d (s : RS) : (rChange s).1.digest ≤ 18446744073709551615 := by
  unfold rChange
  simp only
  split
  · exact rWord_le _
  · simp
section
variable {F : Nat → Prop} {w : World} {g : Nat} {s : RS}
def TakenPost (F : Nat → Prop) (w : World) (g : Nat) (s : RS) (e : Ending) (w' : World) : Prop :=
  ∃ A c, e = .returned (.slice A (rTaken s).1.length c) ∧ Sl .change w' (NewIn w w') (.slice A (rTaken s).1.length c) (rTaken s).1 ∧ RdAt F w' g (rTaken s).2 ∧ Keep (fun k => k = g) w w'
theorem TakenPost.of {w' : World} {A : Option Addr} {k c : Nat} {l : List Change} {cs : List Value} {s' : RS} (hg : GrownP .change 57 w.heap.size w' (.slice A k c) k l cs) (hl : (rTaken s).1 = l) (hs : (rTaken s).2 = s') (hr : RdAt F w' g s') (hk : Keep (fun k => k = g) w w') :
    TakenPost F w g s (.returned (.slice A k c)) w' := by
  have h1 := hg.sl
  have h2 := hg.2.2.1
  subst h2
  subst hl
  exact ⟨A, c, rfl, h1, by rw [hs]; exact hr, hk⟩
theorem rStop_f {s : RS} {e : Int} (he : e ≠ 0) : (rStop s e).f ≠ 0 := by unfold rStop; split <;> simp_all
set_option maxRecDepth 20000 in
set_option maxHeartbeats 8000000 in
theorem taken_calls (h : RdAt F w g s) (hF : ∀ k, F k → k < w.heap.size) (hl : s.b.length ≤ 140737488355328) : Calls Try.prog 96 #[.pointer (some ⟨g, 0, none⟩)] w (TakenPost F w g s) := by
  have hgF : F g := by obtain ⟨_, _, _, q⟩ := h; exact q
  have hgl := hF g hgF
  have hb1 := rNum_b s
  have hnl := rNum_le s
  have HF := hid hF
  go_enter Try.func96, Try.ntmps96
  go_wp2_with fail
  refine (rnum_calls h hF).mono ?_
  rintro e w1 ⟨v1, rfl, rfl, h1, k1⟩
  have HTT := hid (show rTaken s = rChanges (rNum s).1 (if 64 < (rNum s).1 then rStop (rNum s).2 4 else (rNum s).2) from rfl)
  obtain ⟨N, hN⟩ : ∃ N, N = (rNum s).1 := ⟨_, rfl⟩
  rw [← hN] at HTT hnl ⊢
  generalize (rNum s).2 = s1 at *
  have H1 := hid h1; have K1 := hid k1
  have hz1 := k1.size
  clear h1 k1 hN h hF
  by_cases hbig : 64 < N
  · have htt := HTT.out
    rw [if_pos hbig, rChanges_f _ (rStop_f (by decide))] at htt
    have HT1 := hid (congrArg Prod.fst htt); have HT2 := hid (congrArg Prod.snd htt)
    have hne := rStop_f (s := s1) (e := 4) (by decide)
    clear htt HTT
    go_wp2_with fail
    refine (rrefuse_calls H1.out).mono ?_
    rintro e w2 ⟨v2, rfl, rfl, h2, k2⟩
    have hfl := fail_calls h2
    generalize rStop s1 4 = s2 at *
    have H2 := hid h2; have K2 := hid (K1.out.trans k2 (fun _ _ e => e))
    have hfe : (s2.f == 0) = false := by simpa using hne
    have HFL := hid hfl
    have hN0 : (0 : Int) < (N : Int) := by omega
    clear h2 k2 hne hfl
    go_wp2_with fail
    go_loopw [4, 5] (fun o i wr => o = .slice none 0 0 ∧ i = .int .i64 0 ∧ w2 = wr) (fun _ _ _ => 0)
    case atStart => exact ⟨rfl, rfl, rfl⟩
    case round =>
      obtain ⟨rfl, rfl, rfl⟩ := hrel
      go_wp2_with fail
      refine HFL.out.mono ?_
      rintro e w' ⟨rfl, rfl⟩
      go_wp2_with fail
      go_ret
      exact TakenPost.of GrownP.nil HT1.out HT2.out H2.out K2.out
  · have htt := HTT.out
    rw [if_neg hbig] at htt
    have HTT := hid htt
    clear htt
    go_wp2_with fail
    go_loopw [4, 5] (fun o i wr => ∃ (j : Nat) (A : Option Addr) (c : Nat) (l : List Change) (cs : List Value) (sj : RS), j ≤ N ∧ i = .int .i64 j ∧ o = .slice A j c ∧ GrownP .change 57 w.heap.size wr (.slice A j c) j l cs ∧
      rTaken s = (l ++ (rChanges (N - j) sj).1, (rChanges (N - j) sj).2) ∧ RdAt F wr g sj ∧ Keep (fun k => k = g) w wr ∧ sj.b.length ≤ s.b.length) (fun _ i _ => N - (intOf i).toNat)
    case atStart => exact ⟨0, none, 0, [], [], s1, Nat.zero_le _, rfl, rfl, GrownP.nil, by rw [HTT.out]; rfl, H1.out, K1.out, hb1⟩
    case round =>
      obtain ⟨j, A, c, l, cs, sj, hj, rfl, rfl, hgp, htj, hR, hkp, hbj⟩ := hrel
      have hzr := hkp.size
      have hFr : ∀ k, F k → k < wr.heap.size := fun k hk => by have := HF.out k hk; omega
      have hfl := fail_calls hR
      have HGP := hid hgp; have HTJ := hid htj; have HR := hid hR; have HKP := hid hkp; have HFR := hid hFr; have HFL := hid hfl
      clear hgp htj hR hkp hFr hfl
      by_cases hlt : j < N
      · have hd : decide ((j : Int) < (N : Int)) = true := decide_eq_true (by omega)
        have hN1 : N - j = (N - (j + 1)) + 1 := by omega
        have HN1 := hid hN1
        clear hN1
        by_cases hf : sj.f = 0
        · have hfe : (sj.f == 0) = true := by simpa using hf
          have htj := HTJ.out
          rw [HN1.out, rChanges, if_neg (by simpa using hf)] at htj
          simp only at htj
          rw [List.append_cons] at htj
          have hrc : rChange sj = if (rFlag (rText sj).2).1 = false then (⟨(rText sj).1, (rFlag (rText sj).2).1, (rWord (rFlag (rText sj).2).2).1⟩, (rWord (rFlag (rText sj).2).2).2) else (⟨(rText sj).1, (rFlag (rText sj).2).1, 0⟩, (rFlag (rText sj).2).2) := rfl
          have htx : rText sj = (ba (rBytes sj 255).1, (rBytes sj 255).2) := rfl
          have hcb := rChange_b sj
          have hcd := rChange_d sj
          have HRC := hid hrc; have HTJ := hid htj; have HTX := hid htx; have HF0 := hid hf; have HCD := hid hcd
          clear hrc htj htx hf hcd
          have htc := rtext_calls HR.out HFR.out 255 (by omega)
          go_wp2_with fail
          refine HFL.out.mono ?_
          rintro e w' ⟨rfl, rfl⟩
          go_wp2_with fail
          refine htc.mono ?_
          rintro e w3 ⟨v3, rfl, rfl, h3, k3⟩
          obtain ⟨p, hp⟩ : ∃ p : ByteArray, p = ⟨(rBytes sj 255).1.toArray⟩ := ⟨_, rfl⟩
          have HP := hid (show (rText sj).1 = p by rw [hp]; rfl)
          rw [← hp]
          have HS3 := hid (show (rText sj).2 = (rBytes sj 255).2 from rfl)
          generalize (rBytes sj 255).2 = s3 at *
          have H3 := hid h3; have K3 := hid k3
          have hz3 := k3.size
          clear h3 k3 htc hp
          go_wp2_with fail
          refine (rflag_calls H3.out (fun k hk => by have := HFR.out k hk; omega)).mono ?_
          rintro e w4 ⟨v4, rfl, rfl, h4, k4⟩
          have hrc := HRC.out
          rw [HP.out, HS3.out] at hrc
          obtain ⟨gn, hgn⟩ : ∃ gn, gn = (rFlag s3).1 := ⟨_, rfl⟩
          rw [← hgn] at hrc ⊢
          generalize (rFlag s3).2 = s4 at *
          have HRC2 := hid hrc
          have H4 := hid h4; have K4 := hid k4
          have hz4 := k4.size
          clear h4 k4 hgn hrc
          cases gn
          · have hrc := HRC2.out
            rw [if_pos rfl] at hrc
            have HRC2 := hid hrc
            clear hrc
            go_wp2_with (first
              | (refine wpl_build rfl rfl #[.string p, .bool false, .int .u64 0] (by kernel_rfl) ?_)
              | (refine wpl_allocB (z := .agg #[.string ByteArray.empty, .bool false, .int .u64 0]) rfl rfl (by kernel_rfl) ?_; intro g5 w5 hg5 hb5 k5 s5; have HG5 := hid hg5; have K5 := hid k5; clear hg5 k5 s5)
              | (refine wpl_storeB (v := .agg #[.string p, .bool false, .int .u64 0]) rfl rfl rfl rfl hb5 (by kernel_rfl) (Nat.le_refl 3) (by simp [Value.oneCell', Value.cells]) ?_; intro w6 hb6 k6 s6; rw [show spl (Value.agg #[.string ByteArray.empty, .bool false, .int .u64 0]).cells 0 (Value.agg #[.string p, .bool false, .int .u64 0]).cells.toList = #[.string p, .bool false, .int .u64 0] from spl_whole _ _ (Nat.le_refl 3)] at hb6; have K6 := hid k6; have HB6 := hid hb6; have e1 := cell_at hb6 1 (.bool false) rfl; clear k6 s6 hb5))
            have kr56 : Keep (fun _ => False) w4 w6 := K5.out.trans K6.out (fun b hb e => by have := HG5.out; omega)
            have H6 := hid (H4.out.keep kr56 (fun _ _ => id))
            have hz6 := kr56.size
            clear kr56 e1
            refine (rword_calls H6.out (fun k hk => by have := HFR.out k hk; omega)).mono ?_
            rintro e w7 ⟨v7, rfl, rfl, h7, k7⟩
            have hrc := HRC2.out
            obtain ⟨D, hD⟩ : ∃ D, D = (rWord s4).1 := ⟨_, rfl⟩
            rw [← hD] at hrc ⊢
            generalize (rWord s4).2 = s7 at *
            have hb7 := k7.heap HB6.out (fun e => by have e : g5 = g := e; have := HG5.out; omega)
            have HRC2 := hid hrc; have H7 := hid h7; have K7 := hid k7
            clear hrc hD h7 k7
            go_wp2_with (first
              | (refine wpl_storeB (o := 2) (v := .int .u64 D) rfl rfl rfl rfl hb7 (by kernel_rfl) (Nat.le_refl 3) (by simp [Value.oneCell', Value.cells]) ?_; intro w8 hb8 k8 s8; rw [show spl #[.string p, .bool false, .int .u64 0] 2 (Value.int .u64 D).cells.toList = #[.string p, .bool false, .int .u64 D] from rfl] at hb8; have K8 := hid k8; clear k8 s8 hb7)
              | (refine wpl_loadA (ty := 57) (o := 0) (n := 3) rfl rfl rfl hb8 (by kernel_rfl) (by kernel_rfl) [.string p, .bool false, .int .u64 D] rfl rfl ?_)
              | (refine wpl_sliceOne (v := .agg #[.string p, .bool false, .int .u64 D]) (z := .agg #[.string ByteArray.empty, .bool false, .int .u64 0]) rfl rfl Try.underlying27 (n := 3) (by kernel_rfl) (by decide) (by decide) rfl (by simp [Value.cells]) ?_; intro g12 w12 hg12 hb12 k12 s12; have HG12 := hid hg12; have HB12 := hid hb12; have K12 := hid k12; clear hg12 hb12 k12 s12)
              | (at_builtin; refine stopHere ?_))
            have K78 := hid ((K7.out.mono (T := fun k => k = g ∨ k = g5) (fun _ _ e => .inl e)).trans K8.out (fun _ _ e => .inr e))
            have RMM := hid (H7.out.keep K8.out (fun b hb e => by have e : b = g5 := e; have := HG5.out; have := HF.out b hb; omega))
            have krm : Keep (fun k => k = g ∨ k = g5) wr w8 := ((((K3.out.trans K4.out (fun _ _ e => e)).mono (T := fun k => k = g ∨ k = g5) (fun _ _ e => .inl e)).trans K5.out (fun _ _ f => f.elim)).trans K6.out (fun _ _ e => .inr e)).trans K78.out (fun _ _ e => e)
            have KR2 := hid krm
            have KRM := hid (krm.mono (T := fun k => k = g ∨ k = g5 ∨ some k = (Value.slice A j c).ownBlock) (fun _ _ e => e.elim .inl (fun e => .inr (.inl e))))
            clear krm
            have hjc : j ≤ 64 := by omega
            have hrow1 : Row (fun q => q = g12) w12 (.slice (some ⟨g12, 0, none⟩) 1 1) 1 3 [.string p, .bool false, .int .u64 D] := ⟨_, _, rfl, rfl, Nat.le_refl _, by decide, .inr ⟨g12, 0, rfl, rfl, lt_heap HB12.out, fun j u hu => cell_at HB12.out _ u (by rw [Nat.zero_add]; simpa [Value.cells] using hu)⟩⟩
            have hgpm : GrownP .change 57 w.heap.size w8 (.slice A j c) j l cs := HGP.out.keep KR2.out (fun b hb hb2 e => by have := HG5.out; rcases e with e | e <;> omega)
            refine goOn (wpl_app (v := .slice A j c) rfl rfl T_Ch rfl (K12.out.owns hgpm.1 (fun _ _ => id)) rfl hrow1 (by simp [Value.oneCell']) (by omega) (by omega) ?_)
            intro A13 c13 w13 ho13 hk13 hn13
            obtain ⟨hg13, k13⟩ := GrownP.more (r := .change) (x := ⟨p, false, D⟩) hgpm (by have := KRM.out.size; omega) (Keep.refl _ _) (change_mk (c := ⟨p, false, D⟩) (by have := HCD.out; rw [HRC2.out] at this; exact this)) K12.out ho13 hk13 hn13
            have hnb := hgpm.2.2.2
            have HG13 := hid hg13
            have HKF := hid (HKP.out.trans (KRM.out.trans k13 (S := fun k => k = g ∨ k = g5 ∨ some k = (Value.slice A j c).ownBlock) (fun b hb e => .inr (.inr e)) : Keep (fun k => k = g ∨ k = g5 ∨ some k = (Value.slice A j c).ownBlock) wr w13) (S := fun k => k = g) (fun b hb e => by
              rcases e with e | e | e
              · exact e
              · have := HG5.out; omega
              · have := hnb b e.symm; omega))
            have HRF := hid (RMM.out.keep k13 (fun b hb e => by have := hnb b e.symm; have := HF.out b hb; omega))
            have hbe : s7.b.length ≤ s.b.length := by rw [HRC2.out] at hcb; exact Nat.le_trans hcb hbj
            have htj := HTJ.out
            rw [HRC2.out] at htj
            have HTJ2 := hid htj
            clear ho13 hk13 hn13 hg13 k13 hgpm hrow1 hnb htj
            go_wp2_with fail
            exact ⟨⟨j + 1, A13, c13, _, _, _, by omega, by simp, rfl, HG13.out, HTJ2.out, HRF.out, HKF.out, hbe⟩, by simp [intOf]; omega⟩
          · have hrc := HRC2.out
            rw [if_neg (by decide)] at hrc
            have HRC2 := hid hrc
            clear hrc
            go_wp2_with (first
              | (refine wpl_build rfl rfl #[.string p, .bool true, .int .u64 0] (by kernel_rfl) ?_)
              | (refine wpl_allocB (z := .agg #[.string ByteArray.empty, .bool false, .int .u64 0]) rfl rfl (by kernel_rfl) ?_; intro g5 w5 hg5 hb5 k5 s5; have HG5 := hid hg5; have K5 := hid k5; clear hg5 k5 s5)
              | (refine wpl_storeB (v := .agg #[.string p, .bool true, .int .u64 0]) rfl rfl rfl rfl hb5 (by kernel_rfl) (Nat.le_refl 3) (by simp [Value.oneCell', Value.cells]) ?_; intro w6 hb6 k6 s6; rw [show spl (Value.agg #[.string ByteArray.empty, .bool false, .int .u64 0]).cells 0 (Value.agg #[.string p, .bool true, .int .u64 0]).cells.toList = #[.string p, .bool true, .int .u64 0] from spl_whole _ _ (Nat.le_refl 3)] at hb6; have K6 := hid k6; have HB6 := hid hb6; have e1 := cell_at hb6 1 (.bool true) rfl; clear k6 s6 hb5)
              | (refine wpl_loadA (ty := 57) (o := 0) (n := 3) rfl rfl rfl hb6 (by kernel_rfl) (by kernel_rfl) [.string p, .bool true, .int .u64 0] rfl rfl ?_)
              | (refine wpl_sliceOne (v := .agg #[.string p, .bool true, .int .u64 0]) (z := .agg #[.string ByteArray.empty, .bool false, .int .u64 0]) rfl rfl Try.underlying27 (n := 3) (by kernel_rfl) (by decide) (by decide) rfl (by simp [Value.cells]) ?_; intro g12 w12 hg12 hb12 k12 s12; have HG12 := hid hg12; have HB12 := hid hb12; have K12 := hid k12; clear hg12 hb12 k12 s12)
              | (at_builtin; refine stopHere ?_))
            have kr56 : Keep (fun _ => False) w4 w6 := K5.out.trans K6.out (fun b hb e => by have := HG5.out; omega)
            have RMM := hid (H4.out.keep kr56 (fun _ _ => id))
            clear kr56
            have krm : Keep (fun k => k = g ∨ k = g5) wr w6 := (((K3.out.trans K4.out (fun _ _ e => e)).mono (T := fun k => k = g ∨ k = g5) (fun _ _ e => .inl e)).trans K5.out (fun _ _ f => f.elim)).trans K6.out (fun _ _ e => .inr e)
            have KR2 := hid krm
            have KRM := hid (krm.mono (T := fun k => k = g ∨ k = g5 ∨ some k = (Value.slice A j c).ownBlock) (fun _ _ e => e.elim .inl (fun e => .inr (.inl e))))
            clear krm
            have hjc : j ≤ 64 := by omega
            have hrow1 : Row (fun q => q = g12) w12 (.slice (some ⟨g12, 0, none⟩) 1 1) 1 3 [.string p, .bool true, .int .u64 0] := ⟨_, _, rfl, rfl, Nat.le_refl _, by decide, .inr ⟨g12, 0, rfl, rfl, lt_heap HB12.out, fun j u hu => cell_at HB12.out _ u (by rw [Nat.zero_add]; simpa [Value.cells] using hu)⟩⟩
            have hgpm : GrownP .change 57 w.heap.size w6 (.slice A j c) j l cs := HGP.out.keep KR2.out (fun b hb hb2 e => by have := HG5.out; rcases e with e | e <;> omega)
            refine goOn (wpl_app (v := .slice A j c) rfl rfl T_Ch rfl (K12.out.owns hgpm.1 (fun _ _ => id)) rfl hrow1 (by simp [Value.oneCell']) (by omega) (by omega) ?_)
            intro A13 c13 w13 ho13 hk13 hn13
            obtain ⟨hg13, k13⟩ := GrownP.more (r := .change) (x := ⟨p, true, 0⟩) hgpm (by have := KRM.out.size; omega) (Keep.refl _ _) (change_mk (c := ⟨p, true, 0⟩) (by have := HCD.out; rw [HRC2.out] at this; exact this)) K12.out ho13 hk13 hn13
            have hnb := hgpm.2.2.2
            have HG13 := hid hg13
            have HKF := hid (HKP.out.trans (KRM.out.trans k13 (S := fun k => k = g ∨ k = g5 ∨ some k = (Value.slice A j c).ownBlock) (fun b hb e => .inr (.inr e)) : Keep (fun k => k = g ∨ k = g5 ∨ some k = (Value.slice A j c).ownBlock) wr w13) (S := fun k => k = g) (fun b hb e => by
              rcases e with e | e | e
              · exact e
              · have := HG5.out; omega
              · have := hnb b e.symm; omega))
            have HRF := hid (RMM.out.keep k13 (fun b hb e => by have := hnb b e.symm; have := HF.out b hb; omega))
            have hbe : s4.b.length ≤ s.b.length := by rw [HRC2.out] at hcb; exact Nat.le_trans hcb hbj
            have htj := HTJ.out
            rw [HRC2.out] at htj
            have HTJ2 := hid htj
            clear ho13 hk13 hn13 hg13 k13 hgpm hrow1 hnb htj
            go_wp2_with fail
            exact ⟨⟨j + 1, A13, c13, _, _, _, by omega, by simp, rfl, HG13.out, HTJ2.out, HRF.out, HKF.out, hbe⟩, by simp [intOf]; omega⟩
        · have hfe : (sj.f == 0) = false := by simpa using hf
          have htj := HTJ.out
          rw [rChanges_f _ hf, List.append_nil] at htj
          have HT1 := hid (congrArg Prod.fst htj); have HT2 := hid (congrArg Prod.snd htj)
          clear hf htj
          go_wp2_with fail
          refine HFL.out.mono ?_
          rintro e w' ⟨rfl, rfl⟩
          go_wp2_with fail
          go_ret
          exact TakenPost.of HGP.out HT1.out HT2.out HR.out HKP.out
      · obtain rfl : j = N := by omega
        have htj := HTJ.out
        rw [Nat.sub_self, rChanges, List.append_nil] at htj
        have HT1 := hid (congrArg Prod.fst htj); have HT2 := hid (congrArg Prod.snd htj)
        clear htj
        go_wp2_with fail
        go_ret
        exact TakenPost.of HGP.out HT1.out HT2.out HR.out HKP.out
end
end Go.Proofs.Ytdijafolldneeaa
