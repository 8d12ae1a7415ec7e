/- The walks of the reference's reader: the other methods. -/
import Derived.Test.YtbfdnhffcdbidaaMr
import Derived.Test.YtbfdnhffcdbidaaOnePure
namespace Go.Proofs.Ytbfdnhffcdbidaa
open Go.RowKit

section
variable {F : Nat → Prop} {w w' : World} {g : Nat} {s : RS}
/-- The slice that a reader holds, opened. -/
theorem MrAt.open (h : MrAt F w g s) : ∃ A c, w.heap[g]? = some (MrObj (.slice A s.b.length c) s.f) ∧ Row (fun k => F k ∧ k ≠ g) w (.slice A s.b.length c) s.b.length 1 (s.b.map U8) ∧ F g ∧ s.b.length ≤ c ∧ c ≤ 9223372036854775807 ∧
    (0 < c → ∃ b off, A = some ⟨b, off, none⟩ ∧ b ≠ g ∧ ∀ j, j < s.b.length → w.cell? ⟨b, off + j, none⟩ = some (.int .u8 ((s.b.getD j 0).toNat : Int))) := by
  obtain ⟨v, hg, hv, hF⟩ := h
  have hv0 := hv
  obtain ⟨A, c, rfl, _, hlc, hcm, hA⟩ := hv0
  unfold maxLen at hcm
  refine ⟨A, c, hg, hv, hF, hlc, by omega, fun hc => ?_⟩
  obtain ⟨b, off, rfl, ⟨_, hbg⟩, _, hcell⟩ := hA.resolve_left (by omega)
  exact ⟨b, off, rfl, hbg, fun j hj => hcell j _ (by simp [hj, U8])⟩
theorem nil_own (w w' : World) : OwnBytes w w' (.slice none 0 0) [] := ⟨World.ownsRow_nil _ _ _ _, fun k hk => by simp [Value.ownBlock] at hk⟩

set_option maxHeartbeats 1000000 in
theorem mtake_calls (h : MrAt F w g s) (most : Int) (hl : s.b.length ≤ 140737488355328) :
    Calls Try.prog 72 #[.pointer (some ⟨g, 0, none⟩), .int .i64 most] w (MrPost F w g (rBytes s most).2 (fun v w' => OwnBytes w w' v (rBytes s most).1)) := by
  go_enter Try.func72, Try.ntmps72
  go_wp2_with fail
  refine (mrnum_calls h).mono ?_
  rintro e w1 ⟨v, rfl, rfl, hr1, hk1⟩
  by_cases hf : s.f = 0
  · rcases hdn : decNum s.b with er | ⟨n, r⟩
    · have hN : rNum s = (0, ⟨[], er⟩) := by simp [rNum, rDo, hf, hdn]
      have HB := hid (show rBytes s most = ([], ⟨[], er⟩) by simp [rBytes, rDo, hf, decBytes, hdn])
      have her : (er == 0) = false := by rcases numFrom_err _ _ _ _ _ hdn with rfl | rfl <;> rfl
      have her2 : (er != 0) = true := by rcases numFrom_err _ _ _ _ _ hdn with rfl | rfl <;> rfl
      rw [hN] at hr1 ⊢
      obtain ⟨A, c, hg, _⟩ := hr1.open
      have c1 := cell_at hg 1 (.int .i64 er) rfl
      clear hN hdn hg
      go_wp2
      go_ret
      rw [HB.out]
      exact ⟨_, rfl, nil_own _ _, hr1, hk1⟩
    · have hN : rNum s = (n, ⟨r, 0⟩) := by simp [rNum, rDo, hf, hdn]
      have hn := (numFrom_le _ _ _ _ _ _ hdn)
      rw [hN] at hr1 ⊢
      have hr0 := hr1
      obtain ⟨A, c, hg, hv, hF, hlc, hcm, hcell⟩ := hr1.open
      simp only at hg hv hlc hcell
      have c0 := cell_at hg 0 (.slice A r.length c) rfl
      have c1 := cell_at hg 1 (.int .i64 0) rfl
      have f0 := free_at hg 0
      have HG := hid hg
      have HV := hid hv
      have HC := hid hcell
      have hn1 := hn.1
      have hrl : r.length ≤ 140737488355328 := Nat.le_trans hn.2 hl
      by_cases hm : (n : Int) ≤ most
      · by_cases hnl : n ≤ r.length
        · have HB := hid (show rBytes s most = (r.take n, ⟨r.drop n, 0⟩) by simp [rBytes, rDo, hf, decBytes, hdn, hm, takeN, hnl])
          have d1 : decide (most < n) = false := decide_eq_false (by omega)
          have d2 : decide (r.length < n) = false := decide_eq_false (by omega)
          clear hN hdn hg hn hv hcell
          have HUP := Row.upto HV.out hnl
          have hlen : (r.take n).length = n := by simp [hnl]
          have hlc' : n ≤ c := by omega
          obtain ⟨N, hN⟩ : ∃ N, N = r.length := ⟨_, rfl⟩
          have HN := hid hN
          rw [← hN] at c0 d2 hnl hlc
          have HLEN := hid hlen
          have FIN : Hid (∀ v w2 A' c', OwnBytes w1 w2 v (r.take n) → Keep (fun _ => False) w1 w2 → ((A' = A ∧ c' = 0 ∧ n = c) ∨ (∃ b off, A = some ⟨b, off, none⟩ ∧ A' = some ⟨b, off + n, none⟩ ∧ c' = c - n)) →
              MrPost F w g (rBytes s most).2 (fun v w' => OwnBytes w w' v (rBytes s most).1) (.returned v) (w2.setCell ⟨g, 0, none⟩ (.slice A' (N - n) c'))) := by
            intro v w2 A' c' hv2 hk2 hA'
            rw [HB.out, HN.out]
            have hcut := mr_cut (hk2.heap HG.out id) (HV.out.keep hk2 (fun _ _ => id)) hF (n := n) (A' := A') (c' := c') (by rw [← HN.out]; exact hnl) hA'
            have hs1 := hk1.size
            have hs2 := hk2.size
            have hgl := lt_heap HG.out
            refine ⟨_, rfl, ⟨ownsRow_setCell_other hv2.1 (fun e => ?_) _, fun k hk => ?_⟩, hcut.1, (hk1.trans hk2 (fun _ _ => False.elim)).setCell _ _ (fun _ => rfl)⟩
            · have h3 : w1.heap.size ≤ g := (hv2.2 _ e).1
              omega
            · have h3 := hv2.2 k hk
              exact ⟨by have := h3.1; omega, by simpa using h3.2⟩
          clear hN hlen
          by_cases hc0 : c = 0
          · subst hc0
            obtain rfl : n = 0 := by omega
            obtain rfl : N = 0 := by omega
            rcases A with _ | a
            all_goals
              have F1 := hid (fun v w2 h1 h2 => FIN.out v w2 _ _ h1 h2 (.inl ⟨rfl, rfl, rfl⟩))
              clear FIN
              go_wp2_with fail
              refine (copy_calls (a := r.take 0) (by rw [HLEN.out]; exact HUP) (by rw [HLEN.out]; omega)).mono ?_
              rintro e w2 ⟨v, rfl, ho2, hn2, hk2⟩
              have c0' := hk2.cell c0 id
              have f0' : w2.frozen? ⟨g, 0, none⟩ = false := by have := hk2.heap HG.out id; exact free_at this 0
              clear c0 c1
              go_wp2
              go_ret
              exact F1.out _ _ ⟨ho2, hn2⟩ hk2
          · obtain ⟨b, off, rfl, hbg, hcl⟩ := HC.out (by omega)
            by_cases hcn : c = n
            · have F1 := hid (fun v w2 h1 h2 => FIN.out v w2 _ _ h1 h2 (.inl ⟨rfl, rfl, hcn.symm⟩))
              have HCN := hid hcn
              clear FIN hcn
              go_wp2_with fail
              refine (copy_calls (a := r.take n) (by rw [HLEN.out]; exact HUP) (by rw [HLEN.out]; omega)).mono ?_
              rintro e w2 ⟨v, rfl, ho2, hn2, hk2⟩
              have c0' := hk2.cell c0 id
              have f0' : w2.frozen? ⟨g, 0, none⟩ = false := by have := hk2.heap HG.out id; exact free_at this 0
              clear c0 c1
              go_wp2
              all_goals go_ret
              all_goals first
                | exact F1.out _ _ ⟨ho2, hn2⟩ hk2
                | (exfalso; have := HCN.out; omega)
            · have F1 := hid (fun v w2 h1 h2 => FIN.out v w2 _ _ h1 h2 (.inr ⟨b, off, rfl, rfl, rfl⟩))
              have HCN := hid hcn
              clear FIN hcn
              go_wp2_with fail
              refine (copy_calls (a := r.take n) (by rw [HLEN.out]; exact HUP) (by rw [HLEN.out]; omega)).mono ?_
              rintro e w2 ⟨v, rfl, ho2, hn2, hk2⟩
              have c0' := hk2.cell c0 id
              have f0' : w2.frozen? ⟨g, 0, none⟩ = false := by have := hk2.heap HG.out id; exact free_at this 0
              clear c0 c1
              go_wp2
              all_goals go_ret
              all_goals first
                | exact F1.out _ _ ⟨ho2, hn2⟩ hk2
                | (exfalso; have := HCN.out; omega)
        · have HB := hid (show rBytes s most = ([], ⟨[], 2⟩) by simp [rBytes, rDo, hf, decBytes, hdn, hm, takeN, hnl])
          have d1 : decide (most < n) = false := decide_eq_false (by omega)
          have d2 : decide (r.length < n) = true := decide_eq_true (by omega)
          clear hN hdn hg hn hv hcell
          go_wp2_with fail
          refine (mstop_calls hr0 2).mono ?_
          rintro e w2 ⟨v, rfl, rfl, hr2, hk2⟩
          have hr2 : MrAt F w2 g ⟨[], 2⟩ := hr2
          obtain ⟨A, c, hg, _⟩ := hr2.open
          have c1 := cell_at hg 1 (.int .i64 2) rfl
          clear hg c0
          go_wp2
          go_ret
          rw [HB.out]
          exact ⟨_, rfl, nil_own _ _, hr2, hk1.trans hk2 (fun _ _ h => h)⟩
      · have HB := hid (show rBytes s most = ([], ⟨[], 3⟩) by simp [rBytes, rDo, hf, decBytes, hdn, hm])
        have d1 : decide (most < n) = true := decide_eq_true (by omega)
        clear hN hdn hg hn hv hcell
        go_wp2_with fail
        refine (mstop_calls hr0 3).mono ?_
        rintro e w2 ⟨v, rfl, rfl, hr2, hk2⟩
        have hr2 : MrAt F w2 g ⟨[], 3⟩ := hr2
        obtain ⟨A, c, hg, _⟩ := hr2.open
        have c1 := cell_at hg 1 (.int .i64 3) rfl
        clear hg c0
        go_wp2
        go_ret
        rw [HB.out]
        exact ⟨_, rfl, nil_own _ _, hr2, hk1.trans hk2 (fun _ _ h => h)⟩
  · have hN : rNum s = (0, s) := by simp [rNum, rDo, hf]
    have HB := hid (show rBytes s most = ([], s) by simp [rBytes, rDo, hf])
    have her : (s.f == 0) = false := by simpa using hf
    have her2 : (s.f != 0) = true := by simpa using hf
    rw [hN] at hr1 ⊢
    obtain ⟨A, c, hg, _⟩ := hr1.open
    have c1 := cell_at hg 1 (.int .i64 s.f) rfl
    clear hN hg
    go_wp2
    go_ret
    rw [HB.out]
    exact ⟨_, rfl, nil_own _ _, hr1, hk1⟩

theorem mbytes_r_calls (h : MrAt F w g s) (most : Int) (hl : s.b.length ≤ 140737488355328) :
    Calls Try.prog 54 #[.pointer (some ⟨g, 0, none⟩), .int .i64 most] w (MrPost F w g (rBytes s most).2 (fun v w' => OwnBytes w w' v (rBytes s most).1)) := by
  go_enter Try.func54, Try.ntmps54
  go_wp2_with fail
  refine (mtake_calls h most hl).mono ?_
  rintro e w1 ⟨v, rfl, ho, hr, hk⟩
  go_wp2
  go_ret
  exact ⟨_, rfl, ho, hr, hk⟩
theorem mtext_r_calls (h : MrAt F w g s) (most : Int) (hl : s.b.length ≤ 140737488355328) :
    Calls Try.prog 53 #[.pointer (some ⟨g, 0, none⟩), .int .i64 most] w (MrPost F w g (rBytes s most).2 (fun v _ => v = .string ⟨(rBytes s most).1.toArray⟩)) := by
  go_enter Try.func53, Try.ntmps53
  go_wp2_with fail
  refine (mtake_calls h most hl).mono ?_
  rintro e w1 ⟨v, rfl, ⟨ho, hn⟩, hr, hk⟩
  have hcv := run_str_of (P := Try.prog) (Row.ofOwn ho) 22 5 9 Try.underlying22 Try.underlying5 Try.underlying9
  go_wp2
  go_ret
  exact ⟨_, rfl, rfl, hr, hk⟩
theorem mrefuse_r_calls (h : MrAt F w g s) :
    Calls Try.prog 57 #[.pointer (some ⟨g, 0, none⟩)] w (MrPost F w g (rStop s 4) (fun v _ => v = .tuple #[])) := by
  go_enter Try.func57, Try.ntmps57
  go_wp2_with fail
  refine (mstop_calls h 4).mono ?_
  rintro e w1 ⟨v, rfl, rfl, hr, hk⟩
  go_wp2
  go_end0
  exact ⟨_, rfl, rfl, hr, hk⟩
theorem mend_calls (h : MrAt F w g s) :
    Calls Try.prog 58 #[.pointer (some ⟨g, 0, none⟩)] w fun e w' => e = .returned (.int .i64 (rEnd s)) ∧ w = w' := by
  obtain ⟨A, c, hg, _⟩ := h.open
  have c0 := cell_at hg 0 (.slice A s.b.length c) rfl
  have c1 := cell_at hg 1 (.int .i64 s.f) rfl
  clear hg
  by_cases hf : s.f = 0
  · have hb : (s.f == 0) = true := by simpa using hf
    by_cases hl : 0 < s.b.length
    · have HE := hid (show rEnd s = 3 by simp [rEnd, hf, hl])
      have hd : decide (0 < s.b.length) = true := decide_eq_true hl
      clear hf
      go_enter Try.func58, Try.ntmps58
      go_wp2
      all_goals
        go_ret
        rw [HE.out]
        exact ⟨rfl, rfl⟩
    · have HE := hid (show rEnd s = s.f by simp [rEnd, hf, hl])
      have hd : decide (0 < s.b.length) = false := decide_eq_false hl
      clear hf
      go_enter Try.func58, Try.ntmps58
      go_wp2
      all_goals
        go_ret
        rw [HE.out]
        exact ⟨rfl, rfl⟩
  · have hb : (s.f == 0) = false := by simpa using hf
    have HE := hid (show rEnd s = s.f by simp [rEnd, hf])
    go_enter Try.func58, Try.ntmps58
    go_wp2
    go_ret
    rw [HE.out]
    exact ⟨rfl, rfl⟩

set_option maxRecDepth 20000 in
set_option maxHeartbeats 1000000 in
theorem mflag_r_calls (h : MrAt F w g s) :
    Calls Try.prog 55 #[.pointer (some ⟨g, 0, none⟩)] w (MrPost F w g (rFlag s).2 (fun v _ => v = .bool (rFlag s).1)) := by
  have h0 := h
  obtain ⟨A, c, hg, hv, hF, hlc, hcm, hcell⟩ := h.open
  have c0 := cell_at hg 0 (.slice A s.b.length c) rfl
  have c1 := cell_at hg 1 (.int .i64 s.f) rfl
  have f0 := free_at hg 0
  have HG := hid hg
  have HV := hid hv
  clear hg hv
  by_cases hf : s.f = 0
  · obtain ⟨l, f⟩ := s
    obtain rfl : f = 0 := hf
    rcases l with _ | ⟨x, l⟩
    · have HB := hid (show rFlag ⟨[], 0⟩ = (false, ⟨[], 2⟩) by simp [rFlag, rDo, decFlag])
      clear hcell
      go_enter Try.func55, Try.ntmps55
      go_wp2_with fail
      refine (mstop_calls h0 2).mono ?_
      rintro e w2 ⟨v, rfl, rfl, hr2, hk2⟩
      have hr2 : MrAt F w2 g ⟨[], 2⟩ := hr2
      obtain ⟨A, c, hg, _⟩ := hr2.open
      have c1 := cell_at hg 1 (.int .i64 2) rfl
      clear hg c0
      go_wp2
      go_ret
      rw [HB.out]
      exact ⟨_, rfl, rfl, hr2, hk2⟩
    · have hlc1 : l.length + 1 ≤ c := by simpa using hlc
      obtain ⟨b, off, rfl, hbg, hcl⟩ := hcell (by omega)
      have d0 := hcl 0 (by simp)
      have hxl := x.toNat_lt
      obtain ⟨n, hn⟩ : ∃ n, n = x.toNat := ⟨_, rfl⟩
      simp only [List.getD_cons_zero, ← hn, Nat.add_zero] at d0
      rw [← hn] at hxl
      have HN := hid hn
      have hlen : ∃ N, N = (x :: l).length := ⟨_, rfl⟩
      obtain ⟨N, hN⟩ := hlen
      have hNp : 1 ≤ N := by rw [hN]; simp
      have hNc : N ≤ c := by rw [hN]; exact hlc
      rw [← hN] at c0
      have HNN := hid hN
      clear hcell hn hcl hN hlc hbg
      by_cases hx1 : n ≤ 1
      · have hd : decide ((1 : Int) < n) = false := decide_eq_false (by omega)
        have HB := hid (show rFlag ⟨x :: l, 0⟩ = (x.toNat == 1, ⟨l, 0⟩) by
          have : x.toNat ≤ 1 := by rw [← HN.out]; exact hx1
          simp [rFlag, rDo, decFlag, this])
        have FIN : Hid (∀ A' c', ((A' = some ⟨b, off, none⟩ ∧ c' = 0 ∧ 1 = c) ∨ (A' = some ⟨b, off + 1, none⟩ ∧ c' = c - 1)) →
            MrPost F w g (rFlag ⟨x :: l, 0⟩).2 (fun v _ => v = .bool (rFlag ⟨x :: l, 0⟩).1) (.returned (.bool ((n : Int) == 1))) (w.setCell ⟨g, 0, none⟩ (.slice A' (N - 1) c'))) := by
          intro A' c' hA'
          rw [HB.out, HNN.out]
          have := mr_cut HG.out HV.out hF (n := 1) (A' := A') (c' := c') (by simp) (hA'.imp (fun ⟨x, y, z⟩ => ⟨x, y, z⟩) (fun ⟨x, y⟩ => ⟨b, off, rfl, x, y⟩))
          exact ⟨_, rfl, by simp only [← HN.out]; congr 1; rw [Bool.eq_iff_iff]; simp; omega, this.1, this.2⟩
        by_cases hc1 : c = 1
        · have F1 := hid (FIN.out _ _ (.inl ⟨rfl, rfl, hc1.symm⟩))
          have HC1 := hid hc1
          clear hc1 HG HV FIN HB
          go_enter Try.func55, Try.ntmps55
          go_wp2_with fail
          all_goals go_ret
          all_goals first
            | exact F1.out
            | (exfalso; have := HC1.out; omega)
        · have F1 := hid (FIN.out _ _ (.inr ⟨rfl, rfl⟩))
          have HC1 := hid hc1
          clear hc1 HG HV FIN HB
          go_enter Try.func55, Try.ntmps55
          go_wp2_with fail
          all_goals go_ret
          all_goals first
            | exact F1.out
            | (exfalso; have := HC1.out; omega)
      · have hd : decide ((1 : Int) < n) = true := decide_eq_true (by omega)
        have HB := hid (show rFlag ⟨x :: l, 0⟩ = (false, ⟨[], 4⟩) by
          have : ¬ x.toNat ≤ 1 := by rw [← HN.out]; exact hx1
          simp [rFlag, rDo, decFlag, this])
        go_enter Try.func55, Try.ntmps55
        go_wp2_with fail
        refine (mstop_calls h0 4).mono ?_
        rintro e w2 ⟨v, rfl, rfl, hr2, hk2⟩
        have hr2 : MrAt F w2 g ⟨[], 4⟩ := hr2
        obtain ⟨A, c, hg, _⟩ := hr2.open
        have c1 := cell_at hg 1 (.int .i64 4) rfl
        clear hg c0
        go_wp2
        go_ret
        rw [HB.out]
        exact ⟨_, rfl, rfl, hr2, hk2⟩
  · have HB := hid (show rFlag s = (false, s) by simp [rFlag, rDo, hf])
    have her : (s.f == 0) = false := by simpa using hf
    have her2 : (s.f != 0) = true := by simpa using hf
    clear hcell
    go_enter Try.func55, Try.ntmps55
    go_wp2
    go_ret
    rw [HB.out]
    exact ⟨_, rfl, rfl, h0, Keep.refl _ _⟩

set_option maxRecDepth 20000 in
set_option maxHeartbeats 1000000 in
theorem mword_r_calls (h : MrAt F w g s) :
    Calls Try.prog 56 #[.pointer (some ⟨g, 0, none⟩)] w (MrPost F w g (rWord s).2 (fun v _ => v = .int .u64 (rWord s).1)) := by
  have h0 := h
  obtain ⟨A, c, hg, hv, hF, hlc, hcm, hcell⟩ := h.open
  have c0 := cell_at hg 0 (.slice A s.b.length c) rfl
  have c1 := cell_at hg 1 (.int .i64 s.f) rfl
  have f0 := free_at hg 0
  have HG := hid hg
  have HV := hid hv
  clear hg hv
  by_cases hf : s.f = 0
  · obtain ⟨l, f⟩ := s
    obtain rfl : f = 0 := hf
    simp only at c0 c1 hlc hcell
    by_cases h8 : 8 ≤ l.length
    · have HB := hid (show rWord ⟨l, 0⟩ = (bigNum (l.take 8), ⟨l.drop 8, 0⟩) by simp [rWord, rDo, decWord, h8])
      have hd : decide (l.length < 8) = false := decide_eq_false (by omega)
      obtain ⟨b, off, rfl, hbg, hcl⟩ := hcell (by omega)
      have HCL := hid hcl
      obtain ⟨N, hN⟩ : ∃ N, N = l.length := ⟨_, rfl⟩
      have HN := hid hN
      rw [← hN] at c0 hlc h8 hd
      have FIN : Hid (∀ A' c', ((A' = some ⟨b, off, none⟩ ∧ c' = 0 ∧ 8 = c) ∨ (A' = some ⟨b, off + 8, none⟩ ∧ c' = c - 8)) →
          MrPost F w g (rWord ⟨l, 0⟩).2 (fun v _ => v = .int .u64 (rWord ⟨l, 0⟩).1) (.returned (.int .u64 (bigNum (l.take 8)))) (w.setCell ⟨g, 0, none⟩ (.slice A' (N - 8) c'))) := by
        intro A' c' hA'
        rw [HB.out, HN.out]
        have := mr_cut HG.out HV.out hF (n := 8) (A' := A') (c' := c') (by rw [← HN.out]; exact h8) (hA'.imp (fun ⟨x, y, z⟩ => ⟨x, y, z⟩) (fun ⟨x, y⟩ => ⟨b, off, rfl, x, y⟩))
        exact ⟨_, rfl, rfl, this.1, this.2⟩
      clear hcell hcl hN hbg HB
      go_enter Try.func56, Try.ntmps56
      go_wp2_with fail
      go_loop [3, 4] (fun x i => ∃ k : Nat, k ≤ 8 ∧ i = .int .i64 k ∧ x = .int .u64 (bigNum (l.take k))) (fun _ i => 8 - (intOf i).toNat)
      case atStart => exact ⟨0, Nat.zero_le _, rfl, rfl⟩
      case round =>
        obtain ⟨k, hk, rfl, rfl⟩ := hrel
        by_cases hlt : k < 8
        · have hcell := HCL.out k (by rw [← HN.out]; omega)
          have hsn : bigNum (l.take (k + 1)) = bigNum (l.take k) * 256 + (l.getD k 0).toNat := by
            rw [take_snoc (by rw [← HN.out]; omega), bigNum_snoc]
          have hb := bigNum_lt (l.take k)
          have hcb := (l.getD k 0).toNat_lt
          rw [List.length_take, ← HN.out, Nat.min_eq_left (by omega)] at hb
          generalize (l.getD k 0).toNat = cn at *
          generalize bigNum (l.take k) = x at *
          have hx : x < 72057594037927936 := Nat.lt_of_lt_of_le hb (Nat.pow_le_pow_right (by decide) (show k ≤ 7 by omega))
          have HS := hid hsn
          have hkN : k < N := by omega
          clear hsn hb FIN
          go_wp2_with fail
          refine ⟨⟨k + 1, by omega, by simp, ?_⟩, by simp [intOf]; omega⟩
          rw [HS.out, or_u64 (by omega) hcb]
        · obtain rfl : k = 8 := by omega
          by_cases hc1 : c = 8
          · have F1 := hid (FIN.out _ _ (.inl ⟨rfl, rfl, hc1.symm⟩))
            have HC1 := hid hc1
            clear hc1 HG HV FIN
            go_wp2_with fail
            all_goals go_ret
            all_goals first
              | exact F1.out
              | (exfalso; have := HC1.out; omega)
          · have F1 := hid (FIN.out _ _ (.inr ⟨rfl, rfl⟩))
            have HC1 := hid hc1
            clear hc1 HG HV FIN
            go_wp2_with fail
            all_goals go_ret
            all_goals first
              | exact F1.out
              | (exfalso; have := HC1.out; omega)
    · have HB := hid (show rWord ⟨l, 0⟩ = (0, ⟨[], 2⟩) by simp [rWord, rDo, decWord, h8])
      have hd : decide (l.length < 8) = true := decide_eq_true (by omega)
      clear hcell
      go_enter Try.func56, Try.ntmps56
      go_wp2_with fail
      refine (mstop_calls h0 2).mono ?_
      rintro e w2 ⟨v, rfl, rfl, hr2, hk2⟩
      have hr2 : MrAt F w2 g ⟨[], 2⟩ := hr2
      obtain ⟨A, c, hg, _⟩ := hr2.open
      have c1 := cell_at hg 1 (.int .i64 2) rfl
      clear hg c0
      go_wp2
      go_ret
      rw [HB.out]
      exact ⟨_, rfl, rfl, hr2, hk2⟩
  · have HB := hid (show rWord s = (0, s) by simp [rWord, rDo, hf])
    have her : (s.f == 0) = false := by simpa using hf
    have her2 : (s.f != 0) = true := by simpa using hf
    clear hcell
    go_enter Try.func56, Try.ntmps56
    go_wp2
    go_ret
    rw [HB.out]
    exact ⟨_, rfl, rfl, h0, Keep.refl _ _⟩
end
end Go.Proofs.Ytbfdnhffcdbidaa
