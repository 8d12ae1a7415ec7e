/- epoch.Change. -/
import Derived.Test.YtbkgobdpgokbaaaEpCh
import Derived.Deep.CutRange
import Derived.Deep.DeepCutAuto
namespace Go.Proofs.Ytbkgobdpgokbaaa
open Go.RowKit
section
variable {F G S : Nat → Prop} {w w' : World} {v vm : Value} {L : List Ep} {M : List Int} {g : Nat} {al : Int}
theorem bsearchI (h : Row F w v M.length 1 (M.map I64)) (h0 : 0 < M.length) (hl : M.length ≤ 1000000) (hs : M.Pairwise (· < ·)) (m : Int) : Calls Try.prog 36 #[v, .int .i64 m] w fun e w' => e = .returned (.tuple #[.int .i64 (M.countP (fun y => decide (y < m)) : Nat), .bool (M.contains m)]) ∧ Keep (fun _ => False) w w' := by
  obtain ⟨A, c, rfl, hcell⟩ := h.int'
  obtain ⟨b, off, rfl, hF, hc⟩ := hcell h0
  refine (Go.Proofs.Try.slices_BinarySearch_int b off M.length c M m w (Nat.le_refl _) (by omega) hc (by rw [List.take_length]; exact hs.imp (fun h => by omega))).mono ?_
  rintro e w' ⟨rfl, q, rfl⟩
  rw [List.take_length]
  exact ⟨rfl, (Keep.refl _ w).drewN q⟩
/-- What Change comes to. -/
def ChPost (F : Nat → Prop) (g : Nat) (al : Int) (L : List Ep) (slot m : Int) (add : Bool) (w : World) (e : Ending) (w' : World) : Prop :=
  e = .returned (.int .i64 (chE al L slot m add)) ∧ EpAt (Grow F w w') w' g al (chL al L slot m add) ∧ Keep F w w'
/-- The last epoch's copy in a new block. -/
def Got (w : World) (fr : Int) (vm s : Value) (wx : World) : Prop := ∃ d, s = .pointer (some ⟨d, 0, none⟩) ∧ w.heap.size ≤ d ∧ wx.heap[d]? = some (.cells #[.int .i64 fr, vm] 42) ∧ Keep (fun _ => False) w wx
theorem EpAt.pushed {w7 w8 : World} {cs : List Value} {x : Ep} {g4 c4 N c6 : Nat} {A : Option Addr} (hF : ∀ k, F k → k < w.heap.size) (hg : w.heap[g]? = some (EpO al v)) (_ho : w.ownsRow 0 42 2 v L.length cs) (hr : EpRow w G L cs) (hb : ∀ b, v.ownBlock = some b → (F b ∧ b ≠ g) ∧ ¬ G b)
    (hG : ∀ b, G b → F b ∧ b ≠ g ∧ b < w.heap.size) (hgF : F g) (hok : EOk al (L ++ [x])) (hk7 : Keep (fun _ => False) w w7) (hmem : w7.ownsRow 0 3 1 (.slice (some ⟨g4, 0, none⟩) x.2.length c4) x.2.length (x.2.map I64)) (hg4 : w.heap.size ≤ g4) (hx1 : okI x.1) (hx2 : ∀ y ∈ x.2, okI y)
    (hN : N = (L ++ [x]).length) (ho8 : w8.ownsRow 0 42 2 (.slice A N c6) N (cs ++ [.int .i64 x.1, .slice (some ⟨g4, 0, none⟩) x.2.length c4])) (hk8 : Keep (fun k => some k = v.ownBlock) w7 w8) (hn8 : SameOrNew w7 v (.slice A N c6)) :
    EpAt (Grow F w (w8.setCell ⟨g, 1, none⟩ (.slice A N c6))) (w8.setCell ⟨g, 1, none⟩ (.slice A N c6)) g al (L ++ [x]) ∧ Keep F w (w8.setCell ⟨g, 1, none⟩ (.slice A N c6)) := by
  have hgs := hF g hgF
  have hgv : ¬ some g = v.ownBlock := fun e => (hb g e.symm).1.2 rfl
  have hg4l := own_lt' hmem g4 rfl
  have hg4v : ¬ some g4 = v.ownBlock := fun e => by have := hF g4 (hb g4 e.symm).1.1; omega
  have hs7 := hk7.size
  have hs8 := hk8.size
  have hg8 : w8.heap[g]? = some (EpO al v) := hk8.heap (hk7.heap hg id) hgv
  have hkw8 : Keep (fun k => some k = v.ownBlock) w w8 := (hk7.mono (fun _ _ h => h.elim)).trans hk8 (fun _ _ h => h)
  have hks : Keep (fun k => k = g) w8 (w8.setCell ⟨g, 1, none⟩ (.slice A N c6)) := (Keep.refl _ w8).setCell _ _ (fun _ => rfl)
  have hkF : Keep F w (w8.setCell ⟨g, 1, none⟩ (.slice A N c6)) := (hkw8.mono (fun k _ e => (hb k e.symm).1.1)).setCell _ _ (fun _ => hgF)
  have hsz : (w8.setCell ⟨g, 1, none⟩ (.slice A N c6)).heap.size = w8.heap.size := by simp
  have hblk : ∀ b, (Value.slice A N c6).ownBlock = some b → (Grow F w (w8.setCell ⟨g, 1, none⟩ (.slice A N c6)) b ∧ b ≠ g) ∧ ¬ (G b ∨ b = g4) := fun b he => by
    have hbl := own_lt' ho8 b he
    rcases hn8 b he with q | q
    · have h1 := hb b q
      have h2 := hF b h1.1.1
      exact ⟨⟨.inl h1.1.1, h1.1.2⟩, fun h => h.elim h1.2 (fun e => by omega)⟩
    · exact ⟨⟨.inr ⟨by omega, by rw [hsz]; exact hbl⟩, by omega⟩, fun h => h.elim (fun e => by have := (hG b e).2.2; omega) (fun e => by omega)⟩
  refine ⟨⟨.slice A N c6, fun b => G b ∨ b = g4, ?_, ⟨cs ++ [.int .i64 x.1, .slice (some ⟨g4, 0, none⟩) x.2.length c4], ?_, ?_, hblk⟩, ?_, .inl hgF, hok⟩, hkF⟩
  · rw [heap_set hg8 1]; rfl
  · rw [← hN]
    exact hks.owns ho8 (fun k hk e => (hblk k hk).1.2 e)
  · refine EpRow.app ((((hr.keep hkw8 (fun k hk e => (hb k e.symm).2 hk)).keep hks (fun k hk e => (hG k hk).2.1 e))).mono (fun _ h => .inl h)) (EpRow.one ?_ hx1 hx2)
    have := Row.ofOwn ((hk8.owns hmem (fun k hk => by simp only [Value.ownBlock, Option.some.injEq] at hk; subst hk; exact hg4v)))
    refine (this.keep hks (fun k hk e => by simp only [Value.ownBlock, Option.some.injEq] at hk; omega)).mono (fun k hk => by simp only [Value.ownBlock, Option.some.injEq] at hk; exact .inr hk)
  · rintro b (hb' | rfl)
    · have := hG b hb'
      exact ⟨.inl this.1, this.2.1, by rw [hsz]; omega⟩
    · exact ⟨.inr ⟨hg4, by rw [hsz]; omega⟩, by omega, by rw [hsz]; omega⟩
theorem row_one2 (w : World) (x y : Value) (e : TypeId) : Row (fun k => k = w.heap.size) (w.alloc (.cells #[x, y] e)) (.slice (some ⟨w.heap.size, 0, none⟩) 1 1) 1 2 [x, y] :=
  ⟨_, _, rfl, by simp, Nat.le_refl _, by decide, .inr ⟨w.heap.size, 0, rfl, rfl, by simp, fun j u hu => by
    rcases j with _ | _ | j
    · simpa using hu
    · simpa using hu
    · simp at hu⟩⟩
set_option maxRecDepth 20000 in
set_option maxHeartbeats 4000000 in
theorem change_calls (h : EpAt F w g al L) (hF : ∀ k, F k → k < w.heap.size) (slot m : Int) (_hs1 : okI slot) (_hm1 : okI m) (add : Bool) (hl : L.length ≤ 100000) : Calls Try.prog 12 #[.pointer (some ⟨g, 0, none⟩), .int .i64 slot, .int .i64 m, .bool add] w (ChPost F g al L slot m add w) := by
  have hmade := emade_calls h
  have H := hid h
  obtain ⟨v, G, hg, ⟨cs, hown, hrow, hblk⟩, hG, hgF, hok⟩ := h
  have hs : EpSl (fun b => F b ∧ b ≠ g) G w v L := ⟨cs, (Row.ofOwn hown).mono (fun b hb => (hblk b hb.symm).1), hrow⟩
  have hlm := lastE_mem hok.2.2.1
  have hlast := hok.last
  obtain ⟨n, hn⟩ : ∃ n, n + 1 = L.length := ⟨L.length - 1, by have := hok.2.2.1; omega⟩
  rw [show L.length - 1 = n by omega] at hlm
  obtain ⟨A, c, rfl⟩ := hs.shape
  obtain ⟨b, off, vm, rfl, _, d0, d1, d2, _, hokm⟩ := hs.elem hlm
  have c0 := cell_at hg 0 (.int .i64 al) rfl
  have c1 := cell_at hg 1 (.slice (some ⟨b, off, none⟩) L.length c) rfl
  obtain ⟨Am, cm, rfl⟩ := d2.shape
  obtain ⟨fr, hfr⟩ : ∃ fr, fr = (lastE L).1 := ⟨_, rfl⟩
  obtain ⟨M, hM⟩ : ∃ M, M = (lastE L).2 := ⟨_, rfl⟩
  rw [← hfr] at d0 hlast
  rw [← hM] at d1 d2 hlast hokm
  obtain ⟨hmy, hf0, hf1⟩ := hlast
  rw [← hn] at c1 hl
  have HN := hid hn; have HFR := hid hfr; have HM := hid hM; have HOK := hid hok; have HFF := hid hF; have D2 := hid d2; have HMY := hid hmy
  have HG0 := hid hg; have HOWN := hid hown; have HROW := hid hrow; have HBLK := hid hblk; have HGG := hid hG; have HGF := hid hgF; have HOKM := hid hokm
  have hal1 := hok.1; have hal8 := hok.2.1
  clear hg hs hlm hok hn hfr hM hF d2 hmy hown hrow hblk hG hgF hokm
  have hw : IntKind.i64.wrap ((n : Int) + 1 - 1) = (n : Int) := by rw [IntKind.wrap_i64]; omega
  have hw2 : IntKind.i64.wrap (n : Int) = (n : Int) := by rw [IntKind.wrap_i64]; omega
  go_enter Try.func12, Try.ntmps12
  go_wp2_with fail
  refine hmade.mono ?_
  rintro e w' ⟨rfl, rfl⟩
  clear hmade
  have hn0 : (0 : Int) ≤ (n : Int) := by omega
  have hn1 : (n : Int) < (n : Int) + 1 := by omega
  go_upto_region 3 with fail
  have n1 := World.new_ne w ⟨g, 1, none⟩ c1
  have n2 := World.new_ne w ⟨b, off + n * 2, none⟩ d0
  have n3 := World.new_ne w ⟨b, off + n * 2 + 1, none⟩ d1
  go_cut [9] from 16 to 27 (fun s9 wx => Got w fr (.slice Am M.length cm) s9 wx)
  case first =>
    have hnew : Got w fr (.slice Am M.length cm) (.pointer (some ⟨w.heap.size, 0, none⟩)) (w.alloc (.cells #[.int .i64 fr, .slice Am M.length cm] 42)).drew := ⟨w.heap.size, rfl, Nat.le_refl _, heap_drew (heap_alloc_new w _), ((Keep.refl _ w).alloc _).drew⟩
    have HNEW := hid hnew
    clear hnew
    go_region_held3 (fun w' => w'.cell? ⟨g, 1, none⟩ = some (.slice (some ⟨b, off, none⟩) (n + 1) c) ∧ w'.cell? ⟨b, off + n * 2, none⟩ = some (.int .i64 fr) ∧ w'.cell? ⟨b, off + n * 2 + 1, none⟩ = some (.slice Am M.length cm)) (go_keep) (fail)
    all_goals (go_wp2_with fail; go_meet; exact HNEW.out)
  case rest =>
    obtain ⟨d, rfl, hd, hdh, hdk⟩ := hcut
    revert wc
    intro w1 hdh hdk
    have f0 := cell_at hdh 0 (.int .i64 fr) rfl
    have f1 := cell_at hdh 1 (.slice Am M.length cm) rfl
    have hbs := bsearchI (D2.out.keep hdk (fun _ _ => id)) HMY.out.1 (by have := HMY.out.2.1; omega) HMY.out.sorted m
    have hcl := M.countP_le_length (p := fun y => decide (y < m))
    obtain ⟨i, hi⟩ : ∃ i, i = M.countP (fun y => decide (y < m)) := ⟨_, rfl⟩
    obtain ⟨bm, hbm⟩ : ∃ bm, bm = M.contains m := ⟨_, rfl⟩
    rw [← hi, ← hbm] at hbs
    rw [← hi] at hcl
    have HI := hid hi; have HBM := hid hbm; have HDH := hid hdh; have HDK := hid hdk
    clear hi hbm hdh hdk d0 d1 n1 n2 n3 hw hw2 hn0 hn1
    go_wp2_with fail
    refine hbs.mono ?_
    rintro e w2 ⟨rfl, k2⟩
    have k2w : Keep (fun _ => False) w w2 := HDK.out.trans k2 (fun _ _ h => h)
    have f0 := k2.cell f0 id
    have f1 := k2.cell f1 id
    have a0 := k2w.cell c0 id
    have HK2 := hid k2w
    have herr : ∀ r : Int, r ≠ 0 → chE al L slot m add = r → ChPost F g al L slot m add w (.returned (.int .i64 r)) w2 := fun r hr he => by
      refine ⟨by rw [he], ?_, HK2.out.mono (fun _ _ h => h.elim)⟩
      have : chL al L slot m add = L := by rw [chL, if_neg (by rw [he]; exact hr)]
      rw [this]
      exact (H.out.keepF HK2.out).mono (fun _ h => .inl h)
    have HERR := hid herr
    have hche : chE al L slot m add = if slot < 0 ∨ 1099511627776 - al < slot ∨ m < 0 ∨ 15 ≤ m then 1 else if slot < fr then 12 else if add = true ∧ m ∈ M then 9 else if add = false ∧ m ∉ M then 8 else if add = false ∧ M.length = 1 then 1 else 0 := by
      rw [chE, ← HFR.out, ← HM.out]
    have HCHE := hid hche
    have hbm : bm = true ↔ m ∈ M := by rw [HBM.out]; simp
    have HBI := hid hbm
    clear hbs k2 k2w herr hche hbm
    by_cases s0 : slot < 0
    · have he := HERR.out 1 (by omega) (by rw [HCHE.out, if_pos (.inl s0)])
      have HE := hid he
      clear he
      go_wp2_with fail
      go_ret
      exact HE.out
    by_cases s1 : 1099511627776 - al < slot
    · have he := HERR.out 1 (by omega) (by rw [HCHE.out, if_pos (.inr (.inl s1))])
      have HE := hid he
      clear he
      go_wp2_with fail
      go_ret
      exact HE.out
    by_cases m0 : m < 0
    · have he := HERR.out 1 (by omega) (by rw [HCHE.out, if_pos (.inr (.inr (.inl m0)))])
      have HE := hid he
      clear he
      go_wp2_with fail
      go_ret
      exact HE.out
    by_cases m15 : 15 ≤ m
    · have he := HERR.out 1 (by omega) (by rw [HCHE.out, if_pos (.inr (.inr (.inr m15)))])
      have HE := hid he
      clear he
      go_wp2_with fail
      go_ret
      exact HE.out
    have hche := HCHE.out
    rw [if_neg (by omega)] at hche
    by_cases sf : slot < fr
    · have he := HERR.out 12 (by omega) (by rw [hche, if_pos sf])
      have HE := hid he
      clear he hche
      go_wp2_with fail
      go_ret
      exact HE.out
    rw [if_neg sf] at hche
    have HCH2 := hid hche
    clear hche HCHE
    have HCL := hid (fun w' (hk : Keep (fun _ => False) w w') => cloneI (D2.out.keep hk (fun _ _ => id)) HMY.out.1 (by have := HMY.out.2.1; omega))
    cases add with
    | true =>
      cases bm with
      | true =>
        have hmm := HBI.out.1 rfl
        have he := HERR.out 9 (by omega) (by rw [HCH2.out, if_pos ⟨rfl, hmm⟩])
        have HE := hid he
        clear he hmm
        go_wp2_with fail
        go_ret
        exact HE.out
      | false =>
        have hmm : m ∉ M := fun h => by have := HBI.out.2 h; simp at this
        have h0 : chE al L slot m true = 0 := by rw [HCH2.out, if_neg (fun h => hmm h.2), if_neg (by simp), if_neg (by simp)]
        have hL : chL al L slot m true = L ++ [(slot + al, chM M m true)] := by rw [chL, if_pos h0, ← HM.out]
        have hins : insAt M i m = chM M m true := by rw [HI.out, ins_mem HMY.out ⟨by omega, by omega⟩ hmm, chM_add]
        have hil := insAt_len M i m hcl
        rw [hins] at hil
        have hc3 := HCL.out w2 HK2.out
        have H0 := hid h0; have HL := hid hL; have HINS := hid hins; have HIL := hid hil
        clear h0 hL hins hil hmm
        go_wp2_with fail
        refine hc3.mono ?_
        rintro e w3 ⟨g3, c3, rfl, ho3, hg3, k3⟩
        have hne : w3.heap.size ≠ g3 := by have := own_lt' ho3 g3 rfl; omega
        have hin := insI (i := i) (x := m) (vb := w3.heap.size) (w := w3.alloc (.cells #[.int .i64 m] 3)) (ownsAlloc ho3 _) HMY.out.1 (by have := HMY.out.2.1; omega) hcl (heap_alloc_new w3 _) hne
        rw [HINS.out, ← HIL.out] at hin
        have hg3w : w.heap.size ≤ g3 := by have := HK2.out.size; omega
        have HK3 := hid (HK2.out.trans k3 (fun _ _ h => h))
        clear ho3 k3 hc3 f0 f1
        go_wp2_with fail
        refine hin.mono ?_
        rintro e w4 ⟨g4, c4, rfl, ho4, hg4, k4'⟩
        have k4 : Keep (fun _ => False) w w4 := (HK3.out.alloc _).trans k4' (fun b hb e => by omega)
        have hg4w : w.heap.size ≤ g4 := by
          rcases hg4 with e | e
          · omega
          · have := HK3.out.size; simp at e; omega
        obtain ⟨M2, hM2⟩ : ∃ M2, M2 = chM M m true := ⟨_, rfl⟩
        rw [← hM2] at ho4 ⊢
        have HM2 := hid hM2
        clear hin hg4 hM2 k4'
        have HO4 := hid ho4; have HK4 := hid k4
        have a1 := k4.cell c1 id
        have a0 := k4.cell c0 id
        have af := free_at (k4.heap HG0.out id) 1
        have hgw : g < w4.heap.size := by have := lt_heap HG0.out; have := k4.size; omega
        have hwr : IntKind.i64.wrap (slot + al) = slot + al := by rw [IntKind.wrap_i64]; omega
        have hown4 := k4.owns HOWN.out (fun _ _ => id)
        rw [← HN.out] at hown4
        have HOW4 := hid hown4
        have hstore : ∀ w7 w6, Keep (fun _ => False) w4 w7 → Keep (fun k => some k = (Value.slice (some ⟨b, off, none⟩) (n + 1) c).ownBlock) w7 w6 → w6.cell? ⟨g, 1, none⟩ = some (.slice (some ⟨b, off, none⟩) (n + 1) c) ∧ w6.frozen? ⟨g, 1, none⟩ = false := fun w7 w6 q1 q2 => by
          have hgv : ¬ some g = (Value.slice (some ⟨b, off, none⟩) (n + 1) c).ownBlock := fun e => (HBLK.out g (by rw [← HN.out]; exact e.symm)).1.2 rfl
          have h6 := q2.heap (q1.heap (HK4.out.heap HG0.out id) id) hgv
          rw [← HN.out] at h6
          exact ⟨cell_at h6 1 _ rfl, free_at h6 1⟩
        have HST := hid hstore
        clear ho4 k4 hown4 hstore
        go_wp2_with fail
        go_region_law (first | (refine step_app (v := .slice (some ⟨b, off, none⟩) (n + 1) c) (by rfl) (by rfl) SLE (by rfl) (ownsAlloc HOW4.out _) (by rfl) (row_one2 w4.drew _ _ _) (by simp [Value.oneCell']) (by omega) (by omega) ?_; intro A c6 w6 ho6 hk6 hn6; obtain ⟨p1, p2⟩ := HST.out _ _ (((Keep.refl _ w4).drew).alloc _) hk6))
        all_goals (
          go_wp2_with fail
          go_ret
          have hok2 := HOK.out.change slot m true
          rw [HL.out, ← HM2.out] at hok2
          have hmy2 := (hok2.2.2.2 (slot + al, M2) (by simp)).1
          have hp := EpAt.pushed (x := (slot + al, M2)) HFF.out HG0.out HOWN.out HROW.out HBLK.out HGG.out HGF.out hok2 ((HK4.out.drew).alloc _) (ownsAlloc HO4.out _) hg4w ⟨by simp only; omega, by simp only; omega⟩ (fun y hy => by have := hmy2.mem hy; exact ⟨by omega, by omega⟩) (by have := HN.out; simp; omega) ho6 hk6 hn6
          refine ⟨(congrArg (fun r => Ending.returned (.int .i64 r)) H0.out).symm, ?_, hp.2⟩
          rw [HL.out, ← HM2.out]
          exact hp.1)
    | false =>
      cases bm with
      | false =>
        have hmm : m ∉ M := fun h => by have := HBI.out.2 h; simp at this
        have he := HERR.out 8 (by omega) (by rw [HCH2.out, if_neg (by simp), if_pos ⟨rfl, hmm⟩])
        have HE := hid he
        clear he hmm
        go_wp2_with fail
        go_ret
        exact HE.out
      | true =>
        have hmm := HBI.out.1 rfl
        by_cases hl1 : M.length = 1
        · have he := HERR.out 1 (by omega) (by rw [HCH2.out, if_neg (by simp), if_neg (fun h => h.2 hmm), if_pos ⟨rfl, hl1⟩])
          have HE := hid he
          have hd1 : ((M.length : Int) == 1) = true := by simp; omega
          clear he hmm hl1
          go_wp2_with fail
          go_ret
          exact HE.out
        have h0 : chE al L slot m false = 0 := by rw [HCH2.out, if_neg (by simp), if_neg (fun h => h.2 hmm), if_neg (fun h => hl1 h.2)]
        have hL : chL al L slot m false = L ++ [(slot + al, chM M m false)] := by rw [chL, if_pos h0, ← HM.out]
        obtain ⟨hdel, hilt⟩ := del_mem HMY.out hmm
        rw [← HI.out] at hdel hilt
        rw [← chM_del] at hdel
        have hil : (chM M m false).length = M.length - 1 := by rw [← hdel, delAt]; simp; omega
        have hc3 := HCL.out w2 HK2.out
        have hd1 : ((M.length : Int) == 1) = false := by simp; omega
        have H0 := hid h0; have HL := hid hL; have HDEL := hid hdel; have HIL := hid hil; have HL1 := hid hl1
        clear h0 hL hdel hil hmm hl1
        go_wp2_with fail
        refine hc3.mono ?_
        rintro e w3 ⟨g3, c3, rfl, ho3, hg3, k3⟩
        have hM15 := HMY.out.2.1
        have hin := delI (i := i) ho3 (by have := HMY.out.2.1; omega) hilt
        rw [HDEL.out, ← HIL.out] at hin
        have hg3w : w.heap.size ≤ g3 := by have := HK2.out.size; omega
        have HK3 := hid (HK2.out.trans k3 (fun _ _ h => h))
        clear ho3 k3 hc3 f0 f1 hd1
        go_wp2_with fail
        with_reducible refine hin.mono ?_
        rintro e w4 ⟨rfl, ho4, k4'⟩
        have k4 : Keep (fun _ => False) w w4 := HK3.out.trans k4' (fun b hb e => by omega)
        obtain ⟨g4, hg4⟩ : ∃ g4, g4 = g3 := ⟨_, rfl⟩
        obtain ⟨c4, hc4⟩ : ∃ c4, c4 = c3 := ⟨_, rfl⟩
        have hg4w : w.heap.size ≤ g4 := by omega
        obtain ⟨M2, hM2⟩ : ∃ M2, M2 = chM M m false := ⟨_, rfl⟩
        rw [← hM2, ← hg4, ← hc4] at ho4
        rw [← hM2]
        have HM2 := hid hM2
        clear hin hM2 k4'
        subst hg4 hc4
        have HO4 := hid ho4; have HK4 := hid k4
        have a1 := k4.cell c1 id
        have a0 := k4.cell c0 id
        have af := free_at (k4.heap HG0.out id) 1
        have hgw : g < w4.heap.size := by have := lt_heap HG0.out; have := k4.size; omega
        have hwr : IntKind.i64.wrap (slot + al) = slot + al := by rw [IntKind.wrap_i64]; omega
        have hown4 := k4.owns HOWN.out (fun _ _ => id)
        rw [← HN.out] at hown4
        have HOW4 := hid hown4
        have hstore : ∀ w7 w6, Keep (fun _ => False) w4 w7 → Keep (fun k => some k = (Value.slice (some ⟨b, off, none⟩) (n + 1) c).ownBlock) w7 w6 → w6.cell? ⟨g, 1, none⟩ = some (.slice (some ⟨b, off, none⟩) (n + 1) c) ∧ w6.frozen? ⟨g, 1, none⟩ = false := fun w7 w6 q1 q2 => by
          have hgv : ¬ some g = (Value.slice (some ⟨b, off, none⟩) (n + 1) c).ownBlock := fun e => (HBLK.out g (by rw [← HN.out]; exact e.symm)).1.2 rfl
          have h6 := q2.heap (q1.heap (HK4.out.heap HG0.out id) id) hgv
          rw [← HN.out] at h6
          exact ⟨cell_at h6 1 _ rfl, free_at h6 1⟩
        have HST := hid hstore
        clear ho4 k4 hown4 hstore
        go_wp2_with fail
        go_region_law (first | (refine step_app (v := .slice (some ⟨b, off, none⟩) (n + 1) c) (by rfl) (by rfl) SLE (by rfl) (ownsAlloc HOW4.out _) (by rfl) (row_one2 w4.drew _ _ _) (by simp [Value.oneCell']) (by omega) (by omega) ?_; intro A c6 w6 ho6 hk6 hn6; obtain ⟨p1, p2⟩ := HST.out _ _ (((Keep.refl _ w4).drew).alloc _) hk6))
        all_goals (
          go_wp2_with fail
          go_ret
          have hok2 := HOK.out.change slot m false
          rw [HL.out, ← HM2.out] at hok2
          have hmy2 := (hok2.2.2.2 (slot + al, M2) (by simp)).1
          have hp := EpAt.pushed (x := (slot + al, M2)) HFF.out HG0.out HOWN.out HROW.out HBLK.out HGG.out HGF.out hok2 ((HK4.out.drew).alloc _) (ownsAlloc HO4.out _) hg4w ⟨by simp only; omega, by simp only; omega⟩ (fun y hy => by have := hmy2.mem hy; exact ⟨by omega, by omega⟩) (by have := HN.out; simp; omega) ho6 hk6 hn6
          refine ⟨(congrArg (fun r => Ending.returned (.int .i64 r)) H0.out).symm, ?_, hp.2⟩
          rw [HL.out, ← HM2.out]
          exact hp.1)
end
end Go.Proofs.Ytbkgobdpgokbaaa
