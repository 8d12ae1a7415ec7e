/- wapentakeref6: Change. -/
import Derived.Test.YtbkgobdpgokbaaaEpLoadR
import Derived.Test.YtbkgobdpgokbaaaEpLater
import Derived.Deep.CutRange
import Derived.Deep.DeepCutAuto
import Derived.Deep.CutBlock
namespace Go.Proofs.Ytbkgobdpgokbaaa
open Go.RowKit
/-- Those below k of which p holds. -/
def memK (p : Int → Bool) (k : Nat) : List Int := ((List.range k).map (fun (n : Nat) => (n : Int))).filter p
theorem memK_succ (p : Int → Bool) (k : Nat) : memK p (k + 1) = memK p k ++ (if p k then [(k : Int)] else []) := by
  rw [memK, List.range_succ, List.map_append, List.filter_append]
  congr 1
  simp only [List.map_cons, List.map_nil, List.filter_cons, List.filter_nil]
theorem memK_all (p : Int → Bool) : memK p 15 = memL p := rfl
theorem memK_len (p : Int → Bool) (k : Nat) : (memK p k).length ≤ k := by
  have := List.length_filter_le p ((List.range k).map (fun (n : Nat) => (n : Int)))
  simpa [memK] using this
def chP (M : List Int) (m : Int) (add : Bool) (x : Int) : Bool := (x == m && add) || (x != m && M.contains x)
section
variable {F G S : Nat → Prop} {w w' : World} {v vm : Value} {L : List Ep} {M : List Int} {g B : Nat} {al : Int}
theorem REpAt.pushed {w7 w8 : World} {cs : List Value} {x : Ep} {g4 c4 N c6 : Nat} {A : Option Addr} (hF : ∀ k, F k → k < w.heap.size) (hg : w.heap[g]? = some (REpO al v)) (_ho : w.ownsRow 0 42 2 v L.length cs) (hr : EpRow w G L cs) (hb : ∀ b, v.ownBlock = some b → (F b ∧ b ≠ g) ∧ ¬ G b)
    (hG : ∀ b, G b → F b ∧ b ≠ g ∧ b < w.heap.size) (hgF : F g) (hok : EOk al (L ++ [x])) (hk7 : Keep (fun _ => False) w w7) (hmem : w7.ownsRow 0 3 1 (.slice (some ⟨g4, 0, none⟩) x.2.length c4) x.2.length (x.2.map I64)) (hg4 : w.heap.size ≤ g4) (hx1 : okI x.1) (hx2 : ∀ y ∈ x.2, okI y)
    (hN : N = (L ++ [x]).length) (ho8 : w8.ownsRow 0 42 2 (.slice A N c6) N (cs ++ [.int .i64 x.1, .slice (some ⟨g4, 0, none⟩) x.2.length c4])) (hk8 : Keep (fun k => some k = v.ownBlock) w7 w8) (hn8 : SameOrNew w7 v (.slice A N c6)) :
    REpAt (Grow F w (w8.setCell ⟨g, 1, none⟩ (.slice A N c6))) (w8.setCell ⟨g, 1, none⟩ (.slice A N c6)) g al (L ++ [x]) ∧ Keep F w (w8.setCell ⟨g, 1, none⟩ (.slice A N c6)) := by
  have hgs := hF g hgF
  have hgv : ¬ some g = v.ownBlock := fun e => (hb g e.symm).1.2 rfl
  have hg4l := own_lt' hmem g4 rfl
  have hg4v : ¬ some g4 = v.ownBlock := fun e => by have := hF g4 (hb g4 e.symm).1.1; omega
  have hs7 := hk7.size
  have hs8 := hk8.size
  have hg8 : w8.heap[g]? = some (REpO al v) := hk8.heap (hk7.heap hg id) hgv
  have hkw8 : Keep (fun k => some k = v.ownBlock) w w8 := (hk7.mono (fun _ _ h => h.elim)).trans hk8 (fun _ _ h => h)
  have hks : Keep (fun k => k = g) w8 (w8.setCell ⟨g, 1, none⟩ (.slice A N c6)) := (Keep.refl _ w8).setCell _ _ (fun _ => rfl)
  have hkF : Keep F w (w8.setCell ⟨g, 1, none⟩ (.slice A N c6)) := (hkw8.mono (fun k _ e => (hb k e.symm).1.1)).setCell _ _ (fun _ => hgF)
  have hsz : (w8.setCell ⟨g, 1, none⟩ (.slice A N c6)).heap.size = w8.heap.size := by simp
  have hblk : ∀ b, (Value.slice A N c6).ownBlock = some b → (Grow F w (w8.setCell ⟨g, 1, none⟩ (.slice A N c6)) b ∧ b ≠ g) ∧ ¬ (G b ∨ b = g4) := fun b he => by
    have hbl := own_lt' ho8 b he
    rcases hn8 b he with q | q
    · have h1 := hb b q
      have h2 := hF b h1.1.1
      exact ⟨⟨.inl h1.1.1, h1.1.2⟩, fun h => h.elim h1.2 (fun e => by omega)⟩
    · exact ⟨⟨.inr ⟨by omega, by rw [hsz]; exact hbl⟩, by omega⟩, fun h => h.elim (fun e => by have := (hG b e).2.2; omega) (fun e => by omega)⟩
  refine ⟨⟨.slice A N c6, fun b => G b ∨ b = g4, ?_, ⟨cs ++ [.int .i64 x.1, .slice (some ⟨g4, 0, none⟩) x.2.length c4], ?_, ?_, hblk⟩, ?_, .inl hgF, hok⟩, hkF⟩
  · rw [heap_set hg8 1]; rfl
  · rw [← hN]
    exact hks.owns ho8 (fun k hk e => (hblk k hk).1.2 e)
  · refine EpRow.app ((((hr.keep hkw8 (fun k hk e => (hb k e.symm).2 hk)).keep hks (fun k hk e => (hG k hk).2.1 e))).mono (fun _ h => .inl h)) (EpRow.one ?_ hx1 hx2)
    have := Row.ofOwn ((hk8.owns hmem (fun k hk => by simp only [Value.ownBlock, Option.some.injEq] at hk; subst hk; exact hg4v)))
    refine (this.keep hks (fun k hk e => by simp only [Value.ownBlock, Option.some.injEq] at hk; omega)).mono (fun k hk => by simp only [Value.ownBlock, Option.some.injEq] at hk; exact .inr hk)
  · rintro b (hb' | rfl)
    · have := hG b hb'
      exact ⟨.inl this.1, this.2.1, by rw [hsz]; omega⟩
    · exact ⟨.inr ⟨hg4, by rw [hsz]; omega⟩, by omega, by rw [hsz]; omega⟩
def RChPost (F : Nat → Prop) (g : Nat) (al : Int) (L : List Ep) (slot m : Int) (add : Bool) (w : World) (e : Ending) (w' : World) : Prop :=
  e = .returned (.int .i64 (chE al L slot m add)) ∧ REpAt (Grow F w w') w' g al (chL al L slot m add) ∧ Keep F w w'
set_option maxRecDepth 20000 in
set_option maxHeartbeats 4000000 in
theorem rchange_calls (h : REpAt F w g al L) (hF : ∀ k, F k → k < w.heap.size) (slot m : Int) (_hs1 : okI slot) (_hm1 : okI m) (add : Bool) (hl : L.length ≤ 100000) : Calls Try.prog 30 #[.pointer (some ⟨g, 0, none⟩), .int .i64 slot, .int .i64 m, .bool add] w (RChPost F g al L slot m add w) := by
  have H := hid h
  obtain ⟨v, G, hg, ⟨cs, hown, hrow, hblk⟩, hG, hgF, hok⟩ := h
  have hs : EpSl (fun b => F b ∧ b ≠ g) G w v L := ⟨cs, (Row.ofOwn hown).mono (fun b hb => (hblk b hb.symm).1), hrow⟩
  have hlm := lastE_mem hok.2.2.1
  have hlast := hok.last
  obtain ⟨n, hn⟩ : ∃ n, n + 1 = L.length := ⟨L.length - 1, by have := hok.2.2.1; omega⟩
  rw [show L.length - 1 = n by omega] at hlm
  obtain ⟨A, c, rfl⟩ := hs.shape
  obtain ⟨b, off, vm, rfl, _, d0, d1, d2, _, hokm⟩ := hs.elem hlm
  have c0 := cell_at hg 0 (.int .i64 al) rfl
  have c1 := cell_at hg 1 (.slice (some ⟨b, off, none⟩) L.length c) rfl
  obtain ⟨Am, cm, rfl⟩ := d2.shape
  obtain ⟨fr, hfr⟩ : ∃ fr, fr = (lastE L).1 := ⟨_, rfl⟩
  obtain ⟨M, hM⟩ : ∃ M, M = (lastE L).2 := ⟨_, rfl⟩
  rw [← hfr] at d0 hlast
  rw [← hM] at d1 d2 hlast hokm
  obtain ⟨hmy, hf0, hf1⟩ := hlast
  rw [← hn] at c1 hl
  have HN := hid hn; have HFR := hid hfr; have HM := hid hM; have HOK := hid hok; have HFF := hid hF; have D2 := hid d2; have HMY := hid hmy
  have HG0 := hid hg; have HOWN := hid hown; have HROW := hid hrow; have HBLK := hid hblk; have HGG := hid hG; have HGF := hid hgF; have HOKM := hid hokm
  have hal1 := hok.1; have hal8 := hok.2.1
  clear hg hs hlm hok hn hfr hM hF d2 hmy hown hrow hblk hG hgF hokm
  have hw : IntKind.i64.wrap ((n : Int) + 1 - 1) = (n : Int) := by rw [IntKind.wrap_i64]; omega
  have hw2 : IntKind.i64.wrap (n : Int) = (n : Int) := by rw [IntKind.wrap_i64]; omega
  go_enter Try.func30, Try.ntmps30
  have hn0 : (0 : Int) ≤ (n : Int) := by omega
  have hn1 : (n : Int) < (n : Int) + 1 := by omega
  go_upto_region 1 with fail
  have n1 := World.new_ne w ⟨g, 1, none⟩ c1
  have n2 := World.new_ne w ⟨b, off + n * 2, none⟩ d0
  have n3 := World.new_ne w ⟨b, off + n * 2 + 1, none⟩ d1
  go_cut [9] from 12 to 23 (fun s9 wx => Got w fr (.slice Am M.length cm) s9 wx)
  case first =>
    have hnew : Got w fr (.slice Am M.length cm) (.pointer (some ⟨w.heap.size, 0, none⟩)) (w.alloc (.cells #[.int .i64 fr, .slice Am M.length cm] 42)).drew := ⟨w.heap.size, rfl, Nat.le_refl _, heap_drew (heap_alloc_new w _), ((Keep.refl _ w).alloc _).drew⟩
    have HNEW := hid hnew
    clear hnew
    go_region_held3 (fun w' => w'.cell? ⟨g, 1, none⟩ = some (.slice (some ⟨b, off, none⟩) (n + 1) c) ∧ w'.cell? ⟨b, off + n * 2, none⟩ = some (.int .i64 fr) ∧ w'.cell? ⟨b, off + n * 2 + 1, none⟩ = some (.slice Am M.length cm)) (go_keep) (fail)
    all_goals (go_wp2_with fail; go_meet; exact HNEW.out)
  case rest =>
    obtain ⟨d, rfl, hd, hdh, hdk⟩ := hcut
    revert wc
    intro w1 hdh hdk
    have f0 := cell_at hdh 0 (.int .i64 fr) rfl
    have f1 := cell_at hdh 1 (.slice Am M.length cm) rfl
    have a0 := hdk.cell c0 id
    have hrM := D2.out.keep hdk (fun _ _ => id)
    have hha := has_calls hrM m
    have HDH := hid hdh; have HDK := hid hdk; have HRM := hid hrM
    clear hdh hdk hrM d0 d1 n1 n2 n3 hw hw2 hn0 hn1
    have herr : ∀ r : Int, r ≠ 0 → chE al L slot m add = r → RChPost F g al L slot m add w (.returned (.int .i64 r)) w1 := fun r hr he => by
      refine ⟨by rw [he], ?_, HDK.out.mono (fun _ _ h => h.elim)⟩
      have : chL al L slot m add = L := by rw [chL, if_neg (by rw [he]; exact hr)]
      rw [this]
      exact (H.out.keepF HDK.out).mono (fun _ h => .inl h)
    have HERR := hid herr
    have hche : chE al L slot m add = if slot < 0 ∨ 1099511627776 - al < slot ∨ m < 0 ∨ 15 ≤ m then 1 else if slot < fr then 12 else if add = true ∧ m ∈ M then 9 else if add = false ∧ m ∉ M then 8 else if add = false ∧ M.length = 1 then 1 else 0 := by
      rw [chE, ← HFR.out, ← HM.out]
    have HCHE := hid hche
    have hM15 := HMY.out.2.1
    clear herr hche
    go_upto_block 0 with fail
    go_cut [] from 24 to 75 (fun wx => chE al L slot m add = 0 ∧ wx = w1)
    case first =>
      by_cases s0 : slot < 0
      · have he := HERR.out 1 (by omega) (by rw [HCHE.out, if_pos (.inl s0)])
        have HE := hid he
        clear he
        go_wp2_with fail
        go_ret
        exact HE.out
      by_cases s1 : 1099511627776 - al < slot
      · have he := HERR.out 1 (by omega) (by rw [HCHE.out, if_pos (.inr (.inl s1))])
        have HE := hid he
        clear he
        go_wp2_with fail
        go_ret
        exact HE.out
      by_cases m0 : m < 0
      · have he := HERR.out 1 (by omega) (by rw [HCHE.out, if_pos (.inr (.inr (.inl m0)))])
        have HE := hid he
        clear he
        go_wp2_with fail
        go_ret
        exact HE.out
      by_cases m15 : 15 ≤ m
      · have he := HERR.out 1 (by omega) (by rw [HCHE.out, if_pos (.inr (.inr (.inr m15)))])
        have HE := hid he
        clear he
        go_wp2_with fail
        go_ret
        exact HE.out
      have hche := HCHE.out
      rw [if_neg (by omega)] at hche
      by_cases sf : slot < fr
      · have he := HERR.out 12 (by omega) (by rw [hche, if_pos sf])
        have HE := hid he
        clear he hche
        go_wp2_with fail
        go_ret
        exact HE.out
      rw [if_neg sf] at hche
      have HCH2 := hid hche
      clear hche HCHE
      cases add with
      | true =>
        by_cases hmm : m ∈ M
        · have he := HERR.out 9 (by omega) (by rw [HCH2.out, if_pos ⟨rfl, hmm⟩])
          rw [decide_eq_true hmm] at hha
          have HE := hid he
          clear he hmm
          go_wp2_with fail
          refine hha.mono ?_
          rintro e w' ⟨rfl, rfl⟩
          go_wp2_with fail
          go_ret
          exact HE.out
        · have h0 : chE al L slot m true = 0 := by rw [HCH2.out, if_neg (fun h => hmm h.2), if_neg (by simp), if_neg (by simp)]
          rw [decide_eq_false hmm] at hha
          have HE := hid h0
          clear h0 hmm
          go_wp2_with fail
          refine hha.mono ?_
          rintro e w' ⟨rfl, rfl⟩
          go_wp2_with fail
          go_meet
          exact ⟨HE.out, rfl⟩
      | false =>
        by_cases hmm : m ∈ M
        · rw [decide_eq_true hmm] at hha
          by_cases hl1 : M.length = 1
          · have he := HERR.out 1 (by omega) (by rw [HCH2.out, if_neg (by simp), if_neg (fun h => h.2 hmm), if_pos ⟨rfl, hl1⟩])
            have HE := hid he
            have hd1 : ((M.length : Int) == 1) = true := by simp; omega
            clear he hmm hl1
            go_wp2_with fail
            refine hha.mono ?_
            rintro e w' ⟨rfl, rfl⟩
            go_wp2_with fail
            go_ret
            exact HE.out
          · have h0 : chE al L slot m false = 0 := by rw [HCH2.out, if_neg (by simp), if_neg (fun h => h.2 hmm), if_neg (fun h => hl1 h.2)]
            have HE := hid h0
            have hd1 : ((M.length : Int) == 1) = false := by simp; omega
            clear h0 hmm hl1
            go_wp2_with fail
            refine hha.mono ?_
            rintro e w' ⟨rfl, rfl⟩
            go_wp2_with fail
            go_meet
            exact ⟨HE.out, rfl⟩
        · rw [decide_eq_false hmm] at hha
          have he := HERR.out 8 (by omega) (by rw [HCH2.out, if_neg (by simp), if_pos ⟨rfl, hmm⟩])
          have HE := hid he
          clear he hmm
          go_wp2_with fail
          refine hha.mono ?_
          rintro e w' ⟨rfl, rfl⟩
          go_wp2_with fail
          go_ret
          exact HE.out
    case rest =>
      obtain ⟨h0, hwc⟩ := hcut
      rw [hwc]
      clear hwc wc
      have hz := chE_zero.1 h0
      have hL : chL al L slot m add = L ++ [(slot + al, memK (chP M m add) 15)] := by rw [chL, if_pos h0, ← HM.out]; rfl
      have HH0 := hid h0; have HZ := hid hz; have HL := hid hL
      clear h0 hz hL HCHE hha HERR
      go_wp2_with fail
      go_loopw [10, 11] (fun ms i wr => ∃ (k : Nat) (A : Option Addr) (c : Nat), k ≤ 15 ∧ i = .int .i64 k ∧ ms = .slice A (memK (chP M m add) k).length c ∧ wr.ownsRow 0 3 1 (.slice A (memK (chP M m add) k).length c) (memK (chP M m add) k).length ((memK (chP M m add) k).map I64) ∧
        (∀ b, (Value.slice A (memK (chP M m add) k).length c).ownBlock = some b → w1.heap.size ≤ b) ∧ Keep (fun _ => False) w1 wr) (fun _ i _ => 15 - (intOf i).toNat)
      case atStart => exact ⟨0, none, 0, by omega, rfl, rfl, World.ownsRow_nil _ 0 _ _, fun b hb => by simp [Value.ownBlock] at hb, Keep.refl _ _⟩
      case round =>
        obtain ⟨k, A, c2, hk, rfl, rfl, ho, hnb, hkp⟩ := hrel
        by_cases hlt : k < 15
        · have hf1 := hkp.cell f1 id
          have hh := has_calls (HRM.out.keep hkp (fun _ _ => id)) (k : Int)
          have hNk := memK_len (chP M m add) k
          obtain ⟨N, hN⟩ : ∃ N, N = (memK (chP M m add) k).length := ⟨_, rfl⟩
          rw [← hN] at ho hnb hNk ⊢
          have HNL := hid hN; have HO := hid ho; have HNB := hid hnb; have HKP := hid hkp
          clear hN ho hnb hkp
          by_cases hkm : (k : Int) = m
          · have hb : ((k : Int) == m) = true := by simp [hkm]
            have HKM := hid hkm
            clear hkm
            cases add with
            | true =>
              go_wp2_with (at_builtin; refine stopHere ?_)
              refine goOn (wpl_app (v := .slice A N c2) rfl rfl SLI7 rfl (ownsAlloc HO.out _) rfl (Row.one wr _ _) (by simp [Value.oneCell']) (by omega) (by omega) ?_)
              intro A5 c5 w5 ho5 hk5 hn5
              go_wp2_with fail
              have hS : memK (chP M m true) (k + 1) = memK (chP M m true) k ++ [(k : Int)] := by rw [memK_succ, if_pos (by simp [chP, HKM.out])]
              have hlen : (memK (chP M m true) (k + 1)).length = N + 1 := by rw [hS, List.length_append, ← HNL.out]; rfl
              refine ⟨⟨k + 1, A5, c5, by omega, by simp, by rw [hlen], by rw [hlen, hS, List.map_append]; exact ho5, fun q hq => ?_, HKP.out.trans (((Keep.refl _ wr).alloc _).trans hk5 (fun _ _ h => h)) (fun q h1 h2 => by have := HNB.out q h2.symm; have := HDK.out.size; omega)⟩, by simp [intOf]; omega⟩
              rcases hn5 q (by rw [hlen] at hq; exact hq) with e | e
              · exact HNB.out q e
              · have e : wr.heap.size + 1 ≤ q := by simpa using e
                have := HKP.out.size
                have := HDK.out.size
                omega
            | false =>
              have hb2 : ((k : Int) != m) = false := by simp [HKM.out]
              go_wp2_with fail
              have hS : memK (chP M m false) (k + 1) = memK (chP M m false) k := by rw [memK_succ, if_neg (by simp [chP, HKM.out]), List.append_nil]
              exact ⟨⟨k + 1, A, c2, by omega, by simp, by rw [hS, HNL.out], by rw [hS, ← HNL.out]; exact HO.out, by rw [hS, ← HNL.out]; exact HNB.out, HKP.out⟩, by simp [intOf]; omega⟩
          · have hb : ((k : Int) == m) = false := by simp [hkm]
            have hb2 : ((k : Int) != m) = true := by simp [hkm]
            have HKM := hid hkm
            clear hkm
            by_cases hmem : (k : Int) ∈ M
            · rw [decide_eq_true hmem] at hh
              have HMEM := hid hmem
              clear hmem
              go_wp2_with fail
              refine hh.mono ?_
              rintro e w' ⟨rfl, rfl⟩
              go_wp2_with (at_builtin; refine stopHere ?_)
              refine goOn (wpl_app (v := .slice A N c2) rfl rfl SLI7 rfl (ownsAlloc HO.out _) rfl (Row.one wr _ _) (by simp [Value.oneCell']) (by omega) (by omega) ?_)
              intro A5 c5 w5 ho5 hk5 hn5
              go_wp2_with fail
              have hS : memK (chP M m add) (k + 1) = memK (chP M m add) k ++ [(k : Int)] := by rw [memK_succ, if_pos (by simp [chP, HKM.out, HMEM.out])]
              have hlen : (memK (chP M m add) (k + 1)).length = N + 1 := by rw [hS, List.length_append, ← HNL.out]; rfl
              refine ⟨⟨k + 1, A5, c5, by omega, by simp, by rw [hlen], by rw [hlen, hS, List.map_append]; exact ho5, fun q hq => ?_, HKP.out.trans (((Keep.refl _ wr).alloc _).trans hk5 (fun _ _ h => h)) (fun q h1 h2 => by have := HNB.out q h2.symm; have := HDK.out.size; omega)⟩, by simp [intOf]; omega⟩
              rcases hn5 q (by rw [hlen] at hq; exact hq) with e | e
              · exact HNB.out q e
              · have e : wr.heap.size + 1 ≤ q := by simpa using e
                have := HKP.out.size
                have := HDK.out.size
                omega
            · rw [decide_eq_false hmem] at hh
              have HMEM := hid hmem
              clear hmem
              go_wp2_with fail
              refine hh.mono ?_
              rintro e w' ⟨rfl, rfl⟩
              go_wp2_with fail
              have hS : memK (chP M m add) (k + 1) = memK (chP M m add) k := by rw [memK_succ, if_neg (by simp [chP, HKM.out, HMEM.out]), List.append_nil]
              exact ⟨⟨k + 1, A, c2, by omega, by simp, by rw [hS, HNL.out], by rw [hS, ← HNL.out]; exact HO.out, by rw [hS, ← HNL.out]; exact HNB.out, HKP.out⟩, by simp [intOf]; omega⟩
        · obtain rfl : k = 15 := by omega
          have HKP := hid hkp
          have hok2 := HOK.out.change slot m add
          rw [HL.out] at hok2
          obtain ⟨M2, hM2⟩ : ∃ M2, M2 = memK (chP M m add) 15 := ⟨_, rfl⟩
          rw [← hM2] at ho hnb hok2 ⊢
          have hmy2 := (hok2.2.2.2 (slot + al, M2) (by simp)).1
          obtain ⟨g4, cap, he⟩ : ∃ g cap, Value.slice A M2.length c2 = .slice (some ⟨g, 0, none⟩) M2.length cap := by
            obtain ⟨_, ⟨h2, h3⟩ | ⟨g, c, cur, he, _⟩⟩ := ho
            · have := hmy2.1; simp only at this; omega
            · exact ⟨g, c, he⟩
          simp only [Value.slice.injEq, true_and] at he
          obtain ⟨rfl, rfl⟩ := he
          have hg4w : w.heap.size ≤ g4 := by have := hnb g4 rfl; have := HDK.out.size; omega
          have HOK2 := hid hok2; have HMY2 := hid hmy2; have HM2 := hid hM2; have HO4 := hid ho
          have hz := HZ.out
          obtain ⟨⟨z1, z2, z3, z4⟩, z5, _⟩ := hz
          have HK4 := hid (HDK.out.trans HKP.out (fun _ _ h => h))
          have a1 := HK4.out.cell c1 id
          have a0 := HK4.out.cell c0 id
          have af := free_at (HK4.out.heap HG0.out id) 1
          have hgw : g < wr.heap.size := by have := lt_heap HG0.out; have := HK4.out.size; omega
          have hwr : IntKind.i64.wrap (slot + al) = slot + al := by rw [IntKind.wrap_i64]; omega
          have hown4 := HK4.out.owns HOWN.out (fun _ _ => id)
          rw [← HN.out] at hown4
          have HOW4 := hid hown4
          have hstore : ∀ w7 w6, Keep (fun _ => False) wr w7 → Keep (fun k => some k = (Value.slice (some ⟨b, off, none⟩) (n + 1) c).ownBlock) w7 w6 → w6.cell? ⟨g, 1, none⟩ = some (.slice (some ⟨b, off, none⟩) (n + 1) c) ∧ w6.frozen? ⟨g, 1, none⟩ = false := fun w7 w6 q1 q2 => by
            have hgv : ¬ some g = (Value.slice (some ⟨b, off, none⟩) (n + 1) c).ownBlock := fun e => (HBLK.out g (by rw [← HN.out]; exact e.symm)).1.2 rfl
            have h6 := q2.heap (q1.heap (HK4.out.heap HG0.out id) id) hgv
            rw [← HN.out] at h6
            exact ⟨cell_at h6 1 _ rfl, free_at h6 1⟩
          have HST := hid hstore
          obtain ⟨n2, hn2⟩ : ∃ n2, n2 = M2.length := ⟨_, rfl⟩
          rw [← hn2] at HO4 ⊢
          have HN2 := hid hn2
          clear ho hnb hok2 hmy2 hM2 hkp hown4 hstore f0 f1 hn2 z5
          go_wp2_with fail
          go_region_law (first | (refine step_app (v := .slice (some ⟨b, off, none⟩) (n + 1) c) (by rfl) (by rfl) SLE (by rfl) (ownsAlloc HOW4.out _) (by rfl) (row_one2 wr.drew _ _ _) (by simp [Value.oneCell']) (by omega) (by omega) ?_; intro A6 c6 w6 ho6 hk6 hn6; obtain ⟨p1, p2⟩ := HST.out _ _ (((Keep.refl _ wr).drew).alloc _) hk6))
          all_goals (
            go_wp2_with fail
            go_ret
            have ho4 := HO4.out
            rw [HN2.out] at ho4 ho6 hk6 hn6
            have hp := REpAt.pushed (x := (slot + al, M2)) HFF.out HG0.out HOWN.out HROW.out HBLK.out HGG.out HGF.out HOK2.out ((HK4.out.drew).alloc _) (ownsAlloc ho4 _) hg4w ⟨by simp only; omega, by simp only; omega⟩ (fun y hy => by have := HMY2.out.mem hy; exact ⟨by omega, by omega⟩) (by have := HN.out; simp; omega) ho6 hk6 hn6
            refine ⟨(congrArg (fun r => Ending.returned (.int .i64 r)) HH0.out).symm, ?_, hp.2⟩
            rw [HL.out, ← HM2.out]
            exact hp.1)
end
end Go.Proofs.Ytbkgobdpgokbaaa
