/- wapentakelaw1.CodecWrites: the walk. -/
import Derived.Test.YtbfdnhffcdbidaaThing
import Derived.Test.YtbfdnhffcdbidaaL1
namespace Go.Proofs.Ytbfdnhffcdbidaa
open Go.RowKit

/-- What is written of things. -/
def wPuts (l : List Thing) : WS := l.foldl wPut ⟨[], 0⟩
theorem wPuts_snoc (l : List Thing) (t : Thing) : wPuts (l ++ [t]) = wPut (wPuts l) t := by simp [wPuts]
theorem wPut_len (s : WS) (t : Thing) (hs : t.s.size ≤ 2000) (hb : t.b.length ≤ 2000) : (wPut s t).b.length ≤ s.b.length + 2010 := by
  have h6 : ∀ n : Nat, n ≤ 1099511627776 → (encNum n).length ≤ 6 := fun n => encNum_small
  unfold wPut
  split
  · unfold wNum
    split
    · omega
    · split
      · rename_i h
        have := h6 t.n.toNat (by omega)
        simp only [List.length_append]; omega
      · simp only; omega
  split
  · unfold wText
    split
    · omega
    · split
      · have := h6 t.s.data.toList.length (by simp; omega)
        have hl : t.s.data.toList.length = t.s.size := by simp
        simp only [List.length_append]; omega
      · simp only; omega
  split
  · unfold wText
    split
    · omega
    · split
      · have := h6 t.b.length (by omega)
        simp only [List.length_append]; omega
      · simp only; omega
  split
  · unfold wFlag
    split
    · omega
    · simp
  split
  · unfold wWord
    split
    · omega
    · simp [layBytes_len]
  · unfold wRefuse
    split <;> simp
theorem wPuts_len (l : List Thing) (h : ∀ t ∈ l, t.s.size ≤ 2000 ∧ t.b.length ≤ 2000) : (wPuts l).b.length ≤ 2010 * l.length := by
  have key : ∀ (l : List Thing) (s : WS), (∀ t ∈ l, t.s.size ≤ 2000 ∧ t.b.length ≤ 2000) → (l.foldl wPut s).b.length ≤ s.b.length + 2010 * l.length := by
    intro l
    induction l with
    | nil => intro s _; simp
    | cons t l ih =>
      intro s h
      have h1 := wPut_len s t (h t (by simp)).1 (h t (by simp)).2
      have h2 := ih (wPut s t) (fun u hu => h u (by simp [hu]))
      simp only [List.foldl_cons, List.length_cons]
      omega
  have := key l ⟨[], 0⟩ h
  rw [wPuts]
  simpa using this

/-- A writer and the reference's writer, side by side, both newer than w. -/
def WLoop (w wr : World) (g m : Nat) (s : WS) : Prop :=
  ∃ F1 F2, WrAt F1 wr g s ∧ MwAt F2 wr m s ∧ (∀ k, F1 k → ¬ F2 k) ∧ (∀ k, F1 k → w.heap.size ≤ k ∧ k < wr.heap.size) ∧ (∀ k, F2 k → w.heap.size ≤ k ∧ k < wr.heap.size) ∧ Keep (fun _ => False) w wr

theorem MwAt.fresh (w : World) : MwAt (NewIn w (w.alloc (MwObj (.slice none 0 0) 0))) (w.alloc (MwObj (.slice none 0 0) 0)) w.heap.size ⟨[], 0⟩ :=
  ⟨.slice none 0 0, heap_alloc_new w _, World.ownsRow_nil _ 0 _ 1, ⟨Nat.le_refl _, by simp⟩, fun k hk => by simp [Value.ownBlock] at hk⟩

set_option maxRecDepth 20000 in
set_option maxHeartbeats 1000000 in
theorem writes_calls {w : World} {v : Value} {l : List Thing} (hv : Sl .thing w (fun b => b < w.heap.size) v l) :
    Calls Try.prog 4 #[v] w fun e w' => e = .returned (.bool true) ∧ Below w.heap.size w w' := by
  obtain ⟨A, c, rfl⟩ := hv.shape
  have HV := hid hv
  obtain ⟨n, hn⟩ : ∃ n, n = l.length := ⟨_, rfl⟩
  have hmax : n ≤ 9223372036854775807 := by obtain ⟨_, _, _, h1, h2, _⟩ := hv; unfold maxLen at h2; omega
  rw [← hn]
  have HN := hid hn
  clear hv hn
  go_enter Try.func4, Try.ntmps4
  go_wp2_with fail
  refine (awake_calls w).mono ?_
  rintro e w1 ⟨rfl, hk1⟩
  have HV1 := hid (HV.out.keep hk1 (fun _ _ => id))
  go_wp2_with fail
  rw [HN.out]
  refine (room_calls HV1.out).mono ?_
  rintro e w' ⟨rfl, rfl⟩
  rw [← HN.out]
  by_cases hr : roomP l
  · simp only [hr, decide_true]
    have HR := hid hr
    clear hr
    go_wp2_with fail
    refine (newWriter_calls w1).mono ?_
    rintro e w2 ⟨rfl, rfl⟩
    have hs1 := hk1.size
    have H0 : WLoop w ((w1.alloc (WrObj (.slice none 0 0) 0)).alloc (MwObj (.slice none 0 0) 0)) w1.heap.size (w1.heap.size + 1) (wPuts (l.take 0)) := by
      refine ⟨_, _, (WrAt.fresh w1).keep ((Keep.refl (fun _ => False) _).alloc _) (fun _ _ => id), by simpa [wPuts] using MwAt.fresh (w1.alloc (WrObj (.slice none 0 0) 0)), ?_, ?_, ?_, (hk1.alloc _).alloc _⟩
      · rintro k ⟨_, h1⟩ ⟨h2, _⟩; omega
      · rintro k ⟨h1, h2⟩; simp at h2 ⊢; omega
      · rintro k ⟨h1, h2⟩; simp at h1 h2 ⊢; omega
    go_wp2_with fail
    go_loopw [5] (fun i wr => ∃ k : Nat, k ≤ n ∧ i = .int .i64 k ∧ WLoop w wr w1.heap.size (w1.heap.size + 1) (wPuts (l.take k))) (fun i _ => n - (intOf i).toNat)
    case atStart => exact ⟨0, Nat.zero_le _, rfl, H0⟩
    case round =>
      obtain ⟨k, hk, rfl, F1, F2, hw, hm, hdis, hb1, hb2, hkp⟩ := hrel
      by_cases hlt : k < n
      · have htl : k < l.length := by rw [← HN.out]; exact hlt
        obtain ⟨t, ht⟩ : ∃ t, l[k]? = some t := ⟨l[k]'htl, by simp [htl]⟩
        have hmem : t ∈ l := List.mem_of_getElem? ht
        have hsm := HR.out.2 t hmem
        have hn3 : n ≤ 300 := by rw [HN.out]; exact HR.out.1
        have hlen := wPuts_len (l.take k) (fun u hu => HR.out.2 u (List.mem_of_mem_take hu))
        have hlk : (l.take k).length ≤ 300 := by simp; omega
        have hnext : wPuts (l.take (k + 1)) = wPut (wPuts (l.take k)) t := by rw [List.take_add_one, ht]; exact wPuts_snoc _ _
        have hlen' := wPut_len (wPuts (l.take k)) t hsm.1 hsm.2
        have HNX := hid hnext
        have HVr := hid (HV.out.keep hkp (fun _ _ => id))
        obtain ⟨b, off, tv, rfl, hFb, htv, c0, c1, c2, c3, c4, c5⟩ := thing_at (HN.out ▸ HVr.out) ht
        generalize wPuts (l.take k) = s at *
        clear hnext ht H0 htl
        have hnb : ∀ b, b < w.heap.size → ¬ F1 b := fun b hb q => by have := (hb1 b q).1; omega
        have hnb2 : ∀ b, b < w.heap.size → ¬ F2 b := fun b hb q => by have := (hb2 b q).1; omega
        have hks := hkp.size
        have hlb : s.b.length ≤ 1000000 := by omega
        have hlb' : (wPut s t).b.length ≤ 35184372088832 := by omega
        have HB1 := hid hb1
        have HB2 := hid hb2
        have HDIS := hid hdis
        clear hlen hlen' hb1 hb2 hdis HV HV1 HVr
        go_wp2_with fail
        refine (put_calls hw htv (by omega) (by omega) (by omega)).mono ?_
        rintro e w2 ⟨rfl, hw2, hk2⟩
        have hm2 := hm.keep hk2 (fun b q r => HDIS.out b r q)
        have htv2 := htv.keep hk2 hnb
        have d0 := hk2.cell c0 (hnb _ hFb)
        have d1 := hk2.cell c1 (hnb _ hFb)
        have d2 := hk2.cell c2 (hnb _ hFb)
        have d3 := hk2.cell c3 (hnb _ hFb)
        have d4 := hk2.cell c4 (hnb _ hFb)
        have d5 := hk2.cell c5 (hnb _ hFb)
        have hs2 := hk2.size
        clear c0 c1 c2 c3 c4 c5 htv hw hm
        go_wp2_with fail
        refine (model_calls hm2 htv2 (fun b hb => ⟨hnb2 b hb, by omega⟩) (by omega) (by omega) (by omega)).mono ?_
        rintro e w3 ⟨rfl, hm3, hk3⟩
        have hdis2 : ∀ k, Grow F1 wr w2 k → ¬ F2 k := Grow.apart HDIS.out (fun k q => (HB2.out k q).2)
        have hw3 := hw2.keep hk3 hdis2
        have hs3 := hk3.size
        clear d0 d1 d2 d3 d4 d5 hm2 htv2 hw2
        generalize wPut s t = s' at *
        go_wp2_with fail
        refine (done_calls hw3 hlb').mono ?_
        rintro e w4 ⟨v4, rfl, ho4, hn4, hk4⟩
        have hw4 := hw3.keep hk4 (fun _ _ => id)
        have hm4 := hm3.keep hk4 (fun _ _ => id)
        have hs4 := hk4.size
        go_wp2_with fail
        refine (mdone_calls hm4 hlb').mono ?_
        rintro e w5 ⟨v5, rfl, ho5, hn5, hk5⟩
        have hw5 := hw4.keep hk5 (fun _ _ => id)
        have hm5 := hm4.keep hk5 (fun _ _ => id)
        have hs5 := hk5.size
        have hrow4 := (Row.ofOwn ho4).keep hk5 (fun _ _ => id)
        have hrow5 := Row.ofOwn ho5
        clear ho4 ho5 hw3 hw4 hm3 hm4
        go_wp2_with fail
        refine (same_calls hrow4 hrow5).mono ?_
        rintro e w6 ⟨rfl, hk6⟩
        simp only [decide_true]
        have hs6 := hk6.size
        go_wp2
        refine ⟨⟨k + 1, by omega, by simp, _, _, by rw [HNX.out]; exact hw5.keep hk6 (fun _ _ => id), by rw [HNX.out]; exact hm5.keep hk6 (fun _ _ => id), ?_, ?_, ?_, ?_⟩, by simp [intOf]; omega⟩
        · rintro q hq1 (hq2 | ⟨hq2, hq3⟩)
          · exact hdis2 q hq1 hq2
          · rcases hq1 with hq1 | ⟨_, hq1⟩
            · have := (HB1.out q hq1).2; omega
            · omega
        · rintro q (hq | ⟨h1, h2⟩)
          · have := HB1.out q hq; omega
          · omega
        · rintro q (hq | ⟨h1, h2⟩)
          · have := HB2.out q hq; omega
          · omega
        · exact ((((hkp.trans hk2 (fun b hb q => hnb b hb q)).trans hk3 (fun b hb q => hnb2 b hb q)).trans hk4 (fun _ _ => id)).trans hk5 (fun _ _ => id)).trans hk6 (fun _ _ => id)
      · go_wp2_with fail
        go_ret
        exact ⟨rfl, hkp.below (Nat.le_refl _) (fun _ _ => id)⟩
  · simp only [hr, decide_false]
    clear hr
    go_wp2
    go_ret
    exact ⟨rfl, hk1.below (Nat.le_refl _) (fun _ _ => id)⟩
end Go.Proofs.Ytbfdnhffcdbidaa
