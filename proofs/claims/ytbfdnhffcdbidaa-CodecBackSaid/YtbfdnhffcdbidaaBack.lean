/- wapentakelaw1.CodecBack: the walk. -/
import Derived.Test.YtbfdnhffcdbidaaBackPure
import Derived.Test.YtbfdnhffcdbidaaRd2
import Derived.Test.YtbfdnhffcdbidaaRef1
import Derived.Deep.RegionHeld3
namespace Go.Proofs.Ytbfdnhffcdbidaa
open Go.RowKit

theorem RdAt.drewN' {F : Nat → Prop} {w : World} {g : Nat} {s : RS} (h : RdAt F w g s) (n : Nat) : RdAt F (w.drewN n) g s := h.keep ((Keep.refl (fun _ => False) w).drewN n) (fun _ _ => id)
theorem RdAt.drew {F : Nat → Prop} {w : World} {g : Nat} {s : RS} (h : RdAt F w g s) : RdAt F w.drew g s := h.keep (Keep.refl (fun _ => False) w).drew (fun _ _ => id)
theorem str_back (s : ByteArray) : (⟨s.data.toList.toArray⟩ : ByteArray) = s := by cases s; rfl

set_option maxRecDepth 20000 in
set_option maxHeartbeats 2000000 in
theorem back_calls {w : World} {v : Value} {l : List Thing} (hv : Sl .thing w (fun b => b < w.heap.size) v l) :
    Calls Try.prog 8 #[v] w fun e w' => e = .returned (.bool true) ∧ Below w.heap.size w w' := by
  obtain ⟨A, c, rfl⟩ := hv.shape
  have HV := hid hv
  obtain ⟨n, hn⟩ : ∃ n, n = l.length := ⟨_, rfl⟩
  have hmax : n ≤ 9223372036854775807 := by obtain ⟨_, _, _, h1, h2, _⟩ := hv; unfold maxLen at h2; omega
  rw [← hn]
  have HN := hid hn
  clear hv hn
  go_enter Try.func8, Try.ntmps8
  go_wp2_with fail
  refine (awake_calls w).mono ?_
  rintro e w1 ⟨rfl, hk1⟩
  have HV1 := hid (HV.out.keep hk1 (fun _ _ => id))
  go_wp2_with fail
  rw [HN.out]
  refine (room_calls HV1.out).mono ?_
  rintro e w' ⟨rfl, rfl⟩
  rw [← HN.out]
  by_cases hr : roomP l
  · simp only [hr, decide_true]
    have HR := hid hr
    clear hr
    go_wp2_with fail
    refine (newWriter_calls w1).mono ?_
    rintro e w2 ⟨rfl, rfl⟩
    have hs1 := hk1.size
    have H0 : ∃ F1, WrAt F1 (w1.alloc (WrObj (.slice none 0 0) 0)) w1.heap.size (wPuts (l.take 0)) ∧ (∀ k, F1 k → w.heap.size ≤ k ∧ k < (w1.alloc (WrObj (.slice none 0 0) 0)).heap.size) ∧ Keep (fun _ => False) w (w1.alloc (WrObj (.slice none 0 0) 0)) := by
      refine ⟨_, WrAt.fresh w1, ?_, hk1.alloc _⟩
      rintro k ⟨h1, h2⟩; simp at h2 ⊢; omega
    go_wp2_with fail
    go_loopw [4] (fun i wr => ∃ k : Nat, k ≤ n ∧ i = .int .i64 k ∧ ∃ F1, WrAt F1 wr w1.heap.size (wPuts (l.take k)) ∧ (∀ k, F1 k → w.heap.size ≤ k ∧ k < wr.heap.size) ∧ Keep (fun _ => False) w wr) (fun i _ => n - (intOf i).toNat)
    case atStart => exact ⟨0, Nat.zero_le _, rfl, H0⟩
    case round =>
      obtain ⟨k, hk, rfl, F1, hw, hb1, hkp⟩ := hrel
      by_cases hlt : k < n
      · have htl : k < l.length := by rw [← HN.out]; exact hlt
        obtain ⟨t, ht⟩ : ∃ t, l[k]? = some t := ⟨l[k]'htl, by simp [htl]⟩
        have hmem : t ∈ l := List.mem_of_getElem? ht
        have hsm := HR.out.2 t hmem
        have hn3 : n ≤ 300 := by rw [HN.out]; exact HR.out.1
        have hlen := wPuts_len (l.take k) (fun u hu => HR.out.2 u (List.mem_of_mem_take hu))
        have hlk : (l.take k).length ≤ 300 := by simp; omega
        have hnext : wPuts (l.take (k + 1)) = wPut (wPuts (l.take k)) t := by rw [List.take_add_one, ht]; exact wPuts_snoc _ _
        have HNX := hid hnext
        have HVr := hid (HV.out.keep hkp (fun _ _ => id))
        obtain ⟨b, off, tv, rfl, hFb, htv, c0, c1, c2, c3, c4, c5⟩ := thing_at (HN.out ▸ HVr.out) ht
        generalize wPuts (l.take k) = s at *
        clear hnext ht H0 htl
        have hnb : ∀ b, b < w.heap.size → ¬ F1 b := fun b hb q => by have := (hb1 b q).1; omega
        have hks := hkp.size
        have hlb : s.b.length ≤ 1000000 := by omega
        have HB1 := hid hb1
        clear hlen hb1 HV HV1 HVr
        go_wp2_with fail
        refine (put_calls hw htv (by omega) (by omega) (by omega)).mono ?_
        rintro e w2 ⟨rfl, hw2, hk2⟩
        have hs2 := hk2.size
        go_wp2
        refine ⟨⟨k + 1, by omega, by simp, _, by rw [HNX.out]; exact hw2, ?_, hkp.trans hk2 (fun b hb q => hnb b hb q)⟩, by simp [intOf]; omega⟩
        rintro q (hq | ⟨h1, h2⟩)
        · have := HB1.out q hq; omega
        · omega
      · have hkn : k = n := by omega
        subst hkn
        have hall : l.take k = l := by rw [HN.out]; exact List.take_length
        rw [hall] at hw
        have hlen := wPuts_len l HR.out.2
        have hn3 : k ≤ 300 := by rw [HN.out]; exact HR.out.1
        rw [← HN.out] at hlen
        have hlb : (wPuts l).b.length ≤ 35184372088832 := by omega
        have HB1 := hid hb1
        clear hb1 hall
        go_wp2_with fail
        refine (done_calls hw hlb).mono ?_
        rintro e w2 ⟨v2, rfl, ho2, hn2, hk2⟩
        have hs2 := hk2.size
        have hkp2 := hkp.trans hk2 (fun _ _ => id)
        by_cases hf : (wPuts l).f = 0
        · obtain ⟨hok, hbb⟩ := wPuts_ok hf
          rw [if_pos hf, hbb] at ho2
          rw [hf]
          rw [hbb] at hlen
          have hrow := (Row.ofOwn ho2)
          obtain ⟨A2, c2, rfl⟩ := own_slice ho2
          have HOK := hid hok
          clear hok hbb hf hw
          go_wp2_with fail
          refine (newReader_calls hrow (by omega)).mono ?_
          rintro e w3 ⟨g, rfl, hr3, hk3⟩
          have hkp3 := hkp2.trans hk3 (fun _ _ => id)
          have hs3 := hk3.size
          have hsk := hkp.size
          have hgw : w.heap.size ≤ g := by obtain ⟨_, _, _, q⟩ := hr3; have := q.1; omega
          go_wp2_with fail
          go_loopw [8] (fun i wr => ∃ j : Nat, j ≤ k ∧ i = .int .i64 j ∧ RdAt (NewIn w2 w3) wr g ⟨encAll (l.drop j), 0⟩ ∧ Keep (fun q => q = g) w3 wr) (fun i _ => k - (intOf i).toNat)
          case atStart => exact ⟨0, Nat.zero_le _, rfl, by simpa using hr3, Keep.refl _ _⟩
          case round =>
            obtain ⟨j, hj, rfl, hrr, hkx⟩ := hrel
            have hkr : Keep (fun _ => False) w wr := hkp3.trans hkx (fun q hq e => by have e : q = g := e; omega)
            have hs4 := hkr.size
            have hw34 := hkx.size
            by_cases hlj : j < k
            · have htl : j < l.length := by rw [← HN.out]; exact hlj
              obtain ⟨t, ht⟩ : ∃ t, l[j]? = some t := ⟨l[j]'htl, by simp [htl]⟩
              have hmem : t ∈ l := List.mem_of_getElem? ht
              have hsm := HR.out.2 t hmem
              have hkt := HOK.out t hmem
              have hxt := thing_word HV.out hmem
              have hnext := hid (encAll_drop ht)
              have HVr := hid (HV.out.keep hkr (fun _ _ => id))
              obtain ⟨b, off, tv, rfl, hFb, htv, c0, c1, c2, c3, c4, c5⟩ := thing_at (HN.out ▸ HVr.out) ht
              rw [hnext.out] at hrr
              generalize hrest : encAll (l.drop (j + 1)) = rest at *
              have HREST := hid hrest
              clear hrest
              obtain ⟨At, ct, rfl⟩ := htv.shape
              have hktw := tW_keep wr t (.slice At t.b.length ct) (fun _ => False)
              have hrt := hrr.keep hktw (fun _ _ => id)
              have htvt := htv.keep hktw (fun _ _ => id)
              have hF : ∀ q, NewIn w2 w3 q → q < (tW wr t (.slice At t.b.length ct)).heap.size := fun q hq => by have := hq.2; simp; omega
              have hgn : ¬ (wr.heap.size = g) := by have := hr3.lt; omega
              clear ht hrr htv HV HV1 HVr H0
              have hle : (encThing t ++ rest).length ≤ 140737488355328 := by have h1 := hnext.out; have h2 := encAll_len l j; rw [h1] at h2; omega
              rcases d_cases t.d with e1 | e1 | e1 | e1 | e1 | e1
              · have HB := back_num (r := rest) hkt e1
                have b1 : decide (t.d ≤ 1) = true := decide_eq_true e1
                have hnn := hkt.2 e1
                have hz : (max t.n 0 == t.n) = true := by simp; omega
                clear e1
                go_wp2_with fail
                go_region_held3 (fun w' => w'.cell? ⟨wr.heap.size, 1, none⟩ = some (.int .i64 t.n)) (go_keep) (first | (go_at_call 13; refine (rnum_calls (hrt.drewN' _) hF).mono ?_; rintro e w4 ⟨v4, rfl, hv4, hr4, hk4⟩; rw [HB] at hr4; have q4 := hk4.cell (a := ⟨wr.heap.size, 1, none⟩) (v := (.int .i64 t.n)) (by simp) hgn; rw [HB] at hv4; subst hv4))
                go_wp2
                refine ⟨⟨j + 1, by omega, by simp, by rw [HREST.out]; exact hr4, (hkx.trans (hktw.drewN 1) (fun _ _ q => q.elim)).trans hk4 (fun _ _ => id)⟩, by simp [intOf]; omega⟩
              · have HB := back_text (r := rest) e1 hsm.1
                have b1 : decide (t.d ≤ 1) = false := decide_eq_false (by omega)
                have b2 : (t.d == 2) = true := by simp; omega
                clear e1
                go_wp2_with fail
                go_region_held3 (fun w' => w'.cell? ⟨wr.heap.size, 3, none⟩ = some (.string t.s)) (go_keep) (first | (go_at_call 31; refine (rtext_calls (hrt.drewN' _) hF 2000 hle).mono ?_; rintro e w4 ⟨v4, rfl, hv4, hr4, hk4⟩; rw [HB] at hr4; have q4 := hk4.cell (a := ⟨wr.heap.size, 3, none⟩) (v := (.string t.s)) (by simp) hgn; rw [HB, str_back] at hv4; subst hv4))
                go_wp2
                refine ⟨⟨j + 1, by omega, by simp, by rw [HREST.out]; exact hr4, (hkx.trans (hktw.drewN 1) (fun _ _ q => q.elim)).trans hk4 (fun _ _ => id)⟩, by simp [intOf]; omega⟩
              · have HB := back_bytes (r := rest) e1 hsm.2
                have b1 : decide (t.d ≤ 1) = false := decide_eq_false (by omega)
                have b2 : (t.d == 2) = false := by simp; omega
                have b3 : (t.d == 3) = true := by simp; omega
                clear e1
                go_wp2_with fail
                go_region_held3 (fun w' => w'.cell? ⟨wr.heap.size, 4, none⟩ = some (.slice At t.b.length ct)) (go_keep) (first | (go_at_call 32; refine (rbytes_calls (hrt.drewN' _) hF 2000 hle).mono ?_; rintro e w4 ⟨v4, rfl, hv4, hr4, hk4⟩; rw [HB] at hr4; have q4 := hk4.cell (a := ⟨wr.heap.size, 4, none⟩) (v := (.slice At t.b.length ct)) (by simp) hgn; rw [HB] at hv4; have hrow4 := Row.ofOwn hv4.1; have hrow5 := (htvt.row.keep ((Keep.refl (fun _ => False) _).drewN 1) (fun _ _ => id)).keep hk4 (fun b hb e => by have e : b = g := e; omega)) | (go_at_call 18; refine (same_calls hrow4 hrow5).mono ?_; rintro e w5 ⟨rfl, hk5⟩; simp only [decide_true]; have q5 := hk5.cell q4 (fun q => q); have hr5 := hr4.keep hk5 (fun _ _ => id)))
                go_wp2
                refine ⟨⟨j + 1, by omega, by simp, by rw [HREST.out]; exact hr5, ((hkx.trans (hktw.drewN 1) (fun _ _ q => q.elim)).trans hk4 (fun _ _ => id)).trans hk5 (fun _ _ q => q.elim)⟩, by simp [intOf]; omega⟩
              · have HB := back_flag (r := rest) e1
                have b1 : decide (t.d ≤ 1) = false := decide_eq_false (by omega)
                have b2 : (t.d == 2) = false := by simp; omega
                have b3 : (t.d == 3) = false := by simp; omega
                have b4 : (t.d == 4) = true := by simp; omega
                clear e1
                go_wp2_with fail
                go_region_held3 (fun w' => w'.cell? ⟨wr.heap.size, 5, none⟩ = some (.bool t.flag)) (go_keep) (first | (go_at_call 33; refine (rflag_calls (hrt.drewN' _) hF).mono ?_; rintro e w4 ⟨v4, rfl, hv4, hr4, hk4⟩; rw [HB] at hr4; have q4 := hk4.cell (a := ⟨wr.heap.size, 5, none⟩) (v := (.bool t.flag)) (by simp) hgn; rw [HB] at hv4; subst hv4))
                go_wp2
                refine ⟨⟨j + 1, by omega, by simp, by rw [HREST.out]; exact hr4, (hkx.trans (hktw.drewN 1) (fun _ _ q => q.elim)).trans hk4 (fun _ _ => id)⟩, by simp [intOf]; omega⟩
              · have HB := back_word (r := rest) e1 hxt
                have b1 : decide (t.d ≤ 1) = false := decide_eq_false (by omega)
                have b2 : (t.d == 2) = false := by simp; omega
                have b3 : (t.d == 3) = false := by simp; omega
                have b4 : (t.d == 4) = false := by simp; omega
                clear e1
                go_wp2_with fail
                go_region_held3 (fun w' => w'.cell? ⟨wr.heap.size, 2, none⟩ = some (.int .u64 t.x)) (go_keep) (first | (go_at_call 34; refine (rword_calls (hrt.drewN' _) hF).mono ?_; rintro e w4 ⟨v4, rfl, hv4, hr4, hk4⟩; rw [HB] at hr4; have q4 := hk4.cell (a := ⟨wr.heap.size, 2, none⟩) (v := (.int .u64 t.x)) (by simp) hgn; rw [HB] at hv4; subst hv4))
                go_wp2
                refine ⟨⟨j + 1, by omega, by simp, by rw [HREST.out]; exact hr4, (hkx.trans (hktw.drewN 1) (fun _ _ q => q.elim)).trans hk4 (fun _ _ => id)⟩, by simp [intOf]; omega⟩
              · exact absurd hkt.1 (by omega)
            · have hjk : j = k := by omega
              have hnil : encAll (l.drop j) = [] := by rw [hjk, HN.out, List.drop_length]; rfl
              rw [hnil] at hrr
              clear hnil
              have he0 : rEnd ⟨[], 0⟩ = 0 := rfl
              go_wp2_with fail
              refine (end_calls hrr).mono ?_
              rintro e w' ⟨rfl, rfl⟩
              rw [he0]
              go_wp2_with fail
              refine (left_calls hrr).mono ?_
              rintro e w' ⟨rfl, rfl⟩
              go_wp2
              go_ret
              exact ⟨rfl, hkr.below (Nat.le_refl _) (fun _ _ => id)⟩
        · have hz : decide ((wPuts l).f = 0) = false := decide_eq_false hf
          rw [if_neg hf] at ho2
          obtain ⟨A2, c2, rfl⟩ := own_slice ho2
          have hnz : ((wPuts l).f != 0) = true := by simpa using hf
          go_wp2
          go_ret
          exact ⟨rfl, hkp2.below (Nat.le_refl _) (fun _ _ => id)⟩
  · simp only [hr, decide_false]
    clear hr
    go_wp2
    go_ret
    exact ⟨rfl, hk1.below (Nat.le_refl _) (fun _ _ => id)⟩
end Go.Proofs.Ytbfdnhffcdbidaa
