/- wapentakelaw1.CodecFails: the walk. -/
import Derived.Test.YtbfdnhffcdbidaaReads
import Derived.Test.YtbfdnhffcdbidaaThing
import Derived.Test.YtbfdnhffcdbidaaWrites
import Derived.Test.YtbfdnhffcdbidaaRd2
namespace Go.Proofs.Ytbfdnhffcdbidaa
open Go.RowKit

/-- What has failed, failed. -/
theorem rNum_f {s : RS} (h : s.f ≠ 0) : rNum s = (0, s) := by simp [rNum, rDo, h]
theorem rBytes_f {s : RS} (h : s.f ≠ 0) (m : Int) : rBytes s m = ([], s) := by simp [rBytes, rDo, h]
theorem rFlag_f {s : RS} (h : s.f ≠ 0) : rFlag s = (false, s) := by simp [rFlag, rDo, h]
theorem rWord_f {s : RS} (h : s.f ≠ 0) : rWord s = (0, s) := by simp [rWord, rDo, h]
theorem wPut_f {s : WS} (h : s.f ≠ 0) (t : Thing) : wPut s t = s := by
  unfold wPut wNum wText wFlag wWord wRefuse
  simp [h]
/-- A thing is read, whatever is asked for last. -/
def rAny (s : RS) (t : Thing) : RS :=
  if t.d ≤ 1 then (rNum s).2 else if t.d = 2 then (rBytes s t.n).2 else if t.d = 3 then (rBytes s t.n).2 else if t.d = 4 then (rFlag s).2 else (rWord s).2
theorem rAny_cases (s : RS) (t : Thing) : (∃ u : Thing, u.d ≤ 5 ∧ rAny s t = rOp s u) := by
  rcases d_cases t.d with e | e | e | e | e | e
  · exact ⟨t, by omega, by simp [rAny, rOp, e]⟩
  · exact ⟨t, by omega, by simp [rAny, rOp, e]⟩
  · exact ⟨t, by omega, by simp [rAny, rOp, e]⟩
  · exact ⟨t, by omega, by simp [rAny, rOp, e]⟩
  · exact ⟨t, by omega, by simp [rAny, rOp, e]⟩
  · exact ⟨{ t with d := 5 }, by simp, by simp [rAny, rOp, show ¬ t.d ≤ 1 by omega, show ¬ t.d = 2 by omega, show ¬ t.d = 3 by omega, show ¬ t.d = 4 by omega]⟩
theorem rAny_len (s : RS) (t : Thing) : (rAny s t).b.length ≤ s.b.length := by
  obtain ⟨u, _, h⟩ := rAny_cases s t
  rw [h]
  exact rOp_len s u
theorem rAny_f {s : RS} (h : s.f ≠ 0) (t : Thing) : rAny s t = s := by
  unfold rAny
  simp [rNum_f h, rBytes_f h, rFlag_f h, rWord_f h]
theorem rDo_fail {α : Type} {s : RS} {z : α} {r : Int ⊕ (α × List UInt8)} (h : s.f ≠ 0 → s.b = []) : (rDo s z r).2.f ≠ 0 → (rDo s z r).2.b = [] := by
  unfold rDo
  split
  · exact h
  · split
    · exact fun _ => rfl
    · exact fun q => absurd rfl q
theorem rAny_fail {s : RS} (h : s.f ≠ 0 → s.b = []) (t : Thing) : (rAny s t).f ≠ 0 → (rAny s t).b = [] := by
  unfold rAny
  split
  · exact rDo_fail h
  split
  · exact rDo_fail h
  split
  · exact rDo_fail h
  split
  · exact rDo_fail h
  · exact rDo_fail h

set_option maxRecDepth 20000 in
set_option maxHeartbeats 2000000 in
theorem fails_calls {w : World} {vb v v' : Value} {b : List UInt8} {l l' : List Thing} (hb : Row (fun k => k < w.heap.size) w vb b.length 1 (b.map U8)) (hbl : b.length ≤ 140737488351232) (hv : Sl .thing w (fun b => b < w.heap.size) v l) (hv' : Sl .thing w (fun b => b < w.heap.size) v' l') :
    Calls Try.prog 9 #[vb, v, v'] w fun e w' => e = .returned (.bool true) ∧ Below w.heap.size w w' := by
  obtain ⟨A, c, rfl⟩ := hv.shape
  obtain ⟨A', c', rfl⟩ := hv'.shape
  obtain ⟨Ab, cb, rfl⟩ := hb.shape
  have HV := hid hv
  have HV' := hid hv'
  have HB := hid hb
  obtain ⟨n, hn⟩ : ∃ n, n = l.length := ⟨_, rfl⟩
  have hmax : n ≤ 9223372036854775807 := by obtain ⟨_, _, _, h1, h2, _⟩ := hv; unfold maxLen at h2; omega
  obtain ⟨n', hn'⟩ : ∃ n', n' = l'.length := ⟨_, rfl⟩
  have hmax' : n' ≤ 9223372036854775807 := by obtain ⟨_, _, _, h1, h2, _⟩ := hv'; unfold maxLen at h2; omega
  obtain ⟨nb, hnb⟩ : ∃ nb, nb = b.length := ⟨_, rfl⟩
  rw [← hn, ← hn', ← hnb]
  rw [← hnb] at hbl
  have HN := hid hn
  have HN' := hid hn'
  have HNB := hid hnb
  clear hv hv' hn hn' hb hnb
  go_enter Try.func9, Try.ntmps9
  go_wp2_with fail
  refine (awake_calls w).mono ?_
  rintro e w1 ⟨rfl, hk1⟩
  have HV1 := hid (HV.out.keep hk1 (fun _ _ => id))
  have HV1' := hid (HV'.out.keep hk1 (fun _ _ => id))
  have HB1 := hid (HB.out.keep hk1 (fun _ _ => id))
  have hs1 := hk1.size
  by_cases h2 : 5000 < nb
  · go_wp2
    go_ret
    exact ⟨rfl, hk1.below (Nat.le_refl _) (fun _ _ => id)⟩
  go_wp2_with fail
  rw [HN.out]
  refine (room_calls HV1.out).mono ?_
  rintro e w' ⟨rfl, rfl⟩
  rw [← HN.out]
  by_cases hr : roomP l
  case neg =>
    simp only [hr, decide_false]
    clear hr
    go_wp2
    go_ret
    exact ⟨rfl, hk1.below (Nat.le_refl _) (fun _ _ => id)⟩
  simp only [hr, decide_true]
  have HR := hid hr
  clear hr
  go_wp2_with fail
  rw [HN'.out]
  refine (room_calls HV1'.out).mono ?_
  rintro e w' ⟨rfl, rfl⟩
  rw [← HN'.out]
  by_cases hr : roomP l'
  case neg =>
    simp only [hr, decide_false]
    clear hr
    go_wp2
    go_ret
    exact ⟨rfl, hk1.below (Nat.le_refl _) (fun _ _ => id)⟩
  simp only [hr, decide_true]
  have HR' := hid hr
  clear hr
  go_wp2_with fail
  rw [HNB.out]
  refine (newReader_calls HB1.out (by rw [← HNB.out]; omega)).mono ?_
  rw [← HNB.out]
  rintro e w2 ⟨g, rfl, hr2, hk2⟩
  have hs2 := hk2.size
  have hgl := hr2.lt
  have hg1 : w1.heap.size ≤ g := by obtain ⟨_, _, _, q⟩ := hr2; exact q.1
  go_wp2_with fail
  refine (newWriter_calls w2).mono ?_
  rintro e w3 ⟨rfl, rfl⟩
  have hk3 : Keep (fun _ => False) w2 (w2.alloc (WrObj (.slice none 0 0) 0)) := (Keep.refl _ _).alloc _
  have hr3 := hr2.keep hk3 (fun _ _ => id)
  have hw3 := WrAt.fresh w2
  generalize hW3 : w2.alloc (WrObj (.slice none 0 0) 0) = w3 at *
  have hs3 : w3.heap.size = w2.heap.size + 1 := by rw [← hW3]; simp
  go_wp2_with fail
  refine (rrefuse_calls hr3).mono ?_
  rintro e w4 ⟨v4, rfl, rfl, hr4, hk4⟩
  have hw4 := hw3.keep hk4 (fun k hk e => by have e : k = g := e; have := hk.1; omega)
  have hst : rStop ⟨b, 0⟩ 4 = ⟨[], 4⟩ := rfl
  rw [hst] at hr4
  clear hst
  have hs4 := hk4.size
  go_wp2_with fail
  refine (refuse_calls hw4).mono ?_
  rintro e w5 ⟨rfl, hw5, hk5⟩
  have hs5 := hk5.size
  have hr5 := hr4.keep hk5 (fun k hk q => by have := hk.2; have := q.1; omega)
  have hst : wRefuse ⟨[], 0⟩ = ⟨[], 1⟩ := rfl
  rw [hst] at hw5
  clear hst
  have hkp5 : Keep (fun _ => False) w w5 := (((hk1.trans hk2 (fun _ _ => id)).trans hk3 (fun _ _ => id)).trans hk4 (fun k hk e => by have e : k = g := e; omega)).trans hk5 (fun k hk q => by have := q.1; omega)
  have H0 : ∃ F1, WrAt F1 w5 w2.heap.size ⟨[], 1⟩ ∧ (∀ k, F1 k → w2.heap.size ≤ k) := by
    refine ⟨_, hw5, ?_⟩
    rintro k (⟨h1, h2⟩ | ⟨h1, h2⟩) <;> omega
  have hgw : w.heap.size ≤ g := by omega
  have z1 := rNum_f (s := ⟨[], 4⟩) (by decide)
  have z2 := rBytes_f (s := ⟨[], 4⟩) (by decide) 99
  have z3 := rFlag_f (s := ⟨[], 4⟩) (by decide)
  have z4 := rWord_f (s := ⟨[], 4⟩) (by decide)
  have Z1 := hid z1
  have Z2 := hid z2
  have Z3 := hid z3
  have Z4 := hid z4
  clear z1 z2 z3 z4 hr2 hr3 hw3 hw4 hr4
  go_wp2_with fail
  go_loopw [9] (fun i wr => ∃ k : Nat, k ≤ n ∧ i = .int .i64 k ∧ ∃ F1, WrAt F1 wr w2.heap.size ⟨[], 1⟩ ∧ (∀ k, F1 k → w2.heap.size ≤ k) ∧ RdAt (NewIn w1 w2) wr g ⟨[], 4⟩ ∧ Keep (fun _ => False) w wr ∧ w2.heap.size ≤ wr.heap.size) (fun i _ => n - (intOf i).toNat)
  case atStart => obtain ⟨F1, h1, h2⟩ := H0; exact ⟨0, Nat.zero_le _, rfl, F1, h1, h2, hr5, hkp5, by omega⟩
  case round =>
    obtain ⟨k, hk, rfl, F1, hw, hb1, hrr, hkp, hsz⟩ := hrel
    have hks := hkp.size
    have hnb : ∀ b, b < w.heap.size → ¬ F1 b := fun b hb q => by have := hb1 b q; omega
    have HB1' := hid hb1
    clear hb1
    by_cases hlt : k < n
    · have htl : k < l.length := by rw [← HN.out]; exact hlt
      obtain ⟨t, ht⟩ : ∃ t, l[k]? = some t := ⟨l[k]'htl, by simp [htl]⟩
      have hmem : t ∈ l := List.mem_of_getElem? ht
      have hsm := HR.out.2 t hmem
      have hn3 : n ≤ 300 := by rw [HN.out]; exact HR.out.1
      have HVr := hid (HV.out.keep hkp (fun _ _ => id))
      obtain ⟨bb, off, tv, rfl, hFb, htv, c0, c1, c2, c3, c4, c5⟩ := thing_at (HN.out ▸ HVr.out) ht
      have hpf := wPut_f (s := ⟨[], 1⟩) (by decide) t
      clear ht H0 htl HV HV1 HVr
      go_wp2_with fail
      refine (put_calls hw htv (by omega) (by omega) (by simp)).mono ?_
      rintro e w6 ⟨rfl, hw6, hk6⟩
      rw [hpf] at hw6
      have hr6 := hrr.keep hk6 (fun k hk q => by have := hk.2; have := HB1'.out k q; omega)
      have hs6 := hk6.size
      have hF6 : ∀ q, NewIn w1 w2 q → q < w6.heap.size := fun q hq => by have := hq.2; omega
      clear c0 c1 c2 c3 c4 c5 htv hrr hw hpf
      go_wp2_with fail
      refine (rnum_calls hr6 hF6).mono ?_
      rintro e w7 ⟨v7, rfl, hv7, hr7, hk7⟩
      rw [Z1.out] at hv7 hr7
      subst hv7
      have hs7 := hk7.size
      have hF7 : ∀ q, NewIn w1 w2 q → q < w7.heap.size := fun q hq => by have := hq.2; omega
      go_wp2_with fail
      refine (rtext_calls hr7 hF7 99 (by simp)).mono ?_
      rintro e w8 ⟨v8, rfl, hv8, hr8, hk8⟩
      rw [Z2.out] at hv8 hr8
      subst hv8
      have hs8 := hk8.size
      have hF8 : ∀ q, NewIn w1 w2 q → q < w8.heap.size := fun q hq => by have := hq.2; omega
      go_wp2_with fail
      refine (rbytes_calls hr8 hF8 99 (by simp)).mono ?_
      rintro e w9 ⟨v9, rfl, hv9, hr9, hk9⟩
      rw [Z2.out] at hv9 hr9
      obtain ⟨A9, c9, rfl⟩ := (Row.ofOwn hv9.1).shape
      have hs9 := hk9.size
      have hF9 : ∀ q, NewIn w1 w2 q → q < w9.heap.size := fun q hq => by have := hq.2; omega
      simp only [List.length_nil]
      go_wp2_with fail
      refine (rflag_calls hr9 hF9).mono ?_
      rintro e w10 ⟨v10, rfl, hv10, hr10, hk10⟩
      rw [Z3.out] at hv10 hr10
      subst hv10
      have hs10 := hk10.size
      have hF10 : ∀ q, NewIn w1 w2 q → q < w10.heap.size := fun q hq => by have := hq.2; omega
      go_wp2_with fail
      refine (rword_calls hr10 hF10).mono ?_
      rintro e w11 ⟨v11, rfl, hv11, hr11, hk11⟩
      rw [Z4.out] at hv11 hr11
      subst hv11
      have hs11 := hk11.size
      go_wp2_with fail
      refine (left_calls hr11).mono ?_
      rintro e w' ⟨rfl, rfl⟩
      simp only [List.length_nil]
      go_wp2
      have hkg : Keep (fun k => k = g) w6 w11 := (((hk7.trans hk8 (fun _ _ => id)).trans hk9 (fun _ _ => id)).trans hk10 (fun _ _ => id)).trans hk11 (fun _ _ => id)
      have hdg : ∀ k, Grow F1 wr w6 k → ¬ (k = g) := by
        rintro k (h1 | ⟨h1, _⟩) e
        · have := HB1'.out k h1; omega
        · omega
      refine ⟨⟨k + 1, by omega, by simp, _, hw6.keep hkg hdg, ?_, hr11, (hkp.trans hk6 (fun b hb q => hnb b hb q)).trans hkg (fun q hq e => by have e : q = g := e; omega), by omega⟩, by simp [intOf]; omega⟩
      rintro q (h1 | ⟨h1, _⟩)
      · exact HB1'.out q h1
      · omega
    · have hHB := HB.out.keep hkp (fun _ _ => id)
      have hn3' : n' ≤ 300 := by rw [HN'.out]; exact HR'.out.1
      go_wp2_with fail
      refine (done_calls hw (by simp)).mono ?_
      rintro e w6 ⟨v6, rfl, ho6, hn6, hk6⟩
      have hr6 := hrr.keep hk6 (fun _ _ => id)
      have hs6 := hk6.size
      obtain ⟨A6, c6, rfl⟩ := own_slice ho6
      have hHB6 := hid (hHB.keep hk6 (fun _ _ => id))
      simp only [show (if (1 : Int) = 0 then ([] : List UInt8) else []) = [] from rfl, List.length_nil]
      clear hHB hrr hw H0 ho6 hn6
      go_wp2_with fail
      rw [HNB.out]
      refine (newReader_calls hHB6.out (by rw [← HNB.out]; omega)).mono ?_
      rw [← HNB.out]
      rintro e w7 ⟨g7, rfl, hr7, hk7⟩
      have hs7 := hk7.size
      have hg7 : w6.heap.size ≤ g7 := by obtain ⟨_, _, _, q⟩ := hr7; exact q.1
      have hg8 := hr7.lt
      have hrg7 := hr6.keep hk7 (fun _ _ => id)
      have hkp7 := (hkp.trans hk6 (fun _ _ => id)).trans hk7 (fun _ _ => id)
      go_wp2_with fail
      go_loopw [13] (fun i wr => ∃ k : Nat, k ≤ n' ∧ i = .int .i64 k ∧ ∃ s, RdAt (NewIn w6 w7) wr g7 s ∧ s.b.length ≤ nb ∧ (s.f ≠ 0 → s.b = []) ∧ Keep (fun k => k = g7) w7 wr) (fun i _ => n' - (intOf i).toNat)
      case atStart => exact ⟨0, Nat.zero_le _, rfl, _, hr7, by rw [HNB.out]; exact Nat.le_refl _, fun q => absurd rfl q, Keep.refl _ _⟩
      case round =>
        obtain ⟨j, hj, rfl, s, hrs, hsl, hsf, hkx⟩ := hrel
        have hksx := hkx.size
        have hkr : Keep (fun _ => False) w wr := hkp7.trans hkx (fun q hq e => by have e : q = g7 := e; omega)
        by_cases hlj : j < n'
        · have htl : j < l'.length := by rw [← HN'.out]; exact hlj
          obtain ⟨t, ht⟩ : ∃ t, l'[j]? = some t := ⟨l'[j]'htl, by simp [htl]⟩
          have hn3' : n' ≤ 300 := by rw [HN'.out]; exact HR'.out.1
          have HVr := hid (HV'.out.keep hkr (fun _ _ => id))
          obtain ⟨bb, off, tv, rfl, hFb, htv, c0, c1, c2, c3, c4, c5⟩ := thing_at (HN'.out ▸ HVr.out) ht
          have hF : ∀ q, NewIn w6 w7 q → q < wr.heap.size := fun q hq => by have := hq.2; omega
          have hle : s.b.length ≤ 140737488355328 := by omega
          have hlen := rAny_len s t
          have hst := hid (fun q : s.f ≠ 0 => rAny_f q t)
          have hfl := hid (rAny_fail hsf t)
          have hnn : ∀ k, k < w.heap.size → ¬ (k = g7) := fun k hk e => by omega
          have HSF := hid hsf
          clear ht HVr htl hsf
          rcases d_cases t.d with e1 | e1 | e1 | e1 | e1 | e1
          · have hA := hid (show rAny s t = (rNum s).2 by simp [rAny, e1])
            have b1 : decide (t.d ≤ 1) = true := decide_eq_true e1
            clear e1
            go_wp2_with fail
            refine (fail_calls hrs).mono ?_
            rintro e w' ⟨rfl, rfl⟩
            go_wp2_with fail
            refine (left_calls hrs).mono ?_
            rintro e w' ⟨rfl, rfl⟩
            go_wp2_with fail
            refine (rnum_calls hrs hF).mono ?_
            rintro e w8 ⟨v8, rfl, hv8, hr8, hk8⟩
            rw [← hA.out] at hr8
            clear hv8 hA
            generalize rAny s t = s' at *
            rcases Classical.em (s.f = 0) with f0 | f0
            · rcases Classical.em (s'.f = 0) with f1 | f1
              · have x1 : (s.f != 0) = false := by simp [f0]
                have x4 : (s'.f != 0) = false := by simp [f1]
                clear f0 f1
                (go_wp2_with (first | (go_at_call 14; refine (fail_calls hr8).mono ?_; rintro e w' ⟨rfl, rfl⟩) | (go_at_call 15; refine (left_calls hr8).mono ?_; rintro e w' ⟨rfl, rfl⟩))); exact ⟨⟨j + 1, by omega, by simp, s', hr8, by omega, hfl.out, hkx.trans hk8 (fun _ _ => id)⟩, by simp [intOf]; omega⟩
              · have x1 : (s.f != 0) = false := by simp [f0]
                have x4 : (s'.f != 0) = true := by simp [f1]
                have x5 : ((s'.b.length : Int) != 0) = false := by simp [hfl.out f1]
                clear f0 f1
                (go_wp2_with (first | (go_at_call 14; refine (fail_calls hr8).mono ?_; rintro e w' ⟨rfl, rfl⟩) | (go_at_call 15; refine (left_calls hr8).mono ?_; rintro e w' ⟨rfl, rfl⟩))); exact ⟨⟨j + 1, by omega, by simp, s', hr8, by omega, hfl.out, hkx.trans hk8 (fun _ _ => id)⟩, by simp [intOf]; omega⟩
            · have hss := hst.out f0
              have x1 : (s.f != 0) = true := by simp [f0]
              have x2 : (s'.f != s.f) = false := by simp [hss]
              have x4 : (s'.f != 0) = true := by simp [hss, f0]
              have x5 : ((s'.b.length : Int) != 0) = false := by simp [hfl.out (by rw [hss]; exact f0)]
              clear f0 hss
              (go_wp2_with (first | (go_at_call 14; refine (fail_calls hr8).mono ?_; rintro e w' ⟨rfl, rfl⟩) | (go_at_call 15; refine (left_calls hr8).mono ?_; rintro e w' ⟨rfl, rfl⟩))); exact ⟨⟨j + 1, by omega, by simp, s', hr8, by omega, hfl.out, hkx.trans hk8 (fun _ _ => id)⟩, by simp [intOf]; omega⟩
          · have hA := hid (show rAny s t = (rBytes s t.n).2 by simp [rAny, e1])
            have b1 : decide (t.d ≤ 1) = false := decide_eq_false (by omega)
            have b2 : (t.d == 2) = true := by simp; omega
            clear e1
            go_wp2_with fail
            refine (fail_calls hrs).mono ?_
            rintro e w' ⟨rfl, rfl⟩
            go_wp2_with fail
            refine (left_calls hrs).mono ?_
            rintro e w' ⟨rfl, rfl⟩
            go_wp2_with fail
            refine (rtext_calls hrs hF t.n hle).mono ?_
            rintro e w8 ⟨v8, rfl, hv8, hr8, hk8⟩
            rw [← hA.out] at hr8
            clear hv8 hA
            generalize rAny s t = s' at *
            rcases Classical.em (s.f = 0) with f0 | f0
            · rcases Classical.em (s'.f = 0) with f1 | f1
              · have x1 : (s.f != 0) = false := by simp [f0]
                have x4 : (s'.f != 0) = false := by simp [f1]
                clear f0 f1
                (go_wp2_with (first | (go_at_call 14; refine (fail_calls hr8).mono ?_; rintro e w' ⟨rfl, rfl⟩) | (go_at_call 15; refine (left_calls hr8).mono ?_; rintro e w' ⟨rfl, rfl⟩))); exact ⟨⟨j + 1, by omega, by simp, s', hr8, by omega, hfl.out, hkx.trans hk8 (fun _ _ => id)⟩, by simp [intOf]; omega⟩
              · have x1 : (s.f != 0) = false := by simp [f0]
                have x4 : (s'.f != 0) = true := by simp [f1]
                have x5 : ((s'.b.length : Int) != 0) = false := by simp [hfl.out f1]
                clear f0 f1
                (go_wp2_with (first | (go_at_call 14; refine (fail_calls hr8).mono ?_; rintro e w' ⟨rfl, rfl⟩) | (go_at_call 15; refine (left_calls hr8).mono ?_; rintro e w' ⟨rfl, rfl⟩))); exact ⟨⟨j + 1, by omega, by simp, s', hr8, by omega, hfl.out, hkx.trans hk8 (fun _ _ => id)⟩, by simp [intOf]; omega⟩
            · have hss := hst.out f0
              have x1 : (s.f != 0) = true := by simp [f0]
              have x2 : (s'.f != s.f) = false := by simp [hss]
              have x4 : (s'.f != 0) = true := by simp [hss, f0]
              have x5 : ((s'.b.length : Int) != 0) = false := by simp [hfl.out (by rw [hss]; exact f0)]
              clear f0 hss
              (go_wp2_with (first | (go_at_call 14; refine (fail_calls hr8).mono ?_; rintro e w' ⟨rfl, rfl⟩) | (go_at_call 15; refine (left_calls hr8).mono ?_; rintro e w' ⟨rfl, rfl⟩))); exact ⟨⟨j + 1, by omega, by simp, s', hr8, by omega, hfl.out, hkx.trans hk8 (fun _ _ => id)⟩, by simp [intOf]; omega⟩
          · have hA := hid (show rAny s t = (rBytes s t.n).2 by simp [rAny, e1])
            have b1 : decide (t.d ≤ 1) = false := decide_eq_false (by omega)
            have b2 : (t.d == 2) = false := by simp; omega
            have b3 : (t.d == 3) = true := by simp; omega
            clear e1
            go_wp2_with fail
            refine (fail_calls hrs).mono ?_
            rintro e w' ⟨rfl, rfl⟩
            go_wp2_with fail
            refine (left_calls hrs).mono ?_
            rintro e w' ⟨rfl, rfl⟩
            go_wp2_with fail
            refine (rbytes_calls hrs hF t.n hle).mono ?_
            rintro e w8 ⟨v8, rfl, hv8, hr8, hk8⟩
            rw [← hA.out] at hr8
            clear hv8 hA
            generalize rAny s t = s' at *
            rcases Classical.em (s.f = 0) with f0 | f0
            · rcases Classical.em (s'.f = 0) with f1 | f1
              · have x1 : (s.f != 0) = false := by simp [f0]
                have x4 : (s'.f != 0) = false := by simp [f1]
                clear f0 f1
                (go_wp2_with (first | (go_at_call 14; refine (fail_calls hr8).mono ?_; rintro e w' ⟨rfl, rfl⟩) | (go_at_call 15; refine (left_calls hr8).mono ?_; rintro e w' ⟨rfl, rfl⟩))); exact ⟨⟨j + 1, by omega, by simp, s', hr8, by omega, hfl.out, hkx.trans hk8 (fun _ _ => id)⟩, by simp [intOf]; omega⟩
              · have x1 : (s.f != 0) = false := by simp [f0]
                have x4 : (s'.f != 0) = true := by simp [f1]
                have x5 : ((s'.b.length : Int) != 0) = false := by simp [hfl.out f1]
                clear f0 f1
                (go_wp2_with (first | (go_at_call 14; refine (fail_calls hr8).mono ?_; rintro e w' ⟨rfl, rfl⟩) | (go_at_call 15; refine (left_calls hr8).mono ?_; rintro e w' ⟨rfl, rfl⟩))); exact ⟨⟨j + 1, by omega, by simp, s', hr8, by omega, hfl.out, hkx.trans hk8 (fun _ _ => id)⟩, by simp [intOf]; omega⟩
            · have hss := hst.out f0
              have x1 : (s.f != 0) = true := by simp [f0]
              have x2 : (s'.f != s.f) = false := by simp [hss]
              have x4 : (s'.f != 0) = true := by simp [hss, f0]
              have x5 : ((s'.b.length : Int) != 0) = false := by simp [hfl.out (by rw [hss]; exact f0)]
              clear f0 hss
              (go_wp2_with (first | (go_at_call 14; refine (fail_calls hr8).mono ?_; rintro e w' ⟨rfl, rfl⟩) | (go_at_call 15; refine (left_calls hr8).mono ?_; rintro e w' ⟨rfl, rfl⟩))); exact ⟨⟨j + 1, by omega, by simp, s', hr8, by omega, hfl.out, hkx.trans hk8 (fun _ _ => id)⟩, by simp [intOf]; omega⟩
          · have hA := hid (show rAny s t = (rFlag s).2 by simp [rAny, e1])
            have b1 : decide (t.d ≤ 1) = false := decide_eq_false (by omega)
            have b2 : (t.d == 2) = false := by simp; omega
            have b3 : (t.d == 3) = false := by simp; omega
            have b4 : (t.d == 4) = true := by simp; omega
            clear e1
            go_wp2_with fail
            refine (fail_calls hrs).mono ?_
            rintro e w' ⟨rfl, rfl⟩
            go_wp2_with fail
            refine (left_calls hrs).mono ?_
            rintro e w' ⟨rfl, rfl⟩
            go_wp2_with fail
            refine (rflag_calls hrs hF).mono ?_
            rintro e w8 ⟨v8, rfl, hv8, hr8, hk8⟩
            rw [← hA.out] at hr8
            clear hv8 hA
            generalize rAny s t = s' at *
            rcases Classical.em (s.f = 0) with f0 | f0
            · rcases Classical.em (s'.f = 0) with f1 | f1
              · have x1 : (s.f != 0) = false := by simp [f0]
                have x4 : (s'.f != 0) = false := by simp [f1]
                clear f0 f1
                (go_wp2_with (first | (go_at_call 14; refine (fail_calls hr8).mono ?_; rintro e w' ⟨rfl, rfl⟩) | (go_at_call 15; refine (left_calls hr8).mono ?_; rintro e w' ⟨rfl, rfl⟩))); exact ⟨⟨j + 1, by omega, by simp, s', hr8, by omega, hfl.out, hkx.trans hk8 (fun _ _ => id)⟩, by simp [intOf]; omega⟩
              · have x1 : (s.f != 0) = false := by simp [f0]
                have x4 : (s'.f != 0) = true := by simp [f1]
                have x5 : ((s'.b.length : Int) != 0) = false := by simp [hfl.out f1]
                clear f0 f1
                (go_wp2_with (first | (go_at_call 14; refine (fail_calls hr8).mono ?_; rintro e w' ⟨rfl, rfl⟩) | (go_at_call 15; refine (left_calls hr8).mono ?_; rintro e w' ⟨rfl, rfl⟩))); exact ⟨⟨j + 1, by omega, by simp, s', hr8, by omega, hfl.out, hkx.trans hk8 (fun _ _ => id)⟩, by simp [intOf]; omega⟩
            · have hss := hst.out f0
              have x1 : (s.f != 0) = true := by simp [f0]
              have x2 : (s'.f != s.f) = false := by simp [hss]
              have x4 : (s'.f != 0) = true := by simp [hss, f0]
              have x5 : ((s'.b.length : Int) != 0) = false := by simp [hfl.out (by rw [hss]; exact f0)]
              clear f0 hss
              (go_wp2_with (first | (go_at_call 14; refine (fail_calls hr8).mono ?_; rintro e w' ⟨rfl, rfl⟩) | (go_at_call 15; refine (left_calls hr8).mono ?_; rintro e w' ⟨rfl, rfl⟩))); exact ⟨⟨j + 1, by omega, by simp, s', hr8, by omega, hfl.out, hkx.trans hk8 (fun _ _ => id)⟩, by simp [intOf]; omega⟩
          · have hA := hid (show rAny s t = (rWord s).2 by simp [rAny, e1])
            have b1 : decide (t.d ≤ 1) = false := decide_eq_false (by omega)
            have b2 : (t.d == 2) = false := by simp; omega
            have b3 : (t.d == 3) = false := by simp; omega
            have b4 : (t.d == 4) = false := by simp; omega
            clear e1
            go_wp2_with fail
            refine (fail_calls hrs).mono ?_
            rintro e w' ⟨rfl, rfl⟩
            go_wp2_with fail
            refine (left_calls hrs).mono ?_
            rintro e w' ⟨rfl, rfl⟩
            go_wp2_with fail
            refine (rword_calls hrs hF).mono ?_
            rintro e w8 ⟨v8, rfl, hv8, hr8, hk8⟩
            rw [← hA.out] at hr8
            clear hv8 hA
            generalize rAny s t = s' at *
            rcases Classical.em (s.f = 0) with f0 | f0
            · rcases Classical.em (s'.f = 0) with f1 | f1
              · have x1 : (s.f != 0) = false := by simp [f0]
                have x4 : (s'.f != 0) = false := by simp [f1]
                clear f0 f1
                (go_wp2_with (first | (go_at_call 14; refine (fail_calls hr8).mono ?_; rintro e w' ⟨rfl, rfl⟩) | (go_at_call 15; refine (left_calls hr8).mono ?_; rintro e w' ⟨rfl, rfl⟩))); exact ⟨⟨j + 1, by omega, by simp, s', hr8, by omega, hfl.out, hkx.trans hk8 (fun _ _ => id)⟩, by simp [intOf]; omega⟩
              · have x1 : (s.f != 0) = false := by simp [f0]
                have x4 : (s'.f != 0) = true := by simp [f1]
                have x5 : ((s'.b.length : Int) != 0) = false := by simp [hfl.out f1]
                clear f0 f1
                (go_wp2_with (first | (go_at_call 14; refine (fail_calls hr8).mono ?_; rintro e w' ⟨rfl, rfl⟩) | (go_at_call 15; refine (left_calls hr8).mono ?_; rintro e w' ⟨rfl, rfl⟩))); exact ⟨⟨j + 1, by omega, by simp, s', hr8, by omega, hfl.out, hkx.trans hk8 (fun _ _ => id)⟩, by simp [intOf]; omega⟩
            · have hss := hst.out f0
              have x1 : (s.f != 0) = true := by simp [f0]
              have x2 : (s'.f != s.f) = false := by simp [hss]
              have x4 : (s'.f != 0) = true := by simp [hss, f0]
              have x5 : ((s'.b.length : Int) != 0) = false := by simp [hfl.out (by rw [hss]; exact f0)]
              clear f0 hss
              (go_wp2_with (first | (go_at_call 14; refine (fail_calls hr8).mono ?_; rintro e w' ⟨rfl, rfl⟩) | (go_at_call 15; refine (left_calls hr8).mono ?_; rintro e w' ⟨rfl, rfl⟩))); exact ⟨⟨j + 1, by omega, by simp, s', hr8, by omega, hfl.out, hkx.trans hk8 (fun _ _ => id)⟩, by simp [intOf]; omega⟩
          · have hA := hid (show rAny s t = (rWord s).2 by simp [rAny, show ¬ t.d ≤ 1 by omega, show ¬ t.d = 2 by omega, show ¬ t.d = 3 by omega, show ¬ t.d = 4 by omega])
            have b1 : decide (t.d ≤ 1) = false := decide_eq_false (by omega)
            have b2 : (t.d == 2) = false := by simp; omega
            have b3 : (t.d == 3) = false := by simp; omega
            have b4 : (t.d == 4) = false := by simp; omega
            clear e1
            go_wp2_with fail
            refine (fail_calls hrs).mono ?_
            rintro e w' ⟨rfl, rfl⟩
            go_wp2_with fail
            refine (left_calls hrs).mono ?_
            rintro e w' ⟨rfl, rfl⟩
            go_wp2_with fail
            refine (rword_calls hrs hF).mono ?_
            rintro e w8 ⟨v8, rfl, hv8, hr8, hk8⟩
            rw [← hA.out] at hr8
            clear hv8 hA
            generalize rAny s t = s' at *
            rcases Classical.em (s.f = 0) with f0 | f0
            · rcases Classical.em (s'.f = 0) with f1 | f1
              · have x1 : (s.f != 0) = false := by simp [f0]
                have x4 : (s'.f != 0) = false := by simp [f1]
                clear f0 f1
                (go_wp2_with (first | (go_at_call 14; refine (fail_calls hr8).mono ?_; rintro e w' ⟨rfl, rfl⟩) | (go_at_call 15; refine (left_calls hr8).mono ?_; rintro e w' ⟨rfl, rfl⟩))); exact ⟨⟨j + 1, by omega, by simp, s', hr8, by omega, hfl.out, hkx.trans hk8 (fun _ _ => id)⟩, by simp [intOf]; omega⟩
              · have x1 : (s.f != 0) = false := by simp [f0]
                have x4 : (s'.f != 0) = true := by simp [f1]
                have x5 : ((s'.b.length : Int) != 0) = false := by simp [hfl.out f1]
                clear f0 f1
                (go_wp2_with (first | (go_at_call 14; refine (fail_calls hr8).mono ?_; rintro e w' ⟨rfl, rfl⟩) | (go_at_call 15; refine (left_calls hr8).mono ?_; rintro e w' ⟨rfl, rfl⟩))); exact ⟨⟨j + 1, by omega, by simp, s', hr8, by omega, hfl.out, hkx.trans hk8 (fun _ _ => id)⟩, by simp [intOf]; omega⟩
            · have hss := hst.out f0
              have x1 : (s.f != 0) = true := by simp [f0]
              have x2 : (s'.f != s.f) = false := by simp [hss]
              have x4 : (s'.f != 0) = true := by simp [hss, f0]
              have x5 : ((s'.b.length : Int) != 0) = false := by simp [hfl.out (by rw [hss]; exact f0)]
              clear f0 hss
              (go_wp2_with (first | (go_at_call 14; refine (fail_calls hr8).mono ?_; rintro e w' ⟨rfl, rfl⟩) | (go_at_call 15; refine (left_calls hr8).mono ?_; rintro e w' ⟨rfl, rfl⟩))); exact ⟨⟨j + 1, by omega, by simp, s', hr8, by omega, hfl.out, hkx.trans hk8 (fun _ _ => id)⟩, by simp [intOf]; omega⟩
        · have hrg := hrg7.keep hkx (fun k hk e => by have e : k = g7 := e; have := hk.2; omega)
          have he0 : rEnd ⟨[], 4⟩ = 4 := rfl
          go_wp2_with fail
          refine (end_calls hrg).mono ?_
          rintro e w' ⟨rfl, rfl⟩
          rw [he0]
          go_wp2
          go_ret
          exact ⟨rfl, hkr.below (Nat.le_refl _) (fun _ _ => id)⟩
end Go.Proofs.Ytbfdnhffcdbidaa
