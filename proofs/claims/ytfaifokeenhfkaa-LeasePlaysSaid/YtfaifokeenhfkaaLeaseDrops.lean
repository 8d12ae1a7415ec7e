/- wapentakelaw18.LeaseDrops: the walk. -/
import Derived.Test.YtfaifokeenhfkaaLeaseN
namespace Go.Proofs.Ytfaifokeenhfkaa
open Go.RowKit
theorem okI.of {n : Int} (h : (Lit.int .i64 n).wf = true) : okI n := by
  simp [Lit.wf, IntKind.min, IntKind.max, IntKind.signed, IntKind.bits] at h
  exact ⟨by omega, by omega⟩
def dS (id l : Int) : LeS := ⟨10, 1, 1, if l < 0 then [] else [(id, l)], false, 0, 0⟩
theorem dS_giveB {id l t : Int} (hid : 0 ≤ id ∧ id < 15) (hl : -1 ≤ l) : giveB (dS id l) id t = decide (l < t ∧ t ≤ 1099511627776) := by
  by_cases h : l < 0
  · have h1 : giveB (dS id l) id t = decide (giveOk id t) := by simp [giveB, dS, h, look]
    rw [h1, decide_eq_decide]
    unfold giveOk
    omega
  · have h1 : giveB (dS id l) id t = (decide (giveOk id t) && !decide (t ≤ l)) := by simp [giveB, dS, h, look]
    rw [h1]
    by_cases c : t ≤ l
    · rw [decide_eq_true c, decide_eq_false (fun q : l < t ∧ t ≤ 1099511627776 => by omega)]
      simp
    · rw [decide_eq_false c, Bool.not_false, Bool.and_true, decide_eq_decide]
      unfold giveOk
      omega
theorem dS_giveS {id l t : Int} (hid : 0 ≤ id ∧ id < 15) (hl : -1 ≤ l) : giveS (dS id l) id t = dS id (if l < t ∧ t ≤ 1099511627776 then t else l) := by
  rw [giveS, dS_giveB hid hl]
  by_cases c : l < t ∧ t ≤ 1099511627776
  · rw [if_pos c, if_pos (decide_eq_true c)]
    have ht : ¬ t < 0 := by omega
    by_cases h : l < 0
    · simp [dS, h, ht, putE]
    · simp [dS, h, ht, putE]
  · rw [if_neg c, if_neg (by simpa using c)]
theorem dS_holds {id l now : Int} : holdsB (dS id l) now [id] = decide (0 ≤ l ∧ l ≤ now ∧ now - l < 10) := by
  rw [holdsB_one, Bool.eq_iff_iff]
  by_cases h : l < 0
  · simp [freshIds, dS, h]; omega
  · simp [freshIds, dS, h, freshB, shortP]; omega
def eS (now : Int) : LeS := ⟨10, 1, 1, [], true, 7, now + 10⟩
theorem dS_bound {id l now : Int} (h : 0 ≤ now ∧ now ≤ 1099511627776) : dropS (bindS (dS id l) 7 now) = eS now := by
  rw [bindS, if_pos h]
  simp [dropS, dS, eS]; omega
theorem dS_till {id l now : Int} (h : 0 ≤ now ∧ now ≤ 1099511627776) : (bindS (dS id l) 7 now).till = now + 10 := by
  rw [bindS, if_pos h]
  simp [dS]; omega
theorem drop_calls' {w : World} {B g : Nat} {s : LeS} (hB : B ≤ w.heap.size) (h : LeAt (fun k => B ≤ k) w g s) : Calls Try.prog 21 #[.pointer (some ⟨g, 0, none⟩)] w fun e w' => e = .returned (.tuple #[]) ∧ LeAt (fun k => B ≤ k) w' g (dropS s) ∧ Keep (fun k => B ≤ k) w w' := by
  have hg : B ≤ g := by obtain ⟨m, h1, h2, h3, h4⟩ := h; exact h3
  exact (drop_calls h).mono fun e w' ⟨he, hl, hk⟩ => ⟨he, hl.mono (fun k hk => hk.elim id (fun q => Nat.le_trans hB q.1)), hk.mono (fun _ _ e => by omega)⟩
theorem bind_calls' {w : World} {B g : Nat} {s : LeS} (h : LeAt (fun k => B ≤ k) w g s) (b now : Int) : Calls Try.prog 10 #[.pointer (some ⟨g, 0, none⟩), .int .i64 b, .int .i64 now] w fun e w' => e = .returned (.tuple #[]) ∧ LeAt (fun k => B ≤ k) w' g (bindS s b now) ∧ Keep (fun k => B ≤ k) w w' := by
  have hg : B ≤ g := by obtain ⟨m, h1, h2, h3, h4⟩ := h; exact h3
  exact (bind_calls h b now).mono fun e w' ⟨he, hl, hk⟩ => ⟨he, hl, hk.mono (fun _ _ e => by omega)⟩
theorem eS_free8 {now : Int} : freeB (eS now) 8 now = false := by
  have h : ¬ now + 10 ≤ now := by omega
  simp [freeB, eS, h]
/-- Holds of one member that lies in a new cell. -/
theorem holds_one {w : World} {F : Nat → Prop} {g : Nat} {s : LeS} (h : LeAt F w g s) {now x : Int} (hnow : okI now) (e : TypeId) :
    Calls Try.prog 12 #[.pointer (some ⟨g, 0, none⟩), .int .i64 now, .slice (some ⟨w.heap.size, 0, none⟩) 1 1] (w.alloc (.cells #[.int .i64 x] e)) fun e w' => e = .returned (.bool (holdsB s now [x])) ∧ Keep (fun _ => False) w w' :=
  (holds_calls (M := [x]) (h.keepF ((Keep.refl (fun _ => False) w).alloc _)) hnow (Row.one w (.int .i64 x) e) (by simp) (by simp)).mono fun e w' ⟨he, hk⟩ => ⟨he, ((Keep.refl (fun _ => False) w).alloc _).trans hk (fun _ _ h => h)⟩
set_option maxRecDepth 20000 in
set_option maxHeartbeats 1600000 in
theorem leaseDrops_calls {w : World} {v : Value} {l : List Int} (id : Int) (hwid : (Lit.int .i64 id).wf = true) (hv : Row (fun k => k < w.heap.size) w v l.length 1 (l.map I64)) (_hwf : ∀ n ∈ l, (Lit.int .i64 n).wf = true) (now : Int) (_hwnow : (Lit.int .i64 now).wf = true) :
    Calls Try.prog 7 #[.int .i64 id, v, .int .i64 now] w fun e w' => e = .returned (.bool true) ∧ Below w.heap.size w w' := by
  have hmax : l.length ≤ 9223372036854775807 := by obtain ⟨_, _, _, _, h1, h2, _⟩ := hv; unfold maxLen at h2; omega
  have hoid := okI.of hwid
  have HV := hid hv
  obtain ⟨A, c, rfl, hcell⟩ := hv.int'
  obtain ⟨n, hn⟩ : ∃ n, n = l.length := ⟨_, rfl⟩
  rw [← hn] at hcell hmax ⊢
  have HN := hid hn
  have HC := hid hcell
  clear hcell hn hv hwid
  by_cases b1 : id < 0
  · go_enter Try.func7, Try.ntmps7
    go_wp2_with fail
    refine (awake18_calls w).mono ?_
    rintro e w0 ⟨rfl, k0⟩
    go_wp2_with fail
    go_ret
    exact ⟨rfl, k0.below (Nat.le_refl _) (fun _ _ h => h)⟩
  by_cases b2 : 15 ≤ id
  · go_enter Try.func7, Try.ntmps7
    go_wp2_with fail
    refine (awake18_calls w).mono ?_
    rintro e w0 ⟨rfl, k0⟩
    go_wp2_with fail
    go_ret
    exact ⟨rfl, k0.below (Nat.le_refl _) (fun _ _ h => h)⟩
  by_cases b3 : 200 < n
  · go_enter Try.func7, Try.ntmps7
    go_wp2_with fail
    refine (awake18_calls w).mono ?_
    rintro e w0 ⟨rfl, k0⟩
    go_wp2_with fail
    go_ret
    exact ⟨rfl, k0.below (Nat.le_refl _) (fun _ _ h => h)⟩
  by_cases b4 : now < 0
  · go_enter Try.func7, Try.ntmps7
    go_wp2_with fail
    refine (awake18_calls w).mono ?_
    rintro e w0 ⟨rfl, k0⟩
    go_wp2_with fail
    go_ret
    exact ⟨rfl, k0.below (Nat.le_refl _) (fun _ _ h => h)⟩
  by_cases b5 : 1099511627776 < now
  · go_enter Try.func7, Try.ntmps7
    go_wp2_with fail
    refine (awake18_calls w).mono ?_
    rintro e w0 ⟨rfl, k0⟩
    go_wp2_with fail
    go_ret
    exact ⟨rfl, k0.below (Nat.le_refl _) (fun _ _ h => h)⟩
  have hnow : okI now := ⟨by omega, by omega⟩
  have HON := hid hnow
  have HOI := hid hoid
  have HID := hid (⟨by omega, by omega⟩ : 0 ≤ id ∧ id < 15)
  have HNW := hid (⟨by omega, by omega⟩ : 0 ≤ now ∧ now ≤ 1099511627776)
  clear hnow hoid
  go_enter Try.func7, Try.ntmps7
  go_wp2_with fail
  refine (awake18_calls w).mono ?_
  rintro e w0 ⟨rfl, k0⟩
  have K0 := hid k0
  clear k0
  go_wp2_with fail
  refine (mk_calls (B := w.heap.size) K0.out.size (by decide : newOk 10 1 1)).mono ?_
  rintro e w1 ⟨g, rfl, hl1, k1⟩
  have HL1 := hid hl1
  have K1 := hid (K0.out.trans k1 (fun _ _ h => h))
  clear hl1 k1
  go_wp2_with fail
  go_loopw [9, 10] (fun u i wr => ∃ (k : Nat) (z : Int), k ≤ n ∧ i = .int .i64 k ∧ u = .int .i64 z ∧ -1 ≤ z ∧ z ≤ 1099511627776 ∧ LeAt (fun k => w.heap.size ≤ k) wr g (dS id z) ∧ Keep (fun _ => False) w wr) (fun _ i _ => n - (intOf i).toNat)
  case atStart => exact ⟨0, -1, Nat.zero_le _, rfl, rfl, by omega, by omega, HL1.out, K1.out⟩
  case round =>
    obtain ⟨k, z, hk, rfl, rfl, hz1, hz2, hle, hkw⟩ := hrel
    by_cases hlt : k < n
    · obtain ⟨b, off, rfl, _, hcc⟩ := HC.out (by omega)
      obtain ⟨x, hx⟩ : ∃ x, x = l.getD k 0 := ⟨_, rfl⟩
      have hc0 := hcc k hlt
      rw [← hx] at hc0
      have hcell := hkw.cell hc0 (fun h => h)
      have hgive := give_calls hle id x HOI.out
      have h0 := HID.out
      rw [dS_giveB h0 hz1, dS_giveS h0 hz1] at hgive
      have HC0 := hid hc0
      have HKW := hid hkw
      clear hc0 hcc hx hle hkw
      have hcase : (z < x ∧ x ≤ 1099511627776) ∨ (z < x ∧ 1099511627776 < x) ∨ x ≤ z := by omega
      rcases hcase with ⟨c1, c2⟩ | ⟨c1, c2⟩ | c1
      · rw [decide_eq_true (⟨c1, c2⟩ : z < x ∧ x ≤ 1099511627776), if_pos ⟨c1, c2⟩] at hgive
        go_wp2_with fail
        refine hgive.mono ?_
        rintro e w5 ⟨rfl, hl5, k5⟩
        have hk5 := HKW.out.trans k5 (fun b hb h => absurd h (by omega))
        have hcell5 := hk5.cell HC0.out (fun h => h)
        have HL5 := hid hl5
        have HK5 := hid hk5
        clear hgive hcell hl5 hk5 k5
        go_wp2_with fail
        exact ⟨⟨k + 1, x, by omega, by simp, rfl, by omega, c2, HL5.out, HK5.out⟩, by simp [intOf]; omega⟩
      · rw [decide_eq_false (fun q : z < x ∧ x ≤ 1099511627776 => by omega), if_neg (fun q => by omega)] at hgive
        go_wp2_with fail
        refine hgive.mono ?_
        rintro e w5 ⟨rfl, hl5, k5⟩
        have hk5 := HKW.out.trans k5 (fun b hb h => absurd h (by omega))
        have hcell5 := hk5.cell HC0.out (fun h => h)
        have HL5 := hid hl5
        have HK5 := hid hk5
        clear hgive hcell hl5 hk5 k5
        go_wp2_with fail
        exact ⟨⟨k + 1, z, by omega, by simp, rfl, hz1, hz2, HL5.out, HK5.out⟩, by simp [intOf]; omega⟩
      · rw [decide_eq_false (fun q : z < x ∧ x ≤ 1099511627776 => by omega), if_neg (fun q => by omega)] at hgive
        go_wp2_with fail
        refine hgive.mono ?_
        rintro e w5 ⟨rfl, hl5, k5⟩
        have hk5 := HKW.out.trans k5 (fun b hb h => absurd h (by omega))
        have hcell5 := hk5.cell HC0.out (fun h => h)
        have HL5 := hid hl5
        have HK5 := hid hk5
        clear hgive hcell hl5 hk5 k5
        go_wp2_with fail
        exact ⟨⟨k + 1, z, by omega, by simp, rfl, hz1, hz2, HL5.out, HK5.out⟩, by simp [intOf]; omega⟩
    · obtain rfl : k = n := by omega
      have hholds := holds_one hle HON.out (x := id) 3
      rw [dS_holds] at hholds
      have hsub : wrap64 (now - z) = now - z := by unfold wrap64; omega
      have hadd : wrap64 (now + 10) = now + 10 := by unfold wrap64; omega
      have HLE := hid hle
      have HKW := hid hkw
      clear hle hkw
      have hcase : (0 ≤ z ∧ z ≤ now ∧ now - z < 10) ∨ z < 0 ∨ (0 ≤ z ∧ now < z) ∨ (0 ≤ z ∧ z ≤ now ∧ 10 ≤ now - z) := by omega
      have hval : (0 ≤ z ∧ z ≤ now ∧ now - z < 10 ∧ decide (0 ≤ z ∧ z ≤ now ∧ now - z < 10) = true) ∨ (z < 0 ∧ decide (0 ≤ z ∧ z ≤ now ∧ now - z < 10) = false) ∨ (0 ≤ z ∧ now < z ∧ decide (0 ≤ z ∧ z ≤ now ∧ now - z < 10) = false) ∨ (0 ≤ z ∧ z ≤ now ∧ 10 ≤ now - z ∧ decide (0 ≤ z ∧ z ≤ now ∧ now - z < 10) = false) := by
        rcases hcase with ⟨q1, q2, q3⟩ | q1 | ⟨q1, q2⟩ | ⟨q1, q2, q3⟩
        · exact .inl ⟨q1, q2, q3, by simp; omega⟩
        · exact .inr (.inl ⟨q1, by simp; omega⟩)
        · exact .inr (.inr (.inl ⟨q1, q2, by simp; omega⟩))
        · exact .inr (.inr (.inr ⟨q1, q2, q3, by simp; omega⟩))
      clear hcase
      rcases hval with ⟨q1, q2, q3, q⟩ | ⟨q1, q⟩ | ⟨q1, q2, q⟩ | ⟨q1, q2, q3, q⟩ <;> (
        rw [q] at hholds
        clear q
        go_wp2_with fail
        refine hholds.mono ?_
        rintro e w5 ⟨rfl, k5⟩
        have hl5 := HLE.out.keepF k5
        have hk5 := HKW.out.trans k5 (fun _ _ h => h)
        have hbind := bind_calls' hl5 7 now
        have HK5 := hid hk5
        clear hholds hl5 hk5 k5
        go_wp2_with fail
        refine hbind.mono ?_
        rintro e w6 ⟨rfl, hl6, k6⟩
        have hk6 := HK5.out.trans k6 (S := fun _ => False) (fun b hb h => by omega)
        have hunt := until_calls hl6
        rw [dS_till HNW.out] at hunt
        have hdrop := drop_calls' hk6.size hl6
        rw [dS_bound HNW.out] at hdrop
        have HK6 := hid hk6
        clear hbind hl6 hk6 k6
        go_wp2_with fail
        refine hunt.mono ?_
        rintro e w' ⟨rfl, rfl⟩
        go_wp2_with fail
        refine hdrop.mono ?_
        rintro e w7 ⟨rfl, hl7, k7⟩
        have hk7 := HK6.out.trans k7 (S := fun _ => False) (fun b hb h => by omega)
        have hgiven := given_calls hl7 id HOI.out
        rw [show look (eS now).given id = none from rfl] at hgiven
        simp only [Option.getD_none, Option.isSome_none] at hgiven
        have hholds2 := holds_one hl7 HON.out (x := id) 3
        rw [show holdsB (eS now) now [id] = false from by rw [holdsB_one]; rfl] at hholds2
        have HL7 := hid hl7
        have HK7 := hid hk7
        clear hunt hdrop hl7 hk7 k7
        go_wp2_with fail
        refine hgiven.mono ?_
        rintro e w' ⟨rfl, rfl⟩
        go_wp2_with fail
        refine hholds2.mono ?_
        rintro e w8 ⟨rfl, k8⟩
        have hl8 := HL7.out.keepF k8
        have hk8 := HK7.out.trans k8 (fun _ _ h => h)
        have hunt := until_calls hl8
        have hf1 := free_calls hl8 7 now
        have hf2 := free_calls hl8 8 now
        have hnw := HNW.out
        rw [show (eS now).till = now + 10 from rfl] at hunt
        rw [show freeB (eS now) 7 now = true from by simp [freeB, eS, hnw.1, hnw.2]] at hf1
        rw [show freeB (eS now) 8 now = false from eS_free8] at hf2
        have HK8 := hid hk8
        clear hgiven hholds2 hl8 hk8 k8
        go_wp2_with fail
        refine hunt.mono ?_
        rintro e w' ⟨rfl, rfl⟩
        go_wp2_with fail
        refine hf1.mono ?_
        rintro e w' ⟨rfl, rfl⟩
        go_wp2_with fail
        refine hf2.mono ?_
        rintro e w' ⟨rfl, rfl⟩
        go_wp2_with fail
        go_ret
        exact ⟨rfl, HK8.out.below (Nat.le_refl _) (fun _ _ h => h)⟩)
end Go.Proofs.Ytfaifokeenhfkaa
