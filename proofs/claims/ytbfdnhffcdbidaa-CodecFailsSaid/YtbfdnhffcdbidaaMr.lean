/- The walks of the reference's reader. -/
import Derived.Test.YtbfdnhffcdbidaaRd2
import Derived.Test.YtbfdnhffcdbidaaRef1
namespace Go.Proofs.Ytbfdnhffcdbidaa
open Go.RowKit

/-- The reference's reader's struct at block g. -/
abbrev MrObj (v : Value) (f : Int) : Obj := .cells #[v, .int .i64 f] 49 (0, 0)
def MrAt (F : Nat → Prop) (w : World) (g : Nat) (s : RS) : Prop :=
  ∃ v, w.heap[g]? = some (MrObj v s.f) ∧ Row (fun k => F k ∧ k ≠ g) w v s.b.length 1 (s.b.map U8) ∧ F g
theorem MrAt.keep {F S : Nat → Prop} {w w' : World} {g : Nat} {s : RS} (h : MrAt F w g s) (hk : Keep S w w') (hd : ∀ k, F k → ¬ S k) : MrAt F w' g s := by
  obtain ⟨v, h1, h2, h3⟩ := h
  exact ⟨v, hk.heap h1 (hd g h3), h2.keep hk (fun b hb => hd b hb.1), h3⟩
def MrPost (F : Nat → Prop) (w : World) (g : Nat) (s' : RS) (val : Value → World → Prop) (e : Ending) (w' : World) : Prop :=
  ∃ v, e = .returned v ∧ val v w' ∧ MrAt F w' g s' ∧ Keep (fun k => k = g) w w'

section
variable {F : Nat → Prop} {w w' : World} {g : Nat} {s : RS}
theorem MrAt.zero (h : MrAt F w g s) (hf : s.f = 0) : MrAt F w g ⟨s.b, 0⟩ := by
  obtain ⟨b, f⟩ := s
  obtain rfl : f = 0 := hf
  exact h
theorem mstop_calls (h : MrAt F w g s) (e : Int) :
    Calls Try.prog 71 #[.pointer (some ⟨g, 0, none⟩), .int .i64 e] w (MrPost F w g (rStop s e) (fun v _ => v = .tuple #[])) := by
  have h0 := h
  obtain ⟨v, hg, hv, hF⟩ := h
  have c0 := cell_at hg 0 v rfl
  have c1 := cell_at hg 1 (.int .i64 s.f) rfl
  have f0 := free_at hg 0
  have f1 := free_at hg 1
  have HG := hid hg
  clear hg
  by_cases hf : s.f = 0
  · have hb : (s.f == 0) = true := by simpa using hf
    have HR := hid (show rStop s e = ⟨[], e⟩ by simp [rStop, hf])
    clear hf
    go_enter Try.func71, Try.ntmps71
    go_wp2
    go_end0
    rw [HR.out]
    refine ⟨_, rfl, rfl, ⟨.slice none 0 0, ?_, Row.nil _ _ _, hF⟩, ((Keep.refl (fun k => k = g) w).setCell ⟨g, 1, none⟩ _ (fun _ => rfl)).setCell ⟨g, 0, none⟩ _ (fun _ => rfl)⟩
    rw [heap_set (heap_set HG.out 1 _) 0]
    rfl
  · have hb : (s.f == 0) = false := by simpa using hf
    have HR := hid (show rStop s e = s by simp [rStop, hf])
    go_enter Try.func71, Try.ntmps71
    go_wp2
    go_end0
    rw [HR.out]
    exact ⟨_, rfl, rfl, h0, Keep.refl _ _⟩
/-- The bytes behind the first n are left. -/
theorem mr_cut {A : Option Addr} {c n : Nat} {l : List UInt8} (hg : w.heap[g]? = some (MrObj (.slice A l.length c) 0)) (hv : Row (fun k => F k ∧ k ≠ g) w (.slice A l.length c) l.length 1 (l.map U8)) (hF : F g) (hn : n ≤ l.length) {A' : Option Addr} {c' : Nat}
    (hA : (A' = A ∧ c' = 0 ∧ n = c) ∨ (∃ b off, A = some ⟨b, off, none⟩ ∧ A' = some ⟨b, off + n, none⟩ ∧ c' = c - n)) :
    MrAt F (w.setCell ⟨g, 0, none⟩ (.slice A' (l.length - n) c')) g ⟨l.drop n, 0⟩ ∧ Keep (fun k => k = g) w (w.setCell ⟨g, 0, none⟩ (.slice A' (l.length - n) c')) := by
  refine ⟨⟨_, by rw [heap_set hg]; rfl, ?_, hF⟩, (Keep.refl _ w).setCell _ _ (fun _ => rfl)⟩
  have hset : ∀ b, b ≠ g → ∀ a : Addr, a.block = b → (w.setCell ⟨g, 0, none⟩ (.slice A' (l.length - n) c')).cell? a = w.cell? a := fun b hb a ha => by
    rw [World.cell?_setCell_other]
    intro e
    subst e
    exact hb ha.symm
  obtain ⟨A0, c0, he, hl, hlc, hc, hcell⟩ := hv
  simp only [Value.slice.injEq, true_and] at he
  obtain ⟨rfl, rfl⟩ := he
  have hlen : (l.drop n).length = l.length - n := by simp
  rcases hA with ⟨rfl, rfl, rfl⟩ | ⟨b, off, rfl, rfl, rfl⟩
  · have h0 : l.length - n = 0 := by omega
    have : l.drop n = [] := List.drop_of_length_le (by omega)
    rw [this, h0]
    exact Row.empty _ _ _
  · rcases hcell with rfl | ⟨b', off', hb', hFb, hlt, hcell⟩
    · have h0 : l.length - n = 0 := by omega
      have : l.drop n = [] := List.drop_of_length_le (by omega)
      rw [this, h0, show 0 - n = 0 by omega]
      exact Row.empty _ _ _
    · simp only [Option.some.injEq, Addr.mk.injEq, and_true] at hb'
      obtain ⟨rfl, rfl⟩ := hb'
      have := Row.drop (F := fun k => F k ∧ k ≠ g) (n := n) (c := c - n) (l := l) rfl (by omega) (by omega) hFb (w := w) (w' := w.setCell ⟨g, 0, none⟩ (.slice (some ⟨b, off + n, none⟩) (l.length - n) (c - n))) (by simpa using hlt) hcell (hset b hFb.2)
      simpa only [hlen] using this

theorem digit_and8 {c : Nat} (hc : c < 256) : bits .and .u8 (c : Int) 127 = ((c % 128 : Nat) : Int) := by
  have := bits_mask .u8 8 (by decide) wraps_u8 7 (by decide) (c : Int) (by omega) (by omega)
  simpa using this
def MRNum (l : List UInt8) (i acc : Nat) : Prop := numFrom (6 - i) i acc (l.drop i) = decNum l ∧ acc < 128 ^ i ∧ i ≤ 6 ∧ i ≤ l.length

set_option maxRecDepth 20000 in
set_option maxHeartbeats 1000000 in
theorem mrnum_calls (h : MrAt F w g s) :
    Calls Try.prog 52 #[.pointer (some ⟨g, 0, none⟩)] w (MrPost F w g (rNum s).2 (fun v _ => v = .int .i64 (rNum s).1)) := by
  have h0 := h
  obtain ⟨v, hg, hv, hF⟩ := h
  have c1 := cell_at hg 1 (.int .i64 s.f) rfl
  by_cases hf : s.f = 0
  · obtain ⟨l, f⟩ := s
    obtain rfl : f = 0 := hf
    obtain ⟨A, c, rfl⟩ := (show ∃ A c, v = .slice A l.length c from by obtain ⟨A, c, rfl, _⟩ := hv; exact ⟨A, c, rfl⟩)
    have hcap := hv
    obtain ⟨A1, c1', he, _, hlc, hcm, hA⟩ := hcap
    simp only [Value.slice.injEq, true_and] at he
    obtain ⟨rfl, rfl⟩ := he
    unfold maxLen at hcm
    have c0 := cell_at hg 0 (.slice A l.length c) rfl
    have f0 := free_at hg 0
    have HG := hid hg
    have HV := hid hv
    have HA := hid hA
    have HL : MRNum l 0 0 := ⟨by simp [decNum], by decide, by decide, Nat.zero_le _⟩
    obtain ⟨n, hn⟩ : ∃ n, n = l.length := ⟨_, rfl⟩
    have HN := hid hn
    rw [← hn] at c0
    have hlc : n ≤ c := by rw [hn]; exact hlc
    clear hg hv hA hn
    go_enter Try.func52, Try.ntmps52
    go_wp2_with fail
    go_loop [3, 4] (fun nv iv => ∃ i acc : Nat, nv = .int .i64 acc ∧ iv = .int .i64 i ∧ i ≤ 6 ∧ MRNum l i acc) (fun _ iv => (6 - intOf iv).toNat)
    case atStart => exact ⟨0, 0, rfl, rfl, by decide, HL⟩
    case round =>
      obtain ⟨i, acc, rfl, rfl, hi6, he, hacc, _, hil⟩ := hrel
      have HE := hid he
      have HAC := hid hacc
      clear he HL hacc
      rw [← HN.out] at hil
      by_cases h6 : i < 6
      · by_cases hin : i < n
        · obtain ⟨b, off, rfl, ⟨hFb, hbg⟩, hb, hcell⟩ := HA.out.resolve_left (by omega)
          have hil' : i < l.length := by rw [← HN.out]; exact hin
          have hci := hcell i (U8 (l.getD i 0)) (by simp [hil'])
          unfold U8 at hci
          have hcl := (l.getD i 0).toNat_lt
          have hdr : l.drop i = l.getD i 0 :: l.drop (i + 1) := by
            rw [List.drop_eq_getElem_cons hil']; simp [hil']
          obtain ⟨cn, hcn⟩ : ∃ cn, cn = (l.getD i 0).toNat := ⟨_, rfl⟩
          rw [← hcn] at hci hcl
          obtain ⟨d, hd⟩ : ∃ d, d = cn % 128 := ⟨_, rfl⟩
          have hd7 : d < 128 := by omega
          obtain ⟨m, hm⟩ : ∃ m, m = d * 128 ^ i := ⟨_, rfl⟩
          obtain ⟨a, ha⟩ : ∃ a, a = acc + m := ⟨_, rfl⟩
          have b1 := digit_and8 (c := cn) (by omega)
          have b2 := digit_shl (i := i) hd7 (by omega)
          have b3 := digit_or HAC.out hd7 (show i ≤ 5 by omega)
          have hab : a < 128 ^ (i + 1) := by
            rw [Nat.pow_succ, ha, hm]
            exact digit_next HAC.out hd7
          have ha6 : a < 4398046511104 := Nat.lt_of_lt_of_le hab (Nat.pow_le_pow_right (by decide) (show i + 1 ≤ 6 by omega))
          rw [← hd] at b1
          rw [← hm] at b2 b3
          rw [← ha] at b3
          have HCN := hid hcn
          have HM := hid hm
          have HAA := hid ha
          have HD := hid hd
          have HAB := hid hab
          have HDR := hid hdr
          have HBG := hid hbg
          clear hm ha hd hab hcell hcn hdr hil' hb hbg hFb
          have hnge : decide ((n : Int) ≤ i) = false := decide_eq_false (by omega)
          by_cases h128 : cn < 128
          · have HR : Hid (numFrom (6 - i) i acc (l.drop i) = if (0 < cn ∨ i = 0) ∧ a ≤ 1099511627776 then .inr (a, l.drop (i + 1)) else .inl 4) := by
              obtain ⟨k, hk⟩ : ∃ k, 6 - i = k + 1 := ⟨5 - i, by omega⟩
              have hdc : d = cn := by rw [HD.out]; omega
              unfold Hid
              rw [hk, HDR.out]
              simp only [numFrom]
              rw [← HCN.out, if_pos h128, ← hdc, ← HM.out, ← HAA.out]
            by_cases hgood : (0 < cn ∨ i = 0) ∧ a ≤ 1099511627776
            · have hd0 : decide ((1099511627776 : Int) < a) = false := decide_eq_false (by omega)
              have hR : rNum ⟨l, 0⟩ = (a, ⟨l.drop (i + 1), 0⟩) := by
                have : decNum l = .inr (a, l.drop (i + 1)) := by rw [← HE.out, HR.out, if_pos hgood]
                simp [rNum, rDo, this]
              have FIN : Hid (∀ A' c', ((A' = some ⟨b, off, none⟩ ∧ c' = 0 ∧ i + 1 = c) ∨ (A' = some ⟨b, off + (i + 1), none⟩ ∧ c' = c - (i + 1))) →
                  MrPost F w g (rNum ⟨l, 0⟩).2 (fun v _ => v = .int .i64 (rNum ⟨l, 0⟩).1) (.returned (.int .i64 a)) (w.setCell ⟨g, 0, none⟩ (.slice A' (n - (i + 1)) c'))) := by
                intro A' c' hA'
                rw [hR, HN.out]
                have := mr_cut HG.out HV.out hF (n := i + 1) (A' := A') (c' := c') (by rw [← HN.out]; omega) (hA'.imp (fun ⟨x, y, z⟩ => ⟨x, y, z⟩) (fun ⟨x, y⟩ => ⟨b, off, rfl, x, y⟩))
                exact ⟨_, rfl, rfl, this.1, this.2⟩
              clear hR
              by_cases hc1 : c = i + 1
              · have F1 := hid (FIN.out _ _ (.inl ⟨rfl, rfl, hc1.symm⟩))
                have HC1 := hid hc1
                clear hc1 HG HV FIN
                go_wp2_with fail
                all_goals go_ret
                all_goals first
                  | exact F1.out
                  | (have hi0 : i = 0 := by assumption
                     subst hi0
                     simpa using F1.out)
                  | (exfalso; have := HC1.out; omega)
              · have F1 := hid (FIN.out _ _ (.inr ⟨rfl, rfl⟩))
                have HC1 := hid hc1
                clear hc1 HG HV FIN
                go_wp2_with fail
                all_goals go_ret
                all_goals first
                  | exact F1.out
                  | (have hi0 : i = 0 := by assumption
                     subst hi0
                     simpa using F1.out)
                  | (exfalso; have := HC1.out; omega)
            · have hR : rNum ⟨l, 0⟩ = (0, ⟨[], 4⟩) := by
                have : decNum l = .inl 4 := by rw [← HE.out, HR.out, if_neg hgood]
                simp [rNum, rDo, this]
              have HRR := hid hR
              clear hR
              have hcases : (cn = 0 ∧ i ≠ 0) ∨ (1099511627776 < a ∧ (0 < cn ∨ i = 0)) := by omega
              rcases hcases with ⟨rfl, hi0⟩ | ⟨hbig, hok⟩
              · go_wp2_with fail
                refine (mstop_calls h0 4).mono ?_
                rintro e w1 ⟨v, rfl, rfl, hr, hk⟩
                go_wp2
                go_ret
                rw [HRR.out]
                exact ⟨_, rfl, rfl, hr, hk⟩
              · have hd0 : decide ((1099511627776 : Int) < a) = true := decide_eq_true (by omega)
                go_wp2_with fail
                all_goals
                  refine (mstop_calls h0 4).mono ?_
                  rintro e w1 ⟨v, rfl, rfl, hr, hk⟩
                  go_wp2
                  go_ret
                  rw [HRR.out]
                  exact ⟨_, rfl, rfl, hr, hk⟩
          · go_wp2_with fail
            refine ⟨⟨i + 1, a, rfl, by simp, by omega, ?_, HAB.out, by omega, by rw [← HN.out]; omega⟩, by simp [intOf]; omega⟩
            rw [← HE.out, HDR.out]
            obtain ⟨k, hk⟩ : ∃ k, 6 - i = k + 1 := ⟨5 - i, by omega⟩
            have hk' : 6 - (i + 1) = k := by omega
            have hdc : (l.getD i 0).toNat - 128 = d := by rw [← HCN.out, HD.out]; omega
            rw [hk, hk']
            simp only [numFrom]
            rw [← HCN.out, if_neg h128, HCN.out, hdc, ← HM.out, ← HAA.out]
        · have hge : decide ((n : Int) ≤ i) = true := decide_eq_true (by omega)
          go_wp2_with fail
          refine (mstop_calls h0 2).mono ?_
          rintro e w1 ⟨v, rfl, rfl, hr, hk⟩
          go_wp2
          go_ret
          have hdr : l.drop i = [] := List.drop_of_length_le (by rw [← HN.out]; omega)
          have hnum : decNum l = .inl 2 := by
            rw [← HE.out, hdr]
            obtain ⟨k, hk⟩ : ∃ k, 6 - i = k + 1 := ⟨5 - i, by omega⟩
            rw [hk]
            rfl
          have hR : rNum ⟨l, 0⟩ = (0, ⟨[], 2⟩) := by simp [rNum, rDo, hnum]
          rw [hR]
          exact ⟨_, rfl, rfl, hr, hk⟩
      · go_wp2_with fail
        refine (mstop_calls h0 4).mono ?_
        rintro e w1 ⟨v, rfl, rfl, hr, hk⟩
        go_wp2
        go_ret
        obtain rfl : i = 6 := by omega
        have hnum : decNum l = .inl 4 := by rw [← HE.out]; rfl
        have hR : rNum ⟨l, 0⟩ = (0, ⟨[], 4⟩) := by simp [rNum, rDo, hnum]
        rw [hR]
        exact ⟨_, rfl, rfl, hr, hk⟩
  · have hb : (s.f == 0) = false := by simpa using hf
    clear hg
    go_enter Try.func52, Try.ntmps52
    go_wp2_with fail
    refine wp_loop_rounds 1 ?_
    rw [rounds_succ]
    go_wp2_with fail
    refine (mstop_calls h0 4).mono ?_
    rintro e w1 ⟨v, rfl, rfl, hr, hk⟩
    go_wp2
    go_ret
    have hR : rNum s = (0, s) := by simp [rNum, rDo, hf]
    rw [show rStop s 4 = s by simp [rStop, hf]] at hr
    rw [hR]
    exact ⟨_, rfl, rfl, hr, hk⟩
end
end Go.Proofs.Ytbfdnhffcdbidaa
