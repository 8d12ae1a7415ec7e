/- The walks of the reference's small functions on bytes: Same, Copy. -/
import Derived.Test.YtofljidmdabkcaaGreatBa
import Derived.Test.YtofljidmdabkcaaGreatProg
import Derived.Deep.QuietTactic
import Derived.BigQuiet
namespace Go.Proofs.YtofljidmdabkcaaGreat
open Go.RowKit

theorem Row.byte' {F : Nat → Prop} {w : World} {v : Value} {l : List UInt8} (h : Row F w v l.length 1 (l.map U8)) :
    ∃ A c, v = .slice A l.length c ∧ (0 < l.length → ∃ b off, A = some ⟨b, off, none⟩ ∧ ∀ j, j < l.length → w.cell? ⟨b, off + j, none⟩ = some (.int .u8 ((l.getD j 0).toNat : Int))) := by
  obtain ⟨A, c, rfl, hl, hn, hc, rfl | ⟨b, off, rfl, hF, hb, hcell⟩⟩ := h
  · exact ⟨_, _, rfl, fun h => by omega⟩
  · exact ⟨_, _, rfl, fun _ => ⟨b, off, rfl, fun j hj => hcell j _ (by simp [hj, U8])⟩⟩
theorem takes_eq {a b : List UInt8} {k : Nat} (ha : k < a.length) (hb : k < b.length) (h : a.take k = b.take k) (hc : (a.getD k 0).toNat = (b.getD k 0).toNat) : a.take (k + 1) = b.take (k + 1) := by
  rw [List.take_succ_eq_append_getElem ha, List.take_succ_eq_append_getElem hb, h]
  have : a[k] = b[k] := by
    apply UInt8.toNat.inj
    simpa [ha, hb] using hc
  rw [this]

set_option maxHeartbeats 400000 in
theorem same_calls {F G : Nat → Prop} {w : World} {v u : Value} {a b : List UInt8} (hv : Row F w v a.length 1 (a.map U8)) (hu : Row G w u b.length 1 (b.map U8)) :
    Calls Tryz.prog 30 #[v, u] w fun e w' => e = .returned (.bool (decide (a = b))) ∧ Keep (fun _ => False) w w' := by
  have hv0 := hv
  have hu0 := hu
  obtain ⟨A, c, rfl, ha⟩ := hv.byte'
  obtain ⟨B, d, rfl, hb⟩ := hu.byte'
  by_cases hlen : a.length = b.length
  · have hl0 : ((a.length : Int) != b.length) = false := by simp [hlen]
    have HL := hid hlen
    obtain ⟨n, hn⟩ : ∃ n, n = a.length := ⟨_, rfl⟩
    have hmax : n ≤ 9223372036854775807 := by
      obtain ⟨_, _, _, _, h1, h2, _⟩ := hv0
      unfold maxLen at h2
      omega
    rw [← hn] at ha hl0 ⊢
    rw [← hlen, ← hn] at hb hl0 ⊢
    have HN := hid hn
    clear hlen hn hv hu
    go_enter Tryz.func30, Tryz.ntmps30
    go_wp2_with fail
    go_loopw [5] (fun i wr => ∃ k : Nat, k ≤ n ∧ i = .int .i64 k ∧ Keep (fun _ => False) w wr ∧ a.take k = b.take k) (fun i _ => n - (intOf i).toNat)
    case atStart => exact ⟨0, Nat.zero_le _, rfl, Keep.refl _ _, by simp⟩
    case round =>
      obtain ⟨k, hk, rfl, hkp, heq⟩ := hrel
      have HEQ := hid heq
      clear heq
      by_cases hlt : k < n
      · obtain ⟨b1, o1, rfl, hc1⟩ := ha (by omega)
        obtain ⟨b2, o2, rfl, hc2⟩ := hb (by omega)
        have d1 := hkp.cell (hc1 k hlt) id
        have d2 := hkp.cell (hc2 k hlt) id
        obtain ⟨x, hx⟩ : ∃ x, x = (a.getD k 0).toNat := ⟨_, rfl⟩
        obtain ⟨y, hy⟩ : ∃ y, y = (b.getD k 0).toNat := ⟨_, rfl⟩
        rw [← hx] at d1
        rw [← hy] at d2
        have HX := hid hx
        have HY := hid hy
        clear hx hy ha hb hc1 hc2
        by_cases hxy : x = y
        · have hb : ((x : Int) != y) = false := by simp [hxy]
          have HXY := hid hxy
          clear hxy
          go_wp2
          go_quiet (fail)
          go_wp2
          have e1 := HN.out
          have e2 := HL.out
          refine ⟨⟨k + 1, by omega, by simp, hkp.drewN _, takes_eq (by omega) (by omega) HEQ.out (by rw [← HX.out, ← HY.out]; exact HXY.out)⟩, by simp [intOf]; omega⟩
        · have hb : ((x : Int) != y) = true := by simp; omega
          have HXY := hid hxy
          clear hxy
          go_wp2
          go_quiet (fail)
          go_wp2
          go_ret
          refine ⟨?_, hkp.drewN _⟩
          have : a ≠ b := fun e => HXY.out (by rw [HX.out, HY.out, e])
          simp [this]
      · go_wp2
        go_ret
        refine ⟨?_, hkp⟩
        have e1 := HN.out
        have e2 := HL.out
        have : a = b := by
          have := HEQ.out
          rwa [List.take_of_length_le (by omega), List.take_of_length_le (by omega)] at this
        simp [this]
  · have hl0 : ((a.length : Int) != b.length) = true := by simp; omega
    have HL := hid hlen
    clear hlen hv hu ha hb hv0 hu0
    go_enter Tryz.func30, Tryz.ntmps30
    go_wp2
    go_ret
    refine ⟨?_, Keep.refl _ _⟩
    have : a ≠ b := fun e => HL.out (by rw [e])
    simp [this]

/-! ### Copy -/
set_option maxHeartbeats 400000 in
theorem copy_calls {F : Nat → Prop} {w : World} {v : Value} {a : List UInt8} (hv : Row F w v a.length 1 (a.map U8)) (hl : a.length ≤ 140737488355328) :
    Calls Tryz.prog 50 #[v] w fun e w' => ∃ v', e = .returned v' ∧ w'.ownsRow 0 5 1 v' a.length (a.map U8) ∧ (∀ k, v'.ownBlock = some k → NewIn w w' k) ∧ Keep (fun _ => False) w w' := by
  have T : SlT Tryz.prog 36 5 (.int .u8 0) 1 1 := SlT.mk' Tryz.underlying36 (by kernel_rfl) rfl (by decide)
  obtain ⟨A, c, rfl, ha⟩ := hv.byte'
  obtain ⟨n, hn⟩ : ∃ n, n = a.length := ⟨_, rfl⟩
  rw [← hn] at ha hl ⊢
  have HN := hid hn
  clear hn hv
  go_enter Tryz.func50, Tryz.ntmps50
  go_wp2_with fail
  go_loopw [3, 4] (fun v' i wr => ∃ k : Nat, k ≤ n ∧ i = .int .i64 k ∧ wr.ownsRow 0 5 1 v' k ((a.take k).map U8) ∧ (∀ b, v'.ownBlock = some b → NewIn w wr b) ∧ Keep (fun _ => False) w wr) (fun _ i _ => n - (intOf i).toNat)
  case atStart => exact ⟨0, Nat.zero_le _, rfl, by simpa using World.ownsRow_nil _ _ _ _, fun b hb => by simp [Value.ownBlock] at hb, Keep.refl _ _⟩
  case round =>
    obtain ⟨k, hk, rfl, ho, hnew, hkp⟩ := hrel
    by_cases hlt : k < n
    · obtain ⟨b1, o1, rfl, hc1⟩ := ha (by omega)
      have d1 := hkp.cell (hc1 k hlt) id
      have HNEW := hid hnew
      clear ha hc1 hnew
      go_wp2_with (at_builtin; refine stopHere ?_)
      refine goOn (wpl_app (v := u3) rfl rfl T rfl (ownsAlloc ho _) rfl (Row.one wr _ _) (by simp [Value.oneCell']) (by omega) (by omega) ?_)
      intro A c w1 ho1 hk1 hn1
      go_wp2
      have hs := hkp.size
      have hs1 := hk1.size
      refine ⟨⟨k + 1, by omega, by simp, ?_, fun b hb => ?_, ?_⟩, by simp [intOf]; omega⟩
      · rw [List.take_succ_eq_append_getElem (by rw [← HN.out]; exact hlt), List.map_append]
        have e : (a.getD k 0) = a[k]'(by rw [← HN.out]; exact hlt) := by simp [HN.out ▸ hlt]
        rw [← e]
        exact ho1
      · rcases hn1 b (by simpa using hb) with q | q
        · have := HNEW.out b q
          simp at hs1
          exact ⟨this.1, by have := this.2; omega⟩
        · simp at q
          exact ⟨by omega, own_lt' ho1 b (by simpa using hb)⟩
      · exact (hkp.alloc _).trans hk1 (fun b hb e => by
          have := HNEW.out b e.symm
          have := this.1
          omega)
    · go_wp2
      go_ret
      obtain rfl : k = n := by omega
      rw [List.take_of_length_le (by rw [HN.out]; exact Nat.le_refl _)] at ho
      exact ⟨_, rfl, ho, hnew, hkp⟩
end Go.Proofs.YtofljidmdabkcaaGreat
