/- The walks of the two Crc. -/
import Derived.Test.YtbfdnhffcdbidaaCrcPure
import Derived.Test.YtbfdnhffcdbidaaRef1
namespace Go.Proofs.Ytbfdnhffcdbidaa
open Go.RowKit
section
variable {F : Nat → Prop} {w : World}
theorem crc_take {l : List UInt8} {k : Nat} (hk : k < l.length) (x : Nat) : crcFrom x (l.take (k + 1)) = crcBits 8 (crcFrom x (l.take k) ^^^ (l.getD k 0).toNat) := by
  rw [List.take_succ_eq_append_getElem hk, crcFrom_snoc]
  simp [hk]
theorem crcBits_snoc (k x : Nat) : crcBits (k + 1) x = crcBit (crcBits k x) := rfl

set_option maxRecDepth 20000 in
set_option maxHeartbeats 800000 in
theorem crc_calls {v : Value} {l : List UInt8} (h : Row F w v l.length 1 (l.map U8)) (hl : l.length ≤ 140737488355328) :
    Calls Try.prog 28 #[v] w fun e w' => e = .returned (.int .u32 (crc l)) ∧ w = w' := by
  obtain ⟨A, c, rfl, hcell⟩ := h.byte'
  have HC := hid hcell
  clear hcell
  generalize hlen : l.length = len at *
  have HL := hid hlen
  clear hlen h
  go_enter Try.func28, Try.ntmps28
  go_wp2_with fail
  go_loop [3, 8] (fun x i => ∃ k : Nat, k ≤ len ∧ i = .int .i64 k ∧ x = .int .u32 (crcFrom 4294967295 (l.take k))) (fun _ i => len - (intOf i).toNat)
  case atStart => exact ⟨0, Nat.zero_le _, rfl, rfl⟩
  case round =>
    obtain ⟨k, hk, rfl, rfl⟩ := hrel
    by_cases hlt : k < len
    · obtain ⟨b, off, rfl, hc⟩ := HC.out (by omega)
      have hcell := hc k hlt
      have hsn := crc_take (l := l) (k := k) (by rw [HL.out]; exact hlt) 4294967295
      have hx := crcFrom_lt (l.take k) (x := 4294967295) (by omega)
      generalize l.getD k 0 = cn at *
      generalize crcFrom 4294967295 (l.take k) = x at *
      have HS := hid hsn
      have HX := hid hx
      have hxb := crc_byte hx cn
      have hcn := cn.toNat_lt
      clear hsn hc hx
      have hy := xor_byte_lt HX.out cn
      go_wp2_with fail
      generalize x ^^^ cn.toNat = y at *
      clear hxb hcn
      go_loop [3, 16] (fun x i => ∃ m : Nat, m ≤ 8 ∧ i = .int .i64 m ∧ x = .int .u32 (crcBits m y)) (fun _ i => 8 - (intOf i).toNat)
      case atStart => exact ⟨0, by omega, rfl, rfl⟩
      case round =>
        obtain ⟨m, hm, rfl, rfl⟩ := hrel
        by_cases h8 : m < 8
        · have hz := crcBits_lt m hy
          have HE := hid (crc_step hz)
          have HZ := hid (crcBits_snoc m y)
          generalize crcBits m y = z at *
          go_wp2_with fail
          refine ⟨⟨m + 1, by omega, by simp, ?_⟩, by simp [intOf]; omega⟩
          rw [HZ.out]
          exact congrArg (Value.int .u32) HE.out
        · obtain rfl : m = 8 := by omega
          go_wp2_with fail
          exact ⟨⟨k + 1, by omega, by simp, by rw [HS.out]⟩, by simp [intOf]; omega⟩
    · obtain rfl : k = len := by omega
      have hx := crcFrom_lt (l.take k) (x := 4294967295) (by omega)
      have hn := crc_not hx
      go_wp2_with fail
      go_ret
      rw [List.take_of_length_le (by rw [HL.out]; exact Nat.le_refl _)] at hn ⊢
      exact ⟨congrArg (fun n => Ending.returned (.int .u32 n)) hn, rfl⟩

set_option maxRecDepth 20000 in
set_option maxHeartbeats 800000 in
theorem mcrc_calls {v : Value} {l : List UInt8} (h : Row F w v l.length 1 (l.map U8)) (hl : l.length ≤ 140737488355328) :
    Calls Try.prog 29 #[v] w fun e w' => e = .returned (.int .u32 (crc l)) ∧ w = w' := by
  obtain ⟨A, c, rfl, hcell⟩ := h.byte'
  have HC := hid hcell
  clear hcell
  generalize hlen : l.length = len at *
  have HL := hid hlen
  clear hlen h
  go_enter Try.func29, Try.ntmps29
  go_wp2_with fail
  go_loop [3, 4] (fun x i => ∃ k : Nat, k ≤ len ∧ i = .int .i64 k ∧ x = .int .u32 (crcFrom 4294967295 (l.take k))) (fun _ i => len - (intOf i).toNat)
  case atStart => exact ⟨0, Nat.zero_le _, rfl, rfl⟩
  case round =>
    obtain ⟨k, hk, rfl, rfl⟩ := hrel
    by_cases hlt : k < len
    · obtain ⟨b, off, rfl, hc⟩ := HC.out (by omega)
      have hcell := hc k hlt
      have hsn := crc_take (l := l) (k := k) (by rw [HL.out]; exact hlt) 4294967295
      have hx := crcFrom_lt (l.take k) (x := 4294967295) (by omega)
      generalize l.getD k 0 = cn at *
      generalize crcFrom 4294967295 (l.take k) = x at *
      have HS := hid hsn
      have HX := hid hx
      have hxb := crc_byte hx cn
      have hcn := cn.toNat_lt
      clear hsn hc hx
      have hy := xor_byte_lt HX.out cn
      go_wp2_with fail
      generalize x ^^^ cn.toNat = y at *
      clear hxb hcn
      go_loop [3, 5] (fun x i => ∃ m : Nat, m ≤ 8 ∧ i = .int .i64 m ∧ x = .int .u32 (crcBits m y)) (fun _ i => 8 - (intOf i).toNat)
      case atStart => exact ⟨0, by omega, rfl, rfl⟩
      case round =>
        obtain ⟨m, hm, rfl, rfl⟩ := hrel
        by_cases h8 : m < 8
        · have hz := crcBits_lt m hy
          have HZ := hid (crcBits_snoc m y)
          generalize crcBits m y = z at *
          have ha := crc_and hz
          by_cases h1 : z % 2 = 1
          · have hb : (bits .and .u32 (z : Int) 1 == 1) = true := by rw [ha, h1]; rfl
            have HE := hid (crc_one hz h1)
            clear ha h1
            go_wp2_with fail
            refine ⟨⟨m + 1, by omega, by simp, ?_⟩, by simp [intOf]; omega⟩
            rw [HZ.out]
            exact congrArg (Value.int .u32) HE.out
          · have hb : (bits .and .u32 (z : Int) 1 == 1) = false := by rw [ha, show z % 2 = 0 by omega]; rfl
            have HE := hid (crc_zero h1)
            clear ha h1
            go_wp2_with fail
            refine ⟨⟨m + 1, by omega, by simp, ?_⟩, by simp [intOf]; omega⟩
            rw [HZ.out]
            exact congrArg (Value.int .u32) HE.out
        · obtain rfl : m = 8 := by omega
          go_wp2_with fail
          exact ⟨⟨k + 1, by omega, by simp, by rw [HS.out]⟩, by simp [intOf]; omega⟩
    · obtain rfl : k = len := by omega
      have hx := crcFrom_lt (l.take k) (x := 4294967295) (by omega)
      have hn := crc_not hx
      go_wp2_with fail
      go_ret
      rw [List.take_of_length_le (by rw [HL.out]; exact Nat.le_refl _)] at hn ⊢
      exact ⟨congrArg (fun n => Ending.returned (.int .u32 n)) hn, rfl⟩
end
end Go.Proofs.Ytbfdnhffcdbidaa
