/- The walk of the reference's Unframe. -/
import Derived.Test.YtbfdnhffcdbidaaFrame
namespace Go.Proofs.Ytbfdnhffcdbidaa
open Go.RowKit
section
variable {F : Nat → Prop} {w : World}
theorem or32 (i : Nat) {a c : Nat} (h : 2 ^ i * a < 4294967296) (hc : c < 2 ^ i) (hi : i ≤ 24) : bits .or .u32 ((2 ^ i * a : Nat) : Int) (c : Int) = ((2 ^ i * a + c : Nat) : Int) := by
  have h24 : (2 : Nat) ^ i ≤ 2 ^ 24 := Nat.pow_le_pow_right (by decide) hi
  rw [u32_or_nat _ _ h (by omega), Nat.two_pow_add_eq_or_of_lt hc]
theorem back_word4 {a b c d : Nat} (ha : a < 256) (hb : b < 256) (hc : c < 256) (hd : d < 256) :
    bits .or .u32 (bits .or .u32 (bits .or .u32 ((a : Int) * 16777216) ((b : Int) * 65536)) ((c : Int) * 256)) (d : Int) = ((((a * 256 + b) * 256 + c) * 256 + d : Nat) : Int) := by
  have e1 : bits .or .u32 ((a : Int) * 16777216) ((b : Int) * 65536) = ((2 ^ 16 * (a * 256 + b) : Nat) : Int) := by
    have := or32 24 (a := a) (c := b * 65536) (by omega) (by omega) (by omega)
    rw [show ((a : Int) * 16777216) = ((2 ^ 24 * a : Nat) : Int) by omega, show ((b : Int) * 65536) = ((b * 65536 : Nat) : Int) by omega, this]
    omega
  have e2 : bits .or .u32 ((2 ^ 16 * (a * 256 + b) : Nat) : Int) ((c : Int) * 256) = ((2 ^ 8 * ((a * 256 + b) * 256 + c) : Nat) : Int) := by
    have := or32 16 (a := a * 256 + b) (c := c * 256) (by omega) (by omega) (by omega)
    rw [show ((c : Int) * 256) = ((c * 256 : Nat) : Int) by omega, this]
    omega
  rw [e1, e2, or32 8 (by omega) (by omega) (by omega)]
  omega
theorem back_calls {v : Value} {l : List UInt8} (h : Row F w v l.length 1 (l.map U8)) (h4 : l.length = 4) :
    Calls Try.prog 62 #[v] w fun e w' => e = .returned (.int .u32 (bigNum l)) ∧ ∃ n, w' = w.drewN n := by
  obtain ⟨b, off, c, rfl, hlc, hc, hcell⟩ := h.byte (by omega)
  obtain ⟨x0, x1, x2, x3, rfl⟩ : ∃ x0 x1 x2 x3, l = [x0, x1, x2, x3] := by
    match l, h4 with
    | [x0, x1, x2, x3], _ => exact ⟨x0, x1, x2, x3, rfl⟩
  have c0 := hcell 0 (by simp)
  have c1 := hcell 1 (by simp)
  have c2 := hcell 2 (by simp)
  have c3 := hcell 3 (by simp)
  simp only [List.getD_cons_zero, List.getD_cons_succ, Nat.add_zero] at c0 c1 c2 c3
  have hb : bigNum [x0, x1, x2, x3] = ((x0.toNat * 256 + x1.toNat) * 256 + x2.toNat) * 256 + x3.toNat := by simp [bigNum]
  have h0 := x0.toNat_lt
  have h1 := x1.toNat_lt
  have h2 := x2.toNat_lt
  have h3 := x3.toNat_lt
  have HE := hid (back_word4 h0 h1 h2 h3)
  rw [hb]
  generalize x0.toNat = y0 at *
  generalize x1.toNat = y1 at *
  generalize x2.toNat = y2 at *
  generalize x3.toNat = y3 at *
  simp only [List.length_cons, List.length_nil, Nat.zero_add, Nat.reduceAdd] at *
  clear hcell h hb h4
  go_enter Try.func62, Try.ntmps62
  go_wp2_with fail
  go_quiet (fail)
  go_wp2
  go_ret
  exact ⟨congrArg (fun n => Ending.returned (.int .u32 n)) HE.out, _, rfl⟩

theorem drewN_add (w : World) (m n : Nat) : (w.drewN m).drewN n = w.drewN (m + n) := by simp
theorem backD {v : Value} {l : List UInt8} {m : Nat} (h : Row F (w.drewN m) v l.length 1 (l.map U8)) (h4 : l.length = 4) :
    Calls Try.prog 62 #[v] (w.drewN m) fun e w' => e = .returned (.int .u32 (bigNum l)) ∧ ∃ n, w' = w.drewN (m + n) :=
  (back_calls h h4).mono fun _ _ ⟨he, n, hw⟩ => ⟨he, n, by rw [hw, drewN_add]⟩
theorem quietE {P : Program} {f : FuncId} {args : Array Value} {w : World} {n : Nat} {v : Value}
    (h : Calls P f args (w.drewN n) fun e w' => e = .returned v ∧ ∃ k, w' = w.drewN (n + k)) : Calls P f args (w.drewN n) fun e w'' => e = .returned v ∧ ∃ m, w'' = w.drewN m :=
  h.mono fun _ _ ⟨he, k, hm⟩ => ⟨he, n + k, hm⟩
theorem quietG {P : Program} {f : FuncId} {args : Array Value} {w : World} {a n : Nat} {v : Value}
    (h : Calls P f args (w.drewN (a + n)) fun e w' => e = .returned v ∧ ∃ k, w' = w.drewN (a + n + k)) : Calls P f args (w.drewN (a + n)) fun e w'' => e = .returned v ∧ ∃ m, w'' = w.drewN (a + m) :=
  h.mono fun _ _ ⟨he, k, hm⟩ => ⟨he, n + k, by rw [hm, Nat.add_assoc]⟩
set_option maxRecDepth 20000 in
set_option maxHeartbeats 800000 in
theorem munframe_calls {v : Value} {l : List UInt8} (h : Row F w v l.length 1 (l.map U8)) (hl : l.length ≤ 100000) :
    Calls Try.prog 27 #[v] w (UnPost w l) := by
  have T : SlT Try.prog 22 5 (.int .u8 0) 1 1 := SlT.mk' Try.underlying22 (by kernel_rfl) rfl (by decide)
  by_cases h8 : l.length < 8
  · have hu : unframe l = ([], 0, 2) := by rw [unframe, if_pos h8]
    obtain ⟨A, c, rfl⟩ := h.shape
    generalize l.length = len at *
    clear h
    go_enter Try.func27, Try.ntmps27
    go_wp2_with fail
    refine bodyPost_ret (v := .tuple #[.slice none 0 0, .int .i64 0, .int .i64 2]) (by simp [results, Try.results27, go_sem]) rfl ?_
    exact UnPost.no hu (Keep.refl _ _)
  · obtain ⟨b, off, c, rfl, hlc, hc, hcell⟩ := h.byte (by omega)
    obtain ⟨len, hlen⟩ : ∃ len, len = l.length := ⟨_, rfl⟩
    have HL := hid hlen
    rw [← hlen] at h hl hlc h8 ⊢
    have hp1 := h.sub 0 4 (by omega)
    have hp2 := h.sub 4 4 (by omega)
    simp only [List.drop_zero, Nat.add_zero, Nat.sub_zero] at hp1
    have hl1 : (l.take 4).length = 4 := by simp; omega
    have hl2 : ((l.drop 4).take 4).length = 4 := by simp; omega
    have HU := hid (unframe.eq_1 l)
    have hb1 := big4_lt (l := l.take 4) (by omega)
    have hb2 := big4_lt (l := (l.drop 4).take 4) (by omega)
    have hc1 := crc_lt (l.take 4)
    unfold maxLen at hc
    have HR := hid h
    have K1 : ∀ m, Calls Try.prog 29 #[.slice (some ⟨b, off, none⟩) 4 c] (w.drewN m) fun e w' => e = .returned (.int .u32 (crc (l.take 4))) ∧ w.drewN m = w' := fun m => mcrc_calls (l := l.take 4) (by rw [hl1]; exact hp1.drewN m) (by omega)
    have K2 : ∀ m, Calls Try.prog 62 #[.slice (some ⟨b, off + 4, none⟩) 4 (c - 4)] (w.drewN m) fun e w' => e = .returned (.int .u32 (bigNum ((l.drop 4).take 4))) ∧ ∃ n, w' = w.drewN (m + n) := fun m => backD (l := (l.drop 4).take 4) (by rw [hl2]; exact hp2.drewN m) hl2
    have K3 : ∀ m, Calls Try.prog 62 #[.slice (some ⟨b, off, none⟩) 4 c] (w.drewN m) fun e w' => e = .returned (.int .u32 (bigNum (l.take 4))) ∧ ∃ n, w' = w.drewN (m + n) := fun m => backD (l := l.take 4) (by rw [hl1]; exact hp1.drewN m) hl1
    have HL8 : ∀ n, n + 12 ≤ len → ∀ m, Calls Try.prog 29 #[.slice (some ⟨b, off + 8, none⟩) n (c - 8)] (w.drewN m) fun e w' => e = .returned (.int .u32 (crc ((l.drop 8).take n))) ∧ w.drewN m = w' := fun n hn m => by
      have hp := HR.out.sub 8 n (by omega)
      have hpl : ((l.drop 8).take n).length = n := by simp; have := HL.out; omega
      exact mcrc_calls (l := (l.drop 8).take n) (by rw [hpl]; exact hp.drewN m) (by omega)
    have HL4 : ∀ n, n + 12 ≤ len → ∀ m, Calls Try.prog 62 #[.slice (some ⟨b, off + (n + 8), none⟩) 4 (c - (n + 8))] (w.drewN m) fun e w' => e = .returned (.int .u32 (bigNum ((l.drop (8 + n)).take 4))) ∧ ∃ k, w' = w.drewN (m + k) := fun n hn m => by
      have hp := HR.out.sub (8 + n) 4 (by omega)
      rw [Nat.add_comm 8 n] at hp ⊢
      have hpl : ((l.drop (n + 8)).take 4).length = 4 := by simp; have := HL.out; omega
      exact backD (l := (l.drop (n + 8)).take 4) (by rw [hpl]; exact hp.drewN m) hpl
    have HUn := HU.out
    rw [if_neg (by rw [← HL.out]; exact h8)] at HUn
    clear hcell hlen h HU hp1 hp2 hl1 hl2
    generalize crc (l.take 4) = C1 at *
    generalize bigNum ((l.drop 4).take 4) = N2 at *
    generalize bigNum (l.take 4) = N at *
    have h8' : 8 ≤ len := by omega
    have h8i : (8 : Int) ≤ (len : Int) := by omega
    have HK8 := hid HL8
    have HK4 := hid HL4
    clear HL8 HL4
    by_cases hC : C1 = N2
    case neg =>
      rw [if_pos hC] at HUn
      have hne : ((N2 : Int) != C1) = true := by simp; omega
      clear hC
      go_enter Try.func27, Try.ntmps27
      go_wp2_with fail
      go_quiet ((first
        | (go_at_call 29; exact quietC (K1 _))
        | (go_at_call 62; exact quietE (K2 _))))
      go_wp2
      refine bodyPost_ret (v := .tuple #[.slice none 0 0, .int .i64 0, .int .i64 5]) (by simp [results, Try.results27, go_sem]) rfl ?_
      exact UnPost.no HUn ((Keep.refl _ _).drewN _)
    rw [if_neg (fun q => q hC)] at HUn
    have heq : ((N2 : Int) != C1) = false := by simp; omega
    clear hC
    by_cases hN : 1048576 < N
    · rw [if_pos hN] at HUn
      go_enter Try.func27, Try.ntmps27
      go_wp2_with fail
      go_quiet ((first
        | (go_at_call 29; exact quietC (K1 _))
        | (go_at_call 62; exact quietE (K2 _))))
      rename_i nq
      go_wp2_with fail
      refine (K3 _).mono ?_
      rintro e w' ⟨rfl, n5, rfl⟩
      go_wp2
      refine bodyPost_ret (v := .tuple #[.slice none 0 0, .int .i64 0, .int .i64 3]) (by simp [results, Try.results27, go_sem]) rfl ?_
      exact UnPost.no HUn ((Keep.refl _ _).drewN _)
    rw [if_neg hN] at HUn
    by_cases hS : len < N + 12
    · rw [if_pos (by rw [← HL.out]; exact hS)] at HUn
      go_enter Try.func27, Try.ntmps27
      go_wp2_with fail
      go_quiet ((first
        | (go_at_call 29; exact quietC (K1 _))
        | (go_at_call 62; exact quietE (K2 _))))
      rename_i nq
      go_wp2_with fail
      refine (K3 _).mono ?_
      rintro e w' ⟨rfl, n5, rfl⟩
      go_wp2
      refine bodyPost_ret (v := .tuple #[.slice none 0 0, .int .i64 0, .int .i64 2]) (by simp [results, Try.results27, go_sem]) rfl ?_
      exact UnPost.no HUn ((Keep.refl _ _).drewN _)
    rw [if_neg (by rw [← HL.out]; exact hS)] at HUn
    have hS' : N + 12 ≤ len := by omega
    have K4 := HK8.out N hS'
    have K5 := HK4.out N hS'
    have hp := HR.out.sub 8 N (by omega)
    have hpl : ((l.drop 8).take N).length = N := by simp; have := HL.out; omega
    have hb5 := big4_lt (l := (l.drop (8 + N)).take 4) (by simp; omega)
    have hc5 := crc_lt ((l.drop 8).take N)
    have HP := hid hp
    have HPL := hid hpl
    generalize hq1 : crc ((l.drop 8).take N) = C2 at *
    generalize hq2 : bigNum ((l.drop (8 + N)).take 4) = N3 at *
    clear hp hpl
    go_enter Try.func27, Try.ntmps27
    go_wp2_with fail
    go_quiet ((first
      | (go_at_call 29; exact quietC (K1 _))
      | (go_at_call 62; exact quietE (K2 _))))
    rename_i nq
    go_wp2_with fail
    refine (K3 _).mono ?_
    rintro e w' ⟨rfl, n5, rfl⟩
    go_wp2_with fail
    have g1 : (8 : Int) ≤ (N : Int) + 8 := by omega
    have g2 : (N : Int) + 8 ≤ (c : Int) := by omega
    have g3 : (N : Int) + 8 ≤ (N : Int) + 12 := by omega
    have g4 : (N : Int) + 12 ≤ (c : Int) := by omega
    have g5 : ((N : Int) + 8).toNat = N + 8 := by omega
    have g6 : ((N : Int) + 12).toNat = N + 12 := by omega
    have g7 : (0 : Int) ≤ (N : Int) + 8 := by omega
    have g8 : (0 : Int) ≤ (N : Int) + 12 := by omega
    have g9 : ¬ c = 8 := by omega
    have g10 : ¬ c = N + 8 := by omega
    by_cases hD : C2 = N3
    case neg =>
      rw [if_pos hD] at HUn
      have hne : ((N3 : Int) != C2) = true := by simp; omega
      go_quiet ((first
        | (go_at_call 29; exact quietD (K4 _))
        | (go_at_call 62; exact quietG (K5 _))))
      go_wp2
      refine bodyPost_ret (v := .tuple #[.slice none 0 0, .int .i64 0, .int .i64 5]) (by simp [results, Try.results27, go_sem]) rfl ?_
      exact UnPost.no HUn (((Keep.refl _ _).drewN _).drewN _)
    have hne : ((N3 : Int) != C2) = false := by simp; omega
    rw [if_neg (fun q => q hD)] at HUn
    go_quiet ((first
      | (go_at_call 29; exact quietD (K4 _))
      | (go_at_call 62; exact quietG (K5 _))))
    have hpr : ∀ m, Row F (w.drewN m) (.slice (some ⟨b, off + 8, none⟩) N (c - 8)) N 1 (((l.drop 8).take N).map U8) := fun m => HP.out.drewN m
    have h1c : ∀ u ∈ ((l.drop 8).take N).map U8, u.oneCell' = true := fun u hu => by obtain ⟨x, _, rfl⟩ := List.mem_map.1 hu; rfl
    generalize (l.drop 8).take N = body at *
    clear K1 K2 K3 K4 K5 HK8 HK4
    go_wp2_with fail
    refine (copy_calls (a := body) (by rw [HPL.out]; exact hpr _) (by rw [HPL.out]; omega)).mono ?_
    rintro e w5 ⟨v5, rfl, ho5, hn5, hk5⟩
    rw [HPL.out] at ho5
    have hnew : ∀ k, v5.ownBlock = some k → NewIn w w5 k := fun k hk => hn5 k hk
    have hkp : Keep (fun _ => False) w w5 := ((Keep.refl (fun _ => False) w).drewN _).trans hk5 (fun _ _ q => q)
    go_wp2
    refine bodyPost_ret (v := .tuple #[v5, .int .i64 ((N : Int) + 12), .int .i64 0]) (by simp [results, Try.results27, go_sem]) rfl ?_
    refine ⟨v5, by rw [HUn]; simp, ?_, hnew, hkp⟩
    rw [HUn]
    simp only
    rw [HPL.out]
    exact ho5
end
end Go.Proofs.Ytbfdnhffcdbidaa
