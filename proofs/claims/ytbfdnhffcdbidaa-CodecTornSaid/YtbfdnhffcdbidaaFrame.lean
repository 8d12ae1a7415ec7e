/- The walks of the two Frame, the two Unframe. -/
import Derived.Test.YtbfdnhffcdbidaaCrc
import Derived.Test.YtbfdnhffcdbidaaWr
import Derived.Test.YtbfdnhffcdbidaaRd
import Derived.Deep.QuietTactic
import Derived.BigQuiet
namespace Go.Proofs.Ytbfdnhffcdbidaa
open Go.RowKit

def frameOf (l : List UInt8) : List UInt8 := layBytes 4 l.length ++ layBytes 4 (crc (layBytes 4 l.length)) ++ l ++ layBytes 4 (crc l)
def unframe (l : List UInt8) : List UInt8 × Nat × Int :=
  if l.length < 8 then ([], 0, 2)
  else if crc (l.take 4) ≠ bigNum ((l.drop 4).take 4) then ([], 0, 5)
  else if 1048576 < bigNum (l.take 4) then ([], 0, 3)
  else if l.length < bigNum (l.take 4) + 12 then ([], 0, 2)
  else if crc ((l.drop 8).take (bigNum (l.take 4))) ≠ bigNum ((l.drop (8 + bigNum (l.take 4))).take 4) then ([], 0, 5)
  else ((l.drop 8).take (bigNum (l.take 4)), bigNum (l.take 4) + 12, 0)

theorem Row.sub {F : Nat → Prop} {w : World} {b off len c : Nat} {l : List UInt8} (h : Row F w (.slice (some ⟨b, off, none⟩) len c) len 1 (l.map U8)) (i m : Nat) (hi : i + m ≤ len) :
    Row F w (.slice (some ⟨b, off + i, none⟩) m (c - i)) m 1 (((l.drop i).take m).map U8) := by
  obtain ⟨A', c', he, hl, hnc, hc, hA⟩ := h
  simp only [Value.slice.injEq, true_and] at he
  obtain ⟨rfl, rfl⟩ := he
  simp only [List.length_map, Nat.mul_one] at hl
  refine ⟨_, _, rfl, by simp; omega, by omega, by omega, ?_⟩
  rcases hA with hA | ⟨b', off', hA, hF, hb, hcell⟩
  · exact .inl (by omega)
  · simp only [Option.some.injEq, Addr.mk.injEq, and_true] at hA
    obtain ⟨rfl, rfl⟩ := hA
    refine .inr ⟨b, off + i, rfl, hF, hb, fun j u hu => ?_⟩
    rw [Nat.add_assoc]
    apply hcell
    rw [List.map_take, List.map_drop, List.getElem?_take] at hu
    split at hu
    · rw [List.getElem?_drop] at hu; exact hu
    · simp at hu
section
variable {F : Nat → Prop} {w : World}
def FramePost (w : World) (l : List UInt8) (e : Ending) (w' : World) : Prop :=
  ∃ v, e = .returned (.tuple #[v, .int .i64 0]) ∧ w'.ownsRow 0 5 1 v (frameOf l).length ((frameOf l).map U8) ∧ (∀ k, v.ownBlock = some k → NewIn w w' k) ∧ Keep (fun _ => False) w w'

set_option maxRecDepth 20000 in
set_option maxHeartbeats 800000 in
theorem frame_calls {v : Value} {l : List UInt8} (h : Row F w v l.length 1 (l.map U8)) (hl : l.length ≤ 5000) (hF : ∀ k, F k → k < w.heap.size) :
    Calls Try.prog 24 #[v] w (FramePost w l) := by
  have T : SlT Try.prog 22 5 (.int .u8 0) 1 1 := SlT.mk' Try.underlying22 (by kernel_rfl) rfl (by decide)
  obtain ⟨A, c, rfl⟩ := h.shape
  obtain ⟨n, hn⟩ : ∃ n, n = l.length := ⟨_, rfl⟩
  have HN := hid hn
  have HR := hid h
  rw [← hn] at hl ⊢
  clear h hn
  go_enter Try.func24, Try.ntmps24
  go_wp2_with fail
  refine (lay_calls (l := []) (World.ownsRow_nil w 0 _ 1) 4 n (by omega) (by decide)).mono ?_
  rintro e w1 ⟨v1, rfl, ho1, hk1, hn1⟩
  have hk1' : Keep (fun _ => False) w w1 := hk1.mono (fun b _ q => by simp [Value.ownBlock] at q)
  have hnew1 : ∀ k, v1.ownBlock = some k → w.heap.size ≤ k ∧ k < w1.heap.size := fun k hk => ⟨(hn1 k hk).elim (fun q => by simp [Value.ownBlock] at q) id, own_lt' ho1 k hk⟩
  simp only [List.length_nil, Nat.zero_add, List.nil_append] at ho1
  obtain ⟨L1, hL1⟩ : ∃ L1, L1 = layBytes 4 n := ⟨_, rfl⟩
  have hlen1 : L1.length = 4 := by rw [hL1, layBytes_len]
  rw [← hL1] at ho1
  have HR1 := hid (HR.out.keep hk1' (fun _ _ => id))
  have hs1 := hk1.size
  obtain ⟨A1, c1, rfl⟩ := own_slice ho1
  clear hk1 hn1
  go_wp2_with fail
  refine (crc_calls (l := L1) (by rw [hlen1]; exact Row.ofOwn ho1) (by omega)).mono ?_
  rintro e w' ⟨rfl, rfl⟩
  have hcl := crc_lt L1
  generalize hC : crc L1 = C at *
  have HC := hid hC
  clear hC
  go_wp2_with fail
  refine (lay_calls (l := L1) (by rw [hlen1]; exact ho1) 4 C (by omega) (by omega)).mono ?_
  rintro e w2 ⟨v2, rfl, ho2, hk2, hn2⟩
  have hs2 := hk2.size
  have hold : ∀ k, k < w.heap.size → ¬ some k = (Value.slice A1 4 c1).ownBlock := fun k hk q => by have := (hnew1 k q.symm).1; omega
  have hk2' : Keep (fun _ => False) w w2 := hk1'.trans hk2 (fun b hb q => hold b hb q)
  have hnew2 : ∀ k, v2.ownBlock = some k → w.heap.size ≤ k ∧ k < w2.heap.size := fun k hk => ⟨(hn2 k hk).elim (fun q => (hnew1 k q).1) (fun q => by omega), own_lt' ho2 k hk⟩
  have HR2 := hid (HR1.out.keep hk2 (fun b hb q => hold b (hF b hb) q))
  rw [hlen1] at ho2
  obtain ⟨A2, c2, rfl⟩ := own_slice ho2
  go_wp2_with (at_builtin; refine stopHere ?_)
  have hRn := HR2.out
  rw [← HN.out] at hRn
  refine goOn (wpl_app (v := .slice A2 (4 + 4) c2) rfl rfl T rfl ho2 rfl hRn (by simp [U8, Value.oneCell']) (by omega) (by omega) ?_)
  intro A3 c3 w3 ho3 hk3 hn3
  have hs3 := hk3.size
  have hold2 : ∀ k, k < w.heap.size → ¬ some k = (Value.slice A2 (4 + 4) c2).ownBlock := fun k hk q => by have := (hnew2 k q.symm).1; omega
  have hk3' : Keep (fun _ => False) w w3 := hk2'.trans hk3 (fun b hb q => hold2 b hb q)
  have hnew3 : ∀ k, (Value.slice A3 (4 + 4 + n) c3).ownBlock = some k → w.heap.size ≤ k ∧ k < w3.heap.size := fun k hk => ⟨(hn3 k hk).elim (fun q => (hnew2 k q).1) (fun q => by omega), own_lt' ho3 k hk⟩
  have HR3 := hid (HR2.out.keep hk3 (fun b hb q => hold2 b (hF b hb) q))
  rw [← List.map_append] at ho3
  obtain ⟨L3, hL3⟩ : ∃ L3, L3 = L1 ++ layBytes 4 C ++ l := ⟨_, rfl⟩
  rw [← hL3] at ho3
  have hlen3 : L3.length = 4 + 4 + n := by rw [hL3, HN.out]; simp [hlen1, layBytes_len]; omega
  go_wp2_with fail
  have hRn := HR3.out
  refine (crc_calls (l := l) (by rw [HN.out]; exact hRn) (by have := HN.out; omega)).mono ?_
  rintro e w' ⟨rfl, rfl⟩
  have hcl2 := crc_lt l
  generalize hD : crc l = D at *
  have HD := hid hD
  clear hD
  go_wp2_with fail
  refine (lay_calls (l := L3) (by rw [hlen3]; exact ho3) 4 D (by omega) (by omega)).mono ?_
  rintro e w4 ⟨v4, rfl, ho4, hk4, hn4⟩
  have hold3 : ∀ k, k < w.heap.size → ¬ some k = (Value.slice A3 (4 + 4 + n) c3).ownBlock := fun k hk q => by have := (hnew3 k q.symm).1; omega
  have hk4' : Keep (fun _ => False) w w4 := hk3'.trans hk4 (fun b hb q => hold3 b hb q)
  have hnew4 : ∀ k, v4.ownBlock = some k → w.heap.size ≤ k ∧ k < w4.heap.size := fun k hk => ⟨(hn4 k hk).elim (fun q => (hnew3 k q).1) (fun q => by omega), own_lt' ho4 k hk⟩
  have hfr : L3 ++ layBytes 4 D = frameOf l := by rw [hL3, ← HC.out, hL1, frameOf, HN.out, HD.out]
  have hfl : L3.length + 4 = (frameOf l).length := by rw [← hfr]; simp [layBytes_len]
  rw [hfr, hfl] at ho4
  go_wp2
  go_ret2
  exact ⟨v4, rfl, ho4, hnew4, hk4'⟩

theorem four_calls (x : Nat) (hx : x < 4294967296) :
    Calls Try.prog 60 #[.int .u32 x] w fun e w' => ∃ v, e = .returned v ∧ w'.ownsRow 0 5 1 v 4 ((layBytes 4 x).map U8) ∧ (∀ k, v.ownBlock = some k → NewIn w w' k) ∧ Keep (fun _ => False) w w' := by
  have hall : w.alloc (.cells ((layBytes 4 x).map U8).toArray 5) = w.alloc (.cells #[.int .u8 ((x : Int) / 16777216), .int .u8 ((x : Int) / 65536 % 256), .int .u8 ((x : Int) / 256 % 256), .int .u8 ((x : Int) % 256)] 5) := by
    have e1 : (x : Int) / 16777216 = ((x / 16777216 % 256 : Nat) : Int) := by omega
    have e2 : (x : Int) / 65536 % 256 = ((x / 65536 % 256 : Nat) : Int) := by omega
    have e3 : (x : Int) / 256 % 256 = ((x / 256 % 256 : Nat) : Int) := by omega
    have e4 : (x : Int) % 256 = ((x % 256 : Nat) : Int) := by omega
    rw [e1, e2, e3, e4]
    simp only [layBytes, List.map_cons, List.map_nil, U8, UInt8.toNat_ofNat', show (256 : Nat) ^ 3 = 16777216 from rfl, show (256 : Nat) ^ 2 = 65536 from rfl, Nat.pow_zero, Nat.div_one, show (2 : Nat) ^ 8 = 256 from rfl]
  have HA := hid hall
  clear hall
  go_enter Try.func60, Try.ntmps60
  go_wp2_with fail
  go_ret
  rw [← HA.out]
  refine ⟨.slice (some ⟨w.heap.size, 0, none⟩) 4 4, rfl, ⟨by simp [layBytes_len], .inr ⟨w.heap.size, 4, _, rfl, Nat.zero_le _, heap_alloc_new w _, Nat.le_refl _, by decide, by simp [layBytes_len], ?_⟩⟩, fun k hk => ?_, (Keep.refl _ w).alloc _⟩
  · exact List.take_of_length_le (by simp [layBytes_len])
  · simp only [Value.ownBlock, Option.some.injEq] at hk
    subst hk
    exact ⟨Nat.le_refl _, by simp⟩
set_option maxRecDepth 20000 in
set_option maxHeartbeats 800000 in
theorem mframe_calls {v : Value} {l : List UInt8} (h : Row F w v l.length 1 (l.map U8)) (hl : l.length ≤ 5000) (hF : ∀ k, F k → k < w.heap.size) :
    Calls Try.prog 25 #[v] w (FramePost w l) := by
  have T : SlT Try.prog 22 5 (.int .u8 0) 1 1 := SlT.mk' Try.underlying22 (by kernel_rfl) rfl (by decide)
  obtain ⟨A, c, rfl⟩ := h.shape
  obtain ⟨n, hn⟩ : ∃ n, n = l.length := ⟨_, rfl⟩
  have HN := hid hn
  have HR := hid h
  rw [← hn] at hl ⊢
  clear h hn
  go_enter Try.func25, Try.ntmps25
  go_wp2_with fail
  refine (four_calls n (by omega)).mono ?_
  rintro e w1 ⟨v1, rfl, ho1, hn1, hk1⟩
  obtain ⟨L1, hL1⟩ : ∃ L1, L1 = layBytes 4 n := ⟨_, rfl⟩
  have hlen1 : L1.length = 4 := by rw [hL1, layBytes_len]
  rw [← hL1] at ho1
  have HR1 := hid (HR.out.keep hk1 (fun _ _ => id))
  have hs1 := hk1.size
  obtain ⟨A1, c1, rfl⟩ := own_slice ho1
  go_wp2_with fail
  refine (copy_calls (a := L1) (by rw [hlen1]; exact Row.ofOwn ho1) (by omega)).mono ?_
  rintro e w2 ⟨v2, rfl, ho2, hn2, hk2⟩
  have hs2 := hk2.size
  have HR2 := hid (HR1.out.keep hk2 (fun _ _ => id))
  have hk2' := hk1.trans hk2 (fun _ _ => id)
  have ho1' := hk2.owns ho1 (fun _ _ => id)
  have hnew2 : ∀ k, v2.ownBlock = some k → w.heap.size ≤ k ∧ k < w2.heap.size := fun k hk => by have h1 := (hn2 k hk).1; have h2 := (hn2 k hk).2; omega
  rw [hlen1] at ho2
  obtain ⟨A2, c2, rfl⟩ := own_slice ho2
  go_wp2_with fail
  refine (mcrc_calls (l := L1) (by rw [hlen1]; exact Row.ofOwn ho1') (by omega)).mono ?_
  rintro e w' ⟨rfl, rfl⟩
  have hcl := crc_lt L1
  generalize hC : crc L1 = C at *
  have HC := hid hC
  clear hC ho1 ho1'
  go_wp2_with fail
  refine (four_calls C hcl).mono ?_
  rintro e w3 ⟨v3, rfl, ho3, hn3, hk3⟩
  have hs3 := hk3.size
  have HR3 := hid (HR2.out.keep hk3 (fun _ _ => id))
  have hk3' := hk2'.trans hk3 (fun _ _ => id)
  have ho23 := hk3.owns ho2 (fun _ _ => id)
  obtain ⟨A3, c3, rfl⟩ := own_slice ho3
  have hr3 := Row.ofOwn ho3
  go_wp2_with (at_builtin; refine stopHere ?_)
  refine goOn (wpl_app (v := .slice A2 4 c2) rfl rfl T rfl ho23 rfl hr3 (by simp [U8, Value.oneCell']) (by omega) (by omega) ?_)
  intro A4 c4 w4 ho4 hk4 hn4
  have hs4 := hk4.size
  have hold4 : ∀ k, k < w.heap.size → ¬ some k = (Value.slice A2 4 c2).ownBlock := fun k hk q => by have := (hnew2 k q.symm).1; omega
  have hk4' : Keep (fun _ => False) w w4 := hk3'.trans hk4 (fun b hb q => hold4 b hb q)
  have hnew4 : ∀ k, (Value.slice A4 (4 + 4) c4).ownBlock = some k → w.heap.size ≤ k ∧ k < w4.heap.size := fun k hk => ⟨(hn4 k hk).elim (fun q => (hnew2 k q).1) (fun q => by omega), own_lt' ho4 k hk⟩
  have HR4 := hid (HR3.out.keep hk4 (fun b hb q => hold4 b (hF b hb) q))
  rw [← List.map_append] at ho4
  have hRn := HR4.out
  rw [← HN.out] at hRn
  clear ho2 ho3 ho23 hr3
  go_wp2_with (at_builtin; refine stopHere ?_)
  refine goOn (wpl_app (v := .slice A4 (4 + 4) c4) rfl rfl T rfl ho4 rfl hRn (by simp [U8, Value.oneCell']) (by omega) (by omega) ?_)
  intro A5 c5 w5 ho5 hk5 hn5
  have hs5 := hk5.size
  have hold5 : ∀ k, k < w.heap.size → ¬ some k = (Value.slice A4 (4 + 4) c4).ownBlock := fun k hk q => by have := (hnew4 k q.symm).1; omega
  have hk5' : Keep (fun _ => False) w w5 := hk4'.trans hk5 (fun b hb q => hold5 b hb q)
  have hnew5 : ∀ k, (Value.slice A5 (4 + 4 + n) c5).ownBlock = some k → w.heap.size ≤ k ∧ k < w5.heap.size := fun k hk => ⟨(hn5 k hk).elim (fun q => (hnew4 k q).1) (fun q => by omega), own_lt' ho5 k hk⟩
  have HR5 := hid (HR4.out.keep hk5 (fun b hb q => hold5 b (hF b hb) q))
  rw [← List.map_append] at ho5
  clear ho4 hRn
  have hRn := HR5.out
  go_wp2_with fail
  refine (mcrc_calls (l := l) (by rw [HN.out]; exact hRn) (by have := HN.out; omega)).mono ?_
  rintro e w' ⟨rfl, rfl⟩
  have hcl2 := crc_lt l
  generalize hD : crc l = D at *
  have HD := hid hD
  clear hD
  go_wp2_with fail
  refine (four_calls D hcl2).mono ?_
  rintro e w6 ⟨v6, rfl, ho6, hn6, hk6⟩
  have hs6 := hk6.size
  have hk6' := hk5'.trans hk6 (fun _ _ => id)
  have ho56 := hk6.owns ho5 (fun _ _ => id)
  obtain ⟨A6, c6, rfl⟩ := own_slice ho6
  have hr6 := Row.ofOwn ho6
  go_wp2_with (at_builtin; refine stopHere ?_)
  refine goOn (wpl_app (v := .slice A5 (4 + 4 + n) c5) rfl rfl T rfl ho56 rfl hr6 (by simp [U8, Value.oneCell']) (by omega) (by omega) ?_)
  intro A7 c7 w7 ho7 hk7 hn7
  have hold7 : ∀ k, k < w.heap.size → ¬ some k = (Value.slice A5 (4 + 4 + n) c5).ownBlock := fun k hk q => by have := (hnew5 k q.symm).1; omega
  have hk7' : Keep (fun _ => False) w w7 := hk6'.trans hk7 (fun b hb q => hold7 b hb q)
  have hnew7 : ∀ k, (Value.slice A7 (4 + 4 + n + 4) c7).ownBlock = some k → w.heap.size ≤ k ∧ k < w7.heap.size := fun k hk => ⟨(hn7 k hk).elim (fun q => (hnew5 k q).1) (fun q => by omega), own_lt' ho7 k hk⟩
  rw [← List.map_append] at ho7
  have hfr : L1 ++ layBytes 4 C ++ l ++ layBytes 4 D = frameOf l := by rw [← HC.out, hL1, frameOf, HN.out, HD.out]
  have hfl : 4 + 4 + n + 4 = (frameOf l).length := by rw [← hfr, HN.out]; simp [layBytes_len, hlen1]; omega
  rw [hfr] at ho7
  go_wp2
  go_ret2
  rw [hfl] at ho7 hnew7
  exact ⟨_, rfl, ho7, hnew7, hk7'⟩

/-! ### Unframe -/
def UnPost (w : World) (l : List UInt8) (e : Ending) (w' : World) : Prop :=
  ∃ v, e = .returned (.tuple #[v, .int .i64 (unframe l).2.1, .int .i64 (unframe l).2.2]) ∧ w'.ownsRow 0 5 1 v (unframe l).1.length ((unframe l).1.map U8) ∧ (∀ k, v.ownBlock = some k → NewIn w w' k) ∧ Keep (fun _ => False) w w'
theorem UnPost.no {w w' : World} {l : List UInt8} {n : Int} (h : unframe l = ([], 0, n)) (hk : Keep (fun _ => False) w w') : UnPost w l (.returned (.tuple #[.slice none 0 0, .int .i64 0, .int .i64 n])) w' := by
  refine ⟨_, by rw [h]; rfl, by rw [h]; exact World.ownsRow_nil w' 0 _ 1, fun k hk => by simp [Value.ownBlock] at hk, hk⟩
theorem big4_lt {l : List UInt8} (h : l.length ≤ 4) : bigNum l < 4294967296 := by
  have := bigNum_lt l
  exact Nat.lt_of_lt_of_le this (Nat.pow_le_pow_right (by decide) h)
theorem quietC {P : Program} {f : FuncId} {args : Array Value} {w : World} {n : Nat} {v : Value}
    (h : Calls P f args (w.drewN n) fun e w' => e = .returned v ∧ w.drewN n = w') : Calls P f args (w.drewN n) fun e w'' => e = .returned v ∧ ∃ m, w'' = w.drewN m :=
  h.mono fun _ _ ⟨he, hm⟩ => ⟨he, n, hm.symm⟩
theorem quietD {P : Program} {f : FuncId} {args : Array Value} {w : World} {a n : Nat} {v : Value}
    (h : Calls P f args (w.drewN (a + n)) fun e w' => e = .returned v ∧ w.drewN (a + n) = w') : Calls P f args (w.drewN (a + n)) fun e w'' => e = .returned v ∧ ∃ m, w'' = w.drewN (a + m) :=
  h.mono fun _ _ ⟨he, hm⟩ => ⟨he, n, hm.symm⟩
theorem Row.drewN {F : Nat → Prop} {w : World} {v : Value} {n size : Nat} {cs : List Value} (h : Row F w v n size cs) (k : Nat) : Row F (w.drewN k) v n size cs := h.keep ((Keep.refl (fun _ => False) w).drewN k) (fun _ _ => id)

set_option maxRecDepth 20000 in
set_option maxHeartbeats 800000 in
theorem unframe_calls {v : Value} {l : List UInt8} (h : Row F w v l.length 1 (l.map U8)) (hl : l.length ≤ 100000) :
    Calls Try.prog 26 #[v] w (UnPost w l) := by
  have T : SlT Try.prog 22 5 (.int .u8 0) 1 1 := SlT.mk' Try.underlying22 (by kernel_rfl) rfl (by decide)
  by_cases h8 : l.length < 8
  · have hu : unframe l = ([], 0, 2) := by rw [unframe, if_pos h8]
    obtain ⟨A, c, rfl⟩ := h.shape
    generalize l.length = len at *
    clear h
    go_enter Try.func26, Try.ntmps26
    go_wp2_with fail
    refine bodyPost_ret (v := .tuple #[.slice none 0 0, .int .i64 0, .int .i64 2]) (by simp [results, Try.results26, go_sem]) rfl ?_
    exact UnPost.no hu (Keep.refl _ _)
  · obtain ⟨b, off, c, rfl, hlc, hc, hcell⟩ := h.byte (by omega)
    obtain ⟨len, hlen⟩ : ∃ len, len = l.length := ⟨_, rfl⟩
    have HL := hid hlen
    rw [← hlen] at h hl hlc h8 ⊢
    have hp1 := h.sub 0 4 (by omega)
    have hp2 := h.sub 4 4 (by omega)
    simp only [List.drop_zero, Nat.add_zero, Nat.sub_zero] at hp1
    have hl1 : (l.take 4).length = 4 := by simp; omega
    have hl2 : ((l.drop 4).take 4).length = 4 := by simp; omega
    have HU := hid (unframe.eq_1 l)
    have hb1 := big4_lt (l := l.take 4) (by omega)
    have hb2 := big4_lt (l := (l.drop 4).take 4) (by omega)
    have hc1 := crc_lt (l.take 4)
    unfold maxLen at hc
    have HR := hid h
    have K1 : ∀ m, Calls Try.prog 28 #[.slice (some ⟨b, off, none⟩) 4 c] (w.drewN m) fun e w' => e = .returned (.int .u32 (crc (l.take 4))) ∧ w.drewN m = w' := fun m => crc_calls (l := l.take 4) (by rw [hl1]; exact hp1.drewN m) (by omega)
    have K2 : ∀ m, Calls Try.prog 61 #[.slice (some ⟨b, off + 4, none⟩) 4 (c - 4)] (w.drewN m) fun e w' => e = .returned (.int .u64 (bigNum ((l.drop 4).take 4))) ∧ w.drewN m = w' := fun m => number_calls (l := (l.drop 4).take 4) (by rw [hl2]; exact hp2.drewN m) (by omega) (by omega)
    have K3 : ∀ m, Calls Try.prog 61 #[.slice (some ⟨b, off, none⟩) 4 c] (w.drewN m) fun e w' => e = .returned (.int .u64 (bigNum (l.take 4))) ∧ w.drewN m = w' := fun m => number_calls (l := l.take 4) (by rw [hl1]; exact hp1.drewN m) (by omega) (by omega)
    have HL8 : ∀ n, n + 12 ≤ len → ∀ m, Calls Try.prog 28 #[.slice (some ⟨b, off + 8, none⟩) n (c - 8)] (w.drewN m) fun e w' => e = .returned (.int .u32 (crc ((l.drop 8).take n))) ∧ w.drewN m = w' := fun n hn m => by
      have hp := HR.out.sub 8 n (by omega)
      have hpl : ((l.drop 8).take n).length = n := by simp; have := HL.out; omega
      exact crc_calls (l := (l.drop 8).take n) (by rw [hpl]; exact hp.drewN m) (by omega)
    have HL4 : ∀ n, n + 12 ≤ len → ∀ m, Calls Try.prog 61 #[.slice (some ⟨b, off + (8 + n), none⟩) 4 (c - (8 + n))] (w.drewN m) fun e w' => e = .returned (.int .u64 (bigNum ((l.drop (8 + n)).take 4))) ∧ w.drewN m = w' := fun n hn m => by
      have hp := HR.out.sub (8 + n) 4 (by omega)
      have hpl : ((l.drop (8 + n)).take 4).length = 4 := by simp; have := HL.out; omega
      exact number_calls (l := (l.drop (8 + n)).take 4) (by rw [hpl]; exact hp.drewN m) (by omega) (by omega)
    have HUn := HU.out
    rw [if_neg (by rw [← HL.out]; exact h8)] at HUn
    clear hcell hlen h HU hp1 hp2 hl1 hl2
    generalize crc (l.take 4) = C1 at *
    generalize bigNum ((l.drop 4).take 4) = N2 at *
    generalize bigNum (l.take 4) = N at *
    have h8' : 8 ≤ len := by omega
    have h8i : (8 : Int) ≤ (len : Int) := by omega
    have HK8 := hid HL8
    have HK4 := hid HL4
    clear HL8 HL4
    by_cases hC : C1 = N2
    case neg =>
      rw [if_pos hC] at HUn
      have hne : ((C1 : Int) != N2) = true := by simp; omega
      clear hC
      go_enter Try.func26, Try.ntmps26
      go_wp2_with fail
      go_quiet ((first
        | (go_at_call 28; exact quietC (K1 _))
        | (go_at_call 61; exact quietC (K2 _))))
      go_wp2
      refine bodyPost_ret (v := .tuple #[.slice none 0 0, .int .i64 0, .int .i64 5]) (by simp [results, Try.results26, go_sem]) rfl ?_
      exact UnPost.no HUn ((Keep.refl _ _).drewN _)
    rw [if_neg (fun q => q hC)] at HUn
    have heq : ((C1 : Int) != N2) = false := by simp; omega
    clear hC
    by_cases hN : 1048576 < N
    · rw [if_pos hN] at HUn
      go_enter Try.func26, Try.ntmps26
      go_wp2_with fail
      go_quiet ((first
        | (go_at_call 28; exact quietC (K1 _))
        | (go_at_call 61; exact quietC (K2 _))))
      rename_i nq
      go_wp2_with fail
      refine (K3 _).mono ?_
      rintro e w' ⟨rfl, rfl⟩
      go_wp2
      refine bodyPost_ret (v := .tuple #[.slice none 0 0, .int .i64 0, .int .i64 3]) (by simp [results, Try.results26, go_sem]) rfl ?_
      exact UnPost.no HUn ((Keep.refl _ _).drewN _)
    rw [if_neg hN] at HUn
    by_cases hS : len < N + 12
    · rw [if_pos (by rw [← HL.out]; exact hS)] at HUn
      go_enter Try.func26, Try.ntmps26
      go_wp2_with fail
      go_quiet ((first
        | (go_at_call 28; exact quietC (K1 _))
        | (go_at_call 61; exact quietC (K2 _))))
      rename_i nq
      go_wp2_with fail
      refine (K3 _).mono ?_
      rintro e w' ⟨rfl, rfl⟩
      go_wp2
      refine bodyPost_ret (v := .tuple #[.slice none 0 0, .int .i64 0, .int .i64 2]) (by simp [results, Try.results26, go_sem]) rfl ?_
      exact UnPost.no HUn ((Keep.refl _ _).drewN _)
    rw [if_neg (by rw [← HL.out]; exact hS)] at HUn
    have hS' : N + 12 ≤ len := by omega
    have K4 := HK8.out N hS'
    have K5 := HK4.out N hS'
    have hp := HR.out.sub 8 N (by omega)
    have hpl : ((l.drop 8).take N).length = N := by simp; have := HL.out; omega
    have hb5 := big4_lt (l := (l.drop (8 + N)).take 4) (by simp; omega)
    have hc5 := crc_lt ((l.drop 8).take N)
    have HP := hid hp
    have HPL := hid hpl
    generalize hq1 : crc ((l.drop 8).take N) = C2 at *
    generalize hq2 : bigNum ((l.drop (8 + N)).take 4) = N3 at *
    clear hp hpl
    go_enter Try.func26, Try.ntmps26
    go_wp2_with fail
    go_quiet ((first
      | (go_at_call 28; exact quietC (K1 _))
      | (go_at_call 61; exact quietC (K2 _))))
    rename_i nq
    go_wp2_with fail
    refine (K3 _).mono ?_
    rintro e w' ⟨rfl, rfl⟩
    go_wp2_with fail
    have g1 : (8 : Int) ≤ 8 + (N : Int) := by omega
    have g2 : 8 + (N : Int) ≤ (c : Int) := by omega
    have g3 : 8 + (N : Int) ≤ 8 + (N : Int) + 4 := by omega
    have g4 : 8 + (N : Int) + 4 ≤ (c : Int) := by omega
    have g5 : (8 + (N : Int)).toNat = 8 + N := by omega
    have g6 : (8 + (N : Int) + 4).toNat = 8 + N + 4 := by omega
    have g7 : (0 : Int) ≤ 8 + (N : Int) := by omega
    have g8 : (0 : Int) ≤ 8 + (N : Int) + 4 := by omega
    have g9 : ¬ c = 8 := by omega
    have g10 : ¬ c = 8 + N := by omega
    by_cases hD : C2 = N3
    case neg =>
      rw [if_pos hD] at HUn
      have hne : ((C2 : Int) != N3) = true := by simp; omega
      go_quiet ((first
        | (go_at_call 28; exact quietD (K4 _))
        | (go_at_call 61; exact quietD (K5 _))))
      go_wp2
      refine bodyPost_ret (v := .tuple #[.slice none 0 0, .int .i64 0, .int .i64 5]) (by simp [results, Try.results26, go_sem]) rfl ?_
      exact UnPost.no HUn (((Keep.refl _ _).drewN _).drewN _)
    have hne : ((C2 : Int) != N3) = false := by simp; omega
    rw [if_neg (fun q => q hD)] at HUn
    go_quiet ((first
      | (go_at_call 28; exact quietD (K4 _))
      | (go_at_call 61; exact quietD (K5 _))))
    have hpr : ∀ m, Row F (w.drewN m) (.slice (some ⟨b, off + 8, none⟩) N (c - 8)) N 1 (((l.drop 8).take N).map U8) := fun m => HP.out.drewN m
    have h1c : ∀ u ∈ ((l.drop 8).take N).map U8, u.oneCell' = true := fun u hu => by obtain ⟨x, _, rfl⟩ := List.mem_map.1 hu; rfl
    generalize (l.drop 8).take N = body at *
    clear K1 K2 K3 K4 K5 HK8 HK4
    go_wp2_with (at_builtin; refine stopHere ?_)
    refine goOn (wpl_app (v := .slice none 0 0) rfl rfl T rfl (World.ownsRow_nil _ 0 _ 1) rfl (hpr _) h1c (by omega) (by omega) ?_)
    intro A5 c5 w5 ho5 hk5 hn5
    have hnew : ∀ k, (Value.slice A5 N c5).ownBlock = some k → NewIn w w5 k := fun k hk => by
      rw [Nat.zero_add] at hn5 ho5
      have h2 := own_lt' ho5 k hk
      rcases hn5 k hk with q | q
      · simp [Value.ownBlock] at q
      · exact ⟨q, h2⟩
    have hkp : Keep (fun _ => False) w w5 := ((Keep.refl (fun _ => False) w).drewN _).trans hk5 (fun b hb q => by simp [Value.ownBlock] at q)
    rw [Nat.zero_add, List.nil_append] at ho5
    go_wp2
    refine bodyPost_ret (v := .tuple #[.slice A5 N c5, .int .i64 (8 + (N : Int) + 4), .int .i64 0]) (by simp [results, Try.results26, go_sem]) rfl ?_
    refine ⟨.slice A5 N c5, by rw [HUn]; simp; omega, ?_, hnew, hkp⟩
    rw [HUn]
    simp only
    rw [HPL.out]
    exact ho5
end
end Go.Proofs.Ytbfdnhffcdbidaa
