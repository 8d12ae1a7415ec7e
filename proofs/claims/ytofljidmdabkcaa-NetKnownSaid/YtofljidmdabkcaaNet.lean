/- net: how a net lies (the program's, the document's); New, Len, room, place, Send. -/
import Derived.Test.YtofljidmdabkcaaMsgL
import Derived.Test.YtofljidmdabkcaaMChk3
import Derived.Test.YtofljidmdabkcaaSlc
import Derived.Test.YtofljidmdabkcaaReg
namespace Go.Proofs.Ytofljidmdabkcaa
open Go.RowKit
/-- A net in its block g, its messages in a row of its own; all of it in F. -/
structure NetSt (ty : TypeId) (F : Nat → Prop) (w : World) (g : Nat) (most : Int) (v : Value) (L : List Msg) (cs : List Value) : Prop where
  obj : w.heap[g]? = some (.cells #[.int .i64 most, v] ty)
  hg : F g
  row : w.ownsRow 0 32 27 v L.length cs
  parts : Parts .msg w (fun k => F k ∧ k ≠ g ∧ v.ownBlock ≠ some k) cs L
  own : ∀ b, v.ownBlock = some b → F b ∧ b ≠ g
  lt : ∀ k, F k → k < w.heap.size
  fits : ∀ m ∈ L, m.Fits
  le : (L.length : Int) ≤ most
  most : most ≤ 100000
def NetAt (ty : TypeId) (F : Nat → Prop) (w : World) (g : Nat) (most : Int) (L : List Msg) : Prop := ∃ v cs, NetSt ty F w g most v L cs
section
variable {ty : TypeId} {F S G : Nat → Prop} {w w' : World} {g : Nat} {most : Int} {v : Value} {L : List Msg} {cs ms : List Value} {m : Msg}
theorem NetSt.keep (h : NetSt ty F w g most v L cs) (hk : Keep S w w') (hS : ∀ k, F k → ¬ S k) : NetSt ty F w' g most v L cs :=
  ⟨hk.heap h.obj (hS g h.hg), h.hg, hk.owns h.row (fun k hb => hS k (h.own k hb).1), h.parts.keep hk (fun k hb => hS k hb.1), h.own, fun k hb => Nat.lt_of_lt_of_le (h.lt k hb) hk.size, h.fits, h.le, h.most⟩
theorem NetSt.keepF (h : NetSt ty F w g most v L cs) (hk : Keep (fun _ => False) w w') : NetSt ty F w' g most v L cs := h.keep hk (fun _ _ => id)
theorem NetAt.keep (h : NetAt ty F w g most L) (hk : Keep S w w') (hS : ∀ k, F k → ¬ S k) : NetAt ty F w' g most L := by
  obtain ⟨v, cs, h⟩ := h; exact ⟨v, cs, h.keep hk hS⟩
theorem NetAt.keepF (h : NetAt ty F w g most L) (hk : Keep (fun _ => False) w w') : NetAt ty F w' g most L := h.keep hk (fun _ _ => id)
theorem NetAt.le (h : NetAt ty F w g most L) : (L.length : Int) ≤ most ∧ most ≤ 100000 := by obtain ⟨v, cs, h⟩ := h; exact ⟨h.le, h.most⟩
theorem NetAt.lt (h : NetAt ty F w g most L) : ∀ k, F k → k < w.heap.size := by obtain ⟨v, cs, h⟩ := h; exact h.lt
theorem NetAt.hg (h : NetAt ty F w g most L) : F g := by obtain ⟨v, cs, h⟩ := h; exact h.hg
theorem NetAt.fits (h : NetAt ty F w g most L) : ∀ m ∈ L, m.Fits := by obtain ⟨v, cs, h⟩ := h; exact h.fits
theorem NetSt.shape (h : NetSt ty F w g most v L cs) : ∃ A c, v = .slice A L.length c := own_slice h.row
theorem NetAt.new (hb : w'.heap[g]? = some (.cells #[.int .i64 most, .slice none 0 0] ty)) (hg : w.heap.size ≤ g) (hm : 0 ≤ most) (hm' : most ≤ 100000) : NetAt ty (NewIn w w') w' g most [] :=
  ⟨.slice none 0 0, [], hb, ⟨hg, lt_heap hb⟩, World.ownsRow_nil _ 0 _ _, Parts.nil, fun b hb => by simp [Value.ownBlock] at hb, fun k hk => hk.2, fun m hm => by simp at hm, by simpa using hm, hm'⟩
set_option maxRecDepth 20000 in
theorem newNet_calls (n : Int) (h1 : 1 ≤ n) (h2 : n ≤ 100000) :
    Calls Try.prog 7 #[.int .i64 n] w fun e w' => ∃ g, e = .returned (.tuple #[.pointer (some ⟨g, 0, none⟩), .int .i64 0]) ∧ NetAt 56 (NewIn w w') w' g n [] ∧ Keep (fun _ => False) w w' := by
  have d1 : decide (n < 1) = false := decide_eq_false (by omega)
  have d2 : decide (100000 < n) = false := decide_eq_false (by omega)
  go_enter Try.func7, Try.ntmps7
  go_wp2_with (first
    | (refine wpl_boxB (v := .agg #[.int .i64 n, .slice none 0 0]) rfl rfl rfl ?_; intro g1 w1 hg1 hb1 k1 s1; have HG1 := hid hg1; clear hg1 s1))
  go_ret2
  exact ⟨g1, rfl, NetAt.new hb1 (Nat.le_of_eq HG1.out.symm) (by omega) h2, k1⟩
set_option maxRecDepth 20000 in
theorem newNet_bad (n : Int) (h : n < 1 ∨ 100000 < n) :
    Calls Try.prog 7 #[.int .i64 n] w fun e w' => e = .returned (.tuple #[.pointer none, .int .i64 1]) ∧ w = w' := by
  rcases h with h | h
  · have d1 : decide (n < 1) = true := decide_eq_true h
    go_enter Try.func7, Try.ntmps7
    go_wp2_with fail
    go_ret2
    exact ⟨rfl, rfl⟩
  · have d1 : decide (n < 1) = false := decide_eq_false (by omega)
    have d2 : decide (100000 < n) = true := decide_eq_true h
    go_enter Try.func7, Try.ntmps7
    go_wp2_with fail
    go_ret2
    exact ⟨rfl, rfl⟩
set_option maxRecDepth 20000 in
theorem nlen_calls (h : NetAt 56 F w g most L) : Calls Try.prog 11 #[.pointer (some ⟨g, 0, none⟩)] w fun e w' => e = .returned (.int .i64 L.length) ∧ w = w' := by
  obtain ⟨v, cs, h⟩ := h
  obtain ⟨A, c, rfl⟩ := h.shape
  have q1 := cell_at h.obj 1 _ rfl
  generalize L.length = n at *
  clear h
  go_enter Try.func11, Try.ntmps11
  go_wp2_with fail
  go_ret
  exact ⟨rfl, rfl⟩
set_option maxRecDepth 20000 in
theorem nroom_calls (h : NetAt 56 F w g most L) : Calls Try.prog 23 #[.pointer (some ⟨g, 0, none⟩)] w fun e w' => e = .returned (.int .i64 most) ∧ w = w' := by
  obtain ⟨v, cs, h⟩ := h
  have q1 := cell_at h.obj 0 _ rfl
  clear h
  go_enter Try.func23, Try.ntmps23
  go_wp2_with fail
  go_ret
  exact ⟨rfl, rfl⟩
/-- The closure that tells where a number stands: it holds the cell in which the number of messages lies. -/
def PlacePost (w : World) (n : Nat) (e : Ending) (w' : World) : Prop :=
  ∃ b, e = .returned (.func (.func 54) #[] #[.pointer (some ⟨b, 0, none⟩)]) ∧ w.heap.size ≤ b ∧ w'.cell? ⟨b, 0, none⟩ = some (.int .i64 n) ∧ Keep (fun _ => False) w w'
set_option maxRecDepth 20000 in
theorem nplace_calls (h : NetAt 56 F w g most L) : Calls Try.prog 33 #[.pointer (some ⟨g, 0, none⟩)] w (PlacePost w L.length) := by
  have hl := nlen_calls h
  clear h
  generalize L.length = n at *
  have HL := hid hl
  clear hl
  go_enter Try.func33, Try.ntmps33
  go_wp2_with fail
  refine HL.out.mono ?_
  rintro e w' ⟨rfl, rfl⟩
  go_wp2_with (first
    | (refine wpl_allocB (z := .int .i64 0) rfl rfl (by kernel_rfl) ?_; intro g1 w1 hg1 hb1 k1 s1; have HG1 := hid hg1; clear hg1 s1)
    | (refine wpl_storeB (v := .int .i64 n) rfl rfl rfl rfl hb1 (by kernel_rfl) (by simp [Value.cells]) (by simp [Value.oneCell', Value.cells]) ?_; intro w2 hb2 k2 s2))
  go_ret
  have e1 := HG1.out
  exact ⟨g1, rfl, by omega, cell_at hb2 0 _ rfl, k1.trans k2 (fun b hb e => by omega)⟩
/-- Where a number stands. -/
def placeN (k : Int) (n : Nat) : Nat := (k % (n : Int)).toNat
theorem place_eq (k : Int) (n : Nat) (hn : 0 < n) : ((k.tmod n + n).tmod n) = (placeN k n : Int) := by
  have h1 : (n : Int) ≠ 0 := by omega
  have h2 := Int.emod_nonneg k h1
  have h3 := Int.emod_lt_of_pos k (show (0 : Int) < n by omega)
  unfold placeN
  rw [Int.toNat_of_nonneg h2]
  by_cases hk : 0 ≤ k
  · rw [Int.tmod_eq_emod_of_nonneg hk, Int.tmod_eq_emod_of_nonneg (by omega), Int.add_emod_right, Int.emod_emod_of_dvd _ (Int.dvd_refl _)]
  · have h4 := Int.tmod_lt_of_pos k (show (0 : Int) < n by omega)
    have h5 := Int.lt_tmod_of_pos k (show (0 : Int) < n by omega)
    rw [Int.tmod_eq_emod_of_nonneg (by omega), Int.add_emod_right]
    have h6 : k.tmod n = k - n * (k.tdiv n) := by have := Int.mul_tdiv_add_tmod k n; omega
    rw [h6, Int.sub_mul_emod_self_left]
theorem placeN_lt (k : Int) {n : Nat} (hn : 0 < n) : placeN k n < n := by
  have h1 : (n : Int) ≠ 0 := by omega
  have h2 := Int.emod_nonneg k h1
  have h3 := Int.emod_lt_of_pos k (show (0 : Int) < n by omega)
  unfold placeN
  omega
set_option maxRecDepth 20000 in
theorem place1_calls {b n : Nat} {k : Int} (hb : w.cell? ⟨b, 0, none⟩ = some (.int .i64 n)) (hn : 0 < n) (hn2 : n ≤ 100000) (hk : okI k) : Calls Try.prog 54 #[.int .i64 k, .pointer (some ⟨b, 0, none⟩)] w fun e w' => e = .returned (.int .i64 (placeN k n)) ∧ ∃ m, w' = w.drewN m := by
  have hE := place_eq k n hn
  have h4 := Int.tmod_lt_of_pos k (show (0 : Int) < n by omega)
  have h5 := Int.lt_tmod_of_pos k (show (0 : Int) < n by omega)
  have h6 : IntKind.i64.wrap (k.tmod n + n) = k.tmod n + n := by
    simp [IntKind.wrap, IntKind.signed, IntKind.bits]
    omega
  have hz : ¬ (n : Int) = 0 := by omega
  have hz2 : ((n : Int) == 0) = false := by simp; omega
  have HE := hid hE
  clear hE h4 h5
  go_enter Try.func54, Try.ntmps54
  go_wp2_with fail
  go_quiet (fail)
  go_wp2_with fail
  go_ret
  exact ⟨by rw [HE.out]; rfl, _, rfl⟩
end
end Go.Proofs.Ytofljidmdabkcaa
