/- net: how a net lies (the program's, the document's); New, Len, room, place, Send. net: Send. slices.Delete of one message. -/
import Derived.Test.YtofljidmdabkcaaGreatCq
import Derived.Test.YtofljidmdabkcaaGreatMk2
import Derived.Test.YtofljidmdabkcaaGreatMt
import Derived.Test.YtofljidmdabkcaaGreatReg
import Derived.Lib.SlicesDelete
namespace Go.Proofs.YtofljidmdabkcaaGreat
open Go.RowKit
/-- A net in its block g, its messages in a row of its own; all of it in F. -/
structure NetSt (ty : TypeId) (F : Nat → Prop) (w : World) (g : Nat) (most : Int) (v : Value) (L : List Msg) (cs : List Value) : Prop where
  obj : w.heap[g]? = some (.cells #[.int .i64 most, v] ty)
  hg : F g
  row : w.ownsRow 0 42 27 v L.length cs
  parts : Parts .msg w (fun k => F k ∧ k ≠ g ∧ v.ownBlock ≠ some k) cs L
  own : ∀ b, v.ownBlock = some b → F b ∧ b ≠ g
  lt : ∀ k, F k → k < w.heap.size
  fits : ∀ m ∈ L, m.Fits
  le : (L.length : Int) ≤ most
  most : most ≤ 100000
def NetAt (ty : TypeId) (F : Nat → Prop) (w : World) (g : Nat) (most : Int) (L : List Msg) : Prop := ∃ v cs, NetSt ty F w g most v L cs
section
variable {ty : TypeId} {F S G : Nat → Prop} {w w' : World} {g : Nat} {most : Int} {v : Value} {L : List Msg} {cs ms : List Value} {m : Msg}
theorem NetSt.keep (h : NetSt ty F w g most v L cs) (hk : Keep S w w') (hS : ∀ k, F k → ¬ S k) : NetSt ty F w' g most v L cs :=
  ⟨hk.heap h.obj (hS g h.hg), h.hg, hk.owns h.row (fun k hb => hS k (h.own k hb).1), h.parts.keep hk (fun k hb => hS k hb.1), h.own, fun k hb => Nat.lt_of_lt_of_le (h.lt k hb) hk.size, h.fits, h.le, h.most⟩
theorem NetSt.keepF (h : NetSt ty F w g most v L cs) (hk : Keep (fun _ => False) w w') : NetSt ty F w' g most v L cs := h.keep hk (fun _ _ => id)
theorem NetAt.keep (h : NetAt ty F w g most L) (hk : Keep S w w') (hS : ∀ k, F k → ¬ S k) : NetAt ty F w' g most L := by
  obtain ⟨v, cs, h⟩ := h; exact ⟨v, cs, h.keep hk hS⟩
theorem NetAt.keepF (h : NetAt ty F w g most L) (hk : Keep (fun _ => False) w w') : NetAt ty F w' g most L := h.keep hk (fun _ _ => id)
theorem NetAt.le (h : NetAt ty F w g most L) : (L.length : Int) ≤ most ∧ most ≤ 100000 := by obtain ⟨v, cs, h⟩ := h; exact ⟨h.le, h.most⟩
theorem NetAt.lt (h : NetAt ty F w g most L) : ∀ k, F k → k < w.heap.size := by obtain ⟨v, cs, h⟩ := h; exact h.lt
theorem NetAt.hg (h : NetAt ty F w g most L) : F g := by obtain ⟨v, cs, h⟩ := h; exact h.hg
theorem NetAt.fits (h : NetAt ty F w g most L) : ∀ m ∈ L, m.Fits := by obtain ⟨v, cs, h⟩ := h; exact h.fits
theorem NetSt.shape (h : NetSt ty F w g most v L cs) : ∃ A c, v = .slice A L.length c := own_slice h.row
theorem NetAt.new (hb : w'.heap[g]? = some (.cells #[.int .i64 most, .slice none 0 0] ty)) (hg : w.heap.size ≤ g) (hm : 0 ≤ most) (hm' : most ≤ 100000) : NetAt ty (NewIn w w') w' g most [] :=
  ⟨.slice none 0 0, [], hb, ⟨hg, lt_heap hb⟩, World.ownsRow_nil _ 0 _ _, Parts.nil, fun b hb => by simp [Value.ownBlock] at hb, fun k hk => hk.2, fun m hm => by simp at hm, by simpa using hm, hm'⟩
set_option maxRecDepth 20000 in
theorem newNet_calls (n : Int) (h1 : 1 ≤ n) (h2 : n ≤ 100000) :
    Calls Tryz.prog 6 #[.int .i64 n] w fun e w' => ∃ g, e = .returned (.tuple #[.pointer (some ⟨g, 0, none⟩), .int .i64 0]) ∧ NetAt 58 (NewIn w w') w' g n [] ∧ Keep (fun _ => False) w w' := by
  have d1 : decide (n < 1) = false := decide_eq_false (by omega)
  have d2 : decide (100000 < n) = false := decide_eq_false (by omega)
  go_enter Tryz.func6, Tryz.ntmps6
  go_wp2_with (first
    | (refine wpl_boxB (v := .agg #[.int .i64 n, .slice none 0 0]) rfl rfl rfl ?_; intro g1 w1 hg1 hb1 k1 s1; have HG1 := hid hg1; clear hg1 s1))
  go_ret2
  exact ⟨g1, rfl, NetAt.new hb1 (Nat.le_of_eq HG1.out.symm) (by omega) h2, k1⟩
set_option maxRecDepth 20000 in
theorem newNet_bad (n : Int) (h : n < 1 ∨ 100000 < n) :
    Calls Tryz.prog 6 #[.int .i64 n] w fun e w' => e = .returned (.tuple #[.pointer none, .int .i64 1]) ∧ w = w' := by
  rcases h with h | h
  · have d1 : decide (n < 1) = true := decide_eq_true h
    go_enter Tryz.func6, Tryz.ntmps6
    go_wp2_with fail
    go_ret2
    exact ⟨rfl, rfl⟩
  · have d1 : decide (n < 1) = false := decide_eq_false (by omega)
    have d2 : decide (100000 < n) = true := decide_eq_true h
    go_enter Tryz.func6, Tryz.ntmps6
    go_wp2_with fail
    go_ret2
    exact ⟨rfl, rfl⟩
set_option maxRecDepth 20000 in
theorem nlen_calls (h : NetAt 58 F w g most L) : Calls Tryz.prog 17 #[.pointer (some ⟨g, 0, none⟩)] w fun e w' => e = .returned (.int .i64 L.length) ∧ w = w' := by
  obtain ⟨v, cs, h⟩ := h
  obtain ⟨A, c, rfl⟩ := h.shape
  have q1 := cell_at h.obj 1 _ rfl
  generalize L.length = n at *
  clear h
  go_enter Tryz.func17, Tryz.ntmps17
  go_wp2_with fail
  go_ret
  exact ⟨rfl, rfl⟩
set_option maxRecDepth 20000 in
theorem nroom_calls (h : NetAt 58 F w g most L) : Calls Tryz.prog 20 #[.pointer (some ⟨g, 0, none⟩)] w fun e w' => e = .returned (.int .i64 most) ∧ w = w' := by
  obtain ⟨v, cs, h⟩ := h
  have q1 := cell_at h.obj 0 _ rfl
  clear h
  go_enter Tryz.func20, Tryz.ntmps20
  go_wp2_with fail
  go_ret
  exact ⟨rfl, rfl⟩
/-- The closure that tells where a number stands: it holds the cell in which the number of messages lies. -/
def PlacePost (w : World) (n : Nat) (e : Ending) (w' : World) : Prop :=
  ∃ b, e = .returned (.func (.func 52) #[] #[.pointer (some ⟨b, 0, none⟩)]) ∧ w.heap.size ≤ b ∧ w'.cell? ⟨b, 0, none⟩ = some (.int .i64 n) ∧ Keep (fun _ => False) w w'
set_option maxRecDepth 20000 in
theorem nplace_calls (h : NetAt 58 F w g most L) : Calls Tryz.prog 25 #[.pointer (some ⟨g, 0, none⟩)] w (PlacePost w L.length) := by
  have hl := nlen_calls h
  clear h
  generalize L.length = n at *
  have HL := hid hl
  clear hl
  go_enter Tryz.func25, Tryz.ntmps25
  go_wp2_with fail
  refine HL.out.mono ?_
  rintro e w' ⟨rfl, rfl⟩
  go_wp2_with (first
    | (refine wpl_allocB (z := .int .i64 0) rfl rfl (by kernel_rfl) ?_; intro g1 w1 hg1 hb1 k1 s1; have HG1 := hid hg1; clear hg1 s1)
    | (refine wpl_storeB (v := .int .i64 n) rfl rfl rfl rfl hb1 (by kernel_rfl) (by simp [Value.cells]) (by simp [Value.oneCell', Value.cells]) ?_; intro w2 hb2 k2 s2))
  go_ret
  have e1 := HG1.out
  exact ⟨g1, rfl, by omega, cell_at hb2 0 _ rfl, k1.trans k2 (fun b hb e => by omega)⟩
/-- Where a number stands. -/
def placeN (k : Int) (n : Nat) : Nat := (k % (n : Int)).toNat
theorem place_eq (k : Int) (n : Nat) (hn : 0 < n) : ((k.tmod n + n).tmod n) = (placeN k n : Int) := by
  have h1 : (n : Int) ≠ 0 := by omega
  have h2 := Int.emod_nonneg k h1
  have h3 := Int.emod_lt_of_pos k (show (0 : Int) < n by omega)
  unfold placeN
  rw [Int.toNat_of_nonneg h2]
  by_cases hk : 0 ≤ k
  · rw [Int.tmod_eq_emod_of_nonneg hk, Int.tmod_eq_emod_of_nonneg (by omega), Int.add_emod_right, Int.emod_emod_of_dvd _ (Int.dvd_refl _)]
  · have h4 := Int.tmod_lt_of_pos k (show (0 : Int) < n by omega)
    have h5 := Int.lt_tmod_of_pos k (show (0 : Int) < n by omega)
    rw [Int.tmod_eq_emod_of_nonneg (by omega), Int.add_emod_right]
    have h6 : k.tmod n = k - n * (k.tdiv n) := by have := Int.mul_tdiv_add_tmod k n; omega
    rw [h6, Int.sub_mul_emod_self_left]
theorem placeN_lt (k : Int) {n : Nat} (hn : 0 < n) : placeN k n < n := by
  have h1 : (n : Int) ≠ 0 := by omega
  have h2 := Int.emod_nonneg k h1
  have h3 := Int.emod_lt_of_pos k (show (0 : Int) < n by omega)
  unfold placeN
  omega
set_option maxRecDepth 20000 in
theorem place1_calls {b n : Nat} {k : Int} (hb : w.cell? ⟨b, 0, none⟩ = some (.int .i64 n)) (hn : 0 < n) (hn2 : n ≤ 100000) (_hk : okI k) : Calls Tryz.prog 52 #[.int .i64 k, .pointer (some ⟨b, 0, none⟩)] w fun e w' => e = .returned (.int .i64 (placeN k n)) ∧ ∃ m, w' = w.drewN m := by
  have hE := place_eq k n hn
  have h4 := Int.tmod_lt_of_pos k (show (0 : Int) < n by omega)
  have h5 := Int.lt_tmod_of_pos k (show (0 : Int) < n by omega)
  have h6 : IntKind.i64.wrap (k.tmod n + n) = k.tmod n + n := by
    simp [IntKind.wrap, IntKind.signed, IntKind.bits]
    omega
  have hz : ¬ (n : Int) = 0 := by omega
  have hz2 : ((n : Int) == 0) = false := by simp; omega
  have HE := hid hE
  clear hE h4 h5
  go_enter Tryz.func52, Tryz.ntmps52
  go_wp2_with fail
  go_quiet (fail)
  go_wp2_with fail
  go_ret
  exact ⟨by rw [HE.out]; rfl, _, rfl⟩
end
end Go.Proofs.YtofljidmdabkcaaGreat
namespace Go.Proofs.YtofljidmdabkcaaGreat
open Go.RowKit
section
variable {ty : TypeId} {F S G : Nat → Prop} {w w' w1 w2 w3 wa : World} {g : Nat} {most : Int} {v : Value} {L : List Msg} {cs ms vs : List Value} {m : Msg} {A A2 : Option Addr} {c c2 : Nat}
theorem mcheck_any (h : Rep.msg.cells w G m ms) (hG : ∀ q, G q → q < w.heap.size) : Calls Tryz.prog 21 #[.agg ms.toArray] w fun e w' => e = .returned (.int .i64 (if mchkB m then 0 else 1)) ∧ Keep (fun _ => False) w w' := by
  obtain ⟨vc, vv, vi, vk, rfl, h1, h2, h3, h4, _⟩ := msg_cells h
  obtain ⟨Ac, cc, rfl⟩ := h1.shape
  obtain ⟨Av, cv, rfl⟩ := h2.shape
  obtain ⟨Ai, ci, rfl⟩ := h3.shape
  obtain ⟨Ak, ck, rfl⟩ := h4.shape
  exact mcheck_calls (F := G) ⟨h1, h2, h3, h4, hG⟩
/-- One message more. -/
theorem NetSt.more (h : NetSt ty F w g most (.slice A L.length c) L cs) (hlt : (L.length : Int) < most) (hk1 : Keep (fun _ => False) w w1) (hd : Rep.msg.cells w1 (NewIn w w1) m vs) (hka : Keep (fun _ => False) w1 wa)
    (ho : w2.ownsRow 0 42 27 (.slice A2 (L.length + 1) c2) (L.length + 1) (cs ++ vs)) (hk2 : Keep (fun q => some q = (Value.slice A L.length c).ownBlock) wa w2) (hn : SameOrNew wa (.slice A L.length c) (.slice A2 (L.length + 1) c2))
    (hb3 : w3.heap[g]? = some (.cells #[.int .i64 most, .slice A2 (L.length + 1) c2] ty)) (hk3 : Keep (fun q => q = g) w2 w3) (hf : m.Fits) : NetAt ty (Grow F w w3) w3 g most (L ++ [m]) ∧ Keep F w w3 := by
  have s1 := hk1.size; have sa := hka.size; have s2 := hk2.size; have s3 := hk3.size
  have hgl := h.lt g h.hg
  have hob : ∀ b, (Value.slice A L.length c).ownBlock = some b → b < w.heap.size := fun b hb => h.lt b (h.own b hb).1
  have hnew : ∀ b, (Value.slice A2 (L.length + 1) c2).ownBlock = some b → (Value.slice A L.length c).ownBlock = some b ∨ wa.heap.size ≤ b := hn
  have hka' : Keep (fun _ => False) w wa := hk1.trans hka (fun _ _ f => f)
  have hkw : Keep (fun q => q = g ∨ some q = (Value.slice A L.length c).ownBlock) w w3 := ((hka'.mono (fun _ _ f => f.elim)).trans hk2 (fun _ _ e => .inr e)).trans hk3 (fun _ _ e => .inl e)
  have hk13 : Keep (fun q => q = g ∨ some q = (Value.slice A L.length c).ownBlock) w1 w3 := ((hka.mono (fun _ _ f => f.elim)).trans hk2 (fun _ _ e => .inr e)).trans hk3 (fun _ _ e => .inl e)
  have hlen : (L ++ [m]).length = L.length + 1 := by simp
  refine ⟨⟨.slice A2 (L.length + 1) c2, cs ++ vs, ⟨hb3, .inl h.hg, ?_, ?_, fun b hb => ?_, ?_, ?_, ?_, h.most⟩⟩, ?_⟩
  · rw [hlen]
    refine hk3.owns ho (fun b hb e => ?_)
    subst e
    rcases hnew _ hb with q | q
    · exact (h.own _ q).2 rfl
    · omega
  · have hne : ∀ b, b < wa.heap.size → (Value.slice A L.length c).ownBlock ≠ some b → (Value.slice A2 (L.length + 1) c2).ownBlock ≠ some b := fun b hb hne e => by
      rcases hnew b e with q | q
      · exact hne q
      · omega
    refine Parts.app ((h.parts.keep hkw (fun b hb e => ?_)).mono (fun b hb => ⟨.inl hb.1, hb.2.1, hne b (by have := h.lt b hb.1; omega) hb.2.2⟩)) (by rw [h.row.1]; rfl) (Parts.one ?_)
    · rcases e with e | e
      · exact hb.2.1 e
      · exact hb.2.2 e.symm
    · refine Rep.msg.mono (Rep.msg.keep hd hk13 (fun b hb e => ?_)) (fun b hb => ⟨.inr ⟨hb.1, by have := hb.2; omega⟩, by have := hb.1; omega, hne b (by have := hb.2; omega) (fun e => by have := hob b e; have := hb.1; omega)⟩)
      have := hb.1
      rcases e with e | e
      · omega
      · have := hob b e.symm; omega
  · rcases hnew b hb with q | q
    · exact ⟨.inl (h.own b q).1, (h.own b q).2⟩
    · exact ⟨.inr ⟨by omega, by have := own_lt' ho b hb; omega⟩, by omega⟩
  · exact Grow.lt h.lt hkw.size
  · intro x hx
    rcases List.mem_append.1 hx with hx | hx
    · exact h.fits x hx
    · rw [List.mem_singleton] at hx; subst hx; exact hf
  · rw [hlen]; omega
  · exact hkw.mono (fun b _ e => by
      rcases e with e | e
      · subst e; exact h.hg
      · exact (h.own b e.symm).1)
def sendB (most : Int) (L : List Msg) (m : Msg) : Bool := decide ((L.length : Int) < most) && mchkB m
def SendPost (F : Nat → Prop) (w : World) (g : Nat) (most : Int) (L : List Msg) (m : Msg) (e : Ending) (w' : World) : Prop :=
  e = .returned (.bool (sendB most L m)) ∧ NetAt 58 (Grow F w w') w' g most (if sendB most L m then L ++ [m] else L) ∧ Keep F w w'
theorem NetAt.grow (h : NetAt ty F w g most L) (hk : Keep (fun _ => False) w w') : NetAt ty (Grow F w w') w' g most L := by
  obtain ⟨v, cs, h⟩ := h
  have h := h.keepF hk
  exact ⟨v, cs, h.obj, .inl h.hg, h.row, h.parts.mono (fun k hk => ⟨.inl hk.1, hk.2⟩), fun b hb => ⟨.inl (h.own b hb).1, (h.own b hb).2⟩, fun k hk' => by rcases hk' with q | q; exact h.lt k q; exact q.2, h.fits, h.le, h.most⟩
theorem SendPost.no (h : NetAt 58 F w g most L) (hk : Keep (fun _ => False) w w') (hs : sendB most L m = false) : SendPost F w g most L m (.returned (.bool false)) w' := by
  refine ⟨by rw [hs], ?_, hk.mono (fun _ _ f => f.elim)⟩
  rw [hs]
  exact h.grow hk
theorem SendPost.yes (hs : sendB most L m = true) (h : NetAt 58 (Grow F w w') w' g most (L ++ [m])) (hk : Keep F w w') : SendPost F w g most L m (.returned (.bool true)) w' := by
  refine ⟨by rw [hs], ?_, hk⟩
  rw [hs]
  exact h
set_option maxRecDepth 20000 in
set_option maxHeartbeats 4000000 in
theorem nsend_calls (h : NetAt 58 F w g most L) (hm : Rep.msg.cells w G m ms) (hG : ∀ q, G q → q < w.heap.size) (hf : m.Fits) :
    Calls Tryz.prog 8 #[.pointer (some ⟨g, 0, none⟩), .agg ms.toArray] w (SendPost F w g most L m) := by
  have hle := h.le
  obtain ⟨v, cs, h⟩ := h
  obtain ⟨A, c, rfl⟩ := h.shape
  have H := hid h; have HM := hid hm; have HG := hid hG; have HF := hid hf; have HL := hid (MsgL.of hm)
  have KL := hid (fun w' (hk : Keep (fun _ => False) w w') => nlen_calls (⟨_, _, h.keepF hk⟩ : NetAt 58 F w' g most L))
  have KR := hid (fun w' (hk : Keep (fun _ => False) w w') => nroom_calls (⟨_, _, h.keepF hk⟩ : NetAt 58 F w' g most L))
  obtain ⟨n, hn⟩ : ∃ n, n = L.length := ⟨_, rfl⟩
  rw [← hn] at KL hle
  have HN := hid hn
  clear h hm hG hf hn
  go_enter Tryz.func8, Tryz.ntmps8
  go_wp2_with (first
    | (refine wpl_boxB (v := .agg ms.toArray) rfl rfl rfl ?_; intro g3 w1 hg3 hb3 k1 s1; have HG3 := hid hg3; have K1 := hid k1; clear hg3 k1 s1))
  replace hb3 : w1.heap[g3]? = some (.cells ms.toArray 42) := hb3
  refine (KL.out _ K1.out).mono ?_
  rintro e w' ⟨rfl, rfl⟩
  go_wp2_with fail
  refine (KR.out _ K1.out).mono ?_
  rintro e w' ⟨rfl, rfl⟩
  by_cases hlt : (n : Int) < most
  case neg =>
    have dn : decide (most ≤ (n : Int)) = true := decide_eq_true (by omega)
    have HS := hid (show sendB most L m = false by rw [sendB, ← HN.out, decide_eq_false hlt]; rfl)
    clear hlt
    go_wp2_with fail
    go_ret
    exact SendPost.no ⟨_, _, H.out⟩ K1.out HS.out
  have dn : decide (most ≤ (n : Int)) = false := decide_eq_false (by omega)
  have HLT := hid hlt
  clear hlt
  go_wp2_with (first
    | (refine wpl_loadG (ty := 42) (o := 0) (n := 27) rfl rfl rfl hb3 (by kernel_rfl) (by kernel_rfl) ms HL.out.take HL.out.len ?_))
  refine (mcheck_any (Rep.msg.keep HM.out K1.out (fun _ _ => id)) (fun q hq => Nat.lt_of_lt_of_le (HG.out q hq) K1.out.size)).mono ?_
  rintro e w2 ⟨rfl, k2⟩
  have K2 := hid (K1.out.trans k2 (fun _ _ f => f))
  have hb3 := k2.heap hb3 id
  clear k2
  cases hc : mchkB m
  · have HS := hid (show sendB most L m = false by rw [sendB, hc, Bool.and_false])
    clear hc
    go_wp2_with fail
    go_ret
    exact SendPost.no ⟨_, _, H.out⟩ K2.out HS.out
  have HS := hid (show sendB most L m = true by rw [sendB, hc, ← HN.out, decide_eq_true HLT.out]; rfl)
  have HB3 := hid hb3
  have hH := H.out.keepF (K2.out.drew)
  rw [← HN.out] at hH
  have H2 := hid hH
  have hS : w2.drew.cell? ⟨g, 1, none⟩ = some (.slice A n c) ∧ w2.drew.rangeAt g3 0 ms := ⟨cell_at hH.obj 1 _ rfl, fun j u hu => cell_at (heap_drew hb3) _ _ (by simpa using hu)⟩
  have HO := hid (own_calls' (Rep.msg.keep HM.out K2.out.drew (fun _ _ => id)) (fun q hq => Nat.lt_of_lt_of_le (HG.out q hq) K2.out.drew.size) HF.out)
  have HO2 := hid (HO.out.mono (R' := fun e w' => ∃ u, e = .returned u ∧ ∃ vs, u = .agg vs.toArray ∧ Rep.msg.cells w' (NewIn w2.drew w') m vs ∧ Keep (fun _ => False) w2.drew w') (fun e w' ⟨vs, h1, h2, h3⟩ => ⟨_, h1, vs, rfl, h2, h3⟩))
  have EG := hid (enters_of Tryz.func22 (by kernel_rfl) rfl)
  obtain ⟨dM, hu, hd⟩ : ∃ d, Tryz.prog.underlying 42 = some d ∧ d.isRow = true := ⟨_, Tryz.underlying42, rfl⟩
  have hi : (Tryz.prog.info? 42).map (·.size) = some ms.length := by rw [HL.out.len]; kernel_rfl
  have HU := hid hu; have HD := hid hd; have HI := hid hi
  clear hc hb3 hH hu hd hi HO
  go_wp2_with fail
  refine wp_region_X (fun y => y.cell? ⟨g, 1, none⟩ = some (.slice A n c) ∧ y.rangeAt g3 0 ms) [11] (by kernel_rfl) hS (fun _ => ?_)
  refine wpAnyX_take (i := 0) [9, 10, 11] (some 15) (v := ?_) rfl (by rfl) (by kernel_rfl) (by kernel_rfl) (by kernel_rfl) (by kernel_rfl) (fun _ _ _ h => h) (Or.inl ⟨by rfl, ?_⟩) hS ?_
  rotate_left
  focus (intro w' hSw; (try dsimp only at hSw); go_simp; try with_reducible rfl)
  simp only [Act.put, List.setIfInBounds_toArray, List.set_cons_zero, List.set_cons_succ]
  refine wpAnyX_take (i := 1) [2, 3, 4, 8, 9, 10, 11] (some 16) (v := ?_) rfl (by rfl) (by kernel_rfl) (by kernel_rfl) (by kernel_rfl) (by kernel_rfl) (fun _ _ _ h => h) (Or.inl ⟨by rfl, ?_⟩) hS ?_
  rotate_left
  focus (intro w' hSw; (try dsimp only at hSw); go_simp; try with_reducible rfl)
  simp only [Act.put, List.setIfInBounds_toArray, List.set_cons_zero, List.set_cons_succ]
  refine wpAnyX_take (i := 2) [3, 4, 8, 9, 10, 11] (some 17) (v := ?_) rfl (by rfl) (by kernel_rfl) (by kernel_rfl) (by kernel_rfl) (by kernel_rfl) (fun _ _ _ h => h) (Or.inl ⟨by rfl, ?_⟩) hS ?_
  rotate_left
  focus (intro w' hSw; (try dsimp only at hSw); go_simp; try with_reducible rfl)
  simp only [Act.put, List.setIfInBounds_toArray, List.set_cons_zero, List.set_cons_succ]
  refine wpAnyX_take (i := 3) [4, 8, 9, 10, 11] (some 18) (v := ?_) rfl (by rfl) (by kernel_rfl) (by kernel_rfl) (by kernel_rfl) (by kernel_rfl) (fun _ _ _ h => h) (Or.inl ⟨by rfl, ?_⟩) hS ?_
  rotate_left
  focus (intro w' hSw; (try dsimp only at hSw); go_simp; try with_reducible rfl)
  simp only [Act.put, List.setIfInBounds_toArray, List.set_cons_zero, List.set_cons_succ]
  refine wpAnyX_take (i := 4) [8, 9, 10, 11] (some 19) (v := ?_) rfl (by rfl) (by kernel_rfl) (by kernel_rfl) (by kernel_rfl) (by kernel_rfl) (fun _ _ _ h => h) (Or.inl ⟨by rfl, ?_⟩) hS ?_
  rotate_left
  focus (intro w' hSw; (try dsimp only at hSw); go_simp; try with_reducible rfl)
  simp only [Act.put, List.setIfInBounds_toArray, List.set_cons_zero, List.set_cons_succ]
  refine wpAnyX_take (i := 5) [6, 7, 8, 9, 10, 11] (some 20) (v := _) rfl (by rfl) (by kernel_rfl) (by kernel_rfl) (by kernel_rfl) (by kernel_rfl) (fun _ _ _ h => h) (yieldsIf_load_mid (by rfl) _ _ rfl g3 0 rfl ms dM (fun _ h => h.2) HU.out HD.out HI.out) hS ?_
  simp only [Act.put, List.setIfInBounds_toArray, List.set_cons_zero, List.set_cons_succ]
  refine wpAnyX_one (i := 6) (by kernel_rfl) rfl (fun K hK => ?_)
  refine step_call (some 21) (by rfl) (by rfl) rfl EG.out (by rfl) HO2.out ?_
  rintro u w3 ⟨vs, rfl, hv3, k3⟩
  have HV3 := hid hv3; have K3 := hid k3; have HLV := hid (MsgL.of hv3)
  have hS3 : w3.cell? ⟨g, 1, none⟩ = some (.slice A n c) ∧ w3.rangeAt g3 0 ms := ⟨k3.cell hS.1 id, fun j u hu => k3.cell (hS.2 j u hu) id⟩
  clear hv3 k3
  refine hK _ _ (hS3) ?_
  clear hK K
  simp only [Act.put, List.setIfInBounds_toArray, List.set_cons_zero, List.set_cons_succ]
  refine wpAnyX_one (i := 7) (by kernel_rfl) rfl (fun K hK => ?_)
  refine step_sliceOne (some 22) (by rfl) (v := .agg vs.toArray) (z := zM) (n := 27) (by rfl) rfl Tryz.underlying49 (by kernel_rfl) (by decide) (by decide) (by rfl) (by simp [Value.cells, HLV.out.len]) ?_
  intro g7 w4 hg7 hb7 k4 s4
  have K4 := hid k4
  have hS4 : w4.cell? ⟨g, 1, none⟩ = some (.slice A n c) ∧ w4.rangeAt g3 0 ms := ⟨k4.cell hS3.1 id, fun j u hu => k4.cell (hS3.2 j u hu) id⟩
  have HG7 := hid hg7
  clear hg7 s4 k4
  refine hK _ _ (hS4) ?_
  clear hK K
  simp only [Act.put, List.setIfInBounds_toArray, List.set_cons_zero, List.set_cons_succ]
  refine wpAnyX_one (i := 8) (by kernel_rfl) rfl (fun K hK => ?_)
  have hrow : Row (fun q => q = g7) w4 (.slice (some ⟨g7, 0, none⟩) 1 1) 1 27 vs := by have := row_at (w := w4) (d := vs) hb7; rwa [HLV.out.len] at this
  have hown4 := ((K3.out.trans K4.out (fun _ _ f => f)).owns H2.out.row (fun _ _ => id))
  rw [← HN.out] at hown4
  refine step_appW (some 23) (by rfl) (v := .slice A n c) (by rfl) rfl T_M (by rfl) hown4 (by rfl) hrow HLV.out.one (by omega) (by omega) ?_
  intro A8 c8 w5 ho5 k5 hn5
  have HO5 := hid ho5; have K5 := hid k5; have HN5 := hid hn5
  have hob : ∀ b, (Value.slice A n c).ownBlock = some b → b < w2.drew.heap.size ∧ b ≠ g := fun b hb => ⟨H2.out.lt b (H2.out.own b hb).1, (H2.out.own b hb).2⟩
  have hg3l : w.heap.size ≤ g3 := Nat.le_of_eq HG3.out.symm
  have hgw := H.out.own
  have hS5 : w5.cell? ⟨g, 1, none⟩ = some (.slice A n c) ∧ w5.rangeAt g3 0 ms := ⟨k5.cell hS4.1 (fun e => (hob _ e.symm).2 rfl), fun j u hu => k5.cell (hS4.2 j u hu) (fun e => by have hb' := e.symm; rw [HN.out] at hb'; have := H.out.lt _ (hgw _ hb').1; simp only at this; omega)⟩
  clear hrow hown4 ho5 k5 hn5
  refine hK _ _ (hS5) ?_
  clear hK K
  simp only [Act.put, List.setIfInBounds_toArray, List.set_cons_zero, List.set_cons_succ]
  refine wpAnyX_take (i := 9) [10, 11] (some 24) (v := ?_) rfl (by rfl) (by kernel_rfl) (by kernel_rfl) (by kernel_rfl) (by kernel_rfl) (fun _ _ _ h => h) (Or.inl ⟨by rfl, ?_⟩) hS5 ?_
  rotate_left
  focus (intro w' hSw; (try dsimp only at hSw); go_simp; try with_reducible rfl)
  simp only [Act.put, List.setIfInBounds_toArray, List.set_cons_zero, List.set_cons_succ]
  refine wpAnyX_take (i := 10) [11] (some 25) (v := ?_) rfl (by rfl) (by kernel_rfl) (by kernel_rfl) (by kernel_rfl) (by kernel_rfl) (fun _ _ _ h => h) (Or.inl ⟨by rfl, ?_⟩) hS5 ?_
  rotate_left
  focus (intro w' hSw; (try dsimp only at hSw); go_simp; try with_reducible rfl)
  simp only [Act.put, List.setIfInBounds_toArray, List.set_cons_zero, List.set_cons_succ]
  refine wpAnyX_oneX (i := 11) (by kernel_rfl) rfl (by kernel_rfl) (fun K hK => ?_)
  have hobj := K5.out.heap (K4.out.heap (K3.out.heap H2.out.obj id) id) (fun e => (hob _ e.symm).2 rfl)
  refine step_store (none) (by rfl) (v := .slice A8 (n + 1) c8) (C := #[.int .i64 most, .slice A n c]) (by rfl) rfl (by rfl) (by rfl) hobj (by kernel_rfl) (by simp [Value.cells]) (by simp [Value.oneCell', Value.cells]) ?_
  intro w6 hb6 k6 s6
  replace hb6 : w6.heap[g]? = some (.cells #[.int .i64 most, .slice A8 (n + 1) c8] 58) := hb6
  refine hK _ _ ?_
  clear hK K
  simp only [Act.put]
  refine wpAnyX_done (by kernel_rfl) ?_ _
  have hfin : NetAt 58 (Grow F w w6) w6 g most (L ++ [m]) ∧ Keep F w w6 := by
    obtain rfl := HN.out
    have hw2 : Keep (fun _ => False) w w2.drew := K2.out.drew
    have hvs := Rep.msg.mono HV3.out (G := NewIn w w3) (fun k hk => ⟨by have := hw2.size; have := hk.1; omega, hk.2⟩)
    exact H.out.more HLT.out (hw2.trans K3.out (fun _ _ f => f)) hvs K4.out HO5.out K5.out HN5.out hb6 k6 HF.out
  have HFIN := hid hfin
  clear hfin hb6 k6 s6 hS hS3 hS4 hS5 hob hgw hg3l hobj
  go_wp2_with fail
  go_ret
  exact SendPost.yes HS.out HFIN.out.1 HFIN.out.2
end
end Go.Proofs.YtofljidmdabkcaaGreat
namespace Go.Proofs.YtofljidmdabkcaaGreat
open Go.RowKit Go.Lib
section
variable {P : Program} {ops : Array Oper} {Q : Exit → Act → World → Prop} {o : Oper} {a : Act} {w : World} {K : Act → World → Prop} {E : Prop} {S : World → Prop}
theorem yieldsIf_sliceHi {ty : TypeId} {x y : Operand} {A : Option Addr} {n c j size : Nat} (hgw : Region.wanted o (yielded ops a.tmps) = true) (ho : o.op = .slice ty x none (some y) none) (ht : P.underlying ty = some (.slice (P.elem ty))) (hi : (P.info? (P.elem ty)).map (·.size) = some size)
    (hx : a.eval x = .slice A n c) (hy : a.eval y = .int .i64 j) (hj : j ≤ c) : YieldsIf P ops S o (.slice A j c) a := .inl ⟨hgw, fun w _ => by
  have hr : (Instr.sliceAt ty (.slice A n c) none (some (.int .i64 j)) none).run P w = .ok (.slice A j c) w := by
    rw [run_sliceAt_slice w ty _ _ _ _ ht, run_slice_h w ty A n c ht .i64 j (by omega) (by omega), size_of hi]
    have h0 : ∀ p : Addr, p.add 0 = p := fun p => by cases p; simp [Addr.add]
    cases A <;> simp [Result.andThen, sliced, h0]
  unfold execOp
  simp only [ho, Option.map_none, Option.map_some, hx, hy, Sem.run_bind, Sem.run_pure, Result.andThen_ok, hr]⟩
theorem yieldsIf_sliceLo {ty : TypeId} {x y : Operand} {A B : Option Addr} {n c j m size : Nat} (hgw : Region.wanted o (yielded ops a.tmps) = true) (ho : o.op = .slice ty x (some y) none none) (ht : P.underlying ty = some (.slice (P.elem ty))) (hi : (P.info? (P.elem ty)).map (·.size) = some size)
    (hx : a.eval x = .slice A n c) (hy : a.eval y = .int .i64 j) (hj : j ≤ n) (hm : n - j = m) (hB : (if c = j then A else A.map (·.add (j * size))) = B) : YieldsIf P ops S o (.slice B m (c - j)) a := .inl ⟨hgw, fun w _ => by
  subst hm; subst hB
  have hr : (Instr.sliceAt ty (.slice A n c) (some (.int .i64 j)) none none).run P w = .ok (.slice (if c = j then A else A.map (·.add (j * size))) (n - j) (c - j)) w := by
    rw [run_sliceAt_slice w ty _ _ _ _ ht, run_slice_l w ty A n c ht .i64 j (by omega) (by omega), size_of hi]
    simp [Result.andThen, sliced]
  unfold execOp
  simp only [ho, Option.map_none, Option.map_some, hx, hy, Sem.run_bind, Sem.run_pure, Result.andThen_ok, hr]⟩
/-- append into the room that there is, within a block that is known whole. -/
theorem step_appRoom (d : Option Tmp) (hd : o.dst = d) {s x : Operand} {t e : TypeId} (hgw : Region.wanted o (yielded ops a.tmps) = true) (ho : o.op = .call { callee := .builtin .append, args := #[s, x], argTypes := #[t, t] }) {size : Nat} (ht : P.underlying t = some (.slice e))
    (hi : (P.info? e).map (·.size) = some size) {b n cap : Nat} {C : Array Value} (hs : a.eval s = .slice (some ⟨b, 0, none⟩) n cap) (hb : w.heap[b]? = some (.cells C e)) {G : Nat → Prop} {src : Value} {m nn : Nat} {news : List Value} (hx : a.eval x = src) (hsrc : Row G w src m size news)
    (h1 : ∀ u ∈ news, u.oneCell' = true) (hroom : n + m ≤ cap) (hfit : n * size + news.length ≤ C.size) (hp : ∃ p c, src = .slice (some p) m c) (hnn : n + m = nn)
    (h : ∀ w', w'.heap[b]? = some (.cells (spl C (n * size) news) e) → Keep (fun k => k = b) w w' → w'.heap.size = w.heap.size → K (a.put d (.slice (some ⟨b, 0, none⟩) nn cap)) w') :
    if Region.wanted o (yielded ops a.tmps) = true then Oper.wp P o a w K Q else E := by
  subst hd; subst hnn
  rw [if_pos hgw]
  cases hq : P.info? e with
  | none => simp [hq] at hi
  | some i =>
    have hsz : i.size = size := by simpa [hq] using hi
    subst hsz
    obtain ⟨p, c, rfl⟩ := hp
    have hfc : (Builtin.firstCells i.size m (.slice (some p) m c)).run P w = .ok news.toArray w := by
      obtain ⟨A', c', he, hl, _, _, hA⟩ := hsrc
      simp only [Value.slice.injEq, true_and] at he
      obtain ⟨rfl, rfl⟩ := he
      refine run_firstCells_some (P := P) w i.size m p m c news hl (fun j u hu => ?_)
      rcases hA with rfl | ⟨b', off, hA, _, _, hcell⟩
      · have : news = [] := List.eq_nil_of_length_eq_zero (by rw [hl, show m = 0 by omega, Nat.zero_mul])
        subst this
        simp at hu
      · cases hA
        rw [Addr.add_lit]; exact hcell j u hu
    have hst := run_storeCells_at P b (n * i.size) e news 0 C w hb (by simpa using hfit) h1
    simp only [Nat.add_zero] at hst
    have hrun : (Builtin.append_ #[t, t] o.type #[.slice (some ⟨b, 0, none⟩) n cap, .slice (some p) m c]).run P w = .ok (.slice (some ⟨b, 0, none⟩) (n + m) cap) (w.setRow b (spl C (n * i.size) news)) := by
      simp [Builtin.append_, run_underlying ht, sizeOf, typeInfo, hq, Builtin.lenOf, hroom, hfc, Addr.add_lit, hst, spl]
    unfold Oper.wp
    simp [execOp, ho, resolve, invoke, builtin, hs, hx, hrun, Result.andThen]
    exact h _ (setRow_heap w b C _ e _ hb) (keep_setRow w b _) (by simp)
theorem zeroCells_one (zc : Array Value) : (Builtin.zeroCells zc 1).toList = zc.toList := by
  apply List.ext_getElem
  · simp [Builtin.zeroCells]
  · intro i h1 h2
    have hi : i < zc.size := by simpa using h2
    simp [Builtin.zeroCells, Nat.mod_eq_of_lt hi, hi]
/-- One element is cleared. -/
theorem wpl_clear1 {rest : List Oper} {Q : Exit → Act → World → Prop} {t e : TypeId} {x : Operand} {b off n c : Nat} {C : Array Value} (hgd : o.guard = none) (ho : o.op = .call { callee := .builtin .clear, args := #[x], argTypes := #[t] }) (ht : P.underlying t = some (.slice e)) {z : Value}
    (hi : (P.info? e).map (·.zero) = some (some z)) (hx : a.eval x = .slice (some ⟨b, off, none⟩) n c) (hn : n = 1) (hb : w.heap[b]? = some (.cells C e)) (hf : off + z.cells.size ≤ C.size) (h1 : ∀ u ∈ z.cells.toList, u.oneCell' = true)
    (h : ∀ w', w'.heap[b]? = some (.cells (spl C off z.cells.toList) e) → Keep (fun k => k = b) w w' → w'.heap.size = w.heap.size → wpList P ops Q rest (a.put o.dst (.tuple #[])) w') : wpList P ops Q (o :: rest) a w := by
  subst hn
  have hz : (zeroValue e).run P w = .ok z w := by
    cases hq : P.info? e with
    | none => simp [hq] at hi
    | some i =>
      have hz : i.zero = some z := by simpa [hq] using hi
      simp [zeroValue, typeInfo, hq, hz]
  have hst := run_storeCells_at P b off e z.cells.toList 0 C w hb (by simpa using hf) h1
  simp only [Nat.add_zero] at hst
  have hr : (Builtin.clear_ #[t] o.type #[.slice (some ⟨b, off, none⟩) 1 c]).run P w = .ok (.tuple #[]) (w.setRow b (spl C off z.cells.toList)) := by
    simp [Builtin.clear_, run_underlying ht, hz, zeroCells_one, hst, spl]
  refine wpList_plain hgd (fun K hK => ?_)
  unfold Oper.wp execOp
  simp only [ho, resolve, invoke, builtin, Sem.run_bind, Sem.run_pure, Result.andThen_ok, List.map_toArray, List.map_cons, List.map_nil, hx, hr]
  exact hK _ _ (h _ (setRow_heap w b C _ e _ hb) (keep_setRow w b _) (by simp))
end
section
def DelPost (w : World) (g cap k i : Nat) (xs : List Value) (e : Ending) (w' : World) : Prop :=
  e = .returned (.slice (some ⟨g, 0, none⟩) k cap) ∧ w'.ownsRow 0 42 27 (.slice (some ⟨g, 0, none⟩) k cap) k (xs.take (i * 27) ++ xs.drop ((i + 1) * 27)) ∧ Keep (fun q => q = g) w w'
set_option maxRecDepth 20000 in
set_option maxHeartbeats 4000000 in
theorem delM_calls {w : World} {g cap k i : Nat} {xs : List Value} (h : w.ownsRow 0 42 27 (.slice (some ⟨g, 0, none⟩) (k + 1) cap) (k + 1) xs) (hone : ∀ u ∈ xs, u.oneCell' = true) (hik : i ≤ k) (hk : k ≤ 100000) :
    Calls Tryz.prog 26 #[.slice (some ⟨g, 0, none⟩) (k + 1) cap, .int .i64 i, .int .i64 ((i : Int) + 1)] w (DelPost w g cap k i xs) := by
  have hrow := Row.ofOwn h
  obtain ⟨hl, hh⟩ := h
  rcases hh with ⟨q, _⟩ | ⟨g', cap', cur, he, _, hg, hnc, hcm, hcs, htk⟩
  · cases q
  simp only [Value.slice.injEq, Option.some.injEq, Addr.mk.injEq, and_true, true_and] at he
  obtain ⟨rfl, rfl⟩ := he
  have hdrop := hrow.dropN (j := i + 1) (by omega)
  obtain ⟨B, hB⟩ : ∃ B, (if cap = i + 1 then some (⟨g, 0, none⟩ : Addr) else (some (⟨g, 0, none⟩ : Addr)).map (·.add ((i + 1) * 27))) = B := ⟨_, rfl⟩
  have hBp : ∃ p, B = some p := by
    rw [← hB]; split
    · exact ⟨_, rfl⟩
    · exact ⟨_, rfl⟩
  rw [hB, show k + 1 - (i + 1) = k - i by omega] at hdrop
  have HD := hid hdrop; have HBP := hid hBp; have HB := hid hB; have HONE := hid hone; have HG := hid hg; have HTK := hid htk
  have hlen : (xs.drop ((i + 1) * 27)).length = (k - i) * 27 := by rw [List.length_drop, hl]; omega
  have HLEN := hid hlen; have HL := hid hl; have HCS := hid hcs; have HIK := hid hik; have HNC := hid hnc
  have b1 : (i : Int) ≤ (i : Int) + 1 := by omega
  have b2 : (i : Int) + 1 ≤ (k : Int) + 1 := by omega
  have b3 : (k : Int) + 1 ≤ (cap : Int) := by omega
  have b4 : ((i : Int) == (i : Int) + 1) = false := by rw [beq_eq_false_iff_ne]; omega
  clear hdrop hBp hB hone hg htk hlen hrow hl hcs
  go_enter Tryz.func26, Tryz.ntmps26
  go_wp2_with fail
  refine wp_region_X (fun _ => True) [] (by kernel_rfl) trivial (fun _ => ?_)
  refine wpAnyX_take (i := 0) [2, 6, 7] (some 20) (v := ?_) rfl (by rfl) (by kernel_rfl) (by kernel_rfl) (by kernel_rfl) (by kernel_rfl) (fun _ _ _ h => h) (Or.inl ⟨by rfl, ?_⟩) trivial ?_
  rotate_left
  focus (intro w' hSw; (try dsimp only at hSw); go_simp; try with_reducible rfl)
  simp only [Act.put, List.setIfInBounds_toArray, List.set_cons_zero, List.set_cons_succ]
  refine wpAnyX_take (i := 1) [2, 6, 7] (some 21) (v := ?_) rfl (by rfl) (by kernel_rfl) (by kernel_rfl) (by kernel_rfl) (by kernel_rfl) (fun _ _ _ h => h) (Or.inl ⟨by rfl, ?_⟩) trivial ?_
  rotate_left
  focus (intro w' hSw; (try dsimp only at hSw); go_simp; try with_reducible rfl)
  simp only [Act.put, List.setIfInBounds_toArray, List.set_cons_zero, List.set_cons_succ]
  refine wpAnyX_take (i := 2) [6, 7] (some 22) (v := _) rfl (by rfl) (by kernel_rfl) (by kernel_rfl) (by kernel_rfl) (by kernel_rfl) (fun _ _ _ h => h) (yieldsIf_sliceHi (size := 27) (n := k + 1) (c := cap) (j := i) (by rfl) rfl (by kernel_rfl) (by kernel_rfl) (by rfl) (by rfl) (by omega)) trivial ?_
  simp only [Act.put, List.setIfInBounds_toArray, List.set_cons_zero, List.set_cons_succ]
  refine wpAnyX_take (i := 3) [5, 6, 7] (some 23) (v := ?_) rfl (by rfl) (by kernel_rfl) (by kernel_rfl) (by kernel_rfl) (by kernel_rfl) (fun _ _ _ h => h) (Or.inl ⟨by rfl, ?_⟩) trivial ?_
  rotate_left
  focus (intro w' hSw; (try dsimp only at hSw); go_simp; try with_reducible rfl)
  simp only [Act.put, List.setIfInBounds_toArray, List.set_cons_zero, List.set_cons_succ]
  refine wpAnyX_take (i := 4) [5, 6, 7] (some 24) (v := ?_) rfl (by rfl) (by kernel_rfl) (by kernel_rfl) (by kernel_rfl) (by kernel_rfl) (fun _ _ _ h => h) (Or.inl ⟨by rfl, ?_⟩) trivial ?_
  rotate_left
  focus (intro w' hSw; (try dsimp only at hSw); go_simp; try with_reducible rfl)
  simp only [Act.put, List.setIfInBounds_toArray, List.set_cons_zero, List.set_cons_succ]
  refine wpAnyX_take (i := 5) [6, 7] (some 25) (v := _) rfl (by rfl) (by kernel_rfl) (by kernel_rfl) (by kernel_rfl) (by kernel_rfl) (fun _ _ _ h => h) (yieldsIf_sliceLo (size := 27) (A := some ⟨g, 0, none⟩) (B := B) (n := k + 1) (c := cap) (j := i + 1) (m := k - i) (by rfl) rfl (by kernel_rfl) (by kernel_rfl) (by rfl) (by rfl) (by omega) (by omega) HB.out) trivial ?_
  simp only [Act.put, List.setIfInBounds_toArray, List.set_cons_zero, List.set_cons_succ]
  refine wpAnyX_one (i := 6) (by kernel_rfl) rfl (fun K hK => ?_)
  refine step_appRoom (some 26) (by rfl) (size := 27) (b := g) (n := i) (cap := cap) (C := cur) (nn := k) (by rfl) rfl Tryz.underlying49 (by kernel_rfl) (by rfl) (heap_drew HG.out) (by rfl) (HD.out.keep ((Keep.refl (fun _ => False) w).drew) (fun _ _ => id)) (fun u hu => HONE.out u (List.mem_of_mem_drop hu)) (by omega) (by have e1 := HLEN.out; have e2 := HCS.out; have e3 := HIK.out; have e4 := HNC.out; omega) (by obtain ⟨p, hp⟩ := HBP.out; exact ⟨p, _, by rw [hp]⟩) (by omega) ?_
  intro w1 hb1 k1 s1
  refine hK _ _ (trivial) ?_
  clear hK K
  simp only [Act.put, List.setIfInBounds_toArray, List.set_cons_zero, List.set_cons_succ]
  refine wpAnyX_take (i := 7) [] (some 0) (v := ?_) rfl (by rfl) (by kernel_rfl) (by kernel_rfl) (by kernel_rfl) (by kernel_rfl) (fun _ _ _ h => h) (Or.inl ⟨by rfl, ?_⟩) trivial ?_
  rotate_left
  focus (intro w' hSw; (try dsimp only at hSw); go_simp; try with_reducible rfl)
  simp only [Act.put, List.setIfInBounds_toArray, List.set_cons_zero]
  refine wpAnyX_done (by kernel_rfl) ?_ _
  have hK1 := hid ((Keep.refl (fun q => q = g) w).drew.trans k1 (fun _ _ e => e))
  have hsz : (spl cur (i * 27) (xs.drop ((i + 1) * 27))).size = cap * 27 := by rw [spl_size _ _ _ (by have e1 := HLEN.out; have e2 := HCS.out; have e3 := HIK.out; have e4 := HNC.out; omega)]; exact HCS.out
  have HSZ := hid hsz
  obtain ⟨C1, hC1⟩ : ∃ C1, C1 = spl cur (i * 27) (xs.drop ((i + 1) * 27)) := ⟨_, rfl⟩
  rw [← hC1] at hb1 HSZ
  have HC1 := hid hC1
  clear hsz hC1 k1 s1
  go_wp2_with (first | (refine wpl_clear1 (z := zM) (b := g) (off := k * 27) (C := C1) rfl rfl Tryz.underlying49 (by kernel_rfl) rfl (by omega) hb1 (by have e1 := HSZ.out; have e2 := HNC.out; show k * 27 + 27 ≤ C1.size; omega) msgL_z.oneA ?_; intro w2 hb2 k2 s2))
  go_ret
  have e1 := HLEN.out; have e2 := HCS.out; have e3 := HIK.out; have e4 := HNC.out; have e5 := HL.out
  have hz : zM.cells.toList.length = 27 := rfl
  have hc1l : C1.toList = cur.toList.take (i * 27) ++ xs.drop ((i + 1) * 27) ++ cur.toList.drop (i * 27 + (xs.drop ((i + 1) * 27)).length) := by rw [HC1.out, spl_list]
  have hcl : cur.toList.length = cap * 27 := by rw [Array.length_toList]; exact e2
  have htk : cur.toList.take (i * 27) = xs.take (i * 27) := by
    rw [← HTK.out, List.take_take, Nat.min_eq_left (by omega)]
  have hab : (cur.toList.take (i * 27) ++ xs.drop ((i + 1) * 27)).length = k * 27 := by rw [List.length_append, e1, List.length_take, hcl]; omega
  refine ⟨rfl, ⟨?_, .inr ⟨g, cap, _, rfl, Nat.zero_le _, hb2, by omega, hcm, ?_, ?_⟩⟩, hK1.out.trans k2 (fun _ _ e => e)⟩
  · rw [← htk]; exact hab
  · rw [spl_size _ _ _ (by rw [hz, HSZ.out]; omega)]; exact HSZ.out
  · rw [spl_list, List.append_assoc, List.take_append_of_le_length (by rw [List.length_take, Array.length_toList, HSZ.out]; omega), List.take_take, Nat.min_self, hc1l, List.take_append_of_le_length (by rw [hab]; omega), List.take_of_length_le (by rw [hab]; omega), htk]
end
end Go.Proofs.YtofljidmdabkcaaGreat
