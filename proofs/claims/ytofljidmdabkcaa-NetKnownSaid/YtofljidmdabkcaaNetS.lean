/- net: Send. -/
import Derived.Test.YtofljidmdabkcaaNet
namespace Go.Proofs.Ytofljidmdabkcaa
open Go.RowKit
section
variable {ty : TypeId} {F S G : Nat → Prop} {w w' w1 w2 w3 wa : World} {g : Nat} {most : Int} {v : Value} {L : List Msg} {cs ms vs : List Value} {m : Msg} {A A2 : Option Addr} {c c2 : Nat}
theorem mcheck_any (h : Rep.msg.cells w G m ms) (hG : ∀ q, G q → q < w.heap.size) : Calls Try.prog 24 #[.agg ms.toArray] w fun e w' => e = .returned (.int .i64 (if mchkB m then 0 else 1)) ∧ Keep (fun _ => False) w w' := by
  obtain ⟨vc, vv, vi, vk, rfl, h1, h2, h3, h4, _⟩ := msg_cells h
  obtain ⟨Ac, cc, rfl⟩ := h1.shape
  obtain ⟨Av, cv, rfl⟩ := h2.shape
  obtain ⟨Ai, ci, rfl⟩ := h3.shape
  obtain ⟨Ak, ck, rfl⟩ := h4.shape
  exact mcheck_calls (F := G) ⟨h1, h2, h3, h4, hG⟩
/-- One message more. -/
theorem NetSt.more (h : NetSt ty F w g most (.slice A L.length c) L cs) (hlt : (L.length : Int) < most) (hk1 : Keep (fun _ => False) w w1) (hd : Rep.msg.cells w1 (NewIn w w1) m vs) (hka : Keep (fun _ => False) w1 wa)
    (ho : w2.ownsRow 0 32 27 (.slice A2 (L.length + 1) c2) (L.length + 1) (cs ++ vs)) (hk2 : Keep (fun q => some q = (Value.slice A L.length c).ownBlock) wa w2) (hn : SameOrNew wa (.slice A L.length c) (.slice A2 (L.length + 1) c2))
    (hb3 : w3.heap[g]? = some (.cells #[.int .i64 most, .slice A2 (L.length + 1) c2] ty)) (hk3 : Keep (fun q => q = g) w2 w3) (hf : m.Fits) : NetAt ty (Grow F w w3) w3 g most (L ++ [m]) ∧ Keep F w w3 := by
  have s1 := hk1.size; have sa := hka.size; have s2 := hk2.size; have s3 := hk3.size
  have hgl := h.lt g h.hg
  have hob : ∀ b, (Value.slice A L.length c).ownBlock = some b → b < w.heap.size := fun b hb => h.lt b (h.own b hb).1
  have hnew : ∀ b, (Value.slice A2 (L.length + 1) c2).ownBlock = some b → (Value.slice A L.length c).ownBlock = some b ∨ wa.heap.size ≤ b := hn
  have hka' : Keep (fun _ => False) w wa := hk1.trans hka (fun _ _ f => f)
  have hkw : Keep (fun q => q = g ∨ some q = (Value.slice A L.length c).ownBlock) w w3 := ((hka'.mono (fun _ _ f => f.elim)).trans hk2 (fun _ _ e => .inr e)).trans hk3 (fun _ _ e => .inl e)
  have hk13 : Keep (fun q => q = g ∨ some q = (Value.slice A L.length c).ownBlock) w1 w3 := ((hka.mono (fun _ _ f => f.elim)).trans hk2 (fun _ _ e => .inr e)).trans hk3 (fun _ _ e => .inl e)
  have hlen : (L ++ [m]).length = L.length + 1 := by simp
  refine ⟨⟨.slice A2 (L.length + 1) c2, cs ++ vs, ⟨hb3, .inl h.hg, ?_, ?_, fun b hb => ?_, ?_, ?_, ?_, h.most⟩⟩, ?_⟩
  · rw [hlen]
    refine hk3.owns ho (fun b hb e => ?_)
    subst e
    rcases hnew _ hb with q | q
    · exact (h.own _ q).2 rfl
    · omega
  · have hne : ∀ b, b < wa.heap.size → (Value.slice A L.length c).ownBlock ≠ some b → (Value.slice A2 (L.length + 1) c2).ownBlock ≠ some b := fun b hb hne e => by
      rcases hnew b e with q | q
      · exact hne q
      · omega
    refine Parts.app ((h.parts.keep hkw (fun b hb e => ?_)).mono (fun b hb => ⟨.inl hb.1, hb.2.1, hne b (by have := h.lt b hb.1; omega) hb.2.2⟩)) (by rw [h.row.1]; rfl) (Parts.one ?_)
    · rcases e with e | e
      · exact hb.2.1 e
      · exact hb.2.2 e.symm
    · refine Rep.msg.mono (Rep.msg.keep hd hk13 (fun b hb e => ?_)) (fun b hb => ⟨.inr ⟨hb.1, by have := hb.2; omega⟩, by have := hb.1; omega, hne b (by have := hb.2; omega) (fun e => by have := hob b e; have := hb.1; omega)⟩)
      have := hb.1
      rcases e with e | e
      · omega
      · have := hob b e.symm; omega
  · rcases hnew b hb with q | q
    · exact ⟨.inl (h.own b q).1, (h.own b q).2⟩
    · exact ⟨.inr ⟨by omega, by have := own_lt' ho b hb; omega⟩, by omega⟩
  · exact Grow.lt h.lt hkw.size
  · intro x hx
    rcases List.mem_append.1 hx with hx | hx
    · exact h.fits x hx
    · rw [List.mem_singleton] at hx; subst hx; exact hf
  · rw [hlen]; omega
  · exact hkw.mono (fun b _ e => by
      rcases e with e | e
      · subst e; exact h.hg
      · exact (h.own b e.symm).1)
def sendB (most : Int) (L : List Msg) (m : Msg) : Bool := decide ((L.length : Int) < most) && mchkB m
def SendPost (F : Nat → Prop) (w : World) (g : Nat) (most : Int) (L : List Msg) (m : Msg) (e : Ending) (w' : World) : Prop :=
  e = .returned (.bool (sendB most L m)) ∧ NetAt 56 (Grow F w w') w' g most (if sendB most L m then L ++ [m] else L) ∧ Keep F w w'
theorem NetAt.grow (h : NetAt ty F w g most L) (hk : Keep (fun _ => False) w w') : NetAt ty (Grow F w w') w' g most L := by
  obtain ⟨v, cs, h⟩ := h
  have h := h.keepF hk
  exact ⟨v, cs, h.obj, .inl h.hg, h.row, h.parts.mono (fun k hk => ⟨.inl hk.1, hk.2⟩), fun b hb => ⟨.inl (h.own b hb).1, (h.own b hb).2⟩, fun k hk' => by rcases hk' with q | q; exact h.lt k q; exact q.2, h.fits, h.le, h.most⟩
theorem SendPost.no (h : NetAt 56 F w g most L) (hk : Keep (fun _ => False) w w') (hs : sendB most L m = false) : SendPost F w g most L m (.returned (.bool false)) w' := by
  refine ⟨by rw [hs], ?_, hk.mono (fun _ _ f => f.elim)⟩
  rw [hs]
  exact h.grow hk
theorem SendPost.yes (hs : sendB most L m = true) (h : NetAt 56 (Grow F w w') w' g most (L ++ [m])) (hk : Keep F w w') : SendPost F w g most L m (.returned (.bool true)) w' := by
  refine ⟨by rw [hs], ?_, hk⟩
  rw [hs]
  exact h
set_option maxRecDepth 20000 in
set_option maxHeartbeats 4000000 in
theorem nsend_calls (h : NetAt 56 F w g most L) (hm : Rep.msg.cells w G m ms) (hG : ∀ q, G q → q < w.heap.size) (hf : m.Fits) :
    Calls Try.prog 9 #[.pointer (some ⟨g, 0, none⟩), .agg ms.toArray] w (SendPost F w g most L m) := by
  have hle := h.le
  obtain ⟨v, cs, h⟩ := h
  obtain ⟨A, c, rfl⟩ := h.shape
  have H := hid h; have HM := hid hm; have HG := hid hG; have HF := hid hf; have HL := hid (MsgL.of hm)
  have KL := hid (fun w' (hk : Keep (fun _ => False) w w') => nlen_calls (⟨_, _, h.keepF hk⟩ : NetAt 56 F w' g most L))
  have KR := hid (fun w' (hk : Keep (fun _ => False) w w') => nroom_calls (⟨_, _, h.keepF hk⟩ : NetAt 56 F w' g most L))
  obtain ⟨n, hn⟩ : ∃ n, n = L.length := ⟨_, rfl⟩
  rw [← hn] at KL hle
  have HN := hid hn
  clear h hm hG hf hn
  go_enter Try.func9, Try.ntmps9
  go_wp2_with (first
    | (refine wpl_boxB (v := .agg ms.toArray) rfl rfl rfl ?_; intro g3 w1 hg3 hb3 k1 s1; have HG3 := hid hg3; have K1 := hid k1; clear hg3 k1 s1))
  replace hb3 : w1.heap[g3]? = some (.cells ms.toArray 32) := hb3
  refine (KL.out _ K1.out).mono ?_
  rintro e w' ⟨rfl, rfl⟩
  go_wp2_with fail
  refine (KR.out _ K1.out).mono ?_
  rintro e w' ⟨rfl, rfl⟩
  by_cases hlt : (n : Int) < most
  case neg =>
    have dn : decide (most ≤ (n : Int)) = true := decide_eq_true (by omega)
    have HS := hid (show sendB most L m = false by rw [sendB, ← HN.out, decide_eq_false hlt]; rfl)
    clear hlt
    go_wp2_with fail
    go_ret
    exact SendPost.no ⟨_, _, H.out⟩ K1.out HS.out
  have dn : decide (most ≤ (n : Int)) = false := decide_eq_false (by omega)
  have HLT := hid hlt
  clear hlt
  go_wp2_with (first
    | (refine wpl_loadG (ty := 32) (o := 0) (n := 27) rfl rfl rfl hb3 (by kernel_rfl) (by kernel_rfl) ms HL.out.take HL.out.len ?_))
  refine (mcheck_any (Rep.msg.keep HM.out K1.out (fun _ _ => id)) (fun q hq => Nat.lt_of_lt_of_le (HG.out q hq) K1.out.size)).mono ?_
  rintro e w2 ⟨rfl, k2⟩
  have K2 := hid (K1.out.trans k2 (fun _ _ f => f))
  have hb3 := k2.heap hb3 id
  clear k2
  cases hc : mchkB m
  · have HS := hid (show sendB most L m = false by rw [sendB, hc, Bool.and_false])
    clear hc
    go_wp2_with fail
    go_ret
    exact SendPost.no ⟨_, _, H.out⟩ K2.out HS.out
  have HS := hid (show sendB most L m = true by rw [sendB, hc, ← HN.out, decide_eq_true HLT.out]; rfl)
  have HB3 := hid hb3
  have hH := H.out.keepF (K2.out.drew)
  rw [← HN.out] at hH
  have H2 := hid hH
  have hS : w2.drew.cell? ⟨g, 1, none⟩ = some (.slice A n c) ∧ w2.drew.rangeAt g3 0 ms := ⟨cell_at hH.obj 1 _ rfl, fun j u hu => cell_at (heap_drew hb3) _ _ (by simpa using hu)⟩
  have HO := hid (own_calls' (Rep.msg.keep HM.out K2.out.drew (fun _ _ => id)) (fun q hq => Nat.lt_of_lt_of_le (HG.out q hq) K2.out.drew.size) HF.out)
  have HO2 := hid (HO.out.mono (R' := fun e w' => ∃ u, e = .returned u ∧ ∃ vs, u = .agg vs.toArray ∧ Rep.msg.cells w' (NewIn w2.drew w') m vs ∧ Keep (fun _ => False) w2.drew w') (fun e w' ⟨vs, h1, h2, h3⟩ => ⟨_, h1, vs, rfl, h2, h3⟩))
  have EG := hid (enters_of Try.func25 (by kernel_rfl) rfl)
  obtain ⟨dM, hu, hd⟩ : ∃ d, Try.prog.underlying 32 = some d ∧ d.isRow = true := ⟨_, Try.underlying32, rfl⟩
  have hi : (Try.prog.info? 32).map (·.size) = some ms.length := by rw [HL.out.len]; kernel_rfl
  have HU := hid hu; have HD := hid hd; have HI := hid hi
  clear hc hb3 hH hu hd hi HO
  go_wp2_with fail
  refine wp_region_X (fun y => y.cell? ⟨g, 1, none⟩ = some (.slice A n c) ∧ y.rangeAt g3 0 ms) [11] (by kernel_rfl) hS (fun _ => ?_)
  refine wpAnyX_take (i := 0) [9, 10, 11] (some 15) (v := ?_) rfl (by rfl) (by kernel_rfl) (by kernel_rfl) (by kernel_rfl) (by kernel_rfl) (fun _ _ _ h => h) (Or.inl ⟨by rfl, ?_⟩) hS ?_
  rotate_left
  focus (intro w' hSw; (try dsimp only at hSw); go_simp; try with_reducible rfl)
  simp only [Act.put, List.setIfInBounds_toArray, List.set_cons_zero, List.set_cons_succ]
  refine wpAnyX_take (i := 1) [2, 3, 4, 8, 9, 10, 11] (some 16) (v := ?_) rfl (by rfl) (by kernel_rfl) (by kernel_rfl) (by kernel_rfl) (by kernel_rfl) (fun _ _ _ h => h) (Or.inl ⟨by rfl, ?_⟩) hS ?_
  rotate_left
  focus (intro w' hSw; (try dsimp only at hSw); go_simp; try with_reducible rfl)
  simp only [Act.put, List.setIfInBounds_toArray, List.set_cons_zero, List.set_cons_succ]
  refine wpAnyX_take (i := 2) [3, 4, 8, 9, 10, 11] (some 17) (v := ?_) rfl (by rfl) (by kernel_rfl) (by kernel_rfl) (by kernel_rfl) (by kernel_rfl) (fun _ _ _ h => h) (Or.inl ⟨by rfl, ?_⟩) hS ?_
  rotate_left
  focus (intro w' hSw; (try dsimp only at hSw); go_simp; try with_reducible rfl)
  simp only [Act.put, List.setIfInBounds_toArray, List.set_cons_zero, List.set_cons_succ]
  refine wpAnyX_take (i := 3) [4, 8, 9, 10, 11] (some 18) (v := ?_) rfl (by rfl) (by kernel_rfl) (by kernel_rfl) (by kernel_rfl) (by kernel_rfl) (fun _ _ _ h => h) (Or.inl ⟨by rfl, ?_⟩) hS ?_
  rotate_left
  focus (intro w' hSw; (try dsimp only at hSw); go_simp; try with_reducible rfl)
  simp only [Act.put, List.setIfInBounds_toArray, List.set_cons_zero, List.set_cons_succ]
  refine wpAnyX_take (i := 4) [8, 9, 10, 11] (some 19) (v := ?_) rfl (by rfl) (by kernel_rfl) (by kernel_rfl) (by kernel_rfl) (by kernel_rfl) (fun _ _ _ h => h) (Or.inl ⟨by rfl, ?_⟩) hS ?_
  rotate_left
  focus (intro w' hSw; (try dsimp only at hSw); go_simp; try with_reducible rfl)
  simp only [Act.put, List.setIfInBounds_toArray, List.set_cons_zero, List.set_cons_succ]
  refine wpAnyX_take (i := 5) [6, 7, 8, 9, 10, 11] (some 20) (v := _) rfl (by rfl) (by kernel_rfl) (by kernel_rfl) (by kernel_rfl) (by kernel_rfl) (fun _ _ _ h => h) (yieldsIf_load_mid (by rfl) _ _ rfl g3 0 rfl ms dM (fun _ h => h.2) HU.out HD.out HI.out) hS ?_
  simp only [Act.put, List.setIfInBounds_toArray, List.set_cons_zero, List.set_cons_succ]
  refine wpAnyX_one (i := 6) (by kernel_rfl) rfl (fun K hK => ?_)
  refine step_call (some 21) (by rfl) (by rfl) rfl EG.out (by rfl) HO2.out ?_
  rintro u w3 ⟨vs, rfl, hv3, k3⟩
  have HV3 := hid hv3; have K3 := hid k3; have HLV := hid (MsgL.of hv3)
  have hS3 : w3.cell? ⟨g, 1, none⟩ = some (.slice A n c) ∧ w3.rangeAt g3 0 ms := ⟨k3.cell hS.1 id, fun j u hu => k3.cell (hS.2 j u hu) id⟩
  clear hv3 k3
  refine hK _ _ (hS3) ?_
  clear hK K
  try simp only [Act.put, List.setIfInBounds_toArray, List.set_cons_zero, List.set_cons_succ]
  refine wpAnyX_one (i := 7) (by kernel_rfl) rfl (fun K hK => ?_)
  refine step_sliceOne (some 22) (by rfl) (v := .agg vs.toArray) (z := zM) (n := 27) (by rfl) rfl Try.underlying45 (by kernel_rfl) (by decide) (by decide) (by rfl) (by simp [Value.cells, HLV.out.len]) ?_
  intro g7 w4 hg7 hb7 k4 s4
  have K4 := hid k4
  have hS4 : w4.cell? ⟨g, 1, none⟩ = some (.slice A n c) ∧ w4.rangeAt g3 0 ms := ⟨k4.cell hS3.1 id, fun j u hu => k4.cell (hS3.2 j u hu) id⟩
  have HG7 := hid hg7
  clear hg7 s4 k4
  refine hK _ _ (hS4) ?_
  clear hK K
  try simp only [Act.put, List.setIfInBounds_toArray, List.set_cons_zero, List.set_cons_succ]
  refine wpAnyX_one (i := 8) (by kernel_rfl) rfl (fun K hK => ?_)
  have hrow : Row (fun q => q = g7) w4 (.slice (some ⟨g7, 0, none⟩) 1 1) 1 27 vs := by have := row_at (w := w4) (d := vs) hb7; rwa [HLV.out.len] at this
  have hown4 := ((K3.out.trans K4.out (fun _ _ f => f)).owns H2.out.row (fun _ _ => id))
  rw [← HN.out] at hown4
  refine step_appW (some 23) (by rfl) (v := .slice A n c) (by rfl) rfl T_M (by rfl) hown4 (by rfl) hrow HLV.out.one (by omega) (by omega) ?_
  intro A8 c8 w5 ho5 k5 hn5
  have HO5 := hid ho5; have K5 := hid k5; have HN5 := hid hn5
  have hob : ∀ b, (Value.slice A n c).ownBlock = some b → b < w2.drew.heap.size ∧ b ≠ g := fun b hb => ⟨H2.out.lt b (H2.out.own b hb).1, (H2.out.own b hb).2⟩
  have hg3l : w.heap.size ≤ g3 := Nat.le_of_eq HG3.out.symm
  have hgw := H.out.own
  have hS5 : w5.cell? ⟨g, 1, none⟩ = some (.slice A n c) ∧ w5.rangeAt g3 0 ms := ⟨k5.cell hS4.1 (fun e => (hob _ e.symm).2 rfl), fun j u hu => k5.cell (hS4.2 j u hu) (fun e => by have hb' := e.symm; rw [HN.out] at hb'; have := H.out.lt _ (hgw _ hb').1; simp only at this; omega)⟩
  clear hrow hown4 ho5 k5 hn5
  refine hK _ _ (hS5) ?_
  clear hK K
  try simp only [Act.put, List.setIfInBounds_toArray, List.set_cons_zero, List.set_cons_succ]
  refine wpAnyX_take (i := 9) [10, 11] (some 24) (v := ?_) rfl (by rfl) (by kernel_rfl) (by kernel_rfl) (by kernel_rfl) (by kernel_rfl) (fun _ _ _ h => h) (Or.inl ⟨by rfl, ?_⟩) hS5 ?_
  rotate_left
  focus (intro w' hSw; (try dsimp only at hSw); go_simp; try with_reducible rfl)
  simp only [Act.put, List.setIfInBounds_toArray, List.set_cons_zero, List.set_cons_succ]
  refine wpAnyX_take (i := 10) [11] (some 25) (v := ?_) rfl (by rfl) (by kernel_rfl) (by kernel_rfl) (by kernel_rfl) (by kernel_rfl) (fun _ _ _ h => h) (Or.inl ⟨by rfl, ?_⟩) hS5 ?_
  rotate_left
  focus (intro w' hSw; (try dsimp only at hSw); go_simp; try with_reducible rfl)
  simp only [Act.put, List.setIfInBounds_toArray, List.set_cons_zero, List.set_cons_succ]
  refine wpAnyX_oneX (i := 11) (by kernel_rfl) rfl (by kernel_rfl) (fun K hK => ?_)
  have hobj := K5.out.heap (K4.out.heap (K3.out.heap H2.out.obj id) id) (fun e => (hob _ e.symm).2 rfl)
  refine step_store (none) (by rfl) (v := .slice A8 (n + 1) c8) (C := #[.int .i64 most, .slice A n c]) (by rfl) rfl (by rfl) (by rfl) hobj (by kernel_rfl) (by simp [Value.cells]) (by simp [Value.oneCell', Value.cells]) ?_
  intro w6 hb6 k6 s6
  replace hb6 : w6.heap[g]? = some (.cells #[.int .i64 most, .slice A8 (n + 1) c8] 56) := hb6
  refine hK _ _ ?_
  clear hK K
  try simp only [Act.put, List.setIfInBounds_toArray, List.set_cons_zero, List.set_cons_succ]
  refine wpAnyX_done (by kernel_rfl) ?_ _
  have hfin : NetAt 56 (Grow F w w6) w6 g most (L ++ [m]) ∧ Keep F w w6 := by
    obtain rfl := HN.out
    have hw2 : Keep (fun _ => False) w w2.drew := K2.out.drew
    have hvs := Rep.msg.mono HV3.out (G := NewIn w w3) (fun k hk => ⟨by have := hw2.size; have := hk.1; omega, hk.2⟩)
    exact H.out.more HLT.out (hw2.trans K3.out (fun _ _ f => f)) hvs K4.out HO5.out K5.out HN5.out hb6 k6 HF.out
  have HFIN := hid hfin
  clear hfin hb6 k6 s6 hS hS3 hS4 hS5 hob hgw hg3l hobj
  go_wp2_with fail
  go_ret
  exact SendPost.yes HS.out HFIN.out.1 HFIN.out.2
end
end Go.Proofs.Ytofljidmdabkcaa
