/- client: Handle. -/
import Derived.Test.YtnekfonnceknoaaCl5
import Derived.Test.YtnekfonnceknoaaMk2
namespace Go.Proofs.Ytnekfonnceknoaa
open Go.RowKit Go.Lib
def handleF (s : CS) (m : Msg) : CS × Option Msg :=
  if s.busy = false ∨ mchkB m = false ∨ m.to ≠ 100 + s.id ∨ m.number ≠ s.number then (s, none)
  else if m.kind = 13 then (if s.opening then openedF s m.verdict else (tellS s m.verdict, none))
  else if m.kind = 14 then (awayS s m.slot, none)
  else (s, none)
theorem CInv.handle {s : CS} {N : Int} {m : Msg} (h : CInv N s) (hm : m.Ok) : CInv (N + 1) (handleF s m).1 := by
  unfold handleF
  split
  · exact h.more (by omega)
  · split
    · split
      · exact h.opened hm.verdict
      · exact (h.tell hm.verdict).more (by omega)
    · split
      · exact h.away.more (by omega)
      · exact h.more (by omega)
section
variable {X Y : Nat → Prop} {w w' : World} {g : Nat} {s : CS} {vw va vt vk : Value} {F : Nat → Prop} {N : Int}
theorem mcheckA {m : Msg} {ms : List Value} (h : Rep.msg.cells w F m ms) (hG : ∀ q, F q → q < w.heap.size) : Calls Try.prog 26 #[.agg ms.toArray] w fun e w' => e = .returned (.int .i64 (if mchkB m then 0 else 1)) ∧ Keep (fun _ => False) w w' := by
  obtain ⟨vc, vv, vi, vk, rfl, h1, h2, h3, h4, _⟩ := msg_cells h
  obtain ⟨Ac, cc, rfl⟩ := h1.shape
  obtain ⟨Av, cv, rfl⟩ := h2.shape
  obtain ⟨Ai, ci, rfl⟩ := h3.shape
  obtain ⟨Ak, ck, rfl⟩ := h4.shape
  exact mcheck_calls (F := F) ⟨h1, h2, h3, h4, hG⟩
theorem Ans.relay {gm : Nat} {w1 w2 w3 w4 : World} {m : Option Msg} {cs : List Value} (hg : X g) (hk1 : Keep (fun _ => False) w w1) (hm : w.heap.size ≤ gm) (hk2 : Keep (fun q => q = g) w1 w2) (hk3 : Keep (fun q => q = g) w2 w3) (hk4 : Keep (fun q => q = gm) w3 w4) (hgl : g < w.heap.size)
    (hc : Rep.msg.cells w3 (fun k => ¬ (X k ∨ k = gm) ∧ k < w3.heap.size) (m.getD msgZ) cs) (h : CliAt (fun k => X k ∨ k = gm) w3 g s) : Ans X w g s m (.returned (.tuple #[.agg cs.toArray, .bool m.isSome])) w4 :=
  ⟨_, rfl, Rep.msg.mono (Rep.msg.keep hc hk4 (fun q hq e => hq.1 (.inr e))) (fun q hq => ⟨fun hx => hq.1 (.inl hx), Nat.lt_of_lt_of_le hq.2 hk4.size⟩), (h.keepX hk4 (fun _ e => .inr e) (by omega)).less (fun _ q => .inl q) hg,
    (((hk1.mono (fun _ _ f => f.elim)).trans hk2 (fun _ _ e => e)).trans hk3 (fun _ _ e => e)).trans hk4 (fun b hb e => by omega)⟩
set_option maxRecDepth 20000 in
set_option maxHeartbeats 16000000 in
theorem handle_calls {m : Msg} {ms : List Value} (h : CliM X w g s vw va vt vk) (hI : CInv N s) (hN : N < 1000000) (hms : Rep.msg.cells w F m ms) (hF : ∀ q, F q → q < w.heap.size) (hfew : m.verdict.Few) :
    Calls Try.prog 10 #[.pointer (some ⟨g, 0, none⟩), .agg ms.toArray] w (Ans X w g (handleF s m).1 (handleF s m).2) := by
  have H := hid h; have HI := hid hI; have HN := hid hN; have HMS := hid hms; have HF := hid hF; have HFEW := hid hfew
  have HL := hid (MsgL.of hms)
  obtain ⟨vc', vv', vi', vk', hmc, h1, h2, h3, h4, hok⟩ := msg_cells hms
  have E0 := hid (show ms[0]? = some (.int .i64 m.kind) by rw [hmc]; rfl)
  have E2 := hid (show ms[2]? = some (.int .i64 m.to) by rw [hmc]; rfl)
  have E4 := hid (show ms[4]? = some (.int .i64 m.slot) by rw [hmc]; rfl)
  have E19 := hid (show ms[19]? = some (.int .i64 m.number) by rw [hmc]; rfl)
  have EV := hid (show (ms.drop 20).take 7 = verdictCs m.verdict vk' by rw [hmc]; rfl)
  have HK := hid h4; have HOK := hid hok
  have hgl := lt_heap h.obj
  have HGL := hid hgl; have HG := hid h.hg
  have EM := hid (enters_of Try.func21 (by kernel_rfl) rfl)
  have EC := hid (enters_of Try.func26 (by kernel_rfl) rfl)
  have hw0 : IntKind.i64.wrap (100 + s.id) = 100 + s.id := by have := hI.id; simp [IntKind.wrap, IntKind.signed, IntKind.bits]; omega
  clear h hI hN hgl hms hF hfew hmc h1 h2 h3 h4 hok
  go_enter Try.func10, Try.ntmps10
  go_wp2_with (first
    | (refine wpl_boxB (v := .agg ms.toArray) rfl rfl rfl ?_; intro g3 w1 hg3 hb3 k1 s1; have HG3 := hid hg3; have HS1 := hid s1; have K1 := hid k1; replace hb3 : w1.heap[g3]? = some (.cells ms.toArray 37) := hb3; clear hg3 s1 k1)
    | (refine wpl_allocB (ty := 37) rfl rfl (z := zM) (by kernel_rfl) ?_; intro gm w2 hgm hbm k2 s2; have HGM := hid hgm; have K2 := hid (K1.out.trans k2 (fun _ _ f => f)); have hb32 := k2.heap hb3 id; have HBM := hid hbm; clear hgm s2 k2 hbm))
  have HGE := hid (show w.heap.size ≤ gm ∧ g < g3 ∧ g3 < gm from ⟨by have := HGM.out; have := K1.out.size; omega, by have := HG3.out; have := HGL.out; omega, by have := HGM.out; have := HS1.out; omega⟩)
  have HM1 := hid (H.out.box K2.out HGE.out.1 (lt_heap HBM.out))
  have kd : Keep (fun _ => False) w2 w2.drew := (Keep.refl _ _).drew
  have HM2 := hid (HM1.out.keep kd); have HBM2 := hid (kd.heap HBM.out id); have HB32 := hid (kd.heap hb32 id); have KD := hid (K2.out.trans kd (fun _ _ f => f)); have HO := hid HM2.out.obj
  have HMADE := hid ((made_calls HM2.out).mono (R' := fun e w' => ∃ u, e = .returned u ∧ (u = .bool true ∧ Keep (fun _ => False) w2.drew w')) (fun e w' h => ⟨_, h.1, rfl, by rw [← h.2]; exact Keep.refl _ _⟩))
  have hS : Keep (fun _ => False) w2.drew w2.drew := Keep.refl _ _
  have HGN := hid (show gm ≠ g by have := HGE.out; omega)
  clear hb3 hb32 kd
  have HO' := hid HO.out
  cases hbz : s.busy with
  | false =>
    rw [CObj, cliCs, hbz] at HO'
    have HBZ := hid hbz
    clear hbz
    go_wp2_with fail
    refine wp_region_X (fun y => Keep (fun _ => False) w2.drew y) [] (by kernel_rfl) hS (fun _ => ?_)
    refine wpAnyX_take (i := 0) [1, 2, 3, 4, 5, 6, 7, 8, 9, 10, 11, 12, 13, 14, 15, 16, 17, 18, 19, 20, 21, 22, 23, 24, 25, 26, 27, 28, 29, 30, 31, 32, 33] (some 6) (v := ?_) rfl (by rfl) (by kernel_rfl) (by kernel_rfl) (by kernel_rfl) (by kernel_rfl) (fun _ _ _ h => h) (Or.inl ⟨by rfl, ?_⟩) hS ?_
    rotate_left
    focus (intro w' hSw; (try dsimp only at hSw); go_simp; try with_reducible rfl)
    simp only [Act.put, List.setIfInBounds_toArray, List.set_cons_zero, List.set_cons_succ]
    refine wpAnyX_one (i := 1) (by kernel_rfl) rfl (fun K hK => ?_)
    refine step_call (some 7) (by rfl) (by rfl) rfl EM.out (by rfl) HMADE.out ?_
    rintro u w3 ⟨rfl, k3⟩
    have K3 := hid k3
    refine hK _ _ (k3) ?_
    clear hK K
    simp only [Act.put, List.setIfInBounds_toArray, List.set_cons_zero, List.set_cons_succ]
    refine wpAnyX_take (i := 2) [3, 4, 5, 6, 7, 8, 9, 10, 11, 12, 13, 14, 15, 16, 17, 18, 19, 20, 21, 22, 23, 24, 25, 26, 27, 28, 29, 30, 31, 32, 33] (some 8) (v := ?_) rfl (by rfl) (by kernel_rfl) (by kernel_rfl) (by kernel_rfl) (by kernel_rfl) (fun _ _ _ h => h) (Or.inl ⟨by rfl, ?_⟩) k3 ?_
    rotate_left
    focus (intro w' hSw; (try dsimp only at hSw); go_simp; try with_reducible rfl)
    simp only [Act.put, List.setIfInBounds_toArray, List.set_cons_zero, List.set_cons_succ]
    refine wpAnyX_take (i := 3) [4, 5, 6, 7, 8, 9, 10, 11, 12, 13, 14, 15, 16, 17, 18, 19, 20, 21, 22, 23, 24, 25, 26, 27, 28, 29, 30, 31, 32, 33] (some 9) (v := ?_) rfl (by rfl) (by kernel_rfl) (by kernel_rfl) (by kernel_rfl) (by kernel_rfl) (fun _ _ _ h => h) (Or.inl ⟨by rfl, ?_⟩) k3 ?_
    rotate_left
    focus (intro w' hSw; (try dsimp only at hSw); go_simp; try with_reducible rfl)
    simp only [Act.put, List.setIfInBounds_toArray, List.set_cons_zero, List.set_cons_succ]
    refine wpAnyX_take (i := 4) [5, 6, 7, 8, 9, 10, 11, 12, 13, 14, 15, 16, 17, 18, 19, 20, 21, 22, 23, 24, 25, 26, 27, 28, 29, 30, 31, 32, 33] (some 10) (v := ?_) rfl (by rfl) (by kernel_rfl) (by kernel_rfl) (by kernel_rfl) (by kernel_rfl) (fun _ _ _ h => h) (Or.inl ⟨by rfl, ?_⟩) k3 ?_
    rotate_left
    focus (intro w' hSw; (try dsimp only at hSw); go_simp; try with_reducible rfl)
    simp only [Act.put, List.setIfInBounds_toArray, List.set_cons_zero, List.set_cons_succ]
    refine wpAnyX_take (i := 5) [6, 7, 8, 9, 10, 11, 12, 13, 14, 15, 16, 17, 18, 19, 20, 21, 22, 23, 24, 25, 26, 27, 28, 29, 30, 31, 32, 33] (some 11) (v := ?_) rfl (by rfl) (by kernel_rfl) (by kernel_rfl) (by kernel_rfl) (by kernel_rfl) (fun _ _ _ h => h) (Or.inl ⟨by rfl, ?_⟩) k3 ?_
    rotate_left
    focus (intro w' hSw; (try dsimp only at hSw); go_simp; try with_reducible rfl)
    simp only [Act.put, List.setIfInBounds_toArray, List.set_cons_zero, List.set_cons_succ]
    refine wpAnyX_take (i := 6) [7, 8, 9, 10, 11, 12, 13, 14, 15, 16, 17, 18, 19, 20, 21, 22, 23, 24, 25, 26, 27, 28, 29, 30, 31, 32, 33] (some 12) (v := ?_) rfl (by rfl) (by kernel_rfl) (by kernel_rfl) (by kernel_rfl) (by kernel_rfl) (fun _ _ _ h => h) (Or.inl ⟨by rfl, ?_⟩) k3 ?_
    rotate_left
    focus (intro w' hSw; (try dsimp only at hSw); go_simp; try with_reducible rfl)
    simp only [Act.put, List.setIfInBounds_toArray, List.set_cons_zero, List.set_cons_succ]
    refine wpAnyX_take (i := 7) [8, 9, 10, 11, 12, 13, 14, 15, 16, 17, 18, 19, 20, 21, 22, 23, 24, 25, 26, 27, 28, 29, 30, 31, 32, 33] (some 13) (v := _) rfl (by rfl) (by kernel_rfl) (by kernel_rfl) (by kernel_rfl) (by kernel_rfl) (fun _ _ _ h => h) (yieldsIf_cell (v := .bool false) (by rfl) rfl (by rfl) (by kernel_rfl) (fun y hy => cell_at (hy.heap HO'.out id) 10 _ rfl)) k3 ?_
    simp only [Act.put, List.setIfInBounds_toArray, List.set_cons_zero, List.set_cons_succ]
    refine wpAnyX_take (i := 8) [9, 10, 11, 12, 13, 14, 15, 16, 17, 18, 19, 20, 21, 22, 23, 24, 25, 26, 27, 28, 29, 30, 31, 32, 33] (some 14) (v := ?_) rfl (by rfl) (by kernel_rfl) (by kernel_rfl) (by kernel_rfl) (by kernel_rfl) (fun _ _ _ h => h) (Or.inl ⟨by rfl, ?_⟩) k3 ?_
    rotate_left
    focus (intro w' hSw; (try dsimp only at hSw); go_simp; try with_reducible rfl)
    simp only [Act.put, List.setIfInBounds_toArray, List.set_cons_zero, List.set_cons_succ]
    refine wpAnyX_take (i := 9) [10, 11, 12, 13, 14, 15, 16, 17, 18, 19, 20, 21, 22, 23, 24, 25, 26, 27, 28, 29, 30, 31, 32, 33] (some 15) (v := ?_) rfl (by rfl) (by kernel_rfl) (by kernel_rfl) (by kernel_rfl) (by kernel_rfl) (fun _ _ _ h => h) (Or.inl ⟨by rfl, ?_⟩) k3 ?_
    rotate_left
    focus (intro w' hSw; (try dsimp only at hSw); go_simp; try with_reducible rfl)
    simp only [Act.put, List.setIfInBounds_toArray, List.set_cons_zero, List.set_cons_succ]
    refine wpAnyX_take (i := 10) [11, 12, 13, 14, 15, 16, 17, 18, 19, 20, 21, 22, 23, 24, 25, 26, 27, 28, 29, 30, 31, 32, 33] (some 16) (v := ?_) rfl (by rfl) (by kernel_rfl) (by kernel_rfl) (by kernel_rfl) (by kernel_rfl) (fun _ _ _ h => h) (Or.inl ⟨by rfl, ?_⟩) k3 ?_
    rotate_left
    focus (intro w' hSw; (try dsimp only at hSw); go_simp; try with_reducible rfl)
    simp only [Act.put, List.setIfInBounds_toArray, List.set_cons_zero, List.set_cons_succ]
    refine wpAnyX_take (i := 11) [12, 13, 14, 15, 16, 17, 18, 19, 20, 21, 22, 23, 24, 25, 26, 27, 28, 29, 30, 31, 32, 33] (some 17) (v := undef) rfl (by rfl) (by kernel_rfl) (by kernel_rfl) (by kernel_rfl) (by kernel_rfl) (fun _ _ _ h => h) (Or.inr ⟨by rfl, rfl⟩) k3 ?_
    simp only [Act.put, List.setIfInBounds_toArray, List.set_cons_zero, List.set_cons_succ]
    refine wpAnyX_take (i := 12) [13, 14, 15, 16, 17, 18, 19, 20, 21, 22, 23, 24, 25, 26, 27, 28, 29, 30, 31, 32, 33] (some 18) (v := undef) rfl (by rfl) (by kernel_rfl) (by kernel_rfl) (by kernel_rfl) (by kernel_rfl) (fun _ _ _ h => h) (Or.inr ⟨by rfl, rfl⟩) k3 ?_
    simp only [Act.put, List.setIfInBounds_toArray, List.set_cons_zero, List.set_cons_succ]
    refine wpAnyX_take (i := 13) [14, 15, 16, 17, 18, 19, 20, 21, 22, 23, 24, 25, 26, 27, 28, 29, 30, 31, 32, 33] (some 19) (v := undef) rfl (by rfl) (by kernel_rfl) (by kernel_rfl) (by kernel_rfl) (by kernel_rfl) (fun _ _ _ h => h) (Or.inr ⟨by rfl, rfl⟩) k3 ?_
    simp only [Act.put, List.setIfInBounds_toArray, List.set_cons_zero, List.set_cons_succ]
    refine wpAnyX_take (i := 14) [15, 16, 17, 18, 19, 20, 21, 22, 23, 24, 25, 26, 27, 28, 29, 30, 31, 32, 33] (some 20) (v := ?_) rfl (by rfl) (by kernel_rfl) (by kernel_rfl) (by kernel_rfl) (by kernel_rfl) (fun _ _ _ h => h) (Or.inl ⟨by rfl, ?_⟩) k3 ?_
    rotate_left
    focus (intro w' hSw; (try dsimp only at hSw); go_simp; try with_reducible rfl)
    simp only [Act.put, List.setIfInBounds_toArray, List.set_cons_zero, List.set_cons_succ]
    refine wpAnyX_take (i := 15) [16, 17, 18, 19, 20, 21, 22, 23, 24, 25, 26, 27, 28, 29, 30, 31, 32, 33] (some 21) (v := ?_) rfl (by rfl) (by kernel_rfl) (by kernel_rfl) (by kernel_rfl) (by kernel_rfl) (fun _ _ _ h => h) (Or.inl ⟨by rfl, ?_⟩) k3 ?_
    rotate_left
    focus (intro w' hSw; (try dsimp only at hSw); go_simp; try with_reducible rfl)
    simp only [Act.put, List.setIfInBounds_toArray, List.set_cons_zero, List.set_cons_succ]
    refine wpAnyX_take (i := 16) [17, 23, 24, 25, 26, 27, 28, 29, 30, 31, 32, 33] (some 22) (v := undef) rfl (by rfl) (by kernel_rfl) (by kernel_rfl) (by kernel_rfl) (by kernel_rfl) (fun _ _ _ h => h) (Or.inr ⟨by rfl, rfl⟩) k3 ?_
    simp only [Act.put, List.setIfInBounds_toArray, List.set_cons_zero, List.set_cons_succ]
    refine wpAnyX_take (i := 17) [23, 24, 25, 26, 27, 28, 29, 30, 31, 32, 33] (some 23) (v := undef) rfl (by rfl) (by kernel_rfl) (by kernel_rfl) (by kernel_rfl) (by kernel_rfl) (fun _ _ _ h => h) (Or.inr ⟨by rfl, rfl⟩) k3 ?_
    simp only [Act.put, List.setIfInBounds_toArray, List.set_cons_zero, List.set_cons_succ]
    refine wpAnyX_take (i := 18) [19, 20, 21, 22, 23, 24, 25, 26, 27, 28, 29, 30, 31, 32, 33] (some 24) (v := undef) rfl (by rfl) (by kernel_rfl) (by kernel_rfl) (by kernel_rfl) (by kernel_rfl) (fun _ _ _ h => h) (Or.inr ⟨by rfl, rfl⟩) k3 ?_
    simp only [Act.put, List.setIfInBounds_toArray, List.set_cons_zero, List.set_cons_succ]
    refine wpAnyX_take (i := 19) [20, 21, 22, 23, 24, 25, 26, 27, 28, 29, 30, 31, 32, 33] (some 25) (v := undef) rfl (by rfl) (by kernel_rfl) (by kernel_rfl) (by kernel_rfl) (by kernel_rfl) (fun _ _ _ h => h) (Or.inr ⟨by rfl, rfl⟩) k3 ?_
    simp only [Act.put, List.setIfInBounds_toArray, List.set_cons_zero, List.set_cons_succ]
    refine wpAnyX_take (i := 20) [21, 22, 23, 24, 25, 26, 27, 28, 29, 30, 31, 32, 33] (some 26) (v := undef) rfl (by rfl) (by kernel_rfl) (by kernel_rfl) (by kernel_rfl) (by kernel_rfl) (fun _ _ _ h => h) (Or.inr ⟨by rfl, rfl⟩) k3 ?_
    simp only [Act.put, List.setIfInBounds_toArray, List.set_cons_zero, List.set_cons_succ]
    refine wpAnyX_take (i := 21) [22, 23, 24, 25, 26, 27, 28, 29, 30, 31, 32, 33] (some 27) (v := undef) rfl (by rfl) (by kernel_rfl) (by kernel_rfl) (by kernel_rfl) (by kernel_rfl) (fun _ _ _ h => h) (Or.inr ⟨by rfl, rfl⟩) k3 ?_
    simp only [Act.put, List.setIfInBounds_toArray, List.set_cons_zero, List.set_cons_succ]
    refine wpAnyX_take (i := 22) [23, 24, 25, 26, 27, 28, 29, 30, 31, 32, 33] (some 28) (v := undef) rfl (by rfl) (by kernel_rfl) (by kernel_rfl) (by kernel_rfl) (by kernel_rfl) (fun _ _ _ h => h) (Or.inr ⟨by rfl, rfl⟩) k3 ?_
    simp only [Act.put, List.setIfInBounds_toArray, List.set_cons_zero, List.set_cons_succ]
    refine wpAnyX_take (i := 23) [24, 25, 26, 27, 28, 29, 30, 31, 32, 33] (some 29) (v := undef) rfl (by rfl) (by kernel_rfl) (by kernel_rfl) (by kernel_rfl) (by kernel_rfl) (fun _ _ _ h => h) (Or.inr ⟨by rfl, rfl⟩) k3 ?_
    simp only [Act.put, List.setIfInBounds_toArray, List.set_cons_zero, List.set_cons_succ]
    refine wpAnyX_take (i := 24) [25, 26, 27, 28, 29, 30, 31, 32, 33] (some 30) (v := ?_) rfl (by rfl) (by kernel_rfl) (by kernel_rfl) (by kernel_rfl) (by kernel_rfl) (fun _ _ _ h => h) (Or.inl ⟨by rfl, ?_⟩) k3 ?_
    rotate_left
    focus (intro w' hSw; (try dsimp only at hSw); go_simp; try with_reducible rfl)
    simp only [Act.put, List.setIfInBounds_toArray, List.set_cons_zero, List.set_cons_succ]
    refine wpAnyX_take (i := 25) [26, 27, 28, 29, 30, 31, 32, 33] (some 31) (v := ?_) rfl (by rfl) (by kernel_rfl) (by kernel_rfl) (by kernel_rfl) (by kernel_rfl) (fun _ _ _ h => h) (Or.inl ⟨by rfl, ?_⟩) k3 ?_
    rotate_left
    focus (intro w' hSw; (try dsimp only at hSw); go_simp; try with_reducible rfl)
    simp only [Act.put, List.setIfInBounds_toArray, List.set_cons_zero, List.set_cons_succ]
    refine wpAnyX_take (i := 26) [27, 32, 33] (some 32) (v := undef) rfl (by rfl) (by kernel_rfl) (by kernel_rfl) (by kernel_rfl) (by kernel_rfl) (fun _ _ _ h => h) (Or.inr ⟨by rfl, rfl⟩) k3 ?_
    simp only [Act.put, List.setIfInBounds_toArray, List.set_cons_zero, List.set_cons_succ]
    refine wpAnyX_take (i := 27) [32, 33] (some 33) (v := undef) rfl (by rfl) (by kernel_rfl) (by kernel_rfl) (by kernel_rfl) (by kernel_rfl) (fun _ _ _ h => h) (Or.inr ⟨by rfl, rfl⟩) k3 ?_
    simp only [Act.put, List.setIfInBounds_toArray, List.set_cons_zero, List.set_cons_succ]
    refine wpAnyX_take (i := 28) [29, 30, 31, 32, 33] (some 34) (v := undef) rfl (by rfl) (by kernel_rfl) (by kernel_rfl) (by kernel_rfl) (by kernel_rfl) (fun _ _ _ h => h) (Or.inr ⟨by rfl, rfl⟩) k3 ?_
    simp only [Act.put, List.setIfInBounds_toArray, List.set_cons_zero, List.set_cons_succ]
    refine wpAnyX_take (i := 29) [30, 31, 32, 33] (some 35) (v := undef) rfl (by rfl) (by kernel_rfl) (by kernel_rfl) (by kernel_rfl) (by kernel_rfl) (fun _ _ _ h => h) (Or.inr ⟨by rfl, rfl⟩) k3 ?_
    simp only [Act.put, List.setIfInBounds_toArray, List.set_cons_zero, List.set_cons_succ]
    refine wpAnyX_take (i := 30) [31, 32, 33] (some 36) (v := undef) rfl (by rfl) (by kernel_rfl) (by kernel_rfl) (by kernel_rfl) (by kernel_rfl) (fun _ _ _ h => h) (Or.inr ⟨by rfl, rfl⟩) k3 ?_
    simp only [Act.put, List.setIfInBounds_toArray, List.set_cons_zero, List.set_cons_succ]
    refine wpAnyX_take (i := 31) [32, 33] (some 37) (v := undef) rfl (by rfl) (by kernel_rfl) (by kernel_rfl) (by kernel_rfl) (by kernel_rfl) (fun _ _ _ h => h) (Or.inr ⟨by rfl, rfl⟩) k3 ?_
    simp only [Act.put, List.setIfInBounds_toArray, List.set_cons_zero, List.set_cons_succ]
    refine wpAnyX_take (i := 32) [33] (some 38) (v := undef) rfl (by rfl) (by kernel_rfl) (by kernel_rfl) (by kernel_rfl) (by kernel_rfl) (fun _ _ _ h => h) (Or.inr ⟨by rfl, rfl⟩) k3 ?_
    simp only [Act.put, List.setIfInBounds_toArray, List.set_cons_zero, List.set_cons_succ]
    refine wpAnyX_take (i := 33) [] (some 39) (v := ?_) rfl (by rfl) (by kernel_rfl) (by kernel_rfl) (by kernel_rfl) (by kernel_rfl) (fun _ _ _ h => h) (Or.inl ⟨by rfl, ?_⟩) k3 ?_
    rotate_left
    focus (intro w' hSw; (try dsimp only at hSw); go_simp; try with_reducible rfl)
    simp only [Act.put, List.setIfInBounds_toArray, List.set_cons_zero, List.set_cons_succ]
    refine wpAnyX_done (by kernel_rfl) ?_ _
    clear k3 hS
    have HE := hid (show handleF s m = (s, none) from if_pos (.inl HBZ.out))
    have hbm := K3.out.heap HBM2.out id
    have HMC := hid (HM2.out.keep K3.out)
    go_wp2_with (first
      | (refine wpl_build rfl rfl (msgCs msgZ nilV nilV nilV nilV).toArray (by kernel_rfl) ?_)
      | (refine wpl_storeB (v := zM) rfl rfl rfl rfl hbm msgL_z.info msgL_z.fit msgL_z.oneA ?_; intro w9 hb9 k9 s9))
    refine bodyPost_ret (res_cell_tmp (g := gm) (cs := (msgCs msgZ nilV nilV nilV nilV).toArray) (v := .bool false) Try.results10 _ rfl rfl (hb9.trans (msgL_z.whole rfl)) (by kernel_rfl) (by kernel_rfl)) rfl ?_
    rw [HE.out]
    exact Ans.none HG.out K2.out HGE.out.1 (((Keep.refl (fun _ => False) w2).drew.trans K3.out (fun _ _ f => f)).mono (fun _ _ f => f.elim)) k9 HGL.out HMC.out.at
  | true =>
    rw [CObj, cliCs, hbz] at HO'
    have HBZ := hid hbz
    clear hbz
    cases hmc : mchkB m with
    | false =>
      have MC := hid hmc
      clear hmc
      go_wp2_with fail
      refine wp_region_X (fun y => Keep (fun _ => False) w2.drew y) [] (by kernel_rfl) hS (fun _ => ?_)
      refine wpAnyX_take (i := 0) [1, 2, 3, 4, 5, 6, 7, 8, 9, 10, 11, 12, 13, 14, 15, 16, 17, 18, 19, 20, 21, 22, 23, 24, 25, 26, 27, 28, 29, 30, 31, 32, 33] (some 6) (v := ?_) rfl (by rfl) (by kernel_rfl) (by kernel_rfl) (by kernel_rfl) (by kernel_rfl) (fun _ _ _ h => h) (Or.inl ⟨by rfl, ?_⟩) hS ?_
      rotate_left
      focus (intro w' hSw; (try dsimp only at hSw); go_simp; try with_reducible rfl)
      simp only [Act.put, List.setIfInBounds_toArray, List.set_cons_zero, List.set_cons_succ]
      refine wpAnyX_one (i := 1) (by kernel_rfl) rfl (fun K hK => ?_)
      refine step_call (some 7) (by rfl) (by rfl) rfl EM.out (by rfl) HMADE.out ?_
      rintro u w3 ⟨rfl, k3⟩
      have K3 := hid k3
      refine hK _ _ (k3) ?_
      clear hK K
      simp only [Act.put, List.setIfInBounds_toArray, List.set_cons_zero, List.set_cons_succ]
      refine wpAnyX_take (i := 2) [3, 4, 5, 6, 7, 8, 9, 10, 11, 12, 13, 14, 15, 16, 17, 18, 19, 20, 21, 22, 23, 24, 25, 26, 27, 28, 29, 30, 31, 32, 33] (some 8) (v := ?_) rfl (by rfl) (by kernel_rfl) (by kernel_rfl) (by kernel_rfl) (by kernel_rfl) (fun _ _ _ h => h) (Or.inl ⟨by rfl, ?_⟩) k3 ?_
      rotate_left
      focus (intro w' hSw; (try dsimp only at hSw); go_simp; try with_reducible rfl)
      simp only [Act.put, List.setIfInBounds_toArray, List.set_cons_zero, List.set_cons_succ]
      refine wpAnyX_take (i := 3) [4, 5, 6, 7, 8, 9, 10, 11, 12, 13, 14, 15, 16, 17, 18, 19, 20, 21, 22, 23, 24, 25, 26, 27, 28, 29, 30, 31, 32, 33] (some 9) (v := ?_) rfl (by rfl) (by kernel_rfl) (by kernel_rfl) (by kernel_rfl) (by kernel_rfl) (fun _ _ _ h => h) (Or.inl ⟨by rfl, ?_⟩) k3 ?_
      rotate_left
      focus (intro w' hSw; (try dsimp only at hSw); go_simp; try with_reducible rfl)
      simp only [Act.put, List.setIfInBounds_toArray, List.set_cons_zero, List.set_cons_succ]
      refine wpAnyX_take (i := 4) [5, 6, 7, 8, 9, 10, 11, 12, 13, 14, 15, 16, 17, 18, 19, 20, 21, 22, 23, 24, 25, 26, 27, 28, 29, 30, 31, 32, 33] (some 10) (v := ?_) rfl (by rfl) (by kernel_rfl) (by kernel_rfl) (by kernel_rfl) (by kernel_rfl) (fun _ _ _ h => h) (Or.inl ⟨by rfl, ?_⟩) k3 ?_
      rotate_left
      focus (intro w' hSw; (try dsimp only at hSw); go_simp; try with_reducible rfl)
      simp only [Act.put, List.setIfInBounds_toArray, List.set_cons_zero, List.set_cons_succ]
      refine wpAnyX_take (i := 5) [6, 7, 8, 9, 10, 11, 12, 13, 14, 15, 16, 17, 18, 19, 20, 21, 22, 23, 24, 25, 26, 27, 28, 29, 30, 31, 32, 33] (some 11) (v := ?_) rfl (by rfl) (by kernel_rfl) (by kernel_rfl) (by kernel_rfl) (by kernel_rfl) (fun _ _ _ h => h) (Or.inl ⟨by rfl, ?_⟩) k3 ?_
      rotate_left
      focus (intro w' hSw; (try dsimp only at hSw); go_simp; try with_reducible rfl)
      simp only [Act.put, List.setIfInBounds_toArray, List.set_cons_zero, List.set_cons_succ]
      refine wpAnyX_take (i := 6) [7, 8, 9, 10, 11, 12, 13, 14, 15, 16, 17, 18, 19, 20, 21, 22, 23, 24, 25, 26, 27, 28, 29, 30, 31, 32, 33] (some 12) (v := ?_) rfl (by rfl) (by kernel_rfl) (by kernel_rfl) (by kernel_rfl) (by kernel_rfl) (fun _ _ _ h => h) (Or.inl ⟨by rfl, ?_⟩) k3 ?_
      rotate_left
      focus (intro w' hSw; (try dsimp only at hSw); go_simp; try with_reducible rfl)
      simp only [Act.put, List.setIfInBounds_toArray, List.set_cons_zero, List.set_cons_succ]
      refine wpAnyX_take (i := 7) [8, 9, 10, 11, 12, 13, 14, 15, 16, 17, 18, 19, 20, 21, 22, 23, 24, 25, 26, 27, 28, 29, 30, 31, 32, 33] (some 13) (v := _) rfl (by rfl) (by kernel_rfl) (by kernel_rfl) (by kernel_rfl) (by kernel_rfl) (fun _ _ _ h => h) (yieldsIf_cell (v := .bool true) (by rfl) rfl (by rfl) (by kernel_rfl) (fun y hy => cell_at (hy.heap HO'.out id) 10 _ rfl)) k3 ?_
      simp only [Act.put, List.setIfInBounds_toArray, List.set_cons_zero, List.set_cons_succ]
      refine wpAnyX_take (i := 8) [9, 10, 11, 12, 13, 14, 15, 16, 17, 18, 19, 20, 21, 22, 23, 24, 25, 26, 27, 28, 29, 30, 31, 32, 33] (some 14) (v := ?_) rfl (by rfl) (by kernel_rfl) (by kernel_rfl) (by kernel_rfl) (by kernel_rfl) (fun _ _ _ h => h) (Or.inl ⟨by rfl, ?_⟩) k3 ?_
      rotate_left
      focus (intro w' hSw; (try dsimp only at hSw); go_simp; try with_reducible rfl)
      simp only [Act.put, List.setIfInBounds_toArray, List.set_cons_zero, List.set_cons_succ]
      refine wpAnyX_take (i := 9) [10, 11, 12, 13, 14, 15, 16, 17, 18, 19, 20, 21, 22, 23, 24, 25, 26, 27, 28, 29, 30, 31, 32, 33] (some 15) (v := ?_) rfl (by rfl) (by kernel_rfl) (by kernel_rfl) (by kernel_rfl) (by kernel_rfl) (fun _ _ _ h => h) (Or.inl ⟨by rfl, ?_⟩) k3 ?_
      rotate_left
      focus (intro w' hSw; (try dsimp only at hSw); go_simp; try with_reducible rfl)
      simp only [Act.put, List.setIfInBounds_toArray, List.set_cons_zero, List.set_cons_succ]
      refine wpAnyX_take (i := 10) [11, 12, 13, 14, 15, 16, 17, 18, 19, 20, 21, 22, 23, 24, 25, 26, 27, 28, 29, 30, 31, 32, 33] (some 16) (v := ?_) rfl (by rfl) (by kernel_rfl) (by kernel_rfl) (by kernel_rfl) (by kernel_rfl) (fun _ _ _ h => h) (Or.inl ⟨by rfl, ?_⟩) k3 ?_
      rotate_left
      focus (intro w' hSw; (try dsimp only at hSw); go_simp; try with_reducible rfl)
      simp only [Act.put, List.setIfInBounds_toArray, List.set_cons_zero, List.set_cons_succ]
      refine wpAnyX_take (i := 11) [12, 13, 14, 15, 16, 17, 18, 19, 20, 21, 22, 23, 24, 25, 26, 27, 28, 29, 30, 31, 32, 33] (some 17) (v := _) rfl (by rfl) (by kernel_rfl) (by kernel_rfl) (by kernel_rfl) (by kernel_rfl) (fun _ _ _ h => h) (yieldsIf_row (n := 27) (vs := ms) (by rfl) rfl (by rfl) (by kernel_rfl) (by kernel_rfl) HL.out.len (fun y hy => range_of (n := 27) (hy.heap HB32.out id) _ (by simpa using HL.out.take))) k3 ?_
      simp only [Act.put, List.setIfInBounds_toArray, List.set_cons_zero, List.set_cons_succ]
      refine wpAnyX_one (i := 12) (by kernel_rfl) rfl (fun K hK => ?_)
      have HCC := hid ((mcheckA (Rep.msg.keep HMS.out (KD.out.trans K3.out (fun _ _ f => f)) (fun _ _ => id)) (fun q hq => Nat.lt_of_lt_of_le (HF.out q hq) (KD.out.trans K3.out (fun _ _ f => f)).size)).mono (R' := fun e w' => ∃ u, e = .returned u ∧ (u = .int .i64 1 ∧ Keep (fun _ => False) w3 w')) (fun e w' h => ⟨_, h.1, by rw [MC.out]; rfl, h.2⟩))
      refine step_call (some 18) (by rfl) (by rfl) rfl EC.out (by rfl) HCC.out ?_
      rintro u w5 ⟨rfl, k5⟩
      have K5 := hid (K3.out.trans k5 (fun _ _ f => f))
      clear k5 HCC
      refine hK _ _ (K5.out) ?_
      clear hK K
      simp only [Act.put, List.setIfInBounds_toArray, List.set_cons_zero, List.set_cons_succ]
      refine wpAnyX_take (i := 13) [14, 15, 16, 17, 18, 19, 20, 21, 22, 23, 24, 25, 26, 27, 28, 29, 30, 31, 32, 33] (some 19) (v := ?_) rfl (by rfl) (by kernel_rfl) (by kernel_rfl) (by kernel_rfl) (by kernel_rfl) (fun _ _ _ h => h) (Or.inl ⟨by rfl, ?_⟩) K5.out ?_
      rotate_left
      focus (intro w' hSw; (try dsimp only at hSw); go_simp; try with_reducible rfl)
      simp only [Act.put, List.setIfInBounds_toArray, List.set_cons_zero, List.set_cons_succ]
      refine wpAnyX_take (i := 14) [15, 16, 17, 18, 19, 20, 21, 22, 23, 24, 25, 26, 27, 28, 29, 30, 31, 32, 33] (some 20) (v := ?_) rfl (by rfl) (by kernel_rfl) (by kernel_rfl) (by kernel_rfl) (by kernel_rfl) (fun _ _ _ h => h) (Or.inl ⟨by rfl, ?_⟩) K5.out ?_
      rotate_left
      focus (intro w' hSw; (try dsimp only at hSw); go_simp; try with_reducible rfl)
      simp only [Act.put, List.setIfInBounds_toArray, List.set_cons_zero, List.set_cons_succ]
      refine wpAnyX_take (i := 15) [16, 17, 18, 19, 20, 21, 22, 23, 24, 25, 26, 27, 28, 29, 30, 31, 32, 33] (some 21) (v := ?_) rfl (by rfl) (by kernel_rfl) (by kernel_rfl) (by kernel_rfl) (by kernel_rfl) (fun _ _ _ h => h) (Or.inl ⟨by rfl, ?_⟩) K5.out ?_
      rotate_left
      focus (intro w' hSw; (try dsimp only at hSw); go_simp; try with_reducible rfl)
      simp only [Act.put, List.setIfInBounds_toArray, List.set_cons_zero, List.set_cons_succ]
      refine wpAnyX_take (i := 16) [17, 23, 24, 25, 26, 27, 28, 29, 30, 31, 32, 33] (some 22) (v := undef) rfl (by rfl) (by kernel_rfl) (by kernel_rfl) (by kernel_rfl) (by kernel_rfl) (fun _ _ _ h => h) (Or.inr ⟨by rfl, rfl⟩) K5.out ?_
      simp only [Act.put, List.setIfInBounds_toArray, List.set_cons_zero, List.set_cons_succ]
      refine wpAnyX_take (i := 17) [23, 24, 25, 26, 27, 28, 29, 30, 31, 32, 33] (some 23) (v := undef) rfl (by rfl) (by kernel_rfl) (by kernel_rfl) (by kernel_rfl) (by kernel_rfl) (fun _ _ _ h => h) (Or.inr ⟨by rfl, rfl⟩) K5.out ?_
      simp only [Act.put, List.setIfInBounds_toArray, List.set_cons_zero, List.set_cons_succ]
      refine wpAnyX_take (i := 18) [19, 20, 21, 22, 23, 24, 25, 26, 27, 28, 29, 30, 31, 32, 33] (some 24) (v := undef) rfl (by rfl) (by kernel_rfl) (by kernel_rfl) (by kernel_rfl) (by kernel_rfl) (fun _ _ _ h => h) (Or.inr ⟨by rfl, rfl⟩) K5.out ?_
      simp only [Act.put, List.setIfInBounds_toArray, List.set_cons_zero, List.set_cons_succ]
      refine wpAnyX_take (i := 19) [20, 21, 22, 23, 24, 25, 26, 27, 28, 29, 30, 31, 32, 33] (some 25) (v := undef) rfl (by rfl) (by kernel_rfl) (by kernel_rfl) (by kernel_rfl) (by kernel_rfl) (fun _ _ _ h => h) (Or.inr ⟨by rfl, rfl⟩) K5.out ?_
      simp only [Act.put, List.setIfInBounds_toArray, List.set_cons_zero, List.set_cons_succ]
      refine wpAnyX_take (i := 20) [21, 22, 23, 24, 25, 26, 27, 28, 29, 30, 31, 32, 33] (some 26) (v := undef) rfl (by rfl) (by kernel_rfl) (by kernel_rfl) (by kernel_rfl) (by kernel_rfl) (fun _ _ _ h => h) (Or.inr ⟨by rfl, rfl⟩) K5.out ?_
      simp only [Act.put, List.setIfInBounds_toArray, List.set_cons_zero, List.set_cons_succ]
      refine wpAnyX_take (i := 21) [22, 23, 24, 25, 26, 27, 28, 29, 30, 31, 32, 33] (some 27) (v := undef) rfl (by rfl) (by kernel_rfl) (by kernel_rfl) (by kernel_rfl) (by kernel_rfl) (fun _ _ _ h => h) (Or.inr ⟨by rfl, rfl⟩) K5.out ?_
      simp only [Act.put, List.setIfInBounds_toArray, List.set_cons_zero, List.set_cons_succ]
      refine wpAnyX_take (i := 22) [23, 24, 25, 26, 27, 28, 29, 30, 31, 32, 33] (some 28) (v := undef) rfl (by rfl) (by kernel_rfl) (by kernel_rfl) (by kernel_rfl) (by kernel_rfl) (fun _ _ _ h => h) (Or.inr ⟨by rfl, rfl⟩) K5.out ?_
      simp only [Act.put, List.setIfInBounds_toArray, List.set_cons_zero, List.set_cons_succ]
      refine wpAnyX_take (i := 23) [24, 25, 26, 27, 28, 29, 30, 31, 32, 33] (some 29) (v := undef) rfl (by rfl) (by kernel_rfl) (by kernel_rfl) (by kernel_rfl) (by kernel_rfl) (fun _ _ _ h => h) (Or.inr ⟨by rfl, rfl⟩) K5.out ?_
      simp only [Act.put, List.setIfInBounds_toArray, List.set_cons_zero, List.set_cons_succ]
      refine wpAnyX_take (i := 24) [25, 26, 27, 28, 29, 30, 31, 32, 33] (some 30) (v := ?_) rfl (by rfl) (by kernel_rfl) (by kernel_rfl) (by kernel_rfl) (by kernel_rfl) (fun _ _ _ h => h) (Or.inl ⟨by rfl, ?_⟩) K5.out ?_
      rotate_left
      focus (intro w' hSw; (try dsimp only at hSw); go_simp; try with_reducible rfl)
      simp only [Act.put, List.setIfInBounds_toArray, List.set_cons_zero, List.set_cons_succ]
      refine wpAnyX_take (i := 25) [26, 27, 28, 29, 30, 31, 32, 33] (some 31) (v := ?_) rfl (by rfl) (by kernel_rfl) (by kernel_rfl) (by kernel_rfl) (by kernel_rfl) (fun _ _ _ h => h) (Or.inl ⟨by rfl, ?_⟩) K5.out ?_
      rotate_left
      focus (intro w' hSw; (try dsimp only at hSw); go_simp; try with_reducible rfl)
      simp only [Act.put, List.setIfInBounds_toArray, List.set_cons_zero, List.set_cons_succ]
      refine wpAnyX_take (i := 26) [27, 32, 33] (some 32) (v := undef) rfl (by rfl) (by kernel_rfl) (by kernel_rfl) (by kernel_rfl) (by kernel_rfl) (fun _ _ _ h => h) (Or.inr ⟨by rfl, rfl⟩) K5.out ?_
      simp only [Act.put, List.setIfInBounds_toArray, List.set_cons_zero, List.set_cons_succ]
      refine wpAnyX_take (i := 27) [32, 33] (some 33) (v := undef) rfl (by rfl) (by kernel_rfl) (by kernel_rfl) (by kernel_rfl) (by kernel_rfl) (fun _ _ _ h => h) (Or.inr ⟨by rfl, rfl⟩) K5.out ?_
      simp only [Act.put, List.setIfInBounds_toArray, List.set_cons_zero, List.set_cons_succ]
      refine wpAnyX_take (i := 28) [29, 30, 31, 32, 33] (some 34) (v := undef) rfl (by rfl) (by kernel_rfl) (by kernel_rfl) (by kernel_rfl) (by kernel_rfl) (fun _ _ _ h => h) (Or.inr ⟨by rfl, rfl⟩) K5.out ?_
      simp only [Act.put, List.setIfInBounds_toArray, List.set_cons_zero, List.set_cons_succ]
      refine wpAnyX_take (i := 29) [30, 31, 32, 33] (some 35) (v := undef) rfl (by rfl) (by kernel_rfl) (by kernel_rfl) (by kernel_rfl) (by kernel_rfl) (fun _ _ _ h => h) (Or.inr ⟨by rfl, rfl⟩) K5.out ?_
      simp only [Act.put, List.setIfInBounds_toArray, List.set_cons_zero, List.set_cons_succ]
      refine wpAnyX_take (i := 30) [31, 32, 33] (some 36) (v := undef) rfl (by rfl) (by kernel_rfl) (by kernel_rfl) (by kernel_rfl) (by kernel_rfl) (fun _ _ _ h => h) (Or.inr ⟨by rfl, rfl⟩) K5.out ?_
      simp only [Act.put, List.setIfInBounds_toArray, List.set_cons_zero, List.set_cons_succ]
      refine wpAnyX_take (i := 31) [32, 33] (some 37) (v := undef) rfl (by rfl) (by kernel_rfl) (by kernel_rfl) (by kernel_rfl) (by kernel_rfl) (fun _ _ _ h => h) (Or.inr ⟨by rfl, rfl⟩) K5.out ?_
      simp only [Act.put, List.setIfInBounds_toArray, List.set_cons_zero, List.set_cons_succ]
      refine wpAnyX_take (i := 32) [33] (some 38) (v := undef) rfl (by rfl) (by kernel_rfl) (by kernel_rfl) (by kernel_rfl) (by kernel_rfl) (fun _ _ _ h => h) (Or.inr ⟨by rfl, rfl⟩) K5.out ?_
      simp only [Act.put, List.setIfInBounds_toArray, List.set_cons_zero, List.set_cons_succ]
      refine wpAnyX_take (i := 33) [] (some 39) (v := ?_) rfl (by rfl) (by kernel_rfl) (by kernel_rfl) (by kernel_rfl) (by kernel_rfl) (fun _ _ _ h => h) (Or.inl ⟨by rfl, ?_⟩) K5.out ?_
      rotate_left
      focus (intro w' hSw; (try dsimp only at hSw); go_simp; try with_reducible rfl)
      simp only [Act.put, List.setIfInBounds_toArray, List.set_cons_zero, List.set_cons_succ]
      refine wpAnyX_done (by kernel_rfl) ?_ _
      clear k3 hS
      have HE := hid (show handleF s m = (s, none) from if_pos (.inr (.inl MC.out)))
      have hbm := K5.out.heap HBM2.out id
      have HMC := hid (HM2.out.keep K5.out)
      go_wp2_with (first
        | (refine wpl_build rfl rfl (msgCs msgZ nilV nilV nilV nilV).toArray (by kernel_rfl) ?_)
        | (refine wpl_storeB (v := zM) rfl rfl rfl rfl hbm msgL_z.info msgL_z.fit msgL_z.oneA ?_; intro w9 hb9 k9 s9))
      refine bodyPost_ret (res_cell_tmp (g := gm) (cs := (msgCs msgZ nilV nilV nilV nilV).toArray) (v := .bool false) Try.results10 _ rfl rfl (hb9.trans (msgL_z.whole rfl)) (by kernel_rfl) (by kernel_rfl)) rfl ?_
      rw [HE.out]
      exact Ans.none HG.out K2.out HGE.out.1 (((Keep.refl (fun _ => False) w2).drew.trans K5.out (fun _ _ f => f)).mono (fun _ _ f => f.elim)) k9 HGL.out HMC.out.at
    | true =>
      have MC := hid hmc
      clear hmc
      by_cases p2 : m.to = 100 + s.id
      case neg =>
        have d2 : (m.to != 100 + s.id) = true := by simp [p2]
        have P2 := hid p2
        clear p2
        go_wp2_with fail
        refine wp_region_X (fun y => Keep (fun _ => False) w2.drew y) [] (by kernel_rfl) hS (fun _ => ?_)
        refine wpAnyX_take (i := 0) [1, 2, 3, 4, 5, 6, 7, 8, 9, 10, 11, 12, 13, 14, 15, 16, 17, 18, 19, 20, 21, 22, 23, 24, 25, 26, 27, 28, 29, 30, 31, 32, 33] (some 6) (v := ?_) rfl (by rfl) (by kernel_rfl) (by kernel_rfl) (by kernel_rfl) (by kernel_rfl) (fun _ _ _ h => h) (Or.inl ⟨by rfl, ?_⟩) hS ?_
        rotate_left
        focus (intro w' hSw; (try dsimp only at hSw); go_simp; try with_reducible rfl)
        simp only [Act.put, List.setIfInBounds_toArray, List.set_cons_zero, List.set_cons_succ]
        refine wpAnyX_one (i := 1) (by kernel_rfl) rfl (fun K hK => ?_)
        refine step_call (some 7) (by rfl) (by rfl) rfl EM.out (by rfl) HMADE.out ?_
        rintro u w3 ⟨rfl, k3⟩
        have K3 := hid k3
        refine hK _ _ (k3) ?_
        clear hK K
        simp only [Act.put, List.setIfInBounds_toArray, List.set_cons_zero, List.set_cons_succ]
        refine wpAnyX_take (i := 2) [3, 4, 5, 6, 7, 8, 9, 10, 11, 12, 13, 14, 15, 16, 17, 18, 19, 20, 21, 22, 23, 24, 25, 26, 27, 28, 29, 30, 31, 32, 33] (some 8) (v := ?_) rfl (by rfl) (by kernel_rfl) (by kernel_rfl) (by kernel_rfl) (by kernel_rfl) (fun _ _ _ h => h) (Or.inl ⟨by rfl, ?_⟩) k3 ?_
        rotate_left
        focus (intro w' hSw; (try dsimp only at hSw); go_simp; try with_reducible rfl)
        simp only [Act.put, List.setIfInBounds_toArray, List.set_cons_zero, List.set_cons_succ]
        refine wpAnyX_take (i := 3) [4, 5, 6, 7, 8, 9, 10, 11, 12, 13, 14, 15, 16, 17, 18, 19, 20, 21, 22, 23, 24, 25, 26, 27, 28, 29, 30, 31, 32, 33] (some 9) (v := ?_) rfl (by rfl) (by kernel_rfl) (by kernel_rfl) (by kernel_rfl) (by kernel_rfl) (fun _ _ _ h => h) (Or.inl ⟨by rfl, ?_⟩) k3 ?_
        rotate_left
        focus (intro w' hSw; (try dsimp only at hSw); go_simp; try with_reducible rfl)
        simp only [Act.put, List.setIfInBounds_toArray, List.set_cons_zero, List.set_cons_succ]
        refine wpAnyX_take (i := 4) [5, 6, 7, 8, 9, 10, 11, 12, 13, 14, 15, 16, 17, 18, 19, 20, 21, 22, 23, 24, 25, 26, 27, 28, 29, 30, 31, 32, 33] (some 10) (v := ?_) rfl (by rfl) (by kernel_rfl) (by kernel_rfl) (by kernel_rfl) (by kernel_rfl) (fun _ _ _ h => h) (Or.inl ⟨by rfl, ?_⟩) k3 ?_
        rotate_left
        focus (intro w' hSw; (try dsimp only at hSw); go_simp; try with_reducible rfl)
        simp only [Act.put, List.setIfInBounds_toArray, List.set_cons_zero, List.set_cons_succ]
        refine wpAnyX_take (i := 5) [6, 7, 8, 9, 10, 11, 12, 13, 14, 15, 16, 17, 18, 19, 20, 21, 22, 23, 24, 25, 26, 27, 28, 29, 30, 31, 32, 33] (some 11) (v := ?_) rfl (by rfl) (by kernel_rfl) (by kernel_rfl) (by kernel_rfl) (by kernel_rfl) (fun _ _ _ h => h) (Or.inl ⟨by rfl, ?_⟩) k3 ?_
        rotate_left
        focus (intro w' hSw; (try dsimp only at hSw); go_simp; try with_reducible rfl)
        simp only [Act.put, List.setIfInBounds_toArray, List.set_cons_zero, List.set_cons_succ]
        refine wpAnyX_take (i := 6) [7, 8, 9, 10, 11, 12, 13, 14, 15, 16, 17, 18, 19, 20, 21, 22, 23, 24, 25, 26, 27, 28, 29, 30, 31, 32, 33] (some 12) (v := ?_) rfl (by rfl) (by kernel_rfl) (by kernel_rfl) (by kernel_rfl) (by kernel_rfl) (fun _ _ _ h => h) (Or.inl ⟨by rfl, ?_⟩) k3 ?_
        rotate_left
        focus (intro w' hSw; (try dsimp only at hSw); go_simp; try with_reducible rfl)
        simp only [Act.put, List.setIfInBounds_toArray, List.set_cons_zero, List.set_cons_succ]
        refine wpAnyX_take (i := 7) [8, 9, 10, 11, 12, 13, 14, 15, 16, 17, 18, 19, 20, 21, 22, 23, 24, 25, 26, 27, 28, 29, 30, 31, 32, 33] (some 13) (v := _) rfl (by rfl) (by kernel_rfl) (by kernel_rfl) (by kernel_rfl) (by kernel_rfl) (fun _ _ _ h => h) (yieldsIf_cell (v := .bool true) (by rfl) rfl (by rfl) (by kernel_rfl) (fun y hy => cell_at (hy.heap HO'.out id) 10 _ rfl)) k3 ?_
        simp only [Act.put, List.setIfInBounds_toArray, List.set_cons_zero, List.set_cons_succ]
        refine wpAnyX_take (i := 8) [9, 10, 11, 12, 13, 14, 15, 16, 17, 18, 19, 20, 21, 22, 23, 24, 25, 26, 27, 28, 29, 30, 31, 32, 33] (some 14) (v := ?_) rfl (by rfl) (by kernel_rfl) (by kernel_rfl) (by kernel_rfl) (by kernel_rfl) (fun _ _ _ h => h) (Or.inl ⟨by rfl, ?_⟩) k3 ?_
        rotate_left
        focus (intro w' hSw; (try dsimp only at hSw); go_simp; try with_reducible rfl)
        simp only [Act.put, List.setIfInBounds_toArray, List.set_cons_zero, List.set_cons_succ]
        refine wpAnyX_take (i := 9) [10, 11, 12, 13, 14, 15, 16, 17, 18, 19, 20, 21, 22, 23, 24, 25, 26, 27, 28, 29, 30, 31, 32, 33] (some 15) (v := ?_) rfl (by rfl) (by kernel_rfl) (by kernel_rfl) (by kernel_rfl) (by kernel_rfl) (fun _ _ _ h => h) (Or.inl ⟨by rfl, ?_⟩) k3 ?_
        rotate_left
        focus (intro w' hSw; (try dsimp only at hSw); go_simp; try with_reducible rfl)
        simp only [Act.put, List.setIfInBounds_toArray, List.set_cons_zero, List.set_cons_succ]
        refine wpAnyX_take (i := 10) [11, 12, 13, 14, 15, 16, 17, 18, 19, 20, 21, 22, 23, 24, 25, 26, 27, 28, 29, 30, 31, 32, 33] (some 16) (v := ?_) rfl (by rfl) (by kernel_rfl) (by kernel_rfl) (by kernel_rfl) (by kernel_rfl) (fun _ _ _ h => h) (Or.inl ⟨by rfl, ?_⟩) k3 ?_
        rotate_left
        focus (intro w' hSw; (try dsimp only at hSw); go_simp; try with_reducible rfl)
        simp only [Act.put, List.setIfInBounds_toArray, List.set_cons_zero, List.set_cons_succ]
        refine wpAnyX_take (i := 11) [12, 13, 14, 15, 16, 17, 18, 19, 20, 21, 22, 23, 24, 25, 26, 27, 28, 29, 30, 31, 32, 33] (some 17) (v := _) rfl (by rfl) (by kernel_rfl) (by kernel_rfl) (by kernel_rfl) (by kernel_rfl) (fun _ _ _ h => h) (yieldsIf_row (n := 27) (vs := ms) (by rfl) rfl (by rfl) (by kernel_rfl) (by kernel_rfl) HL.out.len (fun y hy => range_of (n := 27) (hy.heap HB32.out id) _ (by simpa using HL.out.take))) k3 ?_
        simp only [Act.put, List.setIfInBounds_toArray, List.set_cons_zero, List.set_cons_succ]
        refine wpAnyX_one (i := 12) (by kernel_rfl) rfl (fun K hK => ?_)
        have HCC := hid ((mcheckA (Rep.msg.keep HMS.out (KD.out.trans K3.out (fun _ _ f => f)) (fun _ _ => id)) (fun q hq => Nat.lt_of_lt_of_le (HF.out q hq) (KD.out.trans K3.out (fun _ _ f => f)).size)).mono (R' := fun e w' => ∃ u, e = .returned u ∧ (u = .int .i64 0 ∧ Keep (fun _ => False) w3 w')) (fun e w' h => ⟨_, h.1, by rw [MC.out]; rfl, h.2⟩))
        refine step_call (some 18) (by rfl) (by rfl) rfl EC.out (by rfl) HCC.out ?_
        rintro u w5 ⟨rfl, k5⟩
        have K5 := hid (K3.out.trans k5 (fun _ _ f => f))
        clear k5 HCC
        refine hK _ _ (K5.out) ?_
        clear hK K
        simp only [Act.put, List.setIfInBounds_toArray, List.set_cons_zero, List.set_cons_succ]
        refine wpAnyX_take (i := 13) [14, 15, 16, 17, 18, 19, 20, 21, 22, 23, 24, 25, 26, 27, 28, 29, 30, 31, 32, 33] (some 19) (v := ?_) rfl (by rfl) (by kernel_rfl) (by kernel_rfl) (by kernel_rfl) (by kernel_rfl) (fun _ _ _ h => h) (Or.inl ⟨by rfl, ?_⟩) K5.out ?_
        rotate_left
        focus (intro w' hSw; (try dsimp only at hSw); go_simp; try with_reducible rfl)
        simp only [Act.put, List.setIfInBounds_toArray, List.set_cons_zero, List.set_cons_succ]
        refine wpAnyX_take (i := 14) [15, 16, 17, 18, 19, 20, 21, 22, 23, 24, 25, 26, 27, 28, 29, 30, 31, 32, 33] (some 20) (v := ?_) rfl (by rfl) (by kernel_rfl) (by kernel_rfl) (by kernel_rfl) (by kernel_rfl) (fun _ _ _ h => h) (Or.inl ⟨by rfl, ?_⟩) K5.out ?_
        rotate_left
        focus (intro w' hSw; (try dsimp only at hSw); go_simp; try with_reducible rfl)
        simp only [Act.put, List.setIfInBounds_toArray, List.set_cons_zero, List.set_cons_succ]
        refine wpAnyX_take (i := 15) [16, 17, 18, 19, 20, 21, 22, 23, 24, 25, 26, 27, 28, 29, 30, 31, 32, 33] (some 21) (v := ?_) rfl (by rfl) (by kernel_rfl) (by kernel_rfl) (by kernel_rfl) (by kernel_rfl) (fun _ _ _ h => h) (Or.inl ⟨by rfl, ?_⟩) K5.out ?_
        rotate_left
        focus (intro w' hSw; (try dsimp only at hSw); go_simp; try with_reducible rfl)
        simp only [Act.put, List.setIfInBounds_toArray, List.set_cons_zero, List.set_cons_succ]
        refine wpAnyX_take (i := 16) [17, 23, 24, 25, 26, 27, 28, 29, 30, 31, 32, 33] (some 22) (v := ?_) rfl (by rfl) (by kernel_rfl) (by kernel_rfl) (by kernel_rfl) (by kernel_rfl) (fun _ _ _ h => h) (Or.inl ⟨by rfl, ?_⟩) K5.out ?_
        rotate_left
        focus (intro w' hSw; (try dsimp only at hSw); go_simp; try with_reducible rfl)
        simp only [Act.put, List.setIfInBounds_toArray, List.set_cons_zero, List.set_cons_succ]
        refine wpAnyX_take (i := 17) [23, 24, 25, 26, 27, 28, 29, 30, 31, 32, 33] (some 23) (v := _) rfl (by rfl) (by kernel_rfl) (by kernel_rfl) (by kernel_rfl) (by kernel_rfl) (fun _ _ _ h => h) (yieldsIf_cell (v := .int .i64 m.to) (by rfl) rfl (by rfl) (by kernel_rfl) (fun y hy => cell_at (hy.heap HB32.out id) 2 _ (by simpa using E2.out))) K5.out ?_
        simp only [Act.put, List.setIfInBounds_toArray, List.set_cons_zero, List.set_cons_succ]
        refine wpAnyX_take (i := 18) [19, 20, 21, 22, 23, 24, 25, 26, 27, 28, 29, 30, 31, 32, 33] (some 24) (v := ?_) rfl (by rfl) (by kernel_rfl) (by kernel_rfl) (by kernel_rfl) (by kernel_rfl) (fun _ _ _ h => h) (Or.inl ⟨by rfl, ?_⟩) K5.out ?_
        rotate_left
        focus (intro w' hSw; (try dsimp only at hSw); go_simp; try with_reducible rfl)
        simp only [Act.put, List.setIfInBounds_toArray, List.set_cons_zero, List.set_cons_succ]
        refine wpAnyX_take (i := 19) [20, 21, 22, 23, 24, 25, 26, 27, 28, 29, 30, 31, 32, 33] (some 25) (v := ?_) rfl (by rfl) (by kernel_rfl) (by kernel_rfl) (by kernel_rfl) (by kernel_rfl) (fun _ _ _ h => h) (Or.inl ⟨by rfl, ?_⟩) K5.out ?_
        rotate_left
        focus (intro w' hSw; (try dsimp only at hSw); go_simp; try with_reducible rfl)
        simp only [Act.put, List.setIfInBounds_toArray, List.set_cons_zero, List.set_cons_succ]
        refine wpAnyX_take (i := 20) [21, 22, 23, 24, 25, 26, 27, 28, 29, 30, 31, 32, 33] (some 26) (v := ?_) rfl (by rfl) (by kernel_rfl) (by kernel_rfl) (by kernel_rfl) (by kernel_rfl) (fun _ _ _ h => h) (Or.inl ⟨by rfl, ?_⟩) K5.out ?_
        rotate_left
        focus (intro w' hSw; (try dsimp only at hSw); go_simp; try with_reducible rfl)
        simp only [Act.put, List.setIfInBounds_toArray, List.set_cons_zero, List.set_cons_succ]
        refine wpAnyX_take (i := 21) [22, 23, 24, 25, 26, 27, 28, 29, 30, 31, 32, 33] (some 27) (v := _) rfl (by rfl) (by kernel_rfl) (by kernel_rfl) (by kernel_rfl) (by kernel_rfl) (fun _ _ _ h => h) (yieldsIf_cell (v := .int .i64 s.id) (by rfl) rfl (by rfl) (by kernel_rfl) (fun y hy => cell_at (hy.heap HO'.out id) 0 _ rfl)) K5.out ?_
        simp only [Act.put, List.setIfInBounds_toArray, List.set_cons_zero, List.set_cons_succ]
        refine wpAnyX_take (i := 22) [23, 24, 25, 26, 27, 28, 29, 30, 31, 32, 33] (some 28) (v := ?_) rfl (by rfl) (by kernel_rfl) (by kernel_rfl) (by kernel_rfl) (by kernel_rfl) (fun _ _ _ h => h) (Or.inl ⟨by rfl, ?_⟩) K5.out ?_
        rotate_left
        focus (intro w' hSw; (try dsimp only at hSw); go_simp; try with_reducible rfl)
        simp only [Act.put, List.setIfInBounds_toArray, List.set_cons_zero, List.set_cons_succ]
        refine wpAnyX_take (i := 23) [24, 25, 26, 27, 28, 29, 30, 31, 32, 33] (some 29) (v := ?_) rfl (by rfl) (by kernel_rfl) (by kernel_rfl) (by kernel_rfl) (by kernel_rfl) (fun _ _ _ h => h) (Or.inl ⟨by rfl, ?_⟩) K5.out ?_
        rotate_left
        focus (intro w' hSw; (try dsimp only at hSw); go_simp; try with_reducible rfl)
        simp only [Act.put, List.setIfInBounds_toArray, List.set_cons_zero, List.set_cons_succ]
        refine wpAnyX_take (i := 24) [25, 26, 27, 28, 29, 30, 31, 32, 33] (some 30) (v := ?_) rfl (by rfl) (by kernel_rfl) (by kernel_rfl) (by kernel_rfl) (by kernel_rfl) (fun _ _ _ h => h) (Or.inl ⟨by rfl, ?_⟩) K5.out ?_
        rotate_left
        focus (intro w' hSw; (try dsimp only at hSw); go_simp; try with_reducible rfl)
        simp only [Act.put, List.setIfInBounds_toArray, List.set_cons_zero, List.set_cons_succ]
        refine wpAnyX_take (i := 25) [26, 27, 28, 29, 30, 31, 32, 33] (some 31) (v := ?_) rfl (by rfl) (by kernel_rfl) (by kernel_rfl) (by kernel_rfl) (by kernel_rfl) (fun _ _ _ h => h) (Or.inl ⟨by rfl, ?_⟩) K5.out ?_
        rotate_left
        focus (intro w' hSw; (try dsimp only at hSw); go_simp; try with_reducible rfl)
        simp only [Act.put, List.setIfInBounds_toArray, List.set_cons_zero, List.set_cons_succ]
        refine wpAnyX_take (i := 26) [27, 32, 33] (some 32) (v := undef) rfl (by rfl) (by kernel_rfl) (by kernel_rfl) (by kernel_rfl) (by kernel_rfl) (fun _ _ _ h => h) (Or.inr ⟨by rfl, rfl⟩) K5.out ?_
        simp only [Act.put, List.setIfInBounds_toArray, List.set_cons_zero, List.set_cons_succ]
        refine wpAnyX_take (i := 27) [32, 33] (some 33) (v := undef) rfl (by rfl) (by kernel_rfl) (by kernel_rfl) (by kernel_rfl) (by kernel_rfl) (fun _ _ _ h => h) (Or.inr ⟨by rfl, rfl⟩) K5.out ?_
        simp only [Act.put, List.setIfInBounds_toArray, List.set_cons_zero, List.set_cons_succ]
        refine wpAnyX_take (i := 28) [29, 30, 31, 32, 33] (some 34) (v := undef) rfl (by rfl) (by kernel_rfl) (by kernel_rfl) (by kernel_rfl) (by kernel_rfl) (fun _ _ _ h => h) (Or.inr ⟨by rfl, rfl⟩) K5.out ?_
        simp only [Act.put, List.setIfInBounds_toArray, List.set_cons_zero, List.set_cons_succ]
        refine wpAnyX_take (i := 29) [30, 31, 32, 33] (some 35) (v := undef) rfl (by rfl) (by kernel_rfl) (by kernel_rfl) (by kernel_rfl) (by kernel_rfl) (fun _ _ _ h => h) (Or.inr ⟨by rfl, rfl⟩) K5.out ?_
        simp only [Act.put, List.setIfInBounds_toArray, List.set_cons_zero, List.set_cons_succ]
        refine wpAnyX_take (i := 30) [31, 32, 33] (some 36) (v := undef) rfl (by rfl) (by kernel_rfl) (by kernel_rfl) (by kernel_rfl) (by kernel_rfl) (fun _ _ _ h => h) (Or.inr ⟨by rfl, rfl⟩) K5.out ?_
        simp only [Act.put, List.setIfInBounds_toArray, List.set_cons_zero, List.set_cons_succ]
        refine wpAnyX_take (i := 31) [32, 33] (some 37) (v := undef) rfl (by rfl) (by kernel_rfl) (by kernel_rfl) (by kernel_rfl) (by kernel_rfl) (fun _ _ _ h => h) (Or.inr ⟨by rfl, rfl⟩) K5.out ?_
        simp only [Act.put, List.setIfInBounds_toArray, List.set_cons_zero, List.set_cons_succ]
        refine wpAnyX_take (i := 32) [33] (some 38) (v := undef) rfl (by rfl) (by kernel_rfl) (by kernel_rfl) (by kernel_rfl) (by kernel_rfl) (fun _ _ _ h => h) (Or.inr ⟨by rfl, rfl⟩) K5.out ?_
        simp only [Act.put, List.setIfInBounds_toArray, List.set_cons_zero, List.set_cons_succ]
        refine wpAnyX_take (i := 33) [] (some 39) (v := ?_) rfl (by rfl) (by kernel_rfl) (by kernel_rfl) (by kernel_rfl) (by kernel_rfl) (fun _ _ _ h => h) (Or.inl ⟨by rfl, ?_⟩) K5.out ?_
        rotate_left
        focus (intro w' hSw; (try dsimp only at hSw); go_simp; try with_reducible rfl)
        simp only [Act.put, List.setIfInBounds_toArray, List.set_cons_zero, List.set_cons_succ]
        refine wpAnyX_done (by kernel_rfl) ?_ _
        clear k3 hS
        have HE := hid (show handleF s m = (s, none) from if_pos (.inr (.inr (.inl P2.out))))
        have hbm := K5.out.heap HBM2.out id
        have HMC := hid (HM2.out.keep K5.out)
        go_wp2_with (first
          | (refine wpl_build rfl rfl (msgCs msgZ nilV nilV nilV nilV).toArray (by kernel_rfl) ?_)
          | (refine wpl_storeB (v := zM) rfl rfl rfl rfl hbm msgL_z.info msgL_z.fit msgL_z.oneA ?_; intro w9 hb9 k9 s9))
        refine bodyPost_ret (res_cell_tmp (g := gm) (cs := (msgCs msgZ nilV nilV nilV nilV).toArray) (v := .bool false) Try.results10 _ rfl rfl (hb9.trans (msgL_z.whole rfl)) (by kernel_rfl) (by kernel_rfl)) rfl ?_
        rw [HE.out]
        exact Ans.none HG.out K2.out HGE.out.1 (((Keep.refl (fun _ => False) w2).drew.trans K5.out (fun _ _ f => f)).mono (fun _ _ f => f.elim)) k9 HGL.out HMC.out.at
      have d2 : (m.to != 100 + s.id) = false := by simp [p2]
      have P2 := hid p2
      clear p2
      by_cases p3 : m.number = s.number
      case neg =>
        have d3 : (m.number != s.number) = true := by simp [p3]
        have P3 := hid p3
        clear p3
        go_wp2_with fail
        refine wp_region_X (fun y => Keep (fun _ => False) w2.drew y) [] (by kernel_rfl) hS (fun _ => ?_)
        refine wpAnyX_take (i := 0) [1, 2, 3, 4, 5, 6, 7, 8, 9, 10, 11, 12, 13, 14, 15, 16, 17, 18, 19, 20, 21, 22, 23, 24, 25, 26, 27, 28, 29, 30, 31, 32, 33] (some 6) (v := ?_) rfl (by rfl) (by kernel_rfl) (by kernel_rfl) (by kernel_rfl) (by kernel_rfl) (fun _ _ _ h => h) (Or.inl ⟨by rfl, ?_⟩) hS ?_
        rotate_left
        focus (intro w' hSw; (try dsimp only at hSw); go_simp; try with_reducible rfl)
        simp only [Act.put, List.setIfInBounds_toArray, List.set_cons_zero, List.set_cons_succ]
        refine wpAnyX_one (i := 1) (by kernel_rfl) rfl (fun K hK => ?_)
        refine step_call (some 7) (by rfl) (by rfl) rfl EM.out (by rfl) HMADE.out ?_
        rintro u w3 ⟨rfl, k3⟩
        have K3 := hid k3
        refine hK _ _ (k3) ?_
        clear hK K
        simp only [Act.put, List.setIfInBounds_toArray, List.set_cons_zero, List.set_cons_succ]
        refine wpAnyX_take (i := 2) [3, 4, 5, 6, 7, 8, 9, 10, 11, 12, 13, 14, 15, 16, 17, 18, 19, 20, 21, 22, 23, 24, 25, 26, 27, 28, 29, 30, 31, 32, 33] (some 8) (v := ?_) rfl (by rfl) (by kernel_rfl) (by kernel_rfl) (by kernel_rfl) (by kernel_rfl) (fun _ _ _ h => h) (Or.inl ⟨by rfl, ?_⟩) k3 ?_
        rotate_left
        focus (intro w' hSw; (try dsimp only at hSw); go_simp; try with_reducible rfl)
        simp only [Act.put, List.setIfInBounds_toArray, List.set_cons_zero, List.set_cons_succ]
        refine wpAnyX_take (i := 3) [4, 5, 6, 7, 8, 9, 10, 11, 12, 13, 14, 15, 16, 17, 18, 19, 20, 21, 22, 23, 24, 25, 26, 27, 28, 29, 30, 31, 32, 33] (some 9) (v := ?_) rfl (by rfl) (by kernel_rfl) (by kernel_rfl) (by kernel_rfl) (by kernel_rfl) (fun _ _ _ h => h) (Or.inl ⟨by rfl, ?_⟩) k3 ?_
        rotate_left
        focus (intro w' hSw; (try dsimp only at hSw); go_simp; try with_reducible rfl)
        simp only [Act.put, List.setIfInBounds_toArray, List.set_cons_zero, List.set_cons_succ]
        refine wpAnyX_take (i := 4) [5, 6, 7, 8, 9, 10, 11, 12, 13, 14, 15, 16, 17, 18, 19, 20, 21, 22, 23, 24, 25, 26, 27, 28, 29, 30, 31, 32, 33] (some 10) (v := ?_) rfl (by rfl) (by kernel_rfl) (by kernel_rfl) (by kernel_rfl) (by kernel_rfl) (fun _ _ _ h => h) (Or.inl ⟨by rfl, ?_⟩) k3 ?_
        rotate_left
        focus (intro w' hSw; (try dsimp only at hSw); go_simp; try with_reducible rfl)
        simp only [Act.put, List.setIfInBounds_toArray, List.set_cons_zero, List.set_cons_succ]
        refine wpAnyX_take (i := 5) [6, 7, 8, 9, 10, 11, 12, 13, 14, 15, 16, 17, 18, 19, 20, 21, 22, 23, 24, 25, 26, 27, 28, 29, 30, 31, 32, 33] (some 11) (v := ?_) rfl (by rfl) (by kernel_rfl) (by kernel_rfl) (by kernel_rfl) (by kernel_rfl) (fun _ _ _ h => h) (Or.inl ⟨by rfl, ?_⟩) k3 ?_
        rotate_left
        focus (intro w' hSw; (try dsimp only at hSw); go_simp; try with_reducible rfl)
        simp only [Act.put, List.setIfInBounds_toArray, List.set_cons_zero, List.set_cons_succ]
        refine wpAnyX_take (i := 6) [7, 8, 9, 10, 11, 12, 13, 14, 15, 16, 17, 18, 19, 20, 21, 22, 23, 24, 25, 26, 27, 28, 29, 30, 31, 32, 33] (some 12) (v := ?_) rfl (by rfl) (by kernel_rfl) (by kernel_rfl) (by kernel_rfl) (by kernel_rfl) (fun _ _ _ h => h) (Or.inl ⟨by rfl, ?_⟩) k3 ?_
        rotate_left
        focus (intro w' hSw; (try dsimp only at hSw); go_simp; try with_reducible rfl)
        simp only [Act.put, List.setIfInBounds_toArray, List.set_cons_zero, List.set_cons_succ]
        refine wpAnyX_take (i := 7) [8, 9, 10, 11, 12, 13, 14, 15, 16, 17, 18, 19, 20, 21, 22, 23, 24, 25, 26, 27, 28, 29, 30, 31, 32, 33] (some 13) (v := _) rfl (by rfl) (by kernel_rfl) (by kernel_rfl) (by kernel_rfl) (by kernel_rfl) (fun _ _ _ h => h) (yieldsIf_cell (v := .bool true) (by rfl) rfl (by rfl) (by kernel_rfl) (fun y hy => cell_at (hy.heap HO'.out id) 10 _ rfl)) k3 ?_
        simp only [Act.put, List.setIfInBounds_toArray, List.set_cons_zero, List.set_cons_succ]
        refine wpAnyX_take (i := 8) [9, 10, 11, 12, 13, 14, 15, 16, 17, 18, 19, 20, 21, 22, 23, 24, 25, 26, 27, 28, 29, 30, 31, 32, 33] (some 14) (v := ?_) rfl (by rfl) (by kernel_rfl) (by kernel_rfl) (by kernel_rfl) (by kernel_rfl) (fun _ _ _ h => h) (Or.inl ⟨by rfl, ?_⟩) k3 ?_
        rotate_left
        focus (intro w' hSw; (try dsimp only at hSw); go_simp; try with_reducible rfl)
        simp only [Act.put, List.setIfInBounds_toArray, List.set_cons_zero, List.set_cons_succ]
        refine wpAnyX_take (i := 9) [10, 11, 12, 13, 14, 15, 16, 17, 18, 19, 20, 21, 22, 23, 24, 25, 26, 27, 28, 29, 30, 31, 32, 33] (some 15) (v := ?_) rfl (by rfl) (by kernel_rfl) (by kernel_rfl) (by kernel_rfl) (by kernel_rfl) (fun _ _ _ h => h) (Or.inl ⟨by rfl, ?_⟩) k3 ?_
        rotate_left
        focus (intro w' hSw; (try dsimp only at hSw); go_simp; try with_reducible rfl)
        simp only [Act.put, List.setIfInBounds_toArray, List.set_cons_zero, List.set_cons_succ]
        refine wpAnyX_take (i := 10) [11, 12, 13, 14, 15, 16, 17, 18, 19, 20, 21, 22, 23, 24, 25, 26, 27, 28, 29, 30, 31, 32, 33] (some 16) (v := ?_) rfl (by rfl) (by kernel_rfl) (by kernel_rfl) (by kernel_rfl) (by kernel_rfl) (fun _ _ _ h => h) (Or.inl ⟨by rfl, ?_⟩) k3 ?_
        rotate_left
        focus (intro w' hSw; (try dsimp only at hSw); go_simp; try with_reducible rfl)
        simp only [Act.put, List.setIfInBounds_toArray, List.set_cons_zero, List.set_cons_succ]
        refine wpAnyX_take (i := 11) [12, 13, 14, 15, 16, 17, 18, 19, 20, 21, 22, 23, 24, 25, 26, 27, 28, 29, 30, 31, 32, 33] (some 17) (v := _) rfl (by rfl) (by kernel_rfl) (by kernel_rfl) (by kernel_rfl) (by kernel_rfl) (fun _ _ _ h => h) (yieldsIf_row (n := 27) (vs := ms) (by rfl) rfl (by rfl) (by kernel_rfl) (by kernel_rfl) HL.out.len (fun y hy => range_of (n := 27) (hy.heap HB32.out id) _ (by simpa using HL.out.take))) k3 ?_
        simp only [Act.put, List.setIfInBounds_toArray, List.set_cons_zero, List.set_cons_succ]
        refine wpAnyX_one (i := 12) (by kernel_rfl) rfl (fun K hK => ?_)
        have HCC := hid ((mcheckA (Rep.msg.keep HMS.out (KD.out.trans K3.out (fun _ _ f => f)) (fun _ _ => id)) (fun q hq => Nat.lt_of_lt_of_le (HF.out q hq) (KD.out.trans K3.out (fun _ _ f => f)).size)).mono (R' := fun e w' => ∃ u, e = .returned u ∧ (u = .int .i64 0 ∧ Keep (fun _ => False) w3 w')) (fun e w' h => ⟨_, h.1, by rw [MC.out]; rfl, h.2⟩))
        refine step_call (some 18) (by rfl) (by rfl) rfl EC.out (by rfl) HCC.out ?_
        rintro u w5 ⟨rfl, k5⟩
        have K5 := hid (K3.out.trans k5 (fun _ _ f => f))
        clear k5 HCC
        refine hK _ _ (K5.out) ?_
        clear hK K
        simp only [Act.put, List.setIfInBounds_toArray, List.set_cons_zero, List.set_cons_succ]
        refine wpAnyX_take (i := 13) [14, 15, 16, 17, 18, 19, 20, 21, 22, 23, 24, 25, 26, 27, 28, 29, 30, 31, 32, 33] (some 19) (v := ?_) rfl (by rfl) (by kernel_rfl) (by kernel_rfl) (by kernel_rfl) (by kernel_rfl) (fun _ _ _ h => h) (Or.inl ⟨by rfl, ?_⟩) K5.out ?_
        rotate_left
        focus (intro w' hSw; (try dsimp only at hSw); go_simp; try with_reducible rfl)
        simp only [Act.put, List.setIfInBounds_toArray, List.set_cons_zero, List.set_cons_succ]
        refine wpAnyX_take (i := 14) [15, 16, 17, 18, 19, 20, 21, 22, 23, 24, 25, 26, 27, 28, 29, 30, 31, 32, 33] (some 20) (v := ?_) rfl (by rfl) (by kernel_rfl) (by kernel_rfl) (by kernel_rfl) (by kernel_rfl) (fun _ _ _ h => h) (Or.inl ⟨by rfl, ?_⟩) K5.out ?_
        rotate_left
        focus (intro w' hSw; (try dsimp only at hSw); go_simp; try with_reducible rfl)
        simp only [Act.put, List.setIfInBounds_toArray, List.set_cons_zero, List.set_cons_succ]
        refine wpAnyX_take (i := 15) [16, 17, 18, 19, 20, 21, 22, 23, 24, 25, 26, 27, 28, 29, 30, 31, 32, 33] (some 21) (v := ?_) rfl (by rfl) (by kernel_rfl) (by kernel_rfl) (by kernel_rfl) (by kernel_rfl) (fun _ _ _ h => h) (Or.inl ⟨by rfl, ?_⟩) K5.out ?_
        rotate_left
        focus (intro w' hSw; (try dsimp only at hSw); go_simp; try with_reducible rfl)
        simp only [Act.put, List.setIfInBounds_toArray, List.set_cons_zero, List.set_cons_succ]
        refine wpAnyX_take (i := 16) [17, 23, 24, 25, 26, 27, 28, 29, 30, 31, 32, 33] (some 22) (v := ?_) rfl (by rfl) (by kernel_rfl) (by kernel_rfl) (by kernel_rfl) (by kernel_rfl) (fun _ _ _ h => h) (Or.inl ⟨by rfl, ?_⟩) K5.out ?_
        rotate_left
        focus (intro w' hSw; (try dsimp only at hSw); go_simp; try with_reducible rfl)
        simp only [Act.put, List.setIfInBounds_toArray, List.set_cons_zero, List.set_cons_succ]
        refine wpAnyX_take (i := 17) [23, 24, 25, 26, 27, 28, 29, 30, 31, 32, 33] (some 23) (v := _) rfl (by rfl) (by kernel_rfl) (by kernel_rfl) (by kernel_rfl) (by kernel_rfl) (fun _ _ _ h => h) (yieldsIf_cell (v := .int .i64 m.to) (by rfl) rfl (by rfl) (by kernel_rfl) (fun y hy => cell_at (hy.heap HB32.out id) 2 _ (by simpa using E2.out))) K5.out ?_
        simp only [Act.put, List.setIfInBounds_toArray, List.set_cons_zero, List.set_cons_succ]
        refine wpAnyX_take (i := 18) [19, 20, 21, 22, 23, 24, 25, 26, 27, 28, 29, 30, 31, 32, 33] (some 24) (v := ?_) rfl (by rfl) (by kernel_rfl) (by kernel_rfl) (by kernel_rfl) (by kernel_rfl) (fun _ _ _ h => h) (Or.inl ⟨by rfl, ?_⟩) K5.out ?_
        rotate_left
        focus (intro w' hSw; (try dsimp only at hSw); go_simp; try with_reducible rfl)
        simp only [Act.put, List.setIfInBounds_toArray, List.set_cons_zero, List.set_cons_succ]
        refine wpAnyX_take (i := 19) [20, 21, 22, 23, 24, 25, 26, 27, 28, 29, 30, 31, 32, 33] (some 25) (v := ?_) rfl (by rfl) (by kernel_rfl) (by kernel_rfl) (by kernel_rfl) (by kernel_rfl) (fun _ _ _ h => h) (Or.inl ⟨by rfl, ?_⟩) K5.out ?_
        rotate_left
        focus (intro w' hSw; (try dsimp only at hSw); go_simp; try with_reducible rfl)
        simp only [Act.put, List.setIfInBounds_toArray, List.set_cons_zero, List.set_cons_succ]
        refine wpAnyX_take (i := 20) [21, 22, 23, 24, 25, 26, 27, 28, 29, 30, 31, 32, 33] (some 26) (v := ?_) rfl (by rfl) (by kernel_rfl) (by kernel_rfl) (by kernel_rfl) (by kernel_rfl) (fun _ _ _ h => h) (Or.inl ⟨by rfl, ?_⟩) K5.out ?_
        rotate_left
        focus (intro w' hSw; (try dsimp only at hSw); go_simp; try with_reducible rfl)
        simp only [Act.put, List.setIfInBounds_toArray, List.set_cons_zero, List.set_cons_succ]
        refine wpAnyX_take (i := 21) [22, 23, 24, 25, 26, 27, 28, 29, 30, 31, 32, 33] (some 27) (v := _) rfl (by rfl) (by kernel_rfl) (by kernel_rfl) (by kernel_rfl) (by kernel_rfl) (fun _ _ _ h => h) (yieldsIf_cell (v := .int .i64 s.id) (by rfl) rfl (by rfl) (by kernel_rfl) (fun y hy => cell_at (hy.heap HO'.out id) 0 _ rfl)) K5.out ?_
        simp only [Act.put, List.setIfInBounds_toArray, List.set_cons_zero, List.set_cons_succ]
        refine wpAnyX_take (i := 22) [23, 24, 25, 26, 27, 28, 29, 30, 31, 32, 33] (some 28) (v := ?_) rfl (by rfl) (by kernel_rfl) (by kernel_rfl) (by kernel_rfl) (by kernel_rfl) (fun _ _ _ h => h) (Or.inl ⟨by rfl, ?_⟩) K5.out ?_
        rotate_left
        focus (intro w' hSw; (try dsimp only at hSw); go_simp; try with_reducible rfl)
        simp only [Act.put, List.setIfInBounds_toArray, List.set_cons_zero, List.set_cons_succ]
        refine wpAnyX_take (i := 23) [24, 25, 26, 27, 28, 29, 30, 31, 32, 33] (some 29) (v := ?_) rfl (by rfl) (by kernel_rfl) (by kernel_rfl) (by kernel_rfl) (by kernel_rfl) (fun _ _ _ h => h) (Or.inl ⟨by rfl, ?_⟩) K5.out ?_
        rotate_left
        focus (intro w' hSw; (try dsimp only at hSw); go_simp; try with_reducible rfl)
        simp only [Act.put, List.setIfInBounds_toArray, List.set_cons_zero, List.set_cons_succ]
        refine wpAnyX_take (i := 24) [25, 26, 27, 28, 29, 30, 31, 32, 33] (some 30) (v := ?_) rfl (by rfl) (by kernel_rfl) (by kernel_rfl) (by kernel_rfl) (by kernel_rfl) (fun _ _ _ h => h) (Or.inl ⟨by rfl, ?_⟩) K5.out ?_
        rotate_left
        focus (intro w' hSw; (try dsimp only at hSw); go_simp; try with_reducible rfl)
        simp only [Act.put, List.setIfInBounds_toArray, List.set_cons_zero, List.set_cons_succ]
        refine wpAnyX_take (i := 25) [26, 27, 28, 29, 30, 31, 32, 33] (some 31) (v := ?_) rfl (by rfl) (by kernel_rfl) (by kernel_rfl) (by kernel_rfl) (by kernel_rfl) (fun _ _ _ h => h) (Or.inl ⟨by rfl, ?_⟩) K5.out ?_
        rotate_left
        focus (intro w' hSw; (try dsimp only at hSw); go_simp; try with_reducible rfl)
        simp only [Act.put, List.setIfInBounds_toArray, List.set_cons_zero, List.set_cons_succ]
        refine wpAnyX_take (i := 26) [27, 32, 33] (some 32) (v := ?_) rfl (by rfl) (by kernel_rfl) (by kernel_rfl) (by kernel_rfl) (by kernel_rfl) (fun _ _ _ h => h) (Or.inl ⟨by rfl, ?_⟩) K5.out ?_
        rotate_left
        focus (intro w' hSw; (try dsimp only at hSw); go_simp; try with_reducible rfl)
        simp only [Act.put, List.setIfInBounds_toArray, List.set_cons_zero, List.set_cons_succ]
        refine wpAnyX_take (i := 27) [32, 33] (some 33) (v := _) rfl (by rfl) (by kernel_rfl) (by kernel_rfl) (by kernel_rfl) (by kernel_rfl) (fun _ _ _ h => h) (yieldsIf_cell (v := .int .i64 m.number) (by rfl) rfl (by rfl) (by kernel_rfl) (fun y hy => cell_at (hy.heap HB32.out id) 19 _ (by simpa using E19.out))) K5.out ?_
        simp only [Act.put, List.setIfInBounds_toArray, List.set_cons_zero, List.set_cons_succ]
        refine wpAnyX_take (i := 28) [29, 30, 31, 32, 33] (some 34) (v := ?_) rfl (by rfl) (by kernel_rfl) (by kernel_rfl) (by kernel_rfl) (by kernel_rfl) (fun _ _ _ h => h) (Or.inl ⟨by rfl, ?_⟩) K5.out ?_
        rotate_left
        focus (intro w' hSw; (try dsimp only at hSw); go_simp; try with_reducible rfl)
        simp only [Act.put, List.setIfInBounds_toArray, List.set_cons_zero, List.set_cons_succ]
        refine wpAnyX_take (i := 29) [30, 31, 32, 33] (some 35) (v := ?_) rfl (by rfl) (by kernel_rfl) (by kernel_rfl) (by kernel_rfl) (by kernel_rfl) (fun _ _ _ h => h) (Or.inl ⟨by rfl, ?_⟩) K5.out ?_
        rotate_left
        focus (intro w' hSw; (try dsimp only at hSw); go_simp; try with_reducible rfl)
        simp only [Act.put, List.setIfInBounds_toArray, List.set_cons_zero, List.set_cons_succ]
        refine wpAnyX_take (i := 30) [31, 32, 33] (some 36) (v := ?_) rfl (by rfl) (by kernel_rfl) (by kernel_rfl) (by kernel_rfl) (by kernel_rfl) (fun _ _ _ h => h) (Or.inl ⟨by rfl, ?_⟩) K5.out ?_
        rotate_left
        focus (intro w' hSw; (try dsimp only at hSw); go_simp; try with_reducible rfl)
        simp only [Act.put, List.setIfInBounds_toArray, List.set_cons_zero, List.set_cons_succ]
        refine wpAnyX_take (i := 31) [32, 33] (some 37) (v := _) rfl (by rfl) (by kernel_rfl) (by kernel_rfl) (by kernel_rfl) (by kernel_rfl) (fun _ _ _ h => h) (yieldsIf_cell (v := .int .i64 s.number) (by rfl) rfl (by rfl) (by kernel_rfl) (fun y hy => cell_at (hy.heap HO'.out id) 6 _ rfl)) K5.out ?_
        simp only [Act.put, List.setIfInBounds_toArray, List.set_cons_zero, List.set_cons_succ]
        refine wpAnyX_take (i := 32) [33] (some 38) (v := ?_) rfl (by rfl) (by kernel_rfl) (by kernel_rfl) (by kernel_rfl) (by kernel_rfl) (fun _ _ _ h => h) (Or.inl ⟨by rfl, ?_⟩) K5.out ?_
        rotate_left
        focus (intro w' hSw; (try dsimp only at hSw); go_simp; try with_reducible rfl)
        simp only [Act.put, List.setIfInBounds_toArray, List.set_cons_zero, List.set_cons_succ]
        refine wpAnyX_take (i := 33) [] (some 39) (v := ?_) rfl (by rfl) (by kernel_rfl) (by kernel_rfl) (by kernel_rfl) (by kernel_rfl) (fun _ _ _ h => h) (Or.inl ⟨by rfl, ?_⟩) K5.out ?_
        rotate_left
        focus (intro w' hSw; (try dsimp only at hSw); go_simp; try with_reducible rfl)
        simp only [Act.put, List.setIfInBounds_toArray, List.set_cons_zero, List.set_cons_succ]
        refine wpAnyX_done (by kernel_rfl) ?_ _
        clear k3 hS
        have HE := hid (show handleF s m = (s, none) from if_pos (.inr (.inr (.inr P3.out))))
        have hbm := K5.out.heap HBM2.out id
        have HMC := hid (HM2.out.keep K5.out)
        go_wp2_with (first
          | (refine wpl_build rfl rfl (msgCs msgZ nilV nilV nilV nilV).toArray (by kernel_rfl) ?_)
          | (refine wpl_storeB (v := zM) rfl rfl rfl rfl hbm msgL_z.info msgL_z.fit msgL_z.oneA ?_; intro w9 hb9 k9 s9))
        refine bodyPost_ret (res_cell_tmp (g := gm) (cs := (msgCs msgZ nilV nilV nilV nilV).toArray) (v := .bool false) Try.results10 _ rfl rfl (hb9.trans (msgL_z.whole rfl)) (by kernel_rfl) (by kernel_rfl)) rfl ?_
        rw [HE.out]
        exact Ans.none HG.out K2.out HGE.out.1 (((Keep.refl (fun _ => False) w2).drew.trans K5.out (fun _ _ f => f)).mono (fun _ _ f => f.elim)) k9 HGL.out HMC.out.at
      have d3 : (m.number != s.number) = false := by simp [p3]
      have P3 := hid p3
      clear p3
      go_wp2_with fail
      refine wp_region_X (fun y => Keep (fun _ => False) w2.drew y) [] (by kernel_rfl) hS (fun _ => ?_)
      refine wpAnyX_take (i := 0) [1, 2, 3, 4, 5, 6, 7, 8, 9, 10, 11, 12, 13, 14, 15, 16, 17, 18, 19, 20, 21, 22, 23, 24, 25, 26, 27, 28, 29, 30, 31, 32, 33] (some 6) (v := ?_) rfl (by rfl) (by kernel_rfl) (by kernel_rfl) (by kernel_rfl) (by kernel_rfl) (fun _ _ _ h => h) (Or.inl ⟨by rfl, ?_⟩) hS ?_
      rotate_left
      focus (intro w' hSw; (try dsimp only at hSw); go_simp; try with_reducible rfl)
      simp only [Act.put, List.setIfInBounds_toArray, List.set_cons_zero, List.set_cons_succ]
      refine wpAnyX_one (i := 1) (by kernel_rfl) rfl (fun K hK => ?_)
      refine step_call (some 7) (by rfl) (by rfl) rfl EM.out (by rfl) HMADE.out ?_
      rintro u w3 ⟨rfl, k3⟩
      have K3 := hid k3
      refine hK _ _ (k3) ?_
      clear hK K
      simp only [Act.put, List.setIfInBounds_toArray, List.set_cons_zero, List.set_cons_succ]
      refine wpAnyX_take (i := 2) [3, 4, 5, 6, 7, 8, 9, 10, 11, 12, 13, 14, 15, 16, 17, 18, 19, 20, 21, 22, 23, 24, 25, 26, 27, 28, 29, 30, 31, 32, 33] (some 8) (v := ?_) rfl (by rfl) (by kernel_rfl) (by kernel_rfl) (by kernel_rfl) (by kernel_rfl) (fun _ _ _ h => h) (Or.inl ⟨by rfl, ?_⟩) k3 ?_
      rotate_left
      focus (intro w' hSw; (try dsimp only at hSw); go_simp; try with_reducible rfl)
      simp only [Act.put, List.setIfInBounds_toArray, List.set_cons_zero, List.set_cons_succ]
      refine wpAnyX_take (i := 3) [4, 5, 6, 7, 8, 9, 10, 11, 12, 13, 14, 15, 16, 17, 18, 19, 20, 21, 22, 23, 24, 25, 26, 27, 28, 29, 30, 31, 32, 33] (some 9) (v := ?_) rfl (by rfl) (by kernel_rfl) (by kernel_rfl) (by kernel_rfl) (by kernel_rfl) (fun _ _ _ h => h) (Or.inl ⟨by rfl, ?_⟩) k3 ?_
      rotate_left
      focus (intro w' hSw; (try dsimp only at hSw); go_simp; try with_reducible rfl)
      simp only [Act.put, List.setIfInBounds_toArray, List.set_cons_zero, List.set_cons_succ]
      refine wpAnyX_take (i := 4) [5, 6, 7, 8, 9, 10, 11, 12, 13, 14, 15, 16, 17, 18, 19, 20, 21, 22, 23, 24, 25, 26, 27, 28, 29, 30, 31, 32, 33] (some 10) (v := ?_) rfl (by rfl) (by kernel_rfl) (by kernel_rfl) (by kernel_rfl) (by kernel_rfl) (fun _ _ _ h => h) (Or.inl ⟨by rfl, ?_⟩) k3 ?_
      rotate_left
      focus (intro w' hSw; (try dsimp only at hSw); go_simp; try with_reducible rfl)
      simp only [Act.put, List.setIfInBounds_toArray, List.set_cons_zero, List.set_cons_succ]
      refine wpAnyX_take (i := 5) [6, 7, 8, 9, 10, 11, 12, 13, 14, 15, 16, 17, 18, 19, 20, 21, 22, 23, 24, 25, 26, 27, 28, 29, 30, 31, 32, 33] (some 11) (v := ?_) rfl (by rfl) (by kernel_rfl) (by kernel_rfl) (by kernel_rfl) (by kernel_rfl) (fun _ _ _ h => h) (Or.inl ⟨by rfl, ?_⟩) k3 ?_
      rotate_left
      focus (intro w' hSw; (try dsimp only at hSw); go_simp; try with_reducible rfl)
      simp only [Act.put, List.setIfInBounds_toArray, List.set_cons_zero, List.set_cons_succ]
      refine wpAnyX_take (i := 6) [7, 8, 9, 10, 11, 12, 13, 14, 15, 16, 17, 18, 19, 20, 21, 22, 23, 24, 25, 26, 27, 28, 29, 30, 31, 32, 33] (some 12) (v := ?_) rfl (by rfl) (by kernel_rfl) (by kernel_rfl) (by kernel_rfl) (by kernel_rfl) (fun _ _ _ h => h) (Or.inl ⟨by rfl, ?_⟩) k3 ?_
      rotate_left
      focus (intro w' hSw; (try dsimp only at hSw); go_simp; try with_reducible rfl)
      simp only [Act.put, List.setIfInBounds_toArray, List.set_cons_zero, List.set_cons_succ]
      refine wpAnyX_take (i := 7) [8, 9, 10, 11, 12, 13, 14, 15, 16, 17, 18, 19, 20, 21, 22, 23, 24, 25, 26, 27, 28, 29, 30, 31, 32, 33] (some 13) (v := _) rfl (by rfl) (by kernel_rfl) (by kernel_rfl) (by kernel_rfl) (by kernel_rfl) (fun _ _ _ h => h) (yieldsIf_cell (v := .bool true) (by rfl) rfl (by rfl) (by kernel_rfl) (fun y hy => cell_at (hy.heap HO'.out id) 10 _ rfl)) k3 ?_
      simp only [Act.put, List.setIfInBounds_toArray, List.set_cons_zero, List.set_cons_succ]
      refine wpAnyX_take (i := 8) [9, 10, 11, 12, 13, 14, 15, 16, 17, 18, 19, 20, 21, 22, 23, 24, 25, 26, 27, 28, 29, 30, 31, 32, 33] (some 14) (v := ?_) rfl (by rfl) (by kernel_rfl) (by kernel_rfl) (by kernel_rfl) (by kernel_rfl) (fun _ _ _ h => h) (Or.inl ⟨by rfl, ?_⟩) k3 ?_
      rotate_left
      focus (intro w' hSw; (try dsimp only at hSw); go_simp; try with_reducible rfl)
      simp only [Act.put, List.setIfInBounds_toArray, List.set_cons_zero, List.set_cons_succ]
      refine wpAnyX_take (i := 9) [10, 11, 12, 13, 14, 15, 16, 17, 18, 19, 20, 21, 22, 23, 24, 25, 26, 27, 28, 29, 30, 31, 32, 33] (some 15) (v := ?_) rfl (by rfl) (by kernel_rfl) (by kernel_rfl) (by kernel_rfl) (by kernel_rfl) (fun _ _ _ h => h) (Or.inl ⟨by rfl, ?_⟩) k3 ?_
      rotate_left
      focus (intro w' hSw; (try dsimp only at hSw); go_simp; try with_reducible rfl)
      simp only [Act.put, List.setIfInBounds_toArray, List.set_cons_zero, List.set_cons_succ]
      refine wpAnyX_take (i := 10) [11, 12, 13, 14, 15, 16, 17, 18, 19, 20, 21, 22, 23, 24, 25, 26, 27, 28, 29, 30, 31, 32, 33] (some 16) (v := ?_) rfl (by rfl) (by kernel_rfl) (by kernel_rfl) (by kernel_rfl) (by kernel_rfl) (fun _ _ _ h => h) (Or.inl ⟨by rfl, ?_⟩) k3 ?_
      rotate_left
      focus (intro w' hSw; (try dsimp only at hSw); go_simp; try with_reducible rfl)
      simp only [Act.put, List.setIfInBounds_toArray, List.set_cons_zero, List.set_cons_succ]
      refine wpAnyX_take (i := 11) [12, 13, 14, 15, 16, 17, 18, 19, 20, 21, 22, 23, 24, 25, 26, 27, 28, 29, 30, 31, 32, 33] (some 17) (v := _) rfl (by rfl) (by kernel_rfl) (by kernel_rfl) (by kernel_rfl) (by kernel_rfl) (fun _ _ _ h => h) (yieldsIf_row (n := 27) (vs := ms) (by rfl) rfl (by rfl) (by kernel_rfl) (by kernel_rfl) HL.out.len (fun y hy => range_of (n := 27) (hy.heap HB32.out id) _ (by simpa using HL.out.take))) k3 ?_
      simp only [Act.put, List.setIfInBounds_toArray, List.set_cons_zero, List.set_cons_succ]
      refine wpAnyX_one (i := 12) (by kernel_rfl) rfl (fun K hK => ?_)
      have HCC := hid ((mcheckA (Rep.msg.keep HMS.out (KD.out.trans K3.out (fun _ _ f => f)) (fun _ _ => id)) (fun q hq => Nat.lt_of_lt_of_le (HF.out q hq) (KD.out.trans K3.out (fun _ _ f => f)).size)).mono (R' := fun e w' => ∃ u, e = .returned u ∧ (u = .int .i64 0 ∧ Keep (fun _ => False) w3 w')) (fun e w' h => ⟨_, h.1, by rw [MC.out]; rfl, h.2⟩))
      refine step_call (some 18) (by rfl) (by rfl) rfl EC.out (by rfl) HCC.out ?_
      rintro u w5 ⟨rfl, k5⟩
      have K5 := hid (K3.out.trans k5 (fun _ _ f => f))
      clear k5 HCC
      refine hK _ _ (K5.out) ?_
      clear hK K
      simp only [Act.put, List.setIfInBounds_toArray, List.set_cons_zero, List.set_cons_succ]
      refine wpAnyX_take (i := 13) [14, 15, 16, 17, 18, 19, 20, 21, 22, 23, 24, 25, 26, 27, 28, 29, 30, 31, 32, 33] (some 19) (v := ?_) rfl (by rfl) (by kernel_rfl) (by kernel_rfl) (by kernel_rfl) (by kernel_rfl) (fun _ _ _ h => h) (Or.inl ⟨by rfl, ?_⟩) K5.out ?_
      rotate_left
      focus (intro w' hSw; (try dsimp only at hSw); go_simp; try with_reducible rfl)
      simp only [Act.put, List.setIfInBounds_toArray, List.set_cons_zero, List.set_cons_succ]
      refine wpAnyX_take (i := 14) [15, 16, 17, 18, 19, 20, 21, 22, 23, 24, 25, 26, 27, 28, 29, 30, 31, 32, 33] (some 20) (v := ?_) rfl (by rfl) (by kernel_rfl) (by kernel_rfl) (by kernel_rfl) (by kernel_rfl) (fun _ _ _ h => h) (Or.inl ⟨by rfl, ?_⟩) K5.out ?_
      rotate_left
      focus (intro w' hSw; (try dsimp only at hSw); go_simp; try with_reducible rfl)
      simp only [Act.put, List.setIfInBounds_toArray, List.set_cons_zero, List.set_cons_succ]
      refine wpAnyX_take (i := 15) [16, 17, 18, 19, 20, 21, 22, 23, 24, 25, 26, 27, 28, 29, 30, 31, 32, 33] (some 21) (v := ?_) rfl (by rfl) (by kernel_rfl) (by kernel_rfl) (by kernel_rfl) (by kernel_rfl) (fun _ _ _ h => h) (Or.inl ⟨by rfl, ?_⟩) K5.out ?_
      rotate_left
      focus (intro w' hSw; (try dsimp only at hSw); go_simp; try with_reducible rfl)
      simp only [Act.put, List.setIfInBounds_toArray, List.set_cons_zero, List.set_cons_succ]
      refine wpAnyX_take (i := 16) [17, 23, 24, 25, 26, 27, 28, 29, 30, 31, 32, 33] (some 22) (v := ?_) rfl (by rfl) (by kernel_rfl) (by kernel_rfl) (by kernel_rfl) (by kernel_rfl) (fun _ _ _ h => h) (Or.inl ⟨by rfl, ?_⟩) K5.out ?_
      rotate_left
      focus (intro w' hSw; (try dsimp only at hSw); go_simp; try with_reducible rfl)
      simp only [Act.put, List.setIfInBounds_toArray, List.set_cons_zero, List.set_cons_succ]
      refine wpAnyX_take (i := 17) [23, 24, 25, 26, 27, 28, 29, 30, 31, 32, 33] (some 23) (v := _) rfl (by rfl) (by kernel_rfl) (by kernel_rfl) (by kernel_rfl) (by kernel_rfl) (fun _ _ _ h => h) (yieldsIf_cell (v := .int .i64 m.to) (by rfl) rfl (by rfl) (by kernel_rfl) (fun y hy => cell_at (hy.heap HB32.out id) 2 _ (by simpa using E2.out))) K5.out ?_
      simp only [Act.put, List.setIfInBounds_toArray, List.set_cons_zero, List.set_cons_succ]
      refine wpAnyX_take (i := 18) [19, 20, 21, 22, 23, 24, 25, 26, 27, 28, 29, 30, 31, 32, 33] (some 24) (v := ?_) rfl (by rfl) (by kernel_rfl) (by kernel_rfl) (by kernel_rfl) (by kernel_rfl) (fun _ _ _ h => h) (Or.inl ⟨by rfl, ?_⟩) K5.out ?_
      rotate_left
      focus (intro w' hSw; (try dsimp only at hSw); go_simp; try with_reducible rfl)
      simp only [Act.put, List.setIfInBounds_toArray, List.set_cons_zero, List.set_cons_succ]
      refine wpAnyX_take (i := 19) [20, 21, 22, 23, 24, 25, 26, 27, 28, 29, 30, 31, 32, 33] (some 25) (v := ?_) rfl (by rfl) (by kernel_rfl) (by kernel_rfl) (by kernel_rfl) (by kernel_rfl) (fun _ _ _ h => h) (Or.inl ⟨by rfl, ?_⟩) K5.out ?_
      rotate_left
      focus (intro w' hSw; (try dsimp only at hSw); go_simp; try with_reducible rfl)
      simp only [Act.put, List.setIfInBounds_toArray, List.set_cons_zero, List.set_cons_succ]
      refine wpAnyX_take (i := 20) [21, 22, 23, 24, 25, 26, 27, 28, 29, 30, 31, 32, 33] (some 26) (v := ?_) rfl (by rfl) (by kernel_rfl) (by kernel_rfl) (by kernel_rfl) (by kernel_rfl) (fun _ _ _ h => h) (Or.inl ⟨by rfl, ?_⟩) K5.out ?_
      rotate_left
      focus (intro w' hSw; (try dsimp only at hSw); go_simp; try with_reducible rfl)
      simp only [Act.put, List.setIfInBounds_toArray, List.set_cons_zero, List.set_cons_succ]
      refine wpAnyX_take (i := 21) [22, 23, 24, 25, 26, 27, 28, 29, 30, 31, 32, 33] (some 27) (v := _) rfl (by rfl) (by kernel_rfl) (by kernel_rfl) (by kernel_rfl) (by kernel_rfl) (fun _ _ _ h => h) (yieldsIf_cell (v := .int .i64 s.id) (by rfl) rfl (by rfl) (by kernel_rfl) (fun y hy => cell_at (hy.heap HO'.out id) 0 _ rfl)) K5.out ?_
      simp only [Act.put, List.setIfInBounds_toArray, List.set_cons_zero, List.set_cons_succ]
      refine wpAnyX_take (i := 22) [23, 24, 25, 26, 27, 28, 29, 30, 31, 32, 33] (some 28) (v := ?_) rfl (by rfl) (by kernel_rfl) (by kernel_rfl) (by kernel_rfl) (by kernel_rfl) (fun _ _ _ h => h) (Or.inl ⟨by rfl, ?_⟩) K5.out ?_
      rotate_left
      focus (intro w' hSw; (try dsimp only at hSw); go_simp; try with_reducible rfl)
      simp only [Act.put, List.setIfInBounds_toArray, List.set_cons_zero, List.set_cons_succ]
      refine wpAnyX_take (i := 23) [24, 25, 26, 27, 28, 29, 30, 31, 32, 33] (some 29) (v := ?_) rfl (by rfl) (by kernel_rfl) (by kernel_rfl) (by kernel_rfl) (by kernel_rfl) (fun _ _ _ h => h) (Or.inl ⟨by rfl, ?_⟩) K5.out ?_
      rotate_left
      focus (intro w' hSw; (try dsimp only at hSw); go_simp; try with_reducible rfl)
      simp only [Act.put, List.setIfInBounds_toArray, List.set_cons_zero, List.set_cons_succ]
      refine wpAnyX_take (i := 24) [25, 26, 27, 28, 29, 30, 31, 32, 33] (some 30) (v := ?_) rfl (by rfl) (by kernel_rfl) (by kernel_rfl) (by kernel_rfl) (by kernel_rfl) (fun _ _ _ h => h) (Or.inl ⟨by rfl, ?_⟩) K5.out ?_
      rotate_left
      focus (intro w' hSw; (try dsimp only at hSw); go_simp; try with_reducible rfl)
      simp only [Act.put, List.setIfInBounds_toArray, List.set_cons_zero, List.set_cons_succ]
      refine wpAnyX_take (i := 25) [26, 27, 28, 29, 30, 31, 32, 33] (some 31) (v := ?_) rfl (by rfl) (by kernel_rfl) (by kernel_rfl) (by kernel_rfl) (by kernel_rfl) (fun _ _ _ h => h) (Or.inl ⟨by rfl, ?_⟩) K5.out ?_
      rotate_left
      focus (intro w' hSw; (try dsimp only at hSw); go_simp; try with_reducible rfl)
      simp only [Act.put, List.setIfInBounds_toArray, List.set_cons_zero, List.set_cons_succ]
      refine wpAnyX_take (i := 26) [27, 32, 33] (some 32) (v := ?_) rfl (by rfl) (by kernel_rfl) (by kernel_rfl) (by kernel_rfl) (by kernel_rfl) (fun _ _ _ h => h) (Or.inl ⟨by rfl, ?_⟩) K5.out ?_
      rotate_left
      focus (intro w' hSw; (try dsimp only at hSw); go_simp; try with_reducible rfl)
      simp only [Act.put, List.setIfInBounds_toArray, List.set_cons_zero, List.set_cons_succ]
      refine wpAnyX_take (i := 27) [32, 33] (some 33) (v := _) rfl (by rfl) (by kernel_rfl) (by kernel_rfl) (by kernel_rfl) (by kernel_rfl) (fun _ _ _ h => h) (yieldsIf_cell (v := .int .i64 m.number) (by rfl) rfl (by rfl) (by kernel_rfl) (fun y hy => cell_at (hy.heap HB32.out id) 19 _ (by simpa using E19.out))) K5.out ?_
      simp only [Act.put, List.setIfInBounds_toArray, List.set_cons_zero, List.set_cons_succ]
      refine wpAnyX_take (i := 28) [29, 30, 31, 32, 33] (some 34) (v := ?_) rfl (by rfl) (by kernel_rfl) (by kernel_rfl) (by kernel_rfl) (by kernel_rfl) (fun _ _ _ h => h) (Or.inl ⟨by rfl, ?_⟩) K5.out ?_
      rotate_left
      focus (intro w' hSw; (try dsimp only at hSw); go_simp; try with_reducible rfl)
      simp only [Act.put, List.setIfInBounds_toArray, List.set_cons_zero, List.set_cons_succ]
      refine wpAnyX_take (i := 29) [30, 31, 32, 33] (some 35) (v := ?_) rfl (by rfl) (by kernel_rfl) (by kernel_rfl) (by kernel_rfl) (by kernel_rfl) (fun _ _ _ h => h) (Or.inl ⟨by rfl, ?_⟩) K5.out ?_
      rotate_left
      focus (intro w' hSw; (try dsimp only at hSw); go_simp; try with_reducible rfl)
      simp only [Act.put, List.setIfInBounds_toArray, List.set_cons_zero, List.set_cons_succ]
      refine wpAnyX_take (i := 30) [31, 32, 33] (some 36) (v := ?_) rfl (by rfl) (by kernel_rfl) (by kernel_rfl) (by kernel_rfl) (by kernel_rfl) (fun _ _ _ h => h) (Or.inl ⟨by rfl, ?_⟩) K5.out ?_
      rotate_left
      focus (intro w' hSw; (try dsimp only at hSw); go_simp; try with_reducible rfl)
      simp only [Act.put, List.setIfInBounds_toArray, List.set_cons_zero, List.set_cons_succ]
      refine wpAnyX_take (i := 31) [32, 33] (some 37) (v := _) rfl (by rfl) (by kernel_rfl) (by kernel_rfl) (by kernel_rfl) (by kernel_rfl) (fun _ _ _ h => h) (yieldsIf_cell (v := .int .i64 s.number) (by rfl) rfl (by rfl) (by kernel_rfl) (fun y hy => cell_at (hy.heap HO'.out id) 6 _ rfl)) K5.out ?_
      simp only [Act.put, List.setIfInBounds_toArray, List.set_cons_zero, List.set_cons_succ]
      refine wpAnyX_take (i := 32) [33] (some 38) (v := ?_) rfl (by rfl) (by kernel_rfl) (by kernel_rfl) (by kernel_rfl) (by kernel_rfl) (fun _ _ _ h => h) (Or.inl ⟨by rfl, ?_⟩) K5.out ?_
      rotate_left
      focus (intro w' hSw; (try dsimp only at hSw); go_simp; try with_reducible rfl)
      simp only [Act.put, List.setIfInBounds_toArray, List.set_cons_zero, List.set_cons_succ]
      refine wpAnyX_take (i := 33) [] (some 39) (v := ?_) rfl (by rfl) (by kernel_rfl) (by kernel_rfl) (by kernel_rfl) (by kernel_rfl) (fun _ _ _ h => h) (Or.inl ⟨by rfl, ?_⟩) K5.out ?_
      rotate_left
      focus (intro w' hSw; (try dsimp only at hSw); go_simp; try with_reducible rfl)
      simp only [Act.put, List.setIfInBounds_toArray, List.set_cons_zero, List.set_cons_succ]
      refine wpAnyX_done (by kernel_rfl) ?_ _
      have HNB := hid (show ¬ (s.busy = false ∨ mchkB m = false ∨ m.to ≠ 100 + s.id ∨ m.number ≠ s.number) from fun q => by
        rcases q with q | q | q | q
        · rw [HBZ.out] at q; cases q
        · rw [MC.out] at q; cases q
        · exact q P2.out
        · exact q P3.out)
      have HB35 := hid (K5.out.heap HB32.out id)
      have hb35 := HB35.out
      have c30 := cell_at hb35 0 (.int .i64 m.kind) (by simpa using E0.out)
      have c34 := cell_at hb35 4 (.int .i64 m.slot) (by simpa using E4.out)
      have HM5 := hid (HM2.out.keep K5.out); have HBM5 := hid (K5.out.heap HBM2.out id)
      have c11 := cell_at HM5.out.obj 11 (.bool s.opening) rfl
      have K25 := hid (((Keep.refl (fun _ => False) w2).drew.trans K5.out (fun _ _ f => f)).mono (T := fun q => q = g) (fun _ _ f => f.elim))
      have HKW := hid (HK.out.keep (KD.out.trans K5.out (fun _ _ f => f)) (fun _ _ => id))
      have HFW := hid (fun q hq => Nat.lt_of_lt_of_le (HF.out q hq) (KD.out.trans K5.out (fun _ _ f => f)).size)
      clear k3 hS d2 d3
      by_cases q13 : m.kind = 13
      · have e13 : (m.kind == 13) = true := by simp [q13]
        cases ho : s.opening with
        | true =>
          rw [ho] at c11
          have HE := hid (show handleF s m = openedF s m.verdict from by rw [handleF, if_neg HNB.out, if_pos q13, if_pos ho])
          have hop := opened_calls (v := vk') HM5.out HI.out HN.out HOK.out.verdict (by obtain ⟨A, c, h⟩ := HKW.out.shape; exact ⟨_, _, _, h⟩)
          have HOP := hid hop
          clear hop ho q13
          go_wp2_with (first
            | (refine wpl_loadA (ty := 35) (o := 20) (n := 7) rfl rfl rfl hb35 (by kernel_rfl) (by kernel_rfl) (verdictCs m.verdict vk') (by simpa using EV.out) rfl ?_))
          refine HOP.out.mono ?_
          rintro e w6 ⟨cs, rfl, hm6, hc6, k6⟩
          have HL6 := hid (MsgL.of hm6); have HM6 := hid hm6; have HC6 := hid hc6; have K6 := hid k6
          have hbm := K6.out.heap HBM5.out HGN.out
          obtain ⟨b6, hb6⟩ : ∃ b6, b6 = (openedF s m.verdict).2.isSome := ⟨_, rfl⟩
          rw [← hb6]
          have HB6 := hid hb6
          clear hm6 hc6 k6 HOP hb6
          go_wp2_with (first
            | (refine wpl_storeB (v := .agg cs.toArray) rfl rfl rfl rfl hbm HL6.out.info HL6.out.fit HL6.out.oneA ?_; intro w9 hb9 k9 s9))
          refine bodyPost_ret (res_cell_tmp (g := gm) (cs := cs.toArray) (v := .bool b6) Try.results10 _ rfl rfl (hb9.trans (HL6.out.whole rfl)) (by kernel_rfl) HL6.out.info') rfl ?_
          rw [HE.out, HB6.out]
          exact Ans.relay HG.out K2.out HGE.out.1 K25.out K6.out k9 HGL.out HM6.out HC6.out
        | false =>
          rw [ho] at c11
          have HE := hid (show handleF s m = (tellS s m.verdict, none) from by rw [handleF, if_neg HNB.out, if_pos q13, if_neg (by rw [ho]; exact Bool.false_ne_true)])
          have ht := tell_calls HM5.out HKW.out HFW.out HFEW.out
          have HT := hid ht
          clear ht ho q13
          go_wp2_with (first
            | (refine wpl_loadA (ty := 35) (o := 20) (n := 7) rfl rfl rfl hb35 (by kernel_rfl) (by kernel_rfl) (verdictCs m.verdict vk') (by simpa using EV.out) rfl ?_))
          refine HT.out.mono ?_
          rintro e w6 ⟨rfl, ⟨vk6, h6⟩, k6⟩
          have HMC := hid h6; have K6 := hid k6
          have hbm := K6.out.heap HBM5.out HGN.out
          clear h6 k6 HT
          go_wp2_with (first
            | (refine wpl_build rfl rfl (msgCs msgZ nilV nilV nilV nilV).toArray (by kernel_rfl) ?_)
            | (refine wpl_storeB (v := zM) rfl rfl rfl rfl hbm msgL_z.info msgL_z.fit msgL_z.oneA ?_; intro w9 hb9 k9 s9))
          refine bodyPost_ret (res_cell_tmp (g := gm) (cs := (msgCs msgZ nilV nilV nilV nilV).toArray) (v := .bool false) Try.results10 _ rfl rfl (hb9.trans (msgL_z.whole rfl)) (by kernel_rfl) (by kernel_rfl)) rfl ?_
          rw [HE.out]
          exact Ans.none HG.out K2.out HGE.out.1 (K25.out.trans K6.out (fun _ _ e => e)) k9 HGL.out HMC.out.at
      have e13 : (m.kind == 13) = false := by simp [q13]
      by_cases q14 : m.kind = 14
      · have e14 : (m.kind == 14) = true := by simp [q14]
        have HE := hid (show handleF s m = (awayS s m.slot, none) from by rw [handleF, if_neg HNB.out, if_neg q13, if_pos q14])
        have ha := away_calls HM5.out HI.out HOK.out.slot
        have HAW := hid ha
        clear ha q13 q14
        go_wp2_with fail
        refine HAW.out.mono ?_
        rintro e w6 ⟨rfl, ⟨vw6, va6, vt6, vk6, h6⟩, k6⟩
        have HMC := hid h6; have K6 := hid k6
        have hbm := K6.out.heap HBM5.out HGN.out
        clear h6 k6 HAW
        go_wp2_with (first
          | (refine wpl_build rfl rfl (msgCs msgZ nilV nilV nilV nilV).toArray (by kernel_rfl) ?_)
          | (refine wpl_storeB (v := zM) rfl rfl rfl rfl hbm msgL_z.info msgL_z.fit msgL_z.oneA ?_; intro w9 hb9 k9 s9))
        refine bodyPost_ret (res_cell_tmp (g := gm) (cs := (msgCs msgZ nilV nilV nilV nilV).toArray) (v := .bool false) Try.results10 _ rfl rfl (hb9.trans (msgL_z.whole rfl)) (by kernel_rfl) (by kernel_rfl)) rfl ?_
        rw [HE.out]
        exact Ans.none HG.out K2.out HGE.out.1 (K25.out.trans K6.out (fun _ _ e => e)) k9 HGL.out HMC.out.at
      have e14 : (m.kind == 14) = false := by simp [q14]
      have HE := hid (show handleF s m = (s, none) from by rw [handleF, if_neg HNB.out, if_neg q13, if_neg q14])
      have HMC := hid HM5.out
      have hbm := HBM5.out
      clear q13 q14
      go_wp2_with (first
        | (refine wpl_build rfl rfl (msgCs msgZ nilV nilV nilV nilV).toArray (by kernel_rfl) ?_)
        | (refine wpl_storeB (v := zM) rfl rfl rfl rfl hbm msgL_z.info msgL_z.fit msgL_z.oneA ?_; intro w9 hb9 k9 s9))
      refine bodyPost_ret (res_cell_tmp (g := gm) (cs := (msgCs msgZ nilV nilV nilV nilV).toArray) (v := .bool false) Try.results10 _ rfl rfl (hb9.trans (msgL_z.whole rfl)) (by kernel_rfl) (by kernel_rfl)) rfl ?_
      rw [HE.out]
      exact Ans.none HG.out K2.out HGE.out.1 K25.out k9 HGL.out HMC.out.at
end
end Go.Proofs.Ytnekfonnceknoaa
