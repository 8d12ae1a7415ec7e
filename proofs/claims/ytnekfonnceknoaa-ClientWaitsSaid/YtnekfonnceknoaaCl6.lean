/- client: Ask. -/
import Derived.Test.YtnekfonnceknoaaCl5
import Derived.Test.YtnekfonnceknoaaEntTop
namespace Go.Proofs.Ytnekfonnceknoaa
open Go.RowKit Go.Lib
def openR (n : ByteArray) : Req := ⟨1, n, 0, 0, 0, ByteArray.empty, [], ByteArray.empty, 0, 0, 0⟩
def askS (s : CS) (r : Req) : CS := if s.session = 0 then { beginS s r false with opening := true, asked := openR s.name } else { beginS s r false with opening := false, seq := s.seq + 1, asked := withR r s.session (s.seq + 1) }
def askF (s : CS) (r : Req) : CS × Option Msg := if s.busy = true ∨ r.kind < 2 ∨ 8 ≤ r.kind ∨ ¬ mayR (withR r s.session (s.seq + 1)) then (s, none) else (sentS (askS s r), some (sentM (askS s r)))
theorem openR_ok (n : ByteArray) : (openR n).Ok := ⟨ok_small (by simp [openR]), ok0, ok0, ok0, ok0, ok0, ok0⟩
theorem CInv.ask0 {s : CS} {N : Int} {r : Req} (h : CInv N s) (hr : r.Ok) (hN : N < 1000000) : CInv (N + 1) (askS s r) := by
  have hb := h.begin (b := false) hr
  unfold askS
  split
  · exact { hb with asked := openR_ok _ }
  · exact { hb with seq := ⟨by have := h.seq; simp only; omega, by have := h.seq; simp only; omega⟩, asked := withR_ok hr h.ses (ok_small (by have := h.seq; omega)) }
theorem CInv.ask {s : CS} {N : Int} {r : Req} (h : CInv N s) (hr : r.Ok) (hN : N < 1000000) : CInv (N + 1) (askF s r).1 := by
  unfold askF
  split
  · exact h.more (by omega)
  · exact (h.ask0 hr hN).sent
section
variable {X Y : Nat → Prop} {w w' : World} {g : Nat} {s : CS} {vw va vt vk : Value} {F : Nat → Prop} {N : Int}
set_option maxRecDepth 20000 in
set_option maxHeartbeats 16000000 in
theorem ask_calls {r : Req} {v : Value} (h : CliM X w g s vw va vt vk) (hI : CInv N s) (hN : N < 1000000) (hr : r.Ok) (hv : Sl .change w F v r.changes) (hF : ∀ q, F q → q < w.heap.size) (hFg : ¬ F g) (hl : r.changes.length ≤ 4294967296) :
    Calls Try.prog 9 #[.pointer (some ⟨g, 0, none⟩), .agg (reqCs r v).toArray] w (Ans X w g (askF s r).1 (askF s r).2) := by
  obtain ⟨Av, cv, hva⟩ := hv.shape
  subst hva
  obtain ⟨n, hn⟩ : ∃ n, n = r.changes.length := ⟨_, rfl⟩
  rw [← hn] at hv hl ⊢
  have H := hid h; have HI := hid hI; have HN := hid hN; have HR := hid hr; have HV := hid hv; have HF := hid hF; have HFG := hid hFg; have HNN := hid hn; have HLL := hid hl
  have hgl := lt_heap h.obj
  have HGL := hid hgl; have HG := hid h.hg
  have EM := hid (enters_of Try.func21 (by kernel_rfl) rfl)
  have EW := hid (enters_of Try.func23 (by kernel_rfl) rfl)
  have EC := hid (enters_of Try.func22 (by kernel_rfl) rfl)
  have hw0 : IntKind.i64.wrap (s.seq + 1) = s.seq + 1 := by have := hI.seq; simp [IntKind.wrap, IntKind.signed, IntKind.bits]; omega
  have HW0 := hid hw0
  clear h hI hN hgl hr hv hF hFg hn hl
  go_enter Try.func9, Try.ntmps9
  go_wp2_with (first
    | (refine wpl_boxB (v := .agg (reqCs r (.slice Av n cv)).toArray) rfl rfl rfl ?_; intro g3 w1 hg3 hb3 k1 s1; have HG3 := hid hg3; have HS1 := hid s1; have K1 := hid k1; clear hg3 s1 k1)
    | (refine wpl_allocB (ty := 37) rfl rfl (z := zM) (by kernel_rfl) ?_; intro gm w2 hgm hbm k2 s2; have HGM := hid hgm; have K2 := hid (K1.out.trans k2 (fun _ _ f => f)); have hb32 := k2.heap hb3 id; have HBM := hid hbm; clear hgm s2 k2 hbm))
  have HGE := hid (show w.heap.size ≤ gm ∧ g < g3 ∧ g3 < gm from ⟨by have := HGM.out; have := K1.out.size; omega, by have := HG3.out; have := HGL.out; omega, by have := HGM.out; have := HS1.out; omega⟩)
  have HM1 := hid (H.out.box K2.out HGE.out.1 (lt_heap HBM.out))
  have kd : Keep (fun _ => False) w2 w2.drew := (Keep.refl _ _).drew
  have HM2 := hid (HM1.out.keep kd); have HBM2 := hid (kd.heap HBM.out id); have HB32 := hid (kd.heap hb32 id); have KD := hid (K2.out.trans kd (fun _ _ f => f)); have HO := hid HM2.out.obj
  have HV2 := hid (HV.out.keep KD.out (fun _ _ => id))
  have HMADE := hid ((made_calls HM2.out).mono (R' := fun e w' => ∃ u, e = .returned u ∧ (u = .bool true ∧ Keep (fun _ => False) w2.drew w')) (fun e w' h => ⟨_, h.1, rfl, by rw [← h.2]; exact Keep.refl _ _⟩))
  have hS : Keep (fun _ => False) w2.drew w2.drew := Keep.refl _ _
  have HZ := hid (show w2.drew.heap.size = w2.heap.size from rfl)
  clear hb3 hb32 kd
  cases hbz : s.busy with
  | true =>
    have HBZ := hid hbz
    have HO' := HO.out
    rw [CObj, cliCs, hbz] at HO'
    clear hbz
    go_wp2_with fail
    refine wp_region_X (fun y => Keep (fun _ => False) w2.drew y) [] (by kernel_rfl) hS (fun _ => ?_)
    refine wpAnyX_take (i := 0) [1, 2, 3, 4, 5, 6, 7, 8, 9, 10, 11, 12, 13, 14, 15, 16, 17, 18, 19, 20, 21, 22, 23, 24, 25, 26, 27, 28, 29, 30, 31, 32, 33] (some 7) (v := ?_) rfl (by rfl) (by kernel_rfl) (by kernel_rfl) (by kernel_rfl) (by kernel_rfl) (fun _ _ _ h => h) (Or.inl ⟨by rfl, ?_⟩) hS ?_
    rotate_left
    focus (intro w' hSw; (try dsimp only at hSw); go_simp; try with_reducible rfl)
    simp only [Act.put, List.setIfInBounds_toArray, List.set_cons_zero, List.set_cons_succ]
    refine wpAnyX_one (i := 1) (by kernel_rfl) rfl (fun K hK => ?_)
    refine step_call (some 8) (by rfl) (by rfl) rfl EM.out (by rfl) HMADE.out ?_
    rintro u w3 ⟨rfl, k3⟩
    have K3 := hid k3
    refine hK _ _ (k3) ?_
    clear hK K
    simp only [Act.put, List.setIfInBounds_toArray, List.set_cons_zero, List.set_cons_succ]
    refine wpAnyX_take (i := 2) [3, 4, 5, 6, 7, 8, 9, 10, 11, 12, 13, 14, 15, 16, 17, 18, 19, 20, 21, 22, 23, 24, 25, 26, 27, 28, 29, 30, 31, 32, 33] (some 9) (v := ?_) rfl (by rfl) (by kernel_rfl) (by kernel_rfl) (by kernel_rfl) (by kernel_rfl) (fun _ _ _ h => h) (Or.inl ⟨by rfl, ?_⟩) k3 ?_
    rotate_left
    focus (intro w' hSw; (try dsimp only at hSw); go_simp; try with_reducible rfl)
    simp only [Act.put, List.setIfInBounds_toArray, List.set_cons_zero, List.set_cons_succ]
    refine wpAnyX_take (i := 3) [4, 5, 6, 7, 8, 9, 10, 11, 12, 13, 14, 15, 16, 17, 18, 19, 20, 21, 22, 23, 24, 25, 26, 27, 28, 29, 30, 31, 32, 33] (some 10) (v := ?_) rfl (by rfl) (by kernel_rfl) (by kernel_rfl) (by kernel_rfl) (by kernel_rfl) (fun _ _ _ h => h) (Or.inl ⟨by rfl, ?_⟩) k3 ?_
    rotate_left
    focus (intro w' hSw; (try dsimp only at hSw); go_simp; try with_reducible rfl)
    simp only [Act.put, List.setIfInBounds_toArray, List.set_cons_zero, List.set_cons_succ]
    refine wpAnyX_take (i := 4) [5, 6, 7, 8, 9, 10, 11, 12, 13, 14, 15, 16, 17, 18, 19, 20, 21, 22, 23, 24, 25, 26, 27, 28, 29, 30, 31, 32, 33] (some 11) (v := ?_) rfl (by rfl) (by kernel_rfl) (by kernel_rfl) (by kernel_rfl) (by kernel_rfl) (fun _ _ _ h => h) (Or.inl ⟨by rfl, ?_⟩) k3 ?_
    rotate_left
    focus (intro w' hSw; (try dsimp only at hSw); go_simp; try with_reducible rfl)
    simp only [Act.put, List.setIfInBounds_toArray, List.set_cons_zero, List.set_cons_succ]
    refine wpAnyX_take (i := 5) [6, 7, 8, 9, 10, 11, 12, 13, 14, 15, 16, 17, 18, 19, 20, 21, 22, 23, 24, 25, 26, 27, 28, 29, 30, 31, 32, 33] (some 12) (v := ?_) rfl (by rfl) (by kernel_rfl) (by kernel_rfl) (by kernel_rfl) (by kernel_rfl) (fun _ _ _ h => h) (Or.inl ⟨by rfl, ?_⟩) k3 ?_
    rotate_left
    focus (intro w' hSw; (try dsimp only at hSw); go_simp; try with_reducible rfl)
    simp only [Act.put, List.setIfInBounds_toArray, List.set_cons_zero, List.set_cons_succ]
    refine wpAnyX_take (i := 6) [7, 8, 9, 10, 11, 12, 13, 14, 15, 16, 17, 18, 19, 20, 21, 22, 23, 24, 25, 26, 27, 28, 29, 30, 31, 32, 33] (some 13) (v := ?_) rfl (by rfl) (by kernel_rfl) (by kernel_rfl) (by kernel_rfl) (by kernel_rfl) (fun _ _ _ h => h) (Or.inl ⟨by rfl, ?_⟩) k3 ?_
    rotate_left
    focus (intro w' hSw; (try dsimp only at hSw); go_simp; try with_reducible rfl)
    simp only [Act.put, List.setIfInBounds_toArray, List.set_cons_zero, List.set_cons_succ]
    refine wpAnyX_take (i := 7) [8, 9, 10, 11, 12, 13, 14, 15, 16, 17, 18, 19, 20, 21, 22, 23, 24, 25, 26, 27, 28, 29, 30, 31, 32, 33] (some 14) (v := _) rfl (by rfl) (by kernel_rfl) (by kernel_rfl) (by kernel_rfl) (by kernel_rfl) (fun _ _ _ h => h) (yieldsIf_cell (v := .bool true) (by rfl) rfl (by rfl) (by kernel_rfl) (fun y hy => cell_at (hy.heap HO' id) 10 _ rfl)) k3 ?_
    simp only [Act.put, List.setIfInBounds_toArray, List.set_cons_zero, List.set_cons_succ]
    refine wpAnyX_take (i := 8) [9, 10, 11, 12, 13, 14, 15, 16, 17, 18, 19, 20, 21, 22, 23, 24, 25, 26, 27, 28, 29, 30, 31, 32, 33] (some 15) (v := ?_) rfl (by rfl) (by kernel_rfl) (by kernel_rfl) (by kernel_rfl) (by kernel_rfl) (fun _ _ _ h => h) (Or.inl ⟨by rfl, ?_⟩) k3 ?_
    rotate_left
    focus (intro w' hSw; (try dsimp only at hSw); go_simp; try with_reducible rfl)
    simp only [Act.put, List.setIfInBounds_toArray, List.set_cons_zero, List.set_cons_succ]
    refine wpAnyX_take (i := 9) [10, 11, 12, 13, 14, 15, 16, 17, 18, 19, 20, 21, 22, 23, 24, 25, 26, 27, 28, 29, 30, 31, 32, 33] (some 16) (v := ?_) rfl (by rfl) (by kernel_rfl) (by kernel_rfl) (by kernel_rfl) (by kernel_rfl) (fun _ _ _ h => h) (Or.inl ⟨by rfl, ?_⟩) k3 ?_
    rotate_left
    focus (intro w' hSw; (try dsimp only at hSw); go_simp; try with_reducible rfl)
    simp only [Act.put, List.setIfInBounds_toArray, List.set_cons_zero, List.set_cons_succ]
    refine wpAnyX_take (i := 10) [11, 12, 13, 14, 15, 16, 17, 18, 19, 20, 21, 22, 23, 24, 25, 26, 27, 28, 29, 30, 31, 32, 33] (some 17) (v := undef) rfl (by rfl) (by kernel_rfl) (by kernel_rfl) (by kernel_rfl) (by kernel_rfl) (fun _ _ _ h => h) (Or.inr ⟨by rfl, rfl⟩) k3 ?_
    simp only [Act.put, List.setIfInBounds_toArray, List.set_cons_zero, List.set_cons_succ]
    refine wpAnyX_take (i := 11) [12, 13, 14, 15, 16, 17, 18, 19, 20, 21, 22, 23, 24, 25, 26, 27, 28, 29, 30, 31, 32, 33] (some 18) (v := undef) rfl (by rfl) (by kernel_rfl) (by kernel_rfl) (by kernel_rfl) (by kernel_rfl) (fun _ _ _ h => h) (Or.inr ⟨by rfl, rfl⟩) k3 ?_
    simp only [Act.put, List.setIfInBounds_toArray, List.set_cons_zero, List.set_cons_succ]
    refine wpAnyX_take (i := 12) [13, 14, 15, 16, 17, 18, 19, 20, 21, 22, 23, 24, 25, 26, 27, 28, 29, 30, 31, 32, 33] (some 19) (v := undef) rfl (by rfl) (by kernel_rfl) (by kernel_rfl) (by kernel_rfl) (by kernel_rfl) (fun _ _ _ h => h) (Or.inr ⟨by rfl, rfl⟩) k3 ?_
    simp only [Act.put, List.setIfInBounds_toArray, List.set_cons_zero, List.set_cons_succ]
    refine wpAnyX_take (i := 13) [14, 15, 16, 17, 18, 19, 20, 21, 22, 23, 24, 25, 26, 27, 28, 29, 30, 31, 32, 33] (some 20) (v := ?_) rfl (by rfl) (by kernel_rfl) (by kernel_rfl) (by kernel_rfl) (by kernel_rfl) (fun _ _ _ h => h) (Or.inl ⟨by rfl, ?_⟩) k3 ?_
    rotate_left
    focus (intro w' hSw; (try dsimp only at hSw); go_simp; try with_reducible rfl)
    simp only [Act.put, List.setIfInBounds_toArray, List.set_cons_zero, List.set_cons_succ]
    refine wpAnyX_take (i := 14) [15, 16, 17, 18, 19, 20, 21, 22, 23, 24, 25, 26, 27, 28, 29, 30, 31, 32, 33] (some 21) (v := ?_) rfl (by rfl) (by kernel_rfl) (by kernel_rfl) (by kernel_rfl) (by kernel_rfl) (fun _ _ _ h => h) (Or.inl ⟨by rfl, ?_⟩) k3 ?_
    rotate_left
    focus (intro w' hSw; (try dsimp only at hSw); go_simp; try with_reducible rfl)
    simp only [Act.put, List.setIfInBounds_toArray, List.set_cons_zero, List.set_cons_succ]
    refine wpAnyX_take (i := 15) [16, 17, 18, 19, 20, 21, 22, 23, 24, 25, 26, 27, 28, 29, 30, 31, 32, 33] (some 22) (v := undef) rfl (by rfl) (by kernel_rfl) (by kernel_rfl) (by kernel_rfl) (by kernel_rfl) (fun _ _ _ h => h) (Or.inr ⟨by rfl, rfl⟩) k3 ?_
    simp only [Act.put, List.setIfInBounds_toArray, List.set_cons_zero, List.set_cons_succ]
    refine wpAnyX_take (i := 16) [17, 18, 19, 20, 21, 22, 23, 24, 25, 26, 27, 28, 29, 30, 31, 32, 33] (some 23) (v := undef) rfl (by rfl) (by kernel_rfl) (by kernel_rfl) (by kernel_rfl) (by kernel_rfl) (fun _ _ _ h => h) (Or.inr ⟨by rfl, rfl⟩) k3 ?_
    simp only [Act.put, List.setIfInBounds_toArray, List.set_cons_zero, List.set_cons_succ]
    refine wpAnyX_take (i := 17) [18, 19, 20, 21, 22, 23, 24, 25, 26, 27, 28, 29, 30, 31, 32, 33] (some 24) (v := undef) rfl (by rfl) (by kernel_rfl) (by kernel_rfl) (by kernel_rfl) (by kernel_rfl) (fun _ _ _ h => h) (Or.inr ⟨by rfl, rfl⟩) k3 ?_
    simp only [Act.put, List.setIfInBounds_toArray, List.set_cons_zero, List.set_cons_succ]
    refine wpAnyX_take (i := 18) [19, 20, 21, 22, 23, 24, 25, 26, 27, 28, 29, 30, 31, 32, 33] (some 25) (v := ?_) rfl (by rfl) (by kernel_rfl) (by kernel_rfl) (by kernel_rfl) (by kernel_rfl) (fun _ _ _ h => h) (Or.inl ⟨by rfl, ?_⟩) k3 ?_
    rotate_left
    focus (intro w' hSw; (try dsimp only at hSw); go_simp; try with_reducible rfl)
    simp only [Act.put, List.setIfInBounds_toArray, List.set_cons_zero, List.set_cons_succ]
    refine wpAnyX_take (i := 19) [20, 21, 22, 23, 24, 25, 26, 27, 28, 29, 30, 31, 32, 33] (some 26) (v := ?_) rfl (by rfl) (by kernel_rfl) (by kernel_rfl) (by kernel_rfl) (by kernel_rfl) (fun _ _ _ h => h) (Or.inl ⟨by rfl, ?_⟩) k3 ?_
    rotate_left
    focus (intro w' hSw; (try dsimp only at hSw); go_simp; try with_reducible rfl)
    simp only [Act.put, List.setIfInBounds_toArray, List.set_cons_zero, List.set_cons_succ]
    refine wpAnyX_take (i := 20) [30, 31, 32, 33] (some 27) (v := undef) rfl (by rfl) (by kernel_rfl) (by kernel_rfl) (by kernel_rfl) (by kernel_rfl) (fun _ _ _ h => h) (Or.inr ⟨by rfl, rfl⟩) k3 ?_
    simp only [Act.put, List.setIfInBounds_toArray, List.set_cons_zero, List.set_cons_succ]
    refine wpAnyX_take (i := 21) [22, 23, 24, 30, 31, 32, 33] (some 28) (v := undef) rfl (by rfl) (by kernel_rfl) (by kernel_rfl) (by kernel_rfl) (by kernel_rfl) (fun _ _ _ h => h) (Or.inr ⟨by rfl, rfl⟩) k3 ?_
    simp only [Act.put, List.setIfInBounds_toArray, List.set_cons_zero, List.set_cons_succ]
    refine wpAnyX_take (i := 22) [23, 24, 30, 31, 32, 33] (some 29) (v := undef) rfl (by rfl) (by kernel_rfl) (by kernel_rfl) (by kernel_rfl) (by kernel_rfl) (fun _ _ _ h => h) (Or.inr ⟨by rfl, rfl⟩) k3 ?_
    simp only [Act.put, List.setIfInBounds_toArray, List.set_cons_zero, List.set_cons_succ]
    refine wpAnyX_take (i := 23) [24, 30, 31, 32, 33] (some 30) (v := undef) rfl (by rfl) (by kernel_rfl) (by kernel_rfl) (by kernel_rfl) (by kernel_rfl) (fun _ _ _ h => h) (Or.inr ⟨by rfl, rfl⟩) k3 ?_
    simp only [Act.put, List.setIfInBounds_toArray, List.set_cons_zero, List.set_cons_succ]
    refine wpAnyX_take (i := 24) [30, 31, 32, 33] (some 31) (v := undef) rfl (by rfl) (by kernel_rfl) (by kernel_rfl) (by kernel_rfl) (by kernel_rfl) (fun _ _ _ h => h) (Or.inr ⟨by rfl, rfl⟩) k3 ?_
    simp only [Act.put, List.setIfInBounds_toArray, List.set_cons_zero, List.set_cons_succ]
    refine wpAnyX_take (i := 25) [26, 27, 28, 29, 30, 31, 32, 33] (some 32) (v := undef) rfl (by rfl) (by kernel_rfl) (by kernel_rfl) (by kernel_rfl) (by kernel_rfl) (fun _ _ _ h => h) (Or.inr ⟨by rfl, rfl⟩) k3 ?_
    simp only [Act.put, List.setIfInBounds_toArray, List.set_cons_zero, List.set_cons_succ]
    refine wpAnyX_take (i := 26) [27, 28, 29, 30, 31, 32, 33] (some 33) (v := undef) rfl (by rfl) (by kernel_rfl) (by kernel_rfl) (by kernel_rfl) (by kernel_rfl) (fun _ _ _ h => h) (Or.inr ⟨by rfl, rfl⟩) k3 ?_
    simp only [Act.put, List.setIfInBounds_toArray, List.set_cons_zero, List.set_cons_succ]
    refine wpAnyX_take (i := 27) [28, 29, 30, 31, 32, 33] (some 34) (v := undef) rfl (by rfl) (by kernel_rfl) (by kernel_rfl) (by kernel_rfl) (by kernel_rfl) (fun _ _ _ h => h) (Or.inr ⟨by rfl, rfl⟩) k3 ?_
    simp only [Act.put, List.setIfInBounds_toArray, List.set_cons_zero, List.set_cons_succ]
    refine wpAnyX_take (i := 28) [29, 30, 31, 32, 33] (some 35) (v := undef) rfl (by rfl) (by kernel_rfl) (by kernel_rfl) (by kernel_rfl) (by kernel_rfl) (fun _ _ _ h => h) (Or.inr ⟨by rfl, rfl⟩) k3 ?_
    simp only [Act.put, List.setIfInBounds_toArray, List.set_cons_zero, List.set_cons_succ]
    refine wpAnyX_take (i := 29) [30, 31, 32, 33] (some 36) (v := undef) rfl (by rfl) (by kernel_rfl) (by kernel_rfl) (by kernel_rfl) (by kernel_rfl) (fun _ _ _ h => h) (Or.inr ⟨by rfl, rfl⟩) k3 ?_
    simp only [Act.put, List.setIfInBounds_toArray, List.set_cons_zero, List.set_cons_succ]
    refine wpAnyX_take (i := 30) [31, 32, 33] (some 37) (v := undef) rfl (by rfl) (by kernel_rfl) (by kernel_rfl) (by kernel_rfl) (by kernel_rfl) (fun _ _ _ h => h) (Or.inr ⟨by rfl, rfl⟩) k3 ?_
    simp only [Act.put, List.setIfInBounds_toArray, List.set_cons_zero, List.set_cons_succ]
    refine wpAnyX_take (i := 31) [32, 33] (some 38) (v := undef) rfl (by rfl) (by kernel_rfl) (by kernel_rfl) (by kernel_rfl) (by kernel_rfl) (fun _ _ _ h => h) (Or.inr ⟨by rfl, rfl⟩) k3 ?_
    simp only [Act.put, List.setIfInBounds_toArray, List.set_cons_zero, List.set_cons_succ]
    refine wpAnyX_take (i := 32) [33] (some 39) (v := undef) rfl (by rfl) (by kernel_rfl) (by kernel_rfl) (by kernel_rfl) (by kernel_rfl) (fun _ _ _ h => h) (Or.inr ⟨by rfl, rfl⟩) k3 ?_
    simp only [Act.put, List.setIfInBounds_toArray, List.set_cons_zero, List.set_cons_succ]
    refine wpAnyX_take (i := 33) [] (some 40) (v := ?_) rfl (by rfl) (by kernel_rfl) (by kernel_rfl) (by kernel_rfl) (by kernel_rfl) (fun _ _ _ h => h) (Or.inl ⟨by rfl, ?_⟩) k3 ?_
    rotate_left
    focus (intro w' hSw; (try dsimp only at hSw); go_simp; try with_reducible rfl)
    simp only [Act.put, List.setIfInBounds_toArray, List.set_cons_zero, List.set_cons_succ]
    refine wpAnyX_done (by kernel_rfl) ?_ _
    clear k3 HO' hS
    have HE := hid (show askF s r = (s, none) from if_pos (.inl HBZ.out))
    have hbm := K3.out.heap HBM2.out id
    go_wp2_with (first
      | (refine wpl_build rfl rfl (msgCs msgZ nilV nilV nilV nilV).toArray (by kernel_rfl) ?_)
      | (refine wpl_storeB (v := zM) rfl rfl rfl rfl hbm msgL_z.info msgL_z.fit msgL_z.oneA ?_; intro w9 hb9 k9 s9))
    refine bodyPost_ret (res_cell_tmp (g := gm) (cs := (msgCs msgZ nilV nilV nilV nilV).toArray) (v := .bool false) Try.results9 _ rfl rfl (hb9.trans (msgL_z.whole rfl)) (by kernel_rfl) (by kernel_rfl)) rfl ?_
    rw [HE.out]
    exact Ans.none HG.out (K2.out.trans ((Keep.refl (fun _ => False) w2).drew.trans K3.out (fun _ _ f => f)) (fun _ _ f => f)) HGE.out.1 (Keep.refl _ _) k9 HGL.out (HM2.out.keep K3.out).at
  | false =>
    have HBZ := hid hbz
    have HO' := hid HO.out
    rw [CObj, cliCs, hbz] at HO'
    clear hbz
    by_cases p1 : r.kind < 2
    · have d1 : decide (r.kind < 2) = true := decide_eq_true p1
      go_wp2_with fail
      refine wp_region_X (fun y => Keep (fun _ => False) w2.drew y) [] (by kernel_rfl) hS (fun _ => ?_)
      refine wpAnyX_take (i := 0) [1, 2, 3, 4, 5, 6, 7, 8, 9, 10, 11, 12, 13, 14, 15, 16, 17, 18, 19, 20, 21, 22, 23, 24, 25, 26, 27, 28, 29, 30, 31, 32, 33] (some 7) (v := ?_) rfl (by rfl) (by kernel_rfl) (by kernel_rfl) (by kernel_rfl) (by kernel_rfl) (fun _ _ _ h => h) (Or.inl ⟨by rfl, ?_⟩) hS ?_
      rotate_left
      focus (intro w' hSw; (try dsimp only at hSw); go_simp; try with_reducible rfl)
      simp only [Act.put, List.setIfInBounds_toArray, List.set_cons_zero, List.set_cons_succ]
      refine wpAnyX_one (i := 1) (by kernel_rfl) rfl (fun K hK => ?_)
      refine step_call (some 8) (by rfl) (by rfl) rfl EM.out (by rfl) HMADE.out ?_
      rintro u w3 ⟨rfl, k3⟩
      have K3 := hid k3
      refine hK _ _ (k3) ?_
      clear hK K
      simp only [Act.put, List.setIfInBounds_toArray, List.set_cons_zero, List.set_cons_succ]
      refine wpAnyX_take (i := 2) [3, 4, 5, 6, 7, 8, 9, 10, 11, 12, 13, 14, 15, 16, 17, 18, 19, 20, 21, 22, 23, 24, 25, 26, 27, 28, 29, 30, 31, 32, 33] (some 9) (v := ?_) rfl (by rfl) (by kernel_rfl) (by kernel_rfl) (by kernel_rfl) (by kernel_rfl) (fun _ _ _ h => h) (Or.inl ⟨by rfl, ?_⟩) k3 ?_
      rotate_left
      focus (intro w' hSw; (try dsimp only at hSw); go_simp; try with_reducible rfl)
      simp only [Act.put, List.setIfInBounds_toArray, List.set_cons_zero, List.set_cons_succ]
      refine wpAnyX_take (i := 3) [4, 5, 6, 7, 8, 9, 10, 11, 12, 13, 14, 15, 16, 17, 18, 19, 20, 21, 22, 23, 24, 25, 26, 27, 28, 29, 30, 31, 32, 33] (some 10) (v := ?_) rfl (by rfl) (by kernel_rfl) (by kernel_rfl) (by kernel_rfl) (by kernel_rfl) (fun _ _ _ h => h) (Or.inl ⟨by rfl, ?_⟩) k3 ?_
      rotate_left
      focus (intro w' hSw; (try dsimp only at hSw); go_simp; try with_reducible rfl)
      simp only [Act.put, List.setIfInBounds_toArray, List.set_cons_zero, List.set_cons_succ]
      refine wpAnyX_take (i := 4) [5, 6, 7, 8, 9, 10, 11, 12, 13, 14, 15, 16, 17, 18, 19, 20, 21, 22, 23, 24, 25, 26, 27, 28, 29, 30, 31, 32, 33] (some 11) (v := ?_) rfl (by rfl) (by kernel_rfl) (by kernel_rfl) (by kernel_rfl) (by kernel_rfl) (fun _ _ _ h => h) (Or.inl ⟨by rfl, ?_⟩) k3 ?_
      rotate_left
      focus (intro w' hSw; (try dsimp only at hSw); go_simp; try with_reducible rfl)
      simp only [Act.put, List.setIfInBounds_toArray, List.set_cons_zero, List.set_cons_succ]
      refine wpAnyX_take (i := 5) [6, 7, 8, 9, 10, 11, 12, 13, 14, 15, 16, 17, 18, 19, 20, 21, 22, 23, 24, 25, 26, 27, 28, 29, 30, 31, 32, 33] (some 12) (v := ?_) rfl (by rfl) (by kernel_rfl) (by kernel_rfl) (by kernel_rfl) (by kernel_rfl) (fun _ _ _ h => h) (Or.inl ⟨by rfl, ?_⟩) k3 ?_
      rotate_left
      focus (intro w' hSw; (try dsimp only at hSw); go_simp; try with_reducible rfl)
      simp only [Act.put, List.setIfInBounds_toArray, List.set_cons_zero, List.set_cons_succ]
      refine wpAnyX_take (i := 6) [7, 8, 9, 10, 11, 12, 13, 14, 15, 16, 17, 18, 19, 20, 21, 22, 23, 24, 25, 26, 27, 28, 29, 30, 31, 32, 33] (some 13) (v := ?_) rfl (by rfl) (by kernel_rfl) (by kernel_rfl) (by kernel_rfl) (by kernel_rfl) (fun _ _ _ h => h) (Or.inl ⟨by rfl, ?_⟩) k3 ?_
      rotate_left
      focus (intro w' hSw; (try dsimp only at hSw); go_simp; try with_reducible rfl)
      simp only [Act.put, List.setIfInBounds_toArray, List.set_cons_zero, List.set_cons_succ]
      refine wpAnyX_take (i := 7) [8, 9, 10, 11, 12, 13, 14, 15, 16, 17, 18, 19, 20, 21, 22, 23, 24, 25, 26, 27, 28, 29, 30, 31, 32, 33] (some 14) (v := _) rfl (by rfl) (by kernel_rfl) (by kernel_rfl) (by kernel_rfl) (by kernel_rfl) (fun _ _ _ h => h) (yieldsIf_cell (v := .bool false) (by rfl) rfl (by rfl) (by kernel_rfl) (fun y hy => cell_at (hy.heap HO'.out id) 10 _ rfl)) k3 ?_
      simp only [Act.put, List.setIfInBounds_toArray, List.set_cons_zero, List.set_cons_succ]
      refine wpAnyX_take (i := 8) [9, 10, 11, 12, 13, 14, 15, 16, 17, 18, 19, 20, 21, 22, 23, 24, 25, 26, 27, 28, 29, 30, 31, 32, 33] (some 15) (v := ?_) rfl (by rfl) (by kernel_rfl) (by kernel_rfl) (by kernel_rfl) (by kernel_rfl) (fun _ _ _ h => h) (Or.inl ⟨by rfl, ?_⟩) k3 ?_
      rotate_left
      focus (intro w' hSw; (try dsimp only at hSw); go_simp; try with_reducible rfl)
      simp only [Act.put, List.setIfInBounds_toArray, List.set_cons_zero, List.set_cons_succ]
      refine wpAnyX_take (i := 9) [10, 11, 12, 13, 14, 15, 16, 17, 18, 19, 20, 21, 22, 23, 24, 25, 26, 27, 28, 29, 30, 31, 32, 33] (some 16) (v := ?_) rfl (by rfl) (by kernel_rfl) (by kernel_rfl) (by kernel_rfl) (by kernel_rfl) (fun _ _ _ h => h) (Or.inl ⟨by rfl, ?_⟩) k3 ?_
      rotate_left
      focus (intro w' hSw; (try dsimp only at hSw); go_simp; try with_reducible rfl)
      simp only [Act.put, List.setIfInBounds_toArray, List.set_cons_zero, List.set_cons_succ]
      refine wpAnyX_take (i := 10) [11, 12, 13, 14, 15, 16, 17, 18, 19, 20, 21, 22, 23, 24, 25, 26, 27, 28, 29, 30, 31, 32, 33] (some 17) (v := ?_) rfl (by rfl) (by kernel_rfl) (by kernel_rfl) (by kernel_rfl) (by kernel_rfl) (fun _ _ _ h => h) (Or.inl ⟨by rfl, ?_⟩) k3 ?_
      rotate_left
      focus (intro w' hSw; (try dsimp only at hSw); go_simp; try with_reducible rfl)
      simp only [Act.put, List.setIfInBounds_toArray, List.set_cons_zero, List.set_cons_succ]
      refine wpAnyX_take (i := 11) [12, 13, 14, 15, 16, 17, 18, 19, 20, 21, 22, 23, 24, 25, 26, 27, 28, 29, 30, 31, 32, 33] (some 18) (v := _) rfl (by rfl) (by kernel_rfl) (by kernel_rfl) (by kernel_rfl) (by kernel_rfl) (fun _ _ _ h => h) (yieldsIf_cell (v := .int .i64 r.kind) (by rfl) rfl (by rfl) (by kernel_rfl) (fun y hy => cell_at (hy.heap HB32.out id) 0 _ rfl)) k3 ?_
      simp only [Act.put, List.setIfInBounds_toArray, List.set_cons_zero, List.set_cons_succ]
      refine wpAnyX_take (i := 12) [13, 14, 15, 16, 17, 18, 19, 20, 21, 22, 23, 24, 25, 26, 27, 28, 29, 30, 31, 32, 33] (some 19) (v := ?_) rfl (by rfl) (by kernel_rfl) (by kernel_rfl) (by kernel_rfl) (by kernel_rfl) (fun _ _ _ h => h) (Or.inl ⟨by rfl, ?_⟩) k3 ?_
      rotate_left
      focus (intro w' hSw; (try dsimp only at hSw); go_simp; try with_reducible rfl)
      simp only [Act.put, List.setIfInBounds_toArray, List.set_cons_zero, List.set_cons_succ]
      refine wpAnyX_take (i := 13) [14, 15, 16, 17, 18, 19, 20, 21, 22, 23, 24, 25, 26, 27, 28, 29, 30, 31, 32, 33] (some 20) (v := ?_) rfl (by rfl) (by kernel_rfl) (by kernel_rfl) (by kernel_rfl) (by kernel_rfl) (fun _ _ _ h => h) (Or.inl ⟨by rfl, ?_⟩) k3 ?_
      rotate_left
      focus (intro w' hSw; (try dsimp only at hSw); go_simp; try with_reducible rfl)
      simp only [Act.put, List.setIfInBounds_toArray, List.set_cons_zero, List.set_cons_succ]
      refine wpAnyX_take (i := 14) [15, 16, 17, 18, 19, 20, 21, 22, 23, 24, 25, 26, 27, 28, 29, 30, 31, 32, 33] (some 21) (v := ?_) rfl (by rfl) (by kernel_rfl) (by kernel_rfl) (by kernel_rfl) (by kernel_rfl) (fun _ _ _ h => h) (Or.inl ⟨by rfl, ?_⟩) k3 ?_
      rotate_left
      focus (intro w' hSw; (try dsimp only at hSw); go_simp; try with_reducible rfl)
      simp only [Act.put, List.setIfInBounds_toArray, List.set_cons_zero, List.set_cons_succ]
      refine wpAnyX_take (i := 15) [16, 17, 18, 19, 20, 21, 22, 23, 24, 25, 26, 27, 28, 29, 30, 31, 32, 33] (some 22) (v := undef) rfl (by rfl) (by kernel_rfl) (by kernel_rfl) (by kernel_rfl) (by kernel_rfl) (fun _ _ _ h => h) (Or.inr ⟨by rfl, rfl⟩) k3 ?_
      simp only [Act.put, List.setIfInBounds_toArray, List.set_cons_zero, List.set_cons_succ]
      refine wpAnyX_take (i := 16) [17, 18, 19, 20, 21, 22, 23, 24, 25, 26, 27, 28, 29, 30, 31, 32, 33] (some 23) (v := undef) rfl (by rfl) (by kernel_rfl) (by kernel_rfl) (by kernel_rfl) (by kernel_rfl) (fun _ _ _ h => h) (Or.inr ⟨by rfl, rfl⟩) k3 ?_
      simp only [Act.put, List.setIfInBounds_toArray, List.set_cons_zero, List.set_cons_succ]
      refine wpAnyX_take (i := 17) [18, 19, 20, 21, 22, 23, 24, 25, 26, 27, 28, 29, 30, 31, 32, 33] (some 24) (v := undef) rfl (by rfl) (by kernel_rfl) (by kernel_rfl) (by kernel_rfl) (by kernel_rfl) (fun _ _ _ h => h) (Or.inr ⟨by rfl, rfl⟩) k3 ?_
      simp only [Act.put, List.setIfInBounds_toArray, List.set_cons_zero, List.set_cons_succ]
      refine wpAnyX_take (i := 18) [19, 20, 21, 22, 23, 24, 25, 26, 27, 28, 29, 30, 31, 32, 33] (some 25) (v := ?_) rfl (by rfl) (by kernel_rfl) (by kernel_rfl) (by kernel_rfl) (by kernel_rfl) (fun _ _ _ h => h) (Or.inl ⟨by rfl, ?_⟩) k3 ?_
      rotate_left
      focus (intro w' hSw; (try dsimp only at hSw); go_simp; try with_reducible rfl)
      simp only [Act.put, List.setIfInBounds_toArray, List.set_cons_zero, List.set_cons_succ]
      refine wpAnyX_take (i := 19) [20, 21, 22, 23, 24, 25, 26, 27, 28, 29, 30, 31, 32, 33] (some 26) (v := ?_) rfl (by rfl) (by kernel_rfl) (by kernel_rfl) (by kernel_rfl) (by kernel_rfl) (fun _ _ _ h => h) (Or.inl ⟨by rfl, ?_⟩) k3 ?_
      rotate_left
      focus (intro w' hSw; (try dsimp only at hSw); go_simp; try with_reducible rfl)
      simp only [Act.put, List.setIfInBounds_toArray, List.set_cons_zero, List.set_cons_succ]
      refine wpAnyX_take (i := 20) [30, 31, 32, 33] (some 27) (v := undef) rfl (by rfl) (by kernel_rfl) (by kernel_rfl) (by kernel_rfl) (by kernel_rfl) (fun _ _ _ h => h) (Or.inr ⟨by rfl, rfl⟩) k3 ?_
      simp only [Act.put, List.setIfInBounds_toArray, List.set_cons_zero, List.set_cons_succ]
      refine wpAnyX_take (i := 21) [22, 23, 24, 30, 31, 32, 33] (some 28) (v := undef) rfl (by rfl) (by kernel_rfl) (by kernel_rfl) (by kernel_rfl) (by kernel_rfl) (fun _ _ _ h => h) (Or.inr ⟨by rfl, rfl⟩) k3 ?_
      simp only [Act.put, List.setIfInBounds_toArray, List.set_cons_zero, List.set_cons_succ]
      refine wpAnyX_take (i := 22) [23, 24, 30, 31, 32, 33] (some 29) (v := undef) rfl (by rfl) (by kernel_rfl) (by kernel_rfl) (by kernel_rfl) (by kernel_rfl) (fun _ _ _ h => h) (Or.inr ⟨by rfl, rfl⟩) k3 ?_
      simp only [Act.put, List.setIfInBounds_toArray, List.set_cons_zero, List.set_cons_succ]
      refine wpAnyX_take (i := 23) [24, 30, 31, 32, 33] (some 30) (v := undef) rfl (by rfl) (by kernel_rfl) (by kernel_rfl) (by kernel_rfl) (by kernel_rfl) (fun _ _ _ h => h) (Or.inr ⟨by rfl, rfl⟩) k3 ?_
      simp only [Act.put, List.setIfInBounds_toArray, List.set_cons_zero, List.set_cons_succ]
      refine wpAnyX_take (i := 24) [30, 31, 32, 33] (some 31) (v := undef) rfl (by rfl) (by kernel_rfl) (by kernel_rfl) (by kernel_rfl) (by kernel_rfl) (fun _ _ _ h => h) (Or.inr ⟨by rfl, rfl⟩) k3 ?_
      simp only [Act.put, List.setIfInBounds_toArray, List.set_cons_zero, List.set_cons_succ]
      refine wpAnyX_take (i := 25) [26, 27, 28, 29, 30, 31, 32, 33] (some 32) (v := undef) rfl (by rfl) (by kernel_rfl) (by kernel_rfl) (by kernel_rfl) (by kernel_rfl) (fun _ _ _ h => h) (Or.inr ⟨by rfl, rfl⟩) k3 ?_
      simp only [Act.put, List.setIfInBounds_toArray, List.set_cons_zero, List.set_cons_succ]
      refine wpAnyX_take (i := 26) [27, 28, 29, 30, 31, 32, 33] (some 33) (v := undef) rfl (by rfl) (by kernel_rfl) (by kernel_rfl) (by kernel_rfl) (by kernel_rfl) (fun _ _ _ h => h) (Or.inr ⟨by rfl, rfl⟩) k3 ?_
      simp only [Act.put, List.setIfInBounds_toArray, List.set_cons_zero, List.set_cons_succ]
      refine wpAnyX_take (i := 27) [28, 29, 30, 31, 32, 33] (some 34) (v := undef) rfl (by rfl) (by kernel_rfl) (by kernel_rfl) (by kernel_rfl) (by kernel_rfl) (fun _ _ _ h => h) (Or.inr ⟨by rfl, rfl⟩) k3 ?_
      simp only [Act.put, List.setIfInBounds_toArray, List.set_cons_zero, List.set_cons_succ]
      refine wpAnyX_take (i := 28) [29, 30, 31, 32, 33] (some 35) (v := undef) rfl (by rfl) (by kernel_rfl) (by kernel_rfl) (by kernel_rfl) (by kernel_rfl) (fun _ _ _ h => h) (Or.inr ⟨by rfl, rfl⟩) k3 ?_
      simp only [Act.put, List.setIfInBounds_toArray, List.set_cons_zero, List.set_cons_succ]
      refine wpAnyX_take (i := 29) [30, 31, 32, 33] (some 36) (v := undef) rfl (by rfl) (by kernel_rfl) (by kernel_rfl) (by kernel_rfl) (by kernel_rfl) (fun _ _ _ h => h) (Or.inr ⟨by rfl, rfl⟩) k3 ?_
      simp only [Act.put, List.setIfInBounds_toArray, List.set_cons_zero, List.set_cons_succ]
      refine wpAnyX_take (i := 30) [31, 32, 33] (some 37) (v := undef) rfl (by rfl) (by kernel_rfl) (by kernel_rfl) (by kernel_rfl) (by kernel_rfl) (fun _ _ _ h => h) (Or.inr ⟨by rfl, rfl⟩) k3 ?_
      simp only [Act.put, List.setIfInBounds_toArray, List.set_cons_zero, List.set_cons_succ]
      refine wpAnyX_take (i := 31) [32, 33] (some 38) (v := undef) rfl (by rfl) (by kernel_rfl) (by kernel_rfl) (by kernel_rfl) (by kernel_rfl) (fun _ _ _ h => h) (Or.inr ⟨by rfl, rfl⟩) k3 ?_
      simp only [Act.put, List.setIfInBounds_toArray, List.set_cons_zero, List.set_cons_succ]
      refine wpAnyX_take (i := 32) [33] (some 39) (v := undef) rfl (by rfl) (by kernel_rfl) (by kernel_rfl) (by kernel_rfl) (by kernel_rfl) (fun _ _ _ h => h) (Or.inr ⟨by rfl, rfl⟩) k3 ?_
      simp only [Act.put, List.setIfInBounds_toArray, List.set_cons_zero, List.set_cons_succ]
      refine wpAnyX_take (i := 33) [] (some 40) (v := ?_) rfl (by rfl) (by kernel_rfl) (by kernel_rfl) (by kernel_rfl) (by kernel_rfl) (fun _ _ _ h => h) (Or.inl ⟨by rfl, ?_⟩) k3 ?_
      rotate_left
      focus (intro w' hSw; (try dsimp only at hSw); go_simp; try with_reducible rfl)
      simp only [Act.put, List.setIfInBounds_toArray, List.set_cons_zero, List.set_cons_succ]
      refine wpAnyX_done (by kernel_rfl) ?_ _
      clear k3 hS
      have HE := hid (show askF s r = (s, none) from if_pos (.inr (.inl (by omega))))
      have hbm := K3.out.heap HBM2.out id
      go_wp2_with (first
        | (refine wpl_build rfl rfl (msgCs msgZ nilV nilV nilV nilV).toArray (by kernel_rfl) ?_)
        | (refine wpl_storeB (v := zM) rfl rfl rfl rfl hbm msgL_z.info msgL_z.fit msgL_z.oneA ?_; intro w9 hb9 k9 s9))
      refine bodyPost_ret (res_cell_tmp (g := gm) (cs := (msgCs msgZ nilV nilV nilV nilV).toArray) (v := .bool false) Try.results9 _ rfl rfl (hb9.trans (msgL_z.whole rfl)) (by kernel_rfl) (by kernel_rfl)) rfl ?_
      rw [HE.out]
      exact Ans.none HG.out (K2.out.trans ((Keep.refl (fun _ => False) w2).drew.trans K3.out (fun _ _ f => f)) (fun _ _ f => f)) HGE.out.1 (Keep.refl _ _) k9 HGL.out (HM2.out.keep K3.out).at
    have d1 : decide (r.kind < 2) = false := decide_eq_false p1
    by_cases p2 : 8 ≤ r.kind
    · have d2 : decide (8 ≤ r.kind) = true := decide_eq_true p2
      go_wp2_with fail
      refine wp_region_X (fun y => Keep (fun _ => False) w2.drew y) [] (by kernel_rfl) hS (fun _ => ?_)
      refine wpAnyX_take (i := 0) [1, 2, 3, 4, 5, 6, 7, 8, 9, 10, 11, 12, 13, 14, 15, 16, 17, 18, 19, 20, 21, 22, 23, 24, 25, 26, 27, 28, 29, 30, 31, 32, 33] (some 7) (v := ?_) rfl (by rfl) (by kernel_rfl) (by kernel_rfl) (by kernel_rfl) (by kernel_rfl) (fun _ _ _ h => h) (Or.inl ⟨by rfl, ?_⟩) hS ?_
      rotate_left
      focus (intro w' hSw; (try dsimp only at hSw); go_simp; try with_reducible rfl)
      simp only [Act.put, List.setIfInBounds_toArray, List.set_cons_zero, List.set_cons_succ]
      refine wpAnyX_one (i := 1) (by kernel_rfl) rfl (fun K hK => ?_)
      refine step_call (some 8) (by rfl) (by rfl) rfl EM.out (by rfl) HMADE.out ?_
      rintro u w3 ⟨rfl, k3⟩
      have K3 := hid k3
      refine hK _ _ (k3) ?_
      clear hK K
      simp only [Act.put, List.setIfInBounds_toArray, List.set_cons_zero, List.set_cons_succ]
      refine wpAnyX_take (i := 2) [3, 4, 5, 6, 7, 8, 9, 10, 11, 12, 13, 14, 15, 16, 17, 18, 19, 20, 21, 22, 23, 24, 25, 26, 27, 28, 29, 30, 31, 32, 33] (some 9) (v := ?_) rfl (by rfl) (by kernel_rfl) (by kernel_rfl) (by kernel_rfl) (by kernel_rfl) (fun _ _ _ h => h) (Or.inl ⟨by rfl, ?_⟩) k3 ?_
      rotate_left
      focus (intro w' hSw; (try dsimp only at hSw); go_simp; try with_reducible rfl)
      simp only [Act.put, List.setIfInBounds_toArray, List.set_cons_zero, List.set_cons_succ]
      refine wpAnyX_take (i := 3) [4, 5, 6, 7, 8, 9, 10, 11, 12, 13, 14, 15, 16, 17, 18, 19, 20, 21, 22, 23, 24, 25, 26, 27, 28, 29, 30, 31, 32, 33] (some 10) (v := ?_) rfl (by rfl) (by kernel_rfl) (by kernel_rfl) (by kernel_rfl) (by kernel_rfl) (fun _ _ _ h => h) (Or.inl ⟨by rfl, ?_⟩) k3 ?_
      rotate_left
      focus (intro w' hSw; (try dsimp only at hSw); go_simp; try with_reducible rfl)
      simp only [Act.put, List.setIfInBounds_toArray, List.set_cons_zero, List.set_cons_succ]
      refine wpAnyX_take (i := 4) [5, 6, 7, 8, 9, 10, 11, 12, 13, 14, 15, 16, 17, 18, 19, 20, 21, 22, 23, 24, 25, 26, 27, 28, 29, 30, 31, 32, 33] (some 11) (v := ?_) rfl (by rfl) (by kernel_rfl) (by kernel_rfl) (by kernel_rfl) (by kernel_rfl) (fun _ _ _ h => h) (Or.inl ⟨by rfl, ?_⟩) k3 ?_
      rotate_left
      focus (intro w' hSw; (try dsimp only at hSw); go_simp; try with_reducible rfl)
      simp only [Act.put, List.setIfInBounds_toArray, List.set_cons_zero, List.set_cons_succ]
      refine wpAnyX_take (i := 5) [6, 7, 8, 9, 10, 11, 12, 13, 14, 15, 16, 17, 18, 19, 20, 21, 22, 23, 24, 25, 26, 27, 28, 29, 30, 31, 32, 33] (some 12) (v := ?_) rfl (by rfl) (by kernel_rfl) (by kernel_rfl) (by kernel_rfl) (by kernel_rfl) (fun _ _ _ h => h) (Or.inl ⟨by rfl, ?_⟩) k3 ?_
      rotate_left
      focus (intro w' hSw; (try dsimp only at hSw); go_simp; try with_reducible rfl)
      simp only [Act.put, List.setIfInBounds_toArray, List.set_cons_zero, List.set_cons_succ]
      refine wpAnyX_take (i := 6) [7, 8, 9, 10, 11, 12, 13, 14, 15, 16, 17, 18, 19, 20, 21, 22, 23, 24, 25, 26, 27, 28, 29, 30, 31, 32, 33] (some 13) (v := ?_) rfl (by rfl) (by kernel_rfl) (by kernel_rfl) (by kernel_rfl) (by kernel_rfl) (fun _ _ _ h => h) (Or.inl ⟨by rfl, ?_⟩) k3 ?_
      rotate_left
      focus (intro w' hSw; (try dsimp only at hSw); go_simp; try with_reducible rfl)
      simp only [Act.put, List.setIfInBounds_toArray, List.set_cons_zero, List.set_cons_succ]
      refine wpAnyX_take (i := 7) [8, 9, 10, 11, 12, 13, 14, 15, 16, 17, 18, 19, 20, 21, 22, 23, 24, 25, 26, 27, 28, 29, 30, 31, 32, 33] (some 14) (v := _) rfl (by rfl) (by kernel_rfl) (by kernel_rfl) (by kernel_rfl) (by kernel_rfl) (fun _ _ _ h => h) (yieldsIf_cell (v := .bool false) (by rfl) rfl (by rfl) (by kernel_rfl) (fun y hy => cell_at (hy.heap HO'.out id) 10 _ rfl)) k3 ?_
      simp only [Act.put, List.setIfInBounds_toArray, List.set_cons_zero, List.set_cons_succ]
      refine wpAnyX_take (i := 8) [9, 10, 11, 12, 13, 14, 15, 16, 17, 18, 19, 20, 21, 22, 23, 24, 25, 26, 27, 28, 29, 30, 31, 32, 33] (some 15) (v := ?_) rfl (by rfl) (by kernel_rfl) (by kernel_rfl) (by kernel_rfl) (by kernel_rfl) (fun _ _ _ h => h) (Or.inl ⟨by rfl, ?_⟩) k3 ?_
      rotate_left
      focus (intro w' hSw; (try dsimp only at hSw); go_simp; try with_reducible rfl)
      simp only [Act.put, List.setIfInBounds_toArray, List.set_cons_zero, List.set_cons_succ]
      refine wpAnyX_take (i := 9) [10, 11, 12, 13, 14, 15, 16, 17, 18, 19, 20, 21, 22, 23, 24, 25, 26, 27, 28, 29, 30, 31, 32, 33] (some 16) (v := ?_) rfl (by rfl) (by kernel_rfl) (by kernel_rfl) (by kernel_rfl) (by kernel_rfl) (fun _ _ _ h => h) (Or.inl ⟨by rfl, ?_⟩) k3 ?_
      rotate_left
      focus (intro w' hSw; (try dsimp only at hSw); go_simp; try with_reducible rfl)
      simp only [Act.put, List.setIfInBounds_toArray, List.set_cons_zero, List.set_cons_succ]
      refine wpAnyX_take (i := 10) [11, 12, 13, 14, 15, 16, 17, 18, 19, 20, 21, 22, 23, 24, 25, 26, 27, 28, 29, 30, 31, 32, 33] (some 17) (v := ?_) rfl (by rfl) (by kernel_rfl) (by kernel_rfl) (by kernel_rfl) (by kernel_rfl) (fun _ _ _ h => h) (Or.inl ⟨by rfl, ?_⟩) k3 ?_
      rotate_left
      focus (intro w' hSw; (try dsimp only at hSw); go_simp; try with_reducible rfl)
      simp only [Act.put, List.setIfInBounds_toArray, List.set_cons_zero, List.set_cons_succ]
      refine wpAnyX_take (i := 11) [12, 13, 14, 15, 16, 17, 18, 19, 20, 21, 22, 23, 24, 25, 26, 27, 28, 29, 30, 31, 32, 33] (some 18) (v := _) rfl (by rfl) (by kernel_rfl) (by kernel_rfl) (by kernel_rfl) (by kernel_rfl) (fun _ _ _ h => h) (yieldsIf_cell (v := .int .i64 r.kind) (by rfl) rfl (by rfl) (by kernel_rfl) (fun y hy => cell_at (hy.heap HB32.out id) 0 _ rfl)) k3 ?_
      simp only [Act.put, List.setIfInBounds_toArray, List.set_cons_zero, List.set_cons_succ]
      refine wpAnyX_take (i := 12) [13, 14, 15, 16, 17, 18, 19, 20, 21, 22, 23, 24, 25, 26, 27, 28, 29, 30, 31, 32, 33] (some 19) (v := ?_) rfl (by rfl) (by kernel_rfl) (by kernel_rfl) (by kernel_rfl) (by kernel_rfl) (fun _ _ _ h => h) (Or.inl ⟨by rfl, ?_⟩) k3 ?_
      rotate_left
      focus (intro w' hSw; (try dsimp only at hSw); go_simp; try with_reducible rfl)
      simp only [Act.put, List.setIfInBounds_toArray, List.set_cons_zero, List.set_cons_succ]
      refine wpAnyX_take (i := 13) [14, 15, 16, 17, 18, 19, 20, 21, 22, 23, 24, 25, 26, 27, 28, 29, 30, 31, 32, 33] (some 20) (v := ?_) rfl (by rfl) (by kernel_rfl) (by kernel_rfl) (by kernel_rfl) (by kernel_rfl) (fun _ _ _ h => h) (Or.inl ⟨by rfl, ?_⟩) k3 ?_
      rotate_left
      focus (intro w' hSw; (try dsimp only at hSw); go_simp; try with_reducible rfl)
      simp only [Act.put, List.setIfInBounds_toArray, List.set_cons_zero, List.set_cons_succ]
      refine wpAnyX_take (i := 14) [15, 16, 17, 18, 19, 20, 21, 22, 23, 24, 25, 26, 27, 28, 29, 30, 31, 32, 33] (some 21) (v := ?_) rfl (by rfl) (by kernel_rfl) (by kernel_rfl) (by kernel_rfl) (by kernel_rfl) (fun _ _ _ h => h) (Or.inl ⟨by rfl, ?_⟩) k3 ?_
      rotate_left
      focus (intro w' hSw; (try dsimp only at hSw); go_simp; try with_reducible rfl)
      simp only [Act.put, List.setIfInBounds_toArray, List.set_cons_zero, List.set_cons_succ]
      refine wpAnyX_take (i := 15) [16, 17, 18, 19, 20, 21, 22, 23, 24, 25, 26, 27, 28, 29, 30, 31, 32, 33] (some 22) (v := ?_) rfl (by rfl) (by kernel_rfl) (by kernel_rfl) (by kernel_rfl) (by kernel_rfl) (fun _ _ _ h => h) (Or.inl ⟨by rfl, ?_⟩) k3 ?_
      rotate_left
      focus (intro w' hSw; (try dsimp only at hSw); go_simp; try with_reducible rfl)
      simp only [Act.put, List.setIfInBounds_toArray, List.set_cons_zero, List.set_cons_succ]
      refine wpAnyX_take (i := 16) [17, 18, 19, 20, 21, 22, 23, 24, 25, 26, 27, 28, 29, 30, 31, 32, 33] (some 23) (v := _) rfl (by rfl) (by kernel_rfl) (by kernel_rfl) (by kernel_rfl) (by kernel_rfl) (fun _ _ _ h => h) (yieldsIf_cell (v := .int .i64 r.kind) (by rfl) rfl (by rfl) (by kernel_rfl) (fun y hy => cell_at (hy.heap HB32.out id) 0 _ rfl)) k3 ?_
      simp only [Act.put, List.setIfInBounds_toArray, List.set_cons_zero, List.set_cons_succ]
      refine wpAnyX_take (i := 17) [18, 19, 20, 21, 22, 23, 24, 25, 26, 27, 28, 29, 30, 31, 32, 33] (some 24) (v := ?_) rfl (by rfl) (by kernel_rfl) (by kernel_rfl) (by kernel_rfl) (by kernel_rfl) (fun _ _ _ h => h) (Or.inl ⟨by rfl, ?_⟩) k3 ?_
      rotate_left
      focus (intro w' hSw; (try dsimp only at hSw); go_simp; try with_reducible rfl)
      simp only [Act.put, List.setIfInBounds_toArray, List.set_cons_zero, List.set_cons_succ]
      refine wpAnyX_take (i := 18) [19, 20, 21, 22, 23, 24, 25, 26, 27, 28, 29, 30, 31, 32, 33] (some 25) (v := ?_) rfl (by rfl) (by kernel_rfl) (by kernel_rfl) (by kernel_rfl) (by kernel_rfl) (fun _ _ _ h => h) (Or.inl ⟨by rfl, ?_⟩) k3 ?_
      rotate_left
      focus (intro w' hSw; (try dsimp only at hSw); go_simp; try with_reducible rfl)
      simp only [Act.put, List.setIfInBounds_toArray, List.set_cons_zero, List.set_cons_succ]
      refine wpAnyX_take (i := 19) [20, 21, 22, 23, 24, 25, 26, 27, 28, 29, 30, 31, 32, 33] (some 26) (v := ?_) rfl (by rfl) (by kernel_rfl) (by kernel_rfl) (by kernel_rfl) (by kernel_rfl) (fun _ _ _ h => h) (Or.inl ⟨by rfl, ?_⟩) k3 ?_
      rotate_left
      focus (intro w' hSw; (try dsimp only at hSw); go_simp; try with_reducible rfl)
      simp only [Act.put, List.setIfInBounds_toArray, List.set_cons_zero, List.set_cons_succ]
      refine wpAnyX_take (i := 20) [30, 31, 32, 33] (some 27) (v := undef) rfl (by rfl) (by kernel_rfl) (by kernel_rfl) (by kernel_rfl) (by kernel_rfl) (fun _ _ _ h => h) (Or.inr ⟨by rfl, rfl⟩) k3 ?_
      simp only [Act.put, List.setIfInBounds_toArray, List.set_cons_zero, List.set_cons_succ]
      refine wpAnyX_take (i := 21) [22, 23, 24, 30, 31, 32, 33] (some 28) (v := undef) rfl (by rfl) (by kernel_rfl) (by kernel_rfl) (by kernel_rfl) (by kernel_rfl) (fun _ _ _ h => h) (Or.inr ⟨by rfl, rfl⟩) k3 ?_
      simp only [Act.put, List.setIfInBounds_toArray, List.set_cons_zero, List.set_cons_succ]
      refine wpAnyX_take (i := 22) [23, 24, 30, 31, 32, 33] (some 29) (v := undef) rfl (by rfl) (by kernel_rfl) (by kernel_rfl) (by kernel_rfl) (by kernel_rfl) (fun _ _ _ h => h) (Or.inr ⟨by rfl, rfl⟩) k3 ?_
      simp only [Act.put, List.setIfInBounds_toArray, List.set_cons_zero, List.set_cons_succ]
      refine wpAnyX_take (i := 23) [24, 30, 31, 32, 33] (some 30) (v := undef) rfl (by rfl) (by kernel_rfl) (by kernel_rfl) (by kernel_rfl) (by kernel_rfl) (fun _ _ _ h => h) (Or.inr ⟨by rfl, rfl⟩) k3 ?_
      simp only [Act.put, List.setIfInBounds_toArray, List.set_cons_zero, List.set_cons_succ]
      refine wpAnyX_take (i := 24) [30, 31, 32, 33] (some 31) (v := undef) rfl (by rfl) (by kernel_rfl) (by kernel_rfl) (by kernel_rfl) (by kernel_rfl) (fun _ _ _ h => h) (Or.inr ⟨by rfl, rfl⟩) k3 ?_
      simp only [Act.put, List.setIfInBounds_toArray, List.set_cons_zero, List.set_cons_succ]
      refine wpAnyX_take (i := 25) [26, 27, 28, 29, 30, 31, 32, 33] (some 32) (v := undef) rfl (by rfl) (by kernel_rfl) (by kernel_rfl) (by kernel_rfl) (by kernel_rfl) (fun _ _ _ h => h) (Or.inr ⟨by rfl, rfl⟩) k3 ?_
      simp only [Act.put, List.setIfInBounds_toArray, List.set_cons_zero, List.set_cons_succ]
      refine wpAnyX_take (i := 26) [27, 28, 29, 30, 31, 32, 33] (some 33) (v := undef) rfl (by rfl) (by kernel_rfl) (by kernel_rfl) (by kernel_rfl) (by kernel_rfl) (fun _ _ _ h => h) (Or.inr ⟨by rfl, rfl⟩) k3 ?_
      simp only [Act.put, List.setIfInBounds_toArray, List.set_cons_zero, List.set_cons_succ]
      refine wpAnyX_take (i := 27) [28, 29, 30, 31, 32, 33] (some 34) (v := undef) rfl (by rfl) (by kernel_rfl) (by kernel_rfl) (by kernel_rfl) (by kernel_rfl) (fun _ _ _ h => h) (Or.inr ⟨by rfl, rfl⟩) k3 ?_
      simp only [Act.put, List.setIfInBounds_toArray, List.set_cons_zero, List.set_cons_succ]
      refine wpAnyX_take (i := 28) [29, 30, 31, 32, 33] (some 35) (v := undef) rfl (by rfl) (by kernel_rfl) (by kernel_rfl) (by kernel_rfl) (by kernel_rfl) (fun _ _ _ h => h) (Or.inr ⟨by rfl, rfl⟩) k3 ?_
      simp only [Act.put, List.setIfInBounds_toArray, List.set_cons_zero, List.set_cons_succ]
      refine wpAnyX_take (i := 29) [30, 31, 32, 33] (some 36) (v := undef) rfl (by rfl) (by kernel_rfl) (by kernel_rfl) (by kernel_rfl) (by kernel_rfl) (fun _ _ _ h => h) (Or.inr ⟨by rfl, rfl⟩) k3 ?_
      simp only [Act.put, List.setIfInBounds_toArray, List.set_cons_zero, List.set_cons_succ]
      refine wpAnyX_take (i := 30) [31, 32, 33] (some 37) (v := undef) rfl (by rfl) (by kernel_rfl) (by kernel_rfl) (by kernel_rfl) (by kernel_rfl) (fun _ _ _ h => h) (Or.inr ⟨by rfl, rfl⟩) k3 ?_
      simp only [Act.put, List.setIfInBounds_toArray, List.set_cons_zero, List.set_cons_succ]
      refine wpAnyX_take (i := 31) [32, 33] (some 38) (v := undef) rfl (by rfl) (by kernel_rfl) (by kernel_rfl) (by kernel_rfl) (by kernel_rfl) (fun _ _ _ h => h) (Or.inr ⟨by rfl, rfl⟩) k3 ?_
      simp only [Act.put, List.setIfInBounds_toArray, List.set_cons_zero, List.set_cons_succ]
      refine wpAnyX_take (i := 32) [33] (some 39) (v := undef) rfl (by rfl) (by kernel_rfl) (by kernel_rfl) (by kernel_rfl) (by kernel_rfl) (fun _ _ _ h => h) (Or.inr ⟨by rfl, rfl⟩) k3 ?_
      simp only [Act.put, List.setIfInBounds_toArray, List.set_cons_zero, List.set_cons_succ]
      refine wpAnyX_take (i := 33) [] (some 40) (v := ?_) rfl (by rfl) (by kernel_rfl) (by kernel_rfl) (by kernel_rfl) (by kernel_rfl) (fun _ _ _ h => h) (Or.inl ⟨by rfl, ?_⟩) k3 ?_
      rotate_left
      focus (intro w' hSw; (try dsimp only at hSw); go_simp; try with_reducible rfl)
      simp only [Act.put, List.setIfInBounds_toArray, List.set_cons_zero, List.set_cons_succ]
      refine wpAnyX_done (by kernel_rfl) ?_ _
      clear k3 hS
      have HE := hid (show askF s r = (s, none) from if_pos (.inr (.inr (.inl (by omega)))))
      have hbm := K3.out.heap HBM2.out id
      go_wp2_with (first
        | (refine wpl_build rfl rfl (msgCs msgZ nilV nilV nilV nilV).toArray (by kernel_rfl) ?_)
        | (refine wpl_storeB (v := zM) rfl rfl rfl rfl hbm msgL_z.info msgL_z.fit msgL_z.oneA ?_; intro w9 hb9 k9 s9))
      refine bodyPost_ret (res_cell_tmp (g := gm) (cs := (msgCs msgZ nilV nilV nilV nilV).toArray) (v := .bool false) Try.results9 _ rfl rfl (hb9.trans (msgL_z.whole rfl)) (by kernel_rfl) (by kernel_rfl)) rfl ?_
      rw [HE.out]
      exact Ans.none HG.out (K2.out.trans ((Keep.refl (fun _ => False) w2).drew.trans K3.out (fun _ _ f => f)) (fun _ _ f => f)) HGE.out.1 (Keep.refl _ _) k9 HGL.out (HM2.out.keep K3.out).at
    have d2 : decide (8 ≤ r.kind) = false := decide_eq_false p2
    by_cases p3 : mayR (withR r s.session (s.seq + 1))
    case neg =>
      have P3 := hid p3
      clear p3
      go_wp2_with fail
      refine wp_region_X (fun y => Keep (fun _ => False) w2.drew y) [] (by kernel_rfl) hS (fun _ => ?_)
      refine wpAnyX_take (i := 0) [1, 2, 3, 4, 5, 6, 7, 8, 9, 10, 11, 12, 13, 14, 15, 16, 17, 18, 19, 20, 21, 22, 23, 24, 25, 26, 27, 28, 29, 30, 31, 32, 33] (some 7) (v := ?_) rfl (by rfl) (by kernel_rfl) (by kernel_rfl) (by kernel_rfl) (by kernel_rfl) (fun _ _ _ h => h) (Or.inl ⟨by rfl, ?_⟩) hS ?_
      rotate_left
      focus (intro w' hSw; (try dsimp only at hSw); go_simp; try with_reducible rfl)
      simp only [Act.put, List.setIfInBounds_toArray, List.set_cons_zero, List.set_cons_succ]
      refine wpAnyX_one (i := 1) (by kernel_rfl) rfl (fun K hK => ?_)
      refine step_call (some 8) (by rfl) (by rfl) rfl EM.out (by rfl) HMADE.out ?_
      rintro u w3 ⟨rfl, k3⟩
      have K3 := hid k3
      refine hK _ _ (k3) ?_
      clear hK K
      simp only [Act.put, List.setIfInBounds_toArray, List.set_cons_zero, List.set_cons_succ]
      refine wpAnyX_take (i := 2) [3, 4, 5, 6, 7, 8, 9, 10, 11, 12, 13, 14, 15, 16, 17, 18, 19, 20, 21, 22, 23, 24, 25, 26, 27, 28, 29, 30, 31, 32, 33] (some 9) (v := ?_) rfl (by rfl) (by kernel_rfl) (by kernel_rfl) (by kernel_rfl) (by kernel_rfl) (fun _ _ _ h => h) (Or.inl ⟨by rfl, ?_⟩) k3 ?_
      rotate_left
      focus (intro w' hSw; (try dsimp only at hSw); go_simp; try with_reducible rfl)
      simp only [Act.put, List.setIfInBounds_toArray, List.set_cons_zero, List.set_cons_succ]
      refine wpAnyX_take (i := 3) [4, 5, 6, 7, 8, 9, 10, 11, 12, 13, 14, 15, 16, 17, 18, 19, 20, 21, 22, 23, 24, 25, 26, 27, 28, 29, 30, 31, 32, 33] (some 10) (v := ?_) rfl (by rfl) (by kernel_rfl) (by kernel_rfl) (by kernel_rfl) (by kernel_rfl) (fun _ _ _ h => h) (Or.inl ⟨by rfl, ?_⟩) k3 ?_
      rotate_left
      focus (intro w' hSw; (try dsimp only at hSw); go_simp; try with_reducible rfl)
      simp only [Act.put, List.setIfInBounds_toArray, List.set_cons_zero, List.set_cons_succ]
      refine wpAnyX_take (i := 4) [5, 6, 7, 8, 9, 10, 11, 12, 13, 14, 15, 16, 17, 18, 19, 20, 21, 22, 23, 24, 25, 26, 27, 28, 29, 30, 31, 32, 33] (some 11) (v := ?_) rfl (by rfl) (by kernel_rfl) (by kernel_rfl) (by kernel_rfl) (by kernel_rfl) (fun _ _ _ h => h) (Or.inl ⟨by rfl, ?_⟩) k3 ?_
      rotate_left
      focus (intro w' hSw; (try dsimp only at hSw); go_simp; try with_reducible rfl)
      simp only [Act.put, List.setIfInBounds_toArray, List.set_cons_zero, List.set_cons_succ]
      refine wpAnyX_take (i := 5) [6, 7, 8, 9, 10, 11, 12, 13, 14, 15, 16, 17, 18, 19, 20, 21, 22, 23, 24, 25, 26, 27, 28, 29, 30, 31, 32, 33] (some 12) (v := ?_) rfl (by rfl) (by kernel_rfl) (by kernel_rfl) (by kernel_rfl) (by kernel_rfl) (fun _ _ _ h => h) (Or.inl ⟨by rfl, ?_⟩) k3 ?_
      rotate_left
      focus (intro w' hSw; (try dsimp only at hSw); go_simp; try with_reducible rfl)
      simp only [Act.put, List.setIfInBounds_toArray, List.set_cons_zero, List.set_cons_succ]
      refine wpAnyX_take (i := 6) [7, 8, 9, 10, 11, 12, 13, 14, 15, 16, 17, 18, 19, 20, 21, 22, 23, 24, 25, 26, 27, 28, 29, 30, 31, 32, 33] (some 13) (v := ?_) rfl (by rfl) (by kernel_rfl) (by kernel_rfl) (by kernel_rfl) (by kernel_rfl) (fun _ _ _ h => h) (Or.inl ⟨by rfl, ?_⟩) k3 ?_
      rotate_left
      focus (intro w' hSw; (try dsimp only at hSw); go_simp; try with_reducible rfl)
      simp only [Act.put, List.setIfInBounds_toArray, List.set_cons_zero, List.set_cons_succ]
      refine wpAnyX_take (i := 7) [8, 9, 10, 11, 12, 13, 14, 15, 16, 17, 18, 19, 20, 21, 22, 23, 24, 25, 26, 27, 28, 29, 30, 31, 32, 33] (some 14) (v := _) rfl (by rfl) (by kernel_rfl) (by kernel_rfl) (by kernel_rfl) (by kernel_rfl) (fun _ _ _ h => h) (yieldsIf_cell (v := .bool false) (by rfl) rfl (by rfl) (by kernel_rfl) (fun y hy => cell_at (hy.heap HO'.out id) 10 _ rfl)) k3 ?_
      simp only [Act.put, List.setIfInBounds_toArray, List.set_cons_zero, List.set_cons_succ]
      refine wpAnyX_take (i := 8) [9, 10, 11, 12, 13, 14, 15, 16, 17, 18, 19, 20, 21, 22, 23, 24, 25, 26, 27, 28, 29, 30, 31, 32, 33] (some 15) (v := ?_) rfl (by rfl) (by kernel_rfl) (by kernel_rfl) (by kernel_rfl) (by kernel_rfl) (fun _ _ _ h => h) (Or.inl ⟨by rfl, ?_⟩) k3 ?_
      rotate_left
      focus (intro w' hSw; (try dsimp only at hSw); go_simp; try with_reducible rfl)
      simp only [Act.put, List.setIfInBounds_toArray, List.set_cons_zero, List.set_cons_succ]
      refine wpAnyX_take (i := 9) [10, 11, 12, 13, 14, 15, 16, 17, 18, 19, 20, 21, 22, 23, 24, 25, 26, 27, 28, 29, 30, 31, 32, 33] (some 16) (v := ?_) rfl (by rfl) (by kernel_rfl) (by kernel_rfl) (by kernel_rfl) (by kernel_rfl) (fun _ _ _ h => h) (Or.inl ⟨by rfl, ?_⟩) k3 ?_
      rotate_left
      focus (intro w' hSw; (try dsimp only at hSw); go_simp; try with_reducible rfl)
      simp only [Act.put, List.setIfInBounds_toArray, List.set_cons_zero, List.set_cons_succ]
      refine wpAnyX_take (i := 10) [11, 12, 13, 14, 15, 16, 17, 18, 19, 20, 21, 22, 23, 24, 25, 26, 27, 28, 29, 30, 31, 32, 33] (some 17) (v := ?_) rfl (by rfl) (by kernel_rfl) (by kernel_rfl) (by kernel_rfl) (by kernel_rfl) (fun _ _ _ h => h) (Or.inl ⟨by rfl, ?_⟩) k3 ?_
      rotate_left
      focus (intro w' hSw; (try dsimp only at hSw); go_simp; try with_reducible rfl)
      simp only [Act.put, List.setIfInBounds_toArray, List.set_cons_zero, List.set_cons_succ]
      refine wpAnyX_take (i := 11) [12, 13, 14, 15, 16, 17, 18, 19, 20, 21, 22, 23, 24, 25, 26, 27, 28, 29, 30, 31, 32, 33] (some 18) (v := _) rfl (by rfl) (by kernel_rfl) (by kernel_rfl) (by kernel_rfl) (by kernel_rfl) (fun _ _ _ h => h) (yieldsIf_cell (v := .int .i64 r.kind) (by rfl) rfl (by rfl) (by kernel_rfl) (fun y hy => cell_at (hy.heap HB32.out id) 0 _ rfl)) k3 ?_
      simp only [Act.put, List.setIfInBounds_toArray, List.set_cons_zero, List.set_cons_succ]
      refine wpAnyX_take (i := 12) [13, 14, 15, 16, 17, 18, 19, 20, 21, 22, 23, 24, 25, 26, 27, 28, 29, 30, 31, 32, 33] (some 19) (v := ?_) rfl (by rfl) (by kernel_rfl) (by kernel_rfl) (by kernel_rfl) (by kernel_rfl) (fun _ _ _ h => h) (Or.inl ⟨by rfl, ?_⟩) k3 ?_
      rotate_left
      focus (intro w' hSw; (try dsimp only at hSw); go_simp; try with_reducible rfl)
      simp only [Act.put, List.setIfInBounds_toArray, List.set_cons_zero, List.set_cons_succ]
      refine wpAnyX_take (i := 13) [14, 15, 16, 17, 18, 19, 20, 21, 22, 23, 24, 25, 26, 27, 28, 29, 30, 31, 32, 33] (some 20) (v := ?_) rfl (by rfl) (by kernel_rfl) (by kernel_rfl) (by kernel_rfl) (by kernel_rfl) (fun _ _ _ h => h) (Or.inl ⟨by rfl, ?_⟩) k3 ?_
      rotate_left
      focus (intro w' hSw; (try dsimp only at hSw); go_simp; try with_reducible rfl)
      simp only [Act.put, List.setIfInBounds_toArray, List.set_cons_zero, List.set_cons_succ]
      refine wpAnyX_take (i := 14) [15, 16, 17, 18, 19, 20, 21, 22, 23, 24, 25, 26, 27, 28, 29, 30, 31, 32, 33] (some 21) (v := ?_) rfl (by rfl) (by kernel_rfl) (by kernel_rfl) (by kernel_rfl) (by kernel_rfl) (fun _ _ _ h => h) (Or.inl ⟨by rfl, ?_⟩) k3 ?_
      rotate_left
      focus (intro w' hSw; (try dsimp only at hSw); go_simp; try with_reducible rfl)
      simp only [Act.put, List.setIfInBounds_toArray, List.set_cons_zero, List.set_cons_succ]
      refine wpAnyX_take (i := 15) [16, 17, 18, 19, 20, 21, 22, 23, 24, 25, 26, 27, 28, 29, 30, 31, 32, 33] (some 22) (v := ?_) rfl (by rfl) (by kernel_rfl) (by kernel_rfl) (by kernel_rfl) (by kernel_rfl) (fun _ _ _ h => h) (Or.inl ⟨by rfl, ?_⟩) k3 ?_
      rotate_left
      focus (intro w' hSw; (try dsimp only at hSw); go_simp; try with_reducible rfl)
      simp only [Act.put, List.setIfInBounds_toArray, List.set_cons_zero, List.set_cons_succ]
      refine wpAnyX_take (i := 16) [17, 18, 19, 20, 21, 22, 23, 24, 25, 26, 27, 28, 29, 30, 31, 32, 33] (some 23) (v := _) rfl (by rfl) (by kernel_rfl) (by kernel_rfl) (by kernel_rfl) (by kernel_rfl) (fun _ _ _ h => h) (yieldsIf_cell (v := .int .i64 r.kind) (by rfl) rfl (by rfl) (by kernel_rfl) (fun y hy => cell_at (hy.heap HB32.out id) 0 _ rfl)) k3 ?_
      simp only [Act.put, List.setIfInBounds_toArray, List.set_cons_zero, List.set_cons_succ]
      refine wpAnyX_take (i := 17) [18, 19, 20, 21, 22, 23, 24, 25, 26, 27, 28, 29, 30, 31, 32, 33] (some 24) (v := ?_) rfl (by rfl) (by kernel_rfl) (by kernel_rfl) (by kernel_rfl) (by kernel_rfl) (fun _ _ _ h => h) (Or.inl ⟨by rfl, ?_⟩) k3 ?_
      rotate_left
      focus (intro w' hSw; (try dsimp only at hSw); go_simp; try with_reducible rfl)
      simp only [Act.put, List.setIfInBounds_toArray, List.set_cons_zero, List.set_cons_succ]
      refine wpAnyX_take (i := 18) [19, 20, 21, 22, 23, 24, 25, 26, 27, 28, 29, 30, 31, 32, 33] (some 25) (v := ?_) rfl (by rfl) (by kernel_rfl) (by kernel_rfl) (by kernel_rfl) (by kernel_rfl) (fun _ _ _ h => h) (Or.inl ⟨by rfl, ?_⟩) k3 ?_
      rotate_left
      focus (intro w' hSw; (try dsimp only at hSw); go_simp; try with_reducible rfl)
      simp only [Act.put, List.setIfInBounds_toArray, List.set_cons_zero, List.set_cons_succ]
      refine wpAnyX_take (i := 19) [20, 21, 22, 23, 24, 25, 26, 27, 28, 29, 30, 31, 32, 33] (some 26) (v := ?_) rfl (by rfl) (by kernel_rfl) (by kernel_rfl) (by kernel_rfl) (by kernel_rfl) (fun _ _ _ h => h) (Or.inl ⟨by rfl, ?_⟩) k3 ?_
      rotate_left
      focus (intro w' hSw; (try dsimp only at hSw); go_simp; try with_reducible rfl)
      simp only [Act.put, List.setIfInBounds_toArray, List.set_cons_zero, List.set_cons_succ]
      refine wpAnyX_take (i := 20) [30, 31, 32, 33] (some 27) (v := _) rfl (by rfl) (by kernel_rfl) (by kernel_rfl) (by kernel_rfl) (by kernel_rfl) (fun _ _ _ h => h) (yieldsIf_row (n := 11) (vs := reqCs r (.slice Av n cv)) (by rfl) rfl (by rfl) (by kernel_rfl) (by kernel_rfl) rfl (fun y hy => range_of (n := 11) (hy.heap HB32.out id) _ rfl)) k3 ?_
      simp only [Act.put, List.setIfInBounds_toArray, List.set_cons_zero, List.set_cons_succ]
      refine wpAnyX_take (i := 21) [22, 23, 24, 30, 31, 32, 33] (some 28) (v := ?_) rfl (by rfl) (by kernel_rfl) (by kernel_rfl) (by kernel_rfl) (by kernel_rfl) (fun _ _ _ h => h) (Or.inl ⟨by rfl, ?_⟩) k3 ?_
      rotate_left
      focus (intro w' hSw; (try dsimp only at hSw); go_simp; try with_reducible rfl)
      simp only [Act.put, List.setIfInBounds_toArray, List.set_cons_zero, List.set_cons_succ]
      refine wpAnyX_take (i := 22) [23, 24, 30, 31, 32, 33] (some 29) (v := ?_) rfl (by rfl) (by kernel_rfl) (by kernel_rfl) (by kernel_rfl) (by kernel_rfl) (fun _ _ _ h => h) (Or.inl ⟨by rfl, ?_⟩) k3 ?_
      rotate_left
      focus (intro w' hSw; (try dsimp only at hSw); go_simp; try with_reducible rfl)
      simp only [Act.put, List.setIfInBounds_toArray, List.set_cons_zero, List.set_cons_succ]
      refine wpAnyX_take (i := 23) [24, 30, 31, 32, 33] (some 30) (v := ?_) rfl (by rfl) (by kernel_rfl) (by kernel_rfl) (by kernel_rfl) (by kernel_rfl) (fun _ _ _ h => h) (Or.inl ⟨by rfl, ?_⟩) k3 ?_
      rotate_left
      focus (intro w' hSw; (try dsimp only at hSw); go_simp; try with_reducible rfl)
      simp only [Act.put, List.setIfInBounds_toArray, List.set_cons_zero, List.set_cons_succ]
      refine wpAnyX_take (i := 24) [30, 31, 32, 33] (some 31) (v := _) rfl (by rfl) (by kernel_rfl) (by kernel_rfl) (by kernel_rfl) (by kernel_rfl) (fun _ _ _ h => h) (yieldsIf_cell (v := .int .i64 s.session) (by rfl) rfl (by rfl) (by kernel_rfl) (fun y hy => cell_at (hy.heap HO'.out id) 8 _ rfl)) k3 ?_
      simp only [Act.put, List.setIfInBounds_toArray, List.set_cons_zero, List.set_cons_succ]
      refine wpAnyX_take (i := 25) [26, 27, 28, 29, 30, 31, 32, 33] (some 32) (v := ?_) rfl (by rfl) (by kernel_rfl) (by kernel_rfl) (by kernel_rfl) (by kernel_rfl) (fun _ _ _ h => h) (Or.inl ⟨by rfl, ?_⟩) k3 ?_
      rotate_left
      focus (intro w' hSw; (try dsimp only at hSw); go_simp; try with_reducible rfl)
      simp only [Act.put, List.setIfInBounds_toArray, List.set_cons_zero, List.set_cons_succ]
      refine wpAnyX_take (i := 26) [27, 28, 29, 30, 31, 32, 33] (some 33) (v := ?_) rfl (by rfl) (by kernel_rfl) (by kernel_rfl) (by kernel_rfl) (by kernel_rfl) (fun _ _ _ h => h) (Or.inl ⟨by rfl, ?_⟩) k3 ?_
      rotate_left
      focus (intro w' hSw; (try dsimp only at hSw); go_simp; try with_reducible rfl)
      simp only [Act.put, List.setIfInBounds_toArray, List.set_cons_zero, List.set_cons_succ]
      refine wpAnyX_take (i := 27) [28, 29, 30, 31, 32, 33] (some 34) (v := ?_) rfl (by rfl) (by kernel_rfl) (by kernel_rfl) (by kernel_rfl) (by kernel_rfl) (fun _ _ _ h => h) (Or.inl ⟨by rfl, ?_⟩) k3 ?_
      rotate_left
      focus (intro w' hSw; (try dsimp only at hSw); go_simp; try with_reducible rfl)
      simp only [Act.put, List.setIfInBounds_toArray, List.set_cons_zero, List.set_cons_succ]
      refine wpAnyX_take (i := 28) [29, 30, 31, 32, 33] (some 35) (v := _) rfl (by rfl) (by kernel_rfl) (by kernel_rfl) (by kernel_rfl) (by kernel_rfl) (fun _ _ _ h => h) (yieldsIf_cell (v := .int .i64 s.seq) (by rfl) rfl (by rfl) (by kernel_rfl) (fun y hy => cell_at (hy.heap HO'.out id) 9 _ rfl)) k3 ?_
      simp only [Act.put, List.setIfInBounds_toArray, List.set_cons_zero, List.set_cons_succ]
      refine wpAnyX_take (i := 29) [30, 31, 32, 33] (some 36) (v := ?_) rfl (by rfl) (by kernel_rfl) (by kernel_rfl) (by kernel_rfl) (by kernel_rfl) (fun _ _ _ h => h) (Or.inl ⟨by rfl, ?_⟩) k3 ?_
      rotate_left
      focus (intro w' hSw; (try dsimp only at hSw); go_simp; try with_reducible rfl)
      simp only [Act.put, List.setIfInBounds_toArray, List.set_cons_zero, List.set_cons_succ]
      refine wpAnyX_one (i := 30) (by kernel_rfl) rfl (fun K hK => ?_)
      have HWC := hid ((with_calls (r := r) (v := .slice Av r.changes.length cv) (by have := HV2.out.keep K3.out (fun _ _ => id); rw [HNN.out] at this; exact this) (by rw [← HNN.out]; exact HLL.out) s.session (s.seq + 1)).mono (R' := fun e w' => ∃ u, e = .returned u ∧ ∃ A c, u = reqV (withR r s.session (s.seq + 1)) (.slice A n c) ∧ Sl .change w' (NewIn w3 w') (.slice A n c) r.changes ∧ Keep (fun _ => False) w3 w') (fun e w' ⟨A, c, h1, h2, h3⟩ => ⟨_, h1, A, c, by rw [HNN.out], by rw [HNN.out]; exact h2, h3⟩))
      refine step_call (some 37) (by rfl) (by rfl) rfl EW.out (by rfl) (by rw [← HNN.out] at HWC; exact HWC.out) ?_
      rintro u w4 ⟨A4, c4, rfl, hs4, k4⟩
      have HS4 := hid hs4; have K4 := hid (K3.out.trans k4 (fun _ _ f => f))
      clear hs4 k4 HWC
      refine hK _ _ (K4.out) ?_
      clear hK K
      simp only [Act.put, List.setIfInBounds_toArray, List.set_cons_zero, List.set_cons_succ]
      refine wpAnyX_one (i := 31) (by kernel_rfl) rfl (fun K hK => ?_)
      have HCC := hid ((check_calls (r := withR r s.session (s.seq + 1)) (v := .slice A4 n c4) HS4.out (fun q hq => hq.2)).mono (R' := fun e w' => ∃ u, e = .returned u ∧ (u = .int .i64 1 ∧ Keep (fun _ => False) w4 w')) (fun e w' h => ⟨_, h.1, by rw [if_neg P3.out], h.2⟩))
      refine step_call (some 38) (by rfl) (by rfl) rfl EC.out (by rfl) HCC.out ?_
      rintro u w5 ⟨rfl, k5⟩
      have K5 := hid (K4.out.trans k5 (fun _ _ f => f))
      clear k5 HCC
      refine hK _ _ (K5.out) ?_
      clear hK K
      simp only [Act.put, List.setIfInBounds_toArray, List.set_cons_zero, List.set_cons_succ]
      refine wpAnyX_take (i := 32) [33] (some 39) (v := ?_) rfl (by rfl) (by kernel_rfl) (by kernel_rfl) (by kernel_rfl) (by kernel_rfl) (fun _ _ _ h => h) (Or.inl ⟨by rfl, ?_⟩) K5.out ?_
      rotate_left
      focus (intro w' hSw; (try dsimp only at hSw); go_simp; try with_reducible rfl)
      simp only [Act.put, List.setIfInBounds_toArray, List.set_cons_zero, List.set_cons_succ]
      refine wpAnyX_take (i := 33) [] (some 40) (v := ?_) rfl (by rfl) (by kernel_rfl) (by kernel_rfl) (by kernel_rfl) (by kernel_rfl) (fun _ _ _ h => h) (Or.inl ⟨by rfl, ?_⟩) K5.out ?_
      rotate_left
      focus (intro w' hSw; (try dsimp only at hSw); go_simp; try with_reducible rfl)
      simp only [Act.put, List.setIfInBounds_toArray, List.set_cons_zero, List.set_cons_succ]
      refine wpAnyX_done (by kernel_rfl) ?_ _
      clear k3 hS
      have HE := hid (show askF s r = (s, none) from if_pos (.inr (.inr (.inr P3.out))))
      have hbm := K5.out.heap HBM2.out id
      go_wp2_with (first
        | (refine wpl_build rfl rfl (msgCs msgZ nilV nilV nilV nilV).toArray (by kernel_rfl) ?_)
        | (refine wpl_storeB (v := zM) rfl rfl rfl rfl hbm msgL_z.info msgL_z.fit msgL_z.oneA ?_; intro w9 hb9 k9 s9))
      refine bodyPost_ret (res_cell_tmp (g := gm) (cs := (msgCs msgZ nilV nilV nilV nilV).toArray) (v := .bool false) Try.results9 _ rfl rfl (hb9.trans (msgL_z.whole rfl)) (by kernel_rfl) (by kernel_rfl)) rfl ?_
      rw [HE.out]
      exact Ans.none HG.out (K2.out.trans ((Keep.refl (fun _ => False) w2).drew.trans K5.out (fun _ _ f => f)) (fun _ _ f => f)) HGE.out.1 (Keep.refl _ _) k9 HGL.out (HM2.out.keep K5.out).at
    have P3 := hid p3
    have HE := hid (show askF s r = (sentS (askS s r), some (sentM (askS s r))) from if_neg (fun q => by
      rcases q with q | q | q | q
      · rw [HBZ.out] at q; cases q
      · omega
      · omega
      · exact q P3.out))
    clear p3 p1 p2
    go_wp2_with fail
    refine wp_region_X (fun y => Keep (fun _ => False) w2.drew y) [] (by kernel_rfl) hS (fun _ => ?_)
    refine wpAnyX_take (i := 0) [1, 2, 3, 4, 5, 6, 7, 8, 9, 10, 11, 12, 13, 14, 15, 16, 17, 18, 19, 20, 21, 22, 23, 24, 25, 26, 27, 28, 29, 30, 31, 32, 33] (some 7) (v := ?_) rfl (by rfl) (by kernel_rfl) (by kernel_rfl) (by kernel_rfl) (by kernel_rfl) (fun _ _ _ h => h) (Or.inl ⟨by rfl, ?_⟩) hS ?_
    rotate_left
    focus (intro w' hSw; (try dsimp only at hSw); go_simp; try with_reducible rfl)
    simp only [Act.put, List.setIfInBounds_toArray, List.set_cons_zero, List.set_cons_succ]
    refine wpAnyX_one (i := 1) (by kernel_rfl) rfl (fun K hK => ?_)
    refine step_call (some 8) (by rfl) (by rfl) rfl EM.out (by rfl) HMADE.out ?_
    rintro u w3 ⟨rfl, k3⟩
    have K3 := hid k3
    refine hK _ _ (k3) ?_
    clear hK K
    simp only [Act.put, List.setIfInBounds_toArray, List.set_cons_zero, List.set_cons_succ]
    refine wpAnyX_take (i := 2) [3, 4, 5, 6, 7, 8, 9, 10, 11, 12, 13, 14, 15, 16, 17, 18, 19, 20, 21, 22, 23, 24, 25, 26, 27, 28, 29, 30, 31, 32, 33] (some 9) (v := ?_) rfl (by rfl) (by kernel_rfl) (by kernel_rfl) (by kernel_rfl) (by kernel_rfl) (fun _ _ _ h => h) (Or.inl ⟨by rfl, ?_⟩) k3 ?_
    rotate_left
    focus (intro w' hSw; (try dsimp only at hSw); go_simp; try with_reducible rfl)
    simp only [Act.put, List.setIfInBounds_toArray, List.set_cons_zero, List.set_cons_succ]
    refine wpAnyX_take (i := 3) [4, 5, 6, 7, 8, 9, 10, 11, 12, 13, 14, 15, 16, 17, 18, 19, 20, 21, 22, 23, 24, 25, 26, 27, 28, 29, 30, 31, 32, 33] (some 10) (v := ?_) rfl (by rfl) (by kernel_rfl) (by kernel_rfl) (by kernel_rfl) (by kernel_rfl) (fun _ _ _ h => h) (Or.inl ⟨by rfl, ?_⟩) k3 ?_
    rotate_left
    focus (intro w' hSw; (try dsimp only at hSw); go_simp; try with_reducible rfl)
    simp only [Act.put, List.setIfInBounds_toArray, List.set_cons_zero, List.set_cons_succ]
    refine wpAnyX_take (i := 4) [5, 6, 7, 8, 9, 10, 11, 12, 13, 14, 15, 16, 17, 18, 19, 20, 21, 22, 23, 24, 25, 26, 27, 28, 29, 30, 31, 32, 33] (some 11) (v := ?_) rfl (by rfl) (by kernel_rfl) (by kernel_rfl) (by kernel_rfl) (by kernel_rfl) (fun _ _ _ h => h) (Or.inl ⟨by rfl, ?_⟩) k3 ?_
    rotate_left
    focus (intro w' hSw; (try dsimp only at hSw); go_simp; try with_reducible rfl)
    simp only [Act.put, List.setIfInBounds_toArray, List.set_cons_zero, List.set_cons_succ]
    refine wpAnyX_take (i := 5) [6, 7, 8, 9, 10, 11, 12, 13, 14, 15, 16, 17, 18, 19, 20, 21, 22, 23, 24, 25, 26, 27, 28, 29, 30, 31, 32, 33] (some 12) (v := ?_) rfl (by rfl) (by kernel_rfl) (by kernel_rfl) (by kernel_rfl) (by kernel_rfl) (fun _ _ _ h => h) (Or.inl ⟨by rfl, ?_⟩) k3 ?_
    rotate_left
    focus (intro w' hSw; (try dsimp only at hSw); go_simp; try with_reducible rfl)
    simp only [Act.put, List.setIfInBounds_toArray, List.set_cons_zero, List.set_cons_succ]
    refine wpAnyX_take (i := 6) [7, 8, 9, 10, 11, 12, 13, 14, 15, 16, 17, 18, 19, 20, 21, 22, 23, 24, 25, 26, 27, 28, 29, 30, 31, 32, 33] (some 13) (v := ?_) rfl (by rfl) (by kernel_rfl) (by kernel_rfl) (by kernel_rfl) (by kernel_rfl) (fun _ _ _ h => h) (Or.inl ⟨by rfl, ?_⟩) k3 ?_
    rotate_left
    focus (intro w' hSw; (try dsimp only at hSw); go_simp; try with_reducible rfl)
    simp only [Act.put, List.setIfInBounds_toArray, List.set_cons_zero, List.set_cons_succ]
    refine wpAnyX_take (i := 7) [8, 9, 10, 11, 12, 13, 14, 15, 16, 17, 18, 19, 20, 21, 22, 23, 24, 25, 26, 27, 28, 29, 30, 31, 32, 33] (some 14) (v := _) rfl (by rfl) (by kernel_rfl) (by kernel_rfl) (by kernel_rfl) (by kernel_rfl) (fun _ _ _ h => h) (yieldsIf_cell (v := .bool false) (by rfl) rfl (by rfl) (by kernel_rfl) (fun y hy => cell_at (hy.heap HO'.out id) 10 _ rfl)) k3 ?_
    simp only [Act.put, List.setIfInBounds_toArray, List.set_cons_zero, List.set_cons_succ]
    refine wpAnyX_take (i := 8) [9, 10, 11, 12, 13, 14, 15, 16, 17, 18, 19, 20, 21, 22, 23, 24, 25, 26, 27, 28, 29, 30, 31, 32, 33] (some 15) (v := ?_) rfl (by rfl) (by kernel_rfl) (by kernel_rfl) (by kernel_rfl) (by kernel_rfl) (fun _ _ _ h => h) (Or.inl ⟨by rfl, ?_⟩) k3 ?_
    rotate_left
    focus (intro w' hSw; (try dsimp only at hSw); go_simp; try with_reducible rfl)
    simp only [Act.put, List.setIfInBounds_toArray, List.set_cons_zero, List.set_cons_succ]
    refine wpAnyX_take (i := 9) [10, 11, 12, 13, 14, 15, 16, 17, 18, 19, 20, 21, 22, 23, 24, 25, 26, 27, 28, 29, 30, 31, 32, 33] (some 16) (v := ?_) rfl (by rfl) (by kernel_rfl) (by kernel_rfl) (by kernel_rfl) (by kernel_rfl) (fun _ _ _ h => h) (Or.inl ⟨by rfl, ?_⟩) k3 ?_
    rotate_left
    focus (intro w' hSw; (try dsimp only at hSw); go_simp; try with_reducible rfl)
    simp only [Act.put, List.setIfInBounds_toArray, List.set_cons_zero, List.set_cons_succ]
    refine wpAnyX_take (i := 10) [11, 12, 13, 14, 15, 16, 17, 18, 19, 20, 21, 22, 23, 24, 25, 26, 27, 28, 29, 30, 31, 32, 33] (some 17) (v := ?_) rfl (by rfl) (by kernel_rfl) (by kernel_rfl) (by kernel_rfl) (by kernel_rfl) (fun _ _ _ h => h) (Or.inl ⟨by rfl, ?_⟩) k3 ?_
    rotate_left
    focus (intro w' hSw; (try dsimp only at hSw); go_simp; try with_reducible rfl)
    simp only [Act.put, List.setIfInBounds_toArray, List.set_cons_zero, List.set_cons_succ]
    refine wpAnyX_take (i := 11) [12, 13, 14, 15, 16, 17, 18, 19, 20, 21, 22, 23, 24, 25, 26, 27, 28, 29, 30, 31, 32, 33] (some 18) (v := _) rfl (by rfl) (by kernel_rfl) (by kernel_rfl) (by kernel_rfl) (by kernel_rfl) (fun _ _ _ h => h) (yieldsIf_cell (v := .int .i64 r.kind) (by rfl) rfl (by rfl) (by kernel_rfl) (fun y hy => cell_at (hy.heap HB32.out id) 0 _ rfl)) k3 ?_
    simp only [Act.put, List.setIfInBounds_toArray, List.set_cons_zero, List.set_cons_succ]
    refine wpAnyX_take (i := 12) [13, 14, 15, 16, 17, 18, 19, 20, 21, 22, 23, 24, 25, 26, 27, 28, 29, 30, 31, 32, 33] (some 19) (v := ?_) rfl (by rfl) (by kernel_rfl) (by kernel_rfl) (by kernel_rfl) (by kernel_rfl) (fun _ _ _ h => h) (Or.inl ⟨by rfl, ?_⟩) k3 ?_
    rotate_left
    focus (intro w' hSw; (try dsimp only at hSw); go_simp; try with_reducible rfl)
    simp only [Act.put, List.setIfInBounds_toArray, List.set_cons_zero, List.set_cons_succ]
    refine wpAnyX_take (i := 13) [14, 15, 16, 17, 18, 19, 20, 21, 22, 23, 24, 25, 26, 27, 28, 29, 30, 31, 32, 33] (some 20) (v := ?_) rfl (by rfl) (by kernel_rfl) (by kernel_rfl) (by kernel_rfl) (by kernel_rfl) (fun _ _ _ h => h) (Or.inl ⟨by rfl, ?_⟩) k3 ?_
    rotate_left
    focus (intro w' hSw; (try dsimp only at hSw); go_simp; try with_reducible rfl)
    simp only [Act.put, List.setIfInBounds_toArray, List.set_cons_zero, List.set_cons_succ]
    refine wpAnyX_take (i := 14) [15, 16, 17, 18, 19, 20, 21, 22, 23, 24, 25, 26, 27, 28, 29, 30, 31, 32, 33] (some 21) (v := ?_) rfl (by rfl) (by kernel_rfl) (by kernel_rfl) (by kernel_rfl) (by kernel_rfl) (fun _ _ _ h => h) (Or.inl ⟨by rfl, ?_⟩) k3 ?_
    rotate_left
    focus (intro w' hSw; (try dsimp only at hSw); go_simp; try with_reducible rfl)
    simp only [Act.put, List.setIfInBounds_toArray, List.set_cons_zero, List.set_cons_succ]
    refine wpAnyX_take (i := 15) [16, 17, 18, 19, 20, 21, 22, 23, 24, 25, 26, 27, 28, 29, 30, 31, 32, 33] (some 22) (v := ?_) rfl (by rfl) (by kernel_rfl) (by kernel_rfl) (by kernel_rfl) (by kernel_rfl) (fun _ _ _ h => h) (Or.inl ⟨by rfl, ?_⟩) k3 ?_
    rotate_left
    focus (intro w' hSw; (try dsimp only at hSw); go_simp; try with_reducible rfl)
    simp only [Act.put, List.setIfInBounds_toArray, List.set_cons_zero, List.set_cons_succ]
    refine wpAnyX_take (i := 16) [17, 18, 19, 20, 21, 22, 23, 24, 25, 26, 27, 28, 29, 30, 31, 32, 33] (some 23) (v := _) rfl (by rfl) (by kernel_rfl) (by kernel_rfl) (by kernel_rfl) (by kernel_rfl) (fun _ _ _ h => h) (yieldsIf_cell (v := .int .i64 r.kind) (by rfl) rfl (by rfl) (by kernel_rfl) (fun y hy => cell_at (hy.heap HB32.out id) 0 _ rfl)) k3 ?_
    simp only [Act.put, List.setIfInBounds_toArray, List.set_cons_zero, List.set_cons_succ]
    refine wpAnyX_take (i := 17) [18, 19, 20, 21, 22, 23, 24, 25, 26, 27, 28, 29, 30, 31, 32, 33] (some 24) (v := ?_) rfl (by rfl) (by kernel_rfl) (by kernel_rfl) (by kernel_rfl) (by kernel_rfl) (fun _ _ _ h => h) (Or.inl ⟨by rfl, ?_⟩) k3 ?_
    rotate_left
    focus (intro w' hSw; (try dsimp only at hSw); go_simp; try with_reducible rfl)
    simp only [Act.put, List.setIfInBounds_toArray, List.set_cons_zero, List.set_cons_succ]
    refine wpAnyX_take (i := 18) [19, 20, 21, 22, 23, 24, 25, 26, 27, 28, 29, 30, 31, 32, 33] (some 25) (v := ?_) rfl (by rfl) (by kernel_rfl) (by kernel_rfl) (by kernel_rfl) (by kernel_rfl) (fun _ _ _ h => h) (Or.inl ⟨by rfl, ?_⟩) k3 ?_
    rotate_left
    focus (intro w' hSw; (try dsimp only at hSw); go_simp; try with_reducible rfl)
    simp only [Act.put, List.setIfInBounds_toArray, List.set_cons_zero, List.set_cons_succ]
    refine wpAnyX_take (i := 19) [20, 21, 22, 23, 24, 25, 26, 27, 28, 29, 30, 31, 32, 33] (some 26) (v := ?_) rfl (by rfl) (by kernel_rfl) (by kernel_rfl) (by kernel_rfl) (by kernel_rfl) (fun _ _ _ h => h) (Or.inl ⟨by rfl, ?_⟩) k3 ?_
    rotate_left
    focus (intro w' hSw; (try dsimp only at hSw); go_simp; try with_reducible rfl)
    simp only [Act.put, List.setIfInBounds_toArray, List.set_cons_zero, List.set_cons_succ]
    refine wpAnyX_take (i := 20) [30, 31, 32, 33] (some 27) (v := _) rfl (by rfl) (by kernel_rfl) (by kernel_rfl) (by kernel_rfl) (by kernel_rfl) (fun _ _ _ h => h) (yieldsIf_row (n := 11) (vs := reqCs r (.slice Av n cv)) (by rfl) rfl (by rfl) (by kernel_rfl) (by kernel_rfl) rfl (fun y hy => range_of (n := 11) (hy.heap HB32.out id) _ rfl)) k3 ?_
    simp only [Act.put, List.setIfInBounds_toArray, List.set_cons_zero, List.set_cons_succ]
    refine wpAnyX_take (i := 21) [22, 23, 24, 30, 31, 32, 33] (some 28) (v := ?_) rfl (by rfl) (by kernel_rfl) (by kernel_rfl) (by kernel_rfl) (by kernel_rfl) (fun _ _ _ h => h) (Or.inl ⟨by rfl, ?_⟩) k3 ?_
    rotate_left
    focus (intro w' hSw; (try dsimp only at hSw); go_simp; try with_reducible rfl)
    simp only [Act.put, List.setIfInBounds_toArray, List.set_cons_zero, List.set_cons_succ]
    refine wpAnyX_take (i := 22) [23, 24, 30, 31, 32, 33] (some 29) (v := ?_) rfl (by rfl) (by kernel_rfl) (by kernel_rfl) (by kernel_rfl) (by kernel_rfl) (fun _ _ _ h => h) (Or.inl ⟨by rfl, ?_⟩) k3 ?_
    rotate_left
    focus (intro w' hSw; (try dsimp only at hSw); go_simp; try with_reducible rfl)
    simp only [Act.put, List.setIfInBounds_toArray, List.set_cons_zero, List.set_cons_succ]
    refine wpAnyX_take (i := 23) [24, 30, 31, 32, 33] (some 30) (v := ?_) rfl (by rfl) (by kernel_rfl) (by kernel_rfl) (by kernel_rfl) (by kernel_rfl) (fun _ _ _ h => h) (Or.inl ⟨by rfl, ?_⟩) k3 ?_
    rotate_left
    focus (intro w' hSw; (try dsimp only at hSw); go_simp; try with_reducible rfl)
    simp only [Act.put, List.setIfInBounds_toArray, List.set_cons_zero, List.set_cons_succ]
    refine wpAnyX_take (i := 24) [30, 31, 32, 33] (some 31) (v := _) rfl (by rfl) (by kernel_rfl) (by kernel_rfl) (by kernel_rfl) (by kernel_rfl) (fun _ _ _ h => h) (yieldsIf_cell (v := .int .i64 s.session) (by rfl) rfl (by rfl) (by kernel_rfl) (fun y hy => cell_at (hy.heap HO'.out id) 8 _ rfl)) k3 ?_
    simp only [Act.put, List.setIfInBounds_toArray, List.set_cons_zero, List.set_cons_succ]
    refine wpAnyX_take (i := 25) [26, 27, 28, 29, 30, 31, 32, 33] (some 32) (v := ?_) rfl (by rfl) (by kernel_rfl) (by kernel_rfl) (by kernel_rfl) (by kernel_rfl) (fun _ _ _ h => h) (Or.inl ⟨by rfl, ?_⟩) k3 ?_
    rotate_left
    focus (intro w' hSw; (try dsimp only at hSw); go_simp; try with_reducible rfl)
    simp only [Act.put, List.setIfInBounds_toArray, List.set_cons_zero, List.set_cons_succ]
    refine wpAnyX_take (i := 26) [27, 28, 29, 30, 31, 32, 33] (some 33) (v := ?_) rfl (by rfl) (by kernel_rfl) (by kernel_rfl) (by kernel_rfl) (by kernel_rfl) (fun _ _ _ h => h) (Or.inl ⟨by rfl, ?_⟩) k3 ?_
    rotate_left
    focus (intro w' hSw; (try dsimp only at hSw); go_simp; try with_reducible rfl)
    simp only [Act.put, List.setIfInBounds_toArray, List.set_cons_zero, List.set_cons_succ]
    refine wpAnyX_take (i := 27) [28, 29, 30, 31, 32, 33] (some 34) (v := ?_) rfl (by rfl) (by kernel_rfl) (by kernel_rfl) (by kernel_rfl) (by kernel_rfl) (fun _ _ _ h => h) (Or.inl ⟨by rfl, ?_⟩) k3 ?_
    rotate_left
    focus (intro w' hSw; (try dsimp only at hSw); go_simp; try with_reducible rfl)
    simp only [Act.put, List.setIfInBounds_toArray, List.set_cons_zero, List.set_cons_succ]
    refine wpAnyX_take (i := 28) [29, 30, 31, 32, 33] (some 35) (v := _) rfl (by rfl) (by kernel_rfl) (by kernel_rfl) (by kernel_rfl) (by kernel_rfl) (fun _ _ _ h => h) (yieldsIf_cell (v := .int .i64 s.seq) (by rfl) rfl (by rfl) (by kernel_rfl) (fun y hy => cell_at (hy.heap HO'.out id) 9 _ rfl)) k3 ?_
    simp only [Act.put, List.setIfInBounds_toArray, List.set_cons_zero, List.set_cons_succ]
    refine wpAnyX_take (i := 29) [30, 31, 32, 33] (some 36) (v := ?_) rfl (by rfl) (by kernel_rfl) (by kernel_rfl) (by kernel_rfl) (by kernel_rfl) (fun _ _ _ h => h) (Or.inl ⟨by rfl, ?_⟩) k3 ?_
    rotate_left
    focus (intro w' hSw; (try dsimp only at hSw); go_simp; try with_reducible rfl)
    simp only [Act.put, List.setIfInBounds_toArray, List.set_cons_zero, List.set_cons_succ]
    refine wpAnyX_one (i := 30) (by kernel_rfl) rfl (fun K hK => ?_)
    have HWC := hid ((with_calls (r := r) (v := .slice Av r.changes.length cv) (by have := HV2.out.keep K3.out (fun _ _ => id); rw [HNN.out] at this; exact this) (by rw [← HNN.out]; exact HLL.out) s.session (s.seq + 1)).mono (R' := fun e w' => ∃ u, e = .returned u ∧ ∃ A c, u = reqV (withR r s.session (s.seq + 1)) (.slice A n c) ∧ Sl .change w' (NewIn w3 w') (.slice A n c) r.changes ∧ Keep (fun _ => False) w3 w') (fun e w' ⟨A, c, h1, h2, h3⟩ => ⟨_, h1, A, c, by rw [HNN.out], by rw [HNN.out]; exact h2, h3⟩))
    refine step_call (some 37) (by rfl) (by rfl) rfl EW.out (by rfl) (by rw [← HNN.out] at HWC; exact HWC.out) ?_
    rintro u w4 ⟨A4, c4, rfl, hs4, k4⟩
    have HS4 := hid hs4; have K4 := hid (K3.out.trans k4 (fun _ _ f => f))
    clear hs4 k4 HWC
    refine hK _ _ (K4.out) ?_
    clear hK K
    simp only [Act.put, List.setIfInBounds_toArray, List.set_cons_zero, List.set_cons_succ]
    refine wpAnyX_one (i := 31) (by kernel_rfl) rfl (fun K hK => ?_)
    have HCC := hid ((check_calls (r := withR r s.session (s.seq + 1)) (v := .slice A4 n c4) HS4.out (fun q hq => hq.2)).mono (R' := fun e w' => ∃ u, e = .returned u ∧ (u = .int .i64 0 ∧ Keep (fun _ => False) w4 w')) (fun e w' h => ⟨_, h.1, by rw [if_pos P3.out], h.2⟩))
    refine step_call (some 38) (by rfl) (by rfl) rfl EC.out (by rfl) HCC.out ?_
    rintro u w5 ⟨rfl, k5⟩
    have K5 := hid (K4.out.trans k5 (fun _ _ f => f))
    clear k5 HCC
    refine hK _ _ (K5.out) ?_
    clear hK K
    simp only [Act.put, List.setIfInBounds_toArray, List.set_cons_zero, List.set_cons_succ]
    refine wpAnyX_take (i := 32) [33] (some 39) (v := ?_) rfl (by rfl) (by kernel_rfl) (by kernel_rfl) (by kernel_rfl) (by kernel_rfl) (fun _ _ _ h => h) (Or.inl ⟨by rfl, ?_⟩) K5.out ?_
    rotate_left
    focus (intro w' hSw; (try dsimp only at hSw); go_simp; try with_reducible rfl)
    simp only [Act.put, List.setIfInBounds_toArray, List.set_cons_zero, List.set_cons_succ]
    refine wpAnyX_take (i := 33) [] (some 40) (v := ?_) rfl (by rfl) (by kernel_rfl) (by kernel_rfl) (by kernel_rfl) (by kernel_rfl) (fun _ _ _ h => h) (Or.inl ⟨by rfl, ?_⟩) K5.out ?_
    rotate_left
    focus (intro w' hSw; (try dsimp only at hSw); go_simp; try with_reducible rfl)
    simp only [Act.put, List.setIfInBounds_toArray, List.set_cons_zero, List.set_cons_succ]
    refine wpAnyX_done (by kernel_rfl) ?_ _
    have K25 := hid K5.out
    have HB35 := hid (K25.out.heap HB32.out id)
    have hb35 := HB35.out
    have HM5 := hid (HM2.out.keep K25.out); have HBM5 := hid (K25.out.heap HBM2.out id)
    have HV5 := hid (HV2.out.keep K25.out (fun _ _ => id))
    have hbc := begin_calls (r := r) (v := .slice Av n cv) (b := false) HM5.out HI.out HN.out HV5.out (by rw [← HNN.out]; exact HLL.out)
    have HBC := hid hbc
    clear hbc k3 hS d1 d2 HS4
    go_wp2_with (first
      | (refine wpl_loadA (ty := 29) (o := 0) (n := 11) rfl rfl rfl hb35 (by kernel_rfl) (by kernel_rfl) (reqCs r (.slice Av n cv)) rfl rfl ?_))
    refine HBC.out.mono ?_
    rintro e w6 ⟨rfl, ⟨vw6, hm6⟩, k6⟩
    have hb36 := k6.heap hb35 (fun e => Nat.ne_of_gt HGE.out.2.1 e)
    have HGN := hid (show gm ≠ g by have := HGE.out; omega)
    have HBM6 := hid (k6.heap HBM5.out HGN.out)
    have HM6 := hid hm6; have K6 := hid k6
    have hb6 := hm6.obj
    have c8 := cell_at hb6 8 (.int .i64 s.session) rfl
    clear hm6 k6 HBC hb35
    by_cases z : s.session = 0
    · have z1 : (s.session == 0) = true := by simp [z]
      have HAS := hid (show askS s r = { beginS s r false with opening := true, asked := openR s.name } from if_pos z)
      clear z
      go_upto_region 9 with (first
        | (refine wpl_storeB (v := .bool true) (o := 11) (b := g) rfl rfl rfl rfl hb6 (by kernel_rfl) (of_decide_eq_true (by kernel_rfl)) (by simp [Value.oneCell', Value.cells]) ?_; intro w7 hb7 k7 s7; have K7 := hid k7; clear s7 k7; replace hb7 : w7.heap[g]? = some (CObj { beginS s r false with opening := true } vw6 va vt vk) := hb7; have c11 := cell_at hb7 11 (.bool true) rfl; have c3 := cell_at hb7 3 (.string s.name) rfl)
        | (refine wpl_build rfl rfl (reqCs (openR s.name) nilV).toArray (by kernel_rfl) ?_)
        | (refine wpl_storeB (v := .agg (reqCs (openR s.name) nilV).toArray) (o := 26) (b := g) rfl rfl rfl rfl hb7 (by kernel_rfl) (of_decide_eq_true (by kernel_rfl)) (by simp [reqCs, nilV, Value.oneCell', Value.cells]) ?_; intro w8 hb8 k8 s8; have K8 := hid (K7.out.trans k8 (fun _ _ e => e)); clear s8 k8; replace hb8 : w8.heap[g]? = some (CObj { beginS s r false with opening := true, asked := openR s.name } vw6 nilV vt vk) := hb8))
      have hm6 := HM6.out
      have k68 := K8.out
      rw [← HAS.out] at hb8
      have HM8 := hid (show CliM (fun k => X k ∨ k = gm) w8 g (askS s r) vw6 nilV vt vk from by
        rw [HAS.out]
        exact ⟨by rw [← HAS.out]; exact hb8, hm6.hg, fun k q => Nat.lt_of_lt_of_le (hm6.hX k q) k68.size, slKeepG hm6.hg hm6.hw k68, nilSl _ _ _, slKeepG hm6.hg hm6.ht k68, slKeepG hm6.hg hm6.hv k68, hm6.lw, Nat.zero_le _, hm6.lt, hm6.hr⟩)
      have KALL := hid (show Keep (fun q => q = g) w2 w8 from (((Keep.refl (fun _ => False) w2).drew.trans K25.out (fun _ _ f => f)).mono (fun _ _ f => f.elim)).trans (K6.out.trans K8.out (fun _ _ e => e)) (fun _ _ e => e))
      have HBM8 := hid (K8.out.heap HBM6.out HGN.out)
      clear hb6 hb7 hb8 hm6 k68 c8 c11 c3 z1 hb36
      have hst := sent_calls HM8.out (HI.out.ask0 HR.out HN.out) (by have := HN.out; omega)
      have HST := hid hst
      clear hst
      go_wp2_with fail
      refine HST.out.mono ?_
      rintro e w20 ⟨cs, rfl, hm20, hc20, k20⟩
      have HL20 := hid (MsgL.of hm20); have HM20 := hid hm20; have HC20 := hid hc20; have K20 := hid k20
      have hbm := K20.out.heap HBM8.out HGN.out
      clear hm20 hc20 k20 HST
      go_wp2_with (first
        | (refine wpl_storeB (v := .agg cs.toArray) rfl rfl rfl rfl hbm HL20.out.info HL20.out.fit HL20.out.oneA ?_; intro w21 hb21 k21 s21))
      refine bodyPost_ret (res_cell_tmp (g := gm) (cs := cs.toArray) (v := .bool true) Try.results9 _ rfl rfl (hb21.trans (HL20.out.whole rfl)) (by kernel_rfl) HL20.out.info') rfl ?_
      rw [HE.out]
      exact Ans.lay HG.out K2.out HGE.out.1 KALL.out K20.out k21 HGL.out HM20.out HC20.out
    have z1 : (s.session == 0) = false := by simp [z]
    have HAS := hid (show askS s r = { beginS s r false with opening := false, seq := s.seq + 1, asked := withR r s.session (s.seq + 1) } from if_neg z)
    clear z
    go_upto_region 8 with (first
      | (refine wpl_storeB (v := .bool false) (o := 11) (b := g) rfl rfl rfl rfl hb6 (by kernel_rfl) (of_decide_eq_true (by kernel_rfl)) (by simp [Value.oneCell', Value.cells]) ?_; intro w7 hb7 k7 s7; have K7 := hid k7; clear s7 k7; replace hb7 : w7.heap[g]? = some (CObj { beginS s r false with opening := false } vw6 va vt vk) := hb7; have c11 := cell_at hb7 11 (.bool false) rfl; have c9 := cell_at hb7 9 (.int .i64 s.seq) rfl)
      | (refine wpl_storeB (v := .int .i64 (s.seq + 1)) (o := 9) (b := g) rfl rfl rfl rfl hb7 (by kernel_rfl) (of_decide_eq_true (by kernel_rfl)) (by simp [Value.oneCell', Value.cells]) ?_; intro w8 hb8 k8 s8; have K8 := hid (K7.out.trans k8 (fun _ _ e => e)); clear s8 k8; replace hb8 : w8.heap[g]? = some (CObj { beginS s r false with opening := false, seq := s.seq + 1 } vw6 va vt vk) := hb8))
    have HM8 := hid ((HM6.out.same K8.out hb8 rfl rfl rfl rfl rfl : CliM _ w8 g { beginS s r false with opening := false, seq := s.seq + 1 } vw6 va vt vk))
    have kd8 : Keep (fun _ => False) w8 w8.drew := (Keep.refl _ _).drew
    have HM9 := hid (HM8.out.keep kd8); have HO9 := hid HM9.out.obj
    have HB38 := hid (kd8.heap (K8.out.heap hb36 (fun e => Nat.ne_of_gt HGE.out.2.1 e)) id)
    have HV8 := hid (((HV5.out.keep K6.out (fun q hq e => by have := HF.out q hq; have := HGE.out; subst e; exact HFG.out hq)).keep K8.out (fun q hq e => by subst e; exact HFG.out hq)).keep kd8 (fun _ _ => id))
    have HWC := hid ((with_calls (r := r) (v := .slice Av r.changes.length cv) (by have := HV8.out; rw [HNN.out] at this; exact this) (by rw [← HNN.out]; exact HLL.out) s.session (s.seq + 1)).mono (R' := fun e w' => ∃ u, e = .returned u ∧ ∃ A c, u = reqV (withR r s.session (s.seq + 1)) (.slice A n c) ∧ Sl .change w' (NewIn w8.drew w') (.slice A n c) r.changes ∧ Keep (fun _ => False) w8.drew w') (fun e w' ⟨A, c, h1, h2, h3⟩ => ⟨_, h1, A, c, by rw [HNN.out], by rw [HNN.out]; exact h2, h3⟩))
    have hS : Keep (fun _ => False) w8.drew w8.drew := Keep.refl _ _
    clear hb6 hb7 hb8 c8 c11 c9 z1 hb36
    rw [← HNN.out] at HWC
    go_wp2_with fail
    refine wp_region_X (fun y => Keep (fun _ => False) w8.drew y) [13] (by kernel_rfl) hS (fun _ => ?_)
    refine wpAnyX_take (i := 0) [11, 12, 13] (some 72) (v := ?_) rfl (by rfl) (by kernel_rfl) (by kernel_rfl) (by kernel_rfl) (by kernel_rfl) (fun _ _ _ h => h) (Or.inl ⟨by rfl, ?_⟩) hS ?_
    rotate_left
    focus (intro w' hSw; (try dsimp only at hSw); go_simp; try with_reducible rfl)
    simp only [Act.put, List.setIfInBounds_toArray, List.set_cons_zero, List.set_cons_succ]
    refine wpAnyX_take (i := 1) [10, 11, 12, 13] (some 73) (v := _) rfl (by rfl) (by kernel_rfl) (by kernel_rfl) (by kernel_rfl) (by kernel_rfl) (fun _ _ _ h => h) (yieldsIf_row (n := 11) (vs := reqCs r (.slice Av n cv)) (by rfl) rfl (by rfl) (by kernel_rfl) (by kernel_rfl) rfl (fun y hy => range_of (n := 11) (hy.heap HB38.out id) _ rfl)) hS ?_
    simp only [Act.put, List.setIfInBounds_toArray, List.set_cons_zero, List.set_cons_succ]
    refine wpAnyX_take (i := 2) [3, 4, 5, 10, 11, 12, 13] (some 74) (v := ?_) rfl (by rfl) (by kernel_rfl) (by kernel_rfl) (by kernel_rfl) (by kernel_rfl) (fun _ _ _ h => h) (Or.inl ⟨by rfl, ?_⟩) hS ?_
    rotate_left
    focus (intro w' hSw; (try dsimp only at hSw); go_simp; try with_reducible rfl)
    simp only [Act.put, List.setIfInBounds_toArray, List.set_cons_zero, List.set_cons_succ]
    refine wpAnyX_take (i := 3) [4, 5, 10, 11, 12, 13] (some 75) (v := ?_) rfl (by rfl) (by kernel_rfl) (by kernel_rfl) (by kernel_rfl) (by kernel_rfl) (fun _ _ _ h => h) (Or.inl ⟨by rfl, ?_⟩) hS ?_
    rotate_left
    focus (intro w' hSw; (try dsimp only at hSw); go_simp; try with_reducible rfl)
    simp only [Act.put, List.setIfInBounds_toArray, List.set_cons_zero, List.set_cons_succ]
    refine wpAnyX_take (i := 4) [5, 10, 11, 12, 13] (some 76) (v := ?_) rfl (by rfl) (by kernel_rfl) (by kernel_rfl) (by kernel_rfl) (by kernel_rfl) (fun _ _ _ h => h) (Or.inl ⟨by rfl, ?_⟩) hS ?_
    rotate_left
    focus (intro w' hSw; (try dsimp only at hSw); go_simp; try with_reducible rfl)
    simp only [Act.put, List.setIfInBounds_toArray, List.set_cons_zero, List.set_cons_succ]
    refine wpAnyX_take (i := 5) [10, 11, 12, 13] (some 77) (v := _) rfl (by rfl) (by kernel_rfl) (by kernel_rfl) (by kernel_rfl) (by kernel_rfl) (fun _ _ _ h => h) (yieldsIf_cell (v := .int .i64 s.session) (by rfl) rfl (by rfl) (by kernel_rfl) (fun y hy => cell_at (hy.heap HO9.out id) 8 _ rfl)) hS ?_
    simp only [Act.put, List.setIfInBounds_toArray, List.set_cons_zero, List.set_cons_succ]
    refine wpAnyX_take (i := 6) [7, 8, 9, 10, 11, 12, 13] (some 78) (v := ?_) rfl (by rfl) (by kernel_rfl) (by kernel_rfl) (by kernel_rfl) (by kernel_rfl) (fun _ _ _ h => h) (Or.inl ⟨by rfl, ?_⟩) hS ?_
    rotate_left
    focus (intro w' hSw; (try dsimp only at hSw); go_simp; try with_reducible rfl)
    simp only [Act.put, List.setIfInBounds_toArray, List.set_cons_zero, List.set_cons_succ]
    refine wpAnyX_take (i := 7) [8, 9, 10, 11, 12, 13] (some 79) (v := ?_) rfl (by rfl) (by kernel_rfl) (by kernel_rfl) (by kernel_rfl) (by kernel_rfl) (fun _ _ _ h => h) (Or.inl ⟨by rfl, ?_⟩) hS ?_
    rotate_left
    focus (intro w' hSw; (try dsimp only at hSw); go_simp; try with_reducible rfl)
    simp only [Act.put, List.setIfInBounds_toArray, List.set_cons_zero, List.set_cons_succ]
    refine wpAnyX_take (i := 8) [9, 10, 11, 12, 13] (some 80) (v := ?_) rfl (by rfl) (by kernel_rfl) (by kernel_rfl) (by kernel_rfl) (by kernel_rfl) (fun _ _ _ h => h) (Or.inl ⟨by rfl, ?_⟩) hS ?_
    rotate_left
    focus (intro w' hSw; (try dsimp only at hSw); go_simp; try with_reducible rfl)
    simp only [Act.put, List.setIfInBounds_toArray, List.set_cons_zero, List.set_cons_succ]
    refine wpAnyX_take (i := 9) [10, 11, 12, 13] (some 81) (v := _) rfl (by rfl) (by kernel_rfl) (by kernel_rfl) (by kernel_rfl) (by kernel_rfl) (fun _ _ _ h => h) (yieldsIf_cell (v := .int .i64 (s.seq + 1)) (by rfl) rfl (by rfl) (by kernel_rfl) (fun y hy => cell_at (hy.heap HO9.out id) 9 _ rfl)) hS ?_
    simp only [Act.put, List.setIfInBounds_toArray, List.set_cons_zero, List.set_cons_succ]
    refine wpAnyX_one (i := 10) (by kernel_rfl) rfl (fun K hK => ?_)
    refine step_call (some 82) (by rfl) (by rfl) rfl EW.out (by rfl) HWC.out ?_
    rintro u w9 ⟨A9, c9, rfl, hs9, k9⟩
    have HS9 := hid hs9; have K9 := hid k9
    clear hs9
    refine hK _ _ (k9) ?_
    clear hK K
    simp only [Act.put, List.setIfInBounds_toArray, List.set_cons_zero, List.set_cons_succ]
    refine wpAnyX_take (i := 11) [12, 13] (some 83) (v := ?_) rfl (by rfl) (by kernel_rfl) (by kernel_rfl) (by kernel_rfl) (by kernel_rfl) (fun _ _ _ h => h) (Or.inl ⟨by rfl, ?_⟩) k9 ?_
    rotate_left
    focus (intro w' hSw; (try dsimp only at hSw); go_simp; try with_reducible rfl)
    simp only [Act.put, List.setIfInBounds_toArray, List.set_cons_zero, List.set_cons_succ]
    refine wpAnyX_take (i := 12) [13] (some 84) (v := ?_) rfl (by rfl) (by kernel_rfl) (by kernel_rfl) (by kernel_rfl) (by kernel_rfl) (fun _ _ _ h => h) (Or.inl ⟨by rfl, ?_⟩) k9 ?_
    rotate_left
    focus (intro w' hSw; (try dsimp only at hSw); go_simp; try with_reducible rfl)
    simp only [Act.put, List.setIfInBounds_toArray, List.set_cons_zero, List.set_cons_succ]
    refine wpAnyX_oneX (i := 13) (by kernel_rfl) rfl (by kernel_rfl) (fun K hK => ?_)
    have hb9 := K9.out.heap HO9.out id
    refine step_store (none) (by rfl) (v := reqV (withR r s.session (s.seq + 1)) (.slice A9 n c9)) (by rfl) rfl (by rfl) (by rfl) hb9 (by kernel_rfl) (of_decide_eq_true (by kernel_rfl)) (by simp [Value.oneCell', Value.cells]) ?_
    intro w10 hb10 k10 s10
    have K10 := hid k10
    replace hb10 : w10.heap[g]? = some (CObj { beginS s r false with opening := false, seq := s.seq + 1, asked := withR r s.session (s.seq + 1) } vw6 (.slice A9 n c9) vt vk) := hb10
    refine hK _ _ ?_
    clear hK K
    simp only [Act.put]
    refine wpAnyX_done (by kernel_rfl) ?_ _
    have k810 : Keep (fun q => q = g) w8.drew w10 := (K9.out.mono (fun _ _ f => f.elim)).trans K10.out (fun _ _ e => e)
    have hm9 := HM9.out
    have hs10 := (HS9.out.keep K10.out (fun q hq e => by have := hq.1; have := HM9.out.hX g HM9.out.hg; omega)).mono (G := fun k => ¬ (X k ∨ k = gm) ∧ k < w10.heap.size) (fun q hq => ⟨fun hx => by have := hq.1; have := HM9.out.hX q hx; omega, by have := hq.2; have := K10.out.size; omega⟩)
    rw [← HAS.out] at hb10
    have HM11 := hid (show CliM (fun k => X k ∨ k = gm) w10 g (askS s r) vw6 (.slice A9 n c9) vt vk from by
      rw [HAS.out] at hb10 ⊢
      exact ⟨hb10, hm9.hg, fun k q => Nat.lt_of_lt_of_le (hm9.hX k q) k810.size, slKeepG hm9.hg hm9.hw k810, hs10, slKeepG hm9.hg hm9.ht k810, slKeepG hm9.hg hm9.hv k810, hm9.lw, by show r.changes.length ≤ _; rw [← HNN.out]; exact HLL.out, hm9.lt, hm9.hr⟩)
    have KALL := hid (show Keep (fun q => q = g) w2 w10 from ((((Keep.refl (fun _ => False) w2).drew.trans K25.out (fun _ _ f => f)).mono (fun _ _ f => f.elim)).trans ((K6.out.trans K8.out (fun _ _ e => e)).trans ((Keep.refl (fun _ => False) w8).drew.mono (fun _ _ f => f.elim)) (fun _ _ e => e)) (fun _ _ e => e)).trans k810 (fun _ _ e => e))
    have HBM8 := hid (k810.heap ((Keep.refl (fun _ => False) w8).drew.heap (K8.out.heap HBM6.out HGN.out) id) HGN.out)
    clear hS hm9 hs10 k810 hb10 k9 k10 s10 kd8
    have hst := sent_calls HM11.out (HI.out.ask0 HR.out HN.out) (by have := HN.out; omega)
    have HST := hid hst
    clear hst
    go_wp2_with fail
    refine HST.out.mono ?_
    rintro e w20 ⟨cs, rfl, hm20, hc20, k20⟩
    have HL20 := hid (MsgL.of hm20); have HM20 := hid hm20; have HC20 := hid hc20; have K20 := hid k20
    have hbm := K20.out.heap HBM8.out HGN.out
    clear hm20 hc20 k20 HST
    go_wp2_with (first
      | (refine wpl_storeB (v := .agg cs.toArray) rfl rfl rfl rfl hbm HL20.out.info HL20.out.fit HL20.out.oneA ?_; intro w21 hb21 k21 s21))
    refine bodyPost_ret (res_cell_tmp (g := gm) (cs := cs.toArray) (v := .bool true) Try.results9 _ rfl rfl (hb21.trans (HL20.out.whole rfl)) (by kernel_rfl) HL20.out.info') rfl ?_
    rw [HE.out]
    exact Ans.lay HG.out K2.out HGE.out.1 KALL.out K20.out k21 HGL.out HM20.out HC20.out
end
end Go.Proofs.Ytnekfonnceknoaa
