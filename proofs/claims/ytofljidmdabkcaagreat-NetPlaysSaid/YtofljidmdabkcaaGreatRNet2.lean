/- wapentakeref23.Net: Send, Twice. -/
import Derived.Test.YtofljidmdabkcaaGreatRNet
import Derived.Test.YtofljidmdabkcaaGreatRegY
namespace Go.Proofs.YtofljidmdabkcaaGreat
open Go.RowKit Go.Lib
section
variable {F S G : Nat → Prop} {w w' : World} {g : Nat} {most : Int} {L : List Msg} {m : Msg} {ms : List Value} {k : Int}
def RAfter (F : Nat → Prop) (w : World) (g : Nat) (most : Int) (L : List Msg) (b : Bool) (m : Msg) (e : Ending) (w' : World) : Prop :=
  e = .returned (.bool b) ∧ NetAt 54 (Grow F w w') w' g most (if b then L ++ [m] else L) ∧ Keep F w w'
theorem RAfter.no (h : NetAt 54 F w g most L) (hk : Keep (fun _ => False) w w') {b : Bool} (hs : b = false) : RAfter F w g most L b m (.returned (.bool false)) w' := by
  subst hs
  exact ⟨rfl, h.grow hk, hk.mono (fun _ _ f => f.elim)⟩
theorem RAfter.yes {b : Bool} (hs : b = true) (h : NetAt 54 (Grow F w w') w' g most (L ++ [m])) (hk : Keep F w w') : RAfter F w g most L b m (.returned (.bool true)) w' := by
  subst hs; exact ⟨rfl, h, hk⟩
set_option maxRecDepth 20000 in
set_option maxHeartbeats 8000000 in
theorem rsend_calls (h : NetAt 54 F w g most L) (hm : Rep.msg.cells w G m ms) (hG : ∀ q, G q → q < w.heap.size) (hf : m.Fits) (hw : Few m) :
    Calls Tryz.prog 9 #[.pointer (some ⟨g, 0, none⟩), .agg ms.toArray] w (RAfter F w g most L (sendB most L m) m) := by
  have hle := h.le
  obtain ⟨v, cs, h⟩ := h
  obtain ⟨A, c, rfl⟩ := h.shape
  have H := hid h; have HM := hid hm; have HG := hid hG; have HF := hid hf; have HW := hid hw; have HL := hid (MsgL.of hm)
  obtain ⟨n, hn⟩ : ∃ n, n = L.length := ⟨_, rfl⟩
  rw [← hn] at hle
  have HN := hid hn
  have EC := hid (enters_of Tryz.func23 (by kernel_rfl) rfl)
  have EG := hid (enters_of Tryz.func24 (by kernel_rfl) rfl)
  clear h hm hG hf hw hn
  go_enter Tryz.func9, Tryz.ntmps9
  go_wp2_with (first
    | (refine wpl_boxB (v := .agg ms.toArray) rfl rfl rfl ?_; intro g3 w1 hg3 hb3 k1 s1; have HG3 := hid hg3; have K1 := hid k1; have HB1 := hid (show w1.drew.heap[g3]? = some (.cells ms.toArray 42) from hb3); clear hg3 k1 s1 hb3))
  have hH := H.out.keepF (K1.out.drew)
  rw [← HN.out] at hH
  have HO1 := hid hH.obj
  have hS : Keep (fun _ => False) w1.drew w1.drew := Keep.refl _ _
  have hrc := rcheck_any (Rep.msg.keep HM.out K1.out.drew (fun _ _ => id)) (fun q hq => Nat.lt_of_lt_of_le (HG.out q hq) K1.out.drew.size)
  have HRC := hid (hrc.mono (R' := fun e w' => ∃ u, e = .returned u ∧ (u = .int .i64 (if mchkB m then 0 else 1) ∧ Keep (fun _ => False) w1.drew w')) (fun e w' h => ⟨_, h.1, rfl, h.2⟩))
  clear hH hrc
  cases hc : mchkB m
  case false =>
    rw [hc] at HRC
    have HS := hid (show sendB most L m = false by rw [sendB, hc, Bool.and_false])
    clear hc
    refine wp_region_X (fun y => Keep (fun _ => False) w1.drew y) [] (by kernel_rfl) hS (fun _ => ?_)
    refine wpAnyX_take (i := 0) [1, 2, 3, 4, 5, 6, 7, 8, 9, 10, 11, 12, 13, 14] (some 5) (v := _) rfl (by rfl) (by kernel_rfl) (by kernel_rfl) (by kernel_rfl) (by kernel_rfl) (fun _ _ _ h => h) (yieldsIf_row (n := 27) (vs := ms) (by rfl) rfl (by rfl) (by kernel_rfl) (by kernel_rfl) HL.out.len (fun y hy => range_of (n := 27) (hy.heap HB1.out id) _ (by simpa using HL.out.take))) hS ?_
    simp only [Act.put, List.setIfInBounds_toArray, List.set_cons_zero, List.set_cons_succ]
    refine wpAnyX_one (i := 1) (by kernel_rfl) rfl (fun K hK => ?_)
    refine step_call (some 6) (by rfl) (by rfl) rfl EC.out (by rfl) HRC.out ?_
    rintro u w2 ⟨rfl, k2⟩
    have K2 := hid k2
    refine hK _ _ (k2) ?_
    clear hK K
    simp only [Act.put, List.setIfInBounds_toArray, List.set_cons_zero, List.set_cons_succ]
    refine wpAnyX_take (i := 2) [3, 4, 5, 6, 7, 8, 9, 10, 11, 12, 13, 14] (some 7) (v := ?_) rfl (by rfl) (by kernel_rfl) (by kernel_rfl) (by kernel_rfl) (by kernel_rfl) (fun _ _ _ h => h) (Or.inl ⟨by rfl, ?_⟩) k2 ?_
    rotate_left
    focus (intro w' hSw; (try dsimp only at hSw); go_simp; try with_reducible rfl)
    simp only [Act.put, List.setIfInBounds_toArray, List.set_cons_zero, List.set_cons_succ]
    refine wpAnyX_take (i := 3) [4, 5, 6, 7, 8, 9, 10, 11, 12, 13, 14] (some 8) (v := ?_) rfl (by rfl) (by kernel_rfl) (by kernel_rfl) (by kernel_rfl) (by kernel_rfl) (fun _ _ _ h => h) (Or.inl ⟨by rfl, ?_⟩) k2 ?_
    rotate_left
    focus (intro w' hSw; (try dsimp only at hSw); go_simp; try with_reducible rfl)
    simp only [Act.put, List.setIfInBounds_toArray, List.set_cons_zero, List.set_cons_succ]
    refine wpAnyX_take (i := 4) [5, 6, 7, 8, 13, 14] (some 9) (v := undef) rfl (by rfl) (by kernel_rfl) (by kernel_rfl) (by kernel_rfl) (by kernel_rfl) (fun _ _ _ h => h) (Or.inr ⟨by rfl, rfl⟩) k2 ?_
    simp only [Act.put, List.setIfInBounds_toArray, List.set_cons_zero, List.set_cons_succ]
    refine wpAnyX_take (i := 5) [6, 7, 8, 13, 14] (some 10) (v := undef) rfl (by rfl) (by kernel_rfl) (by kernel_rfl) (by kernel_rfl) (by kernel_rfl) (fun _ _ _ h => h) (Or.inr ⟨by rfl, rfl⟩) k2 ?_
    simp only [Act.put, List.setIfInBounds_toArray, List.set_cons_zero, List.set_cons_succ]
    refine wpAnyX_take (i := 6) [7, 8, 13, 14] (some 11) (v := undef) rfl (by rfl) (by kernel_rfl) (by kernel_rfl) (by kernel_rfl) (by kernel_rfl) (fun _ _ _ h => h) (Or.inr ⟨by rfl, rfl⟩) k2 ?_
    simp only [Act.put, List.setIfInBounds_toArray, List.set_cons_zero, List.set_cons_succ]
    refine wpAnyX_take (i := 7) [8, 13, 14] (some 12) (v := undef) rfl (by rfl) (by kernel_rfl) (by kernel_rfl) (by kernel_rfl) (by kernel_rfl) (fun _ _ _ h => h) (Or.inr ⟨by rfl, rfl⟩) k2 ?_
    simp only [Act.put, List.setIfInBounds_toArray, List.set_cons_zero, List.set_cons_succ]
    refine wpAnyX_take (i := 8) [13, 14] (some 13) (v := undef) rfl (by rfl) (by kernel_rfl) (by kernel_rfl) (by kernel_rfl) (by kernel_rfl) (fun _ _ _ h => h) (Or.inr ⟨by rfl, rfl⟩) k2 ?_
    simp only [Act.put, List.setIfInBounds_toArray, List.set_cons_zero, List.set_cons_succ]
    refine wpAnyX_take (i := 9) [10, 11, 12, 13, 14] (some 14) (v := undef) rfl (by rfl) (by kernel_rfl) (by kernel_rfl) (by kernel_rfl) (by kernel_rfl) (fun _ _ _ h => h) (Or.inr ⟨by rfl, rfl⟩) k2 ?_
    simp only [Act.put, List.setIfInBounds_toArray, List.set_cons_zero, List.set_cons_succ]
    refine wpAnyX_take (i := 10) [11, 12, 13, 14] (some 15) (v := undef) rfl (by rfl) (by kernel_rfl) (by kernel_rfl) (by kernel_rfl) (by kernel_rfl) (fun _ _ _ h => h) (Or.inr ⟨by rfl, rfl⟩) k2 ?_
    simp only [Act.put, List.setIfInBounds_toArray, List.set_cons_zero, List.set_cons_succ]
    refine wpAnyX_take (i := 11) [12, 13, 14] (some 16) (v := undef) rfl (by rfl) (by kernel_rfl) (by kernel_rfl) (by kernel_rfl) (by kernel_rfl) (fun _ _ _ h => h) (Or.inr ⟨by rfl, rfl⟩) k2 ?_
    simp only [Act.put, List.setIfInBounds_toArray, List.set_cons_zero, List.set_cons_succ]
    refine wpAnyX_take (i := 12) [13, 14] (some 17) (v := undef) rfl (by rfl) (by kernel_rfl) (by kernel_rfl) (by kernel_rfl) (by kernel_rfl) (fun _ _ _ h => h) (Or.inr ⟨by rfl, rfl⟩) k2 ?_
    simp only [Act.put, List.setIfInBounds_toArray, List.set_cons_zero, List.set_cons_succ]
    refine wpAnyX_take (i := 13) [14] (some 18) (v := undef) rfl (by rfl) (by kernel_rfl) (by kernel_rfl) (by kernel_rfl) (by kernel_rfl) (fun _ _ _ h => h) (Or.inr ⟨by rfl, rfl⟩) k2 ?_
    simp only [Act.put, List.setIfInBounds_toArray, List.set_cons_zero, List.set_cons_succ]
    refine wpAnyX_take (i := 14) [] (some 19) (v := ?_) rfl (by rfl) (by kernel_rfl) (by kernel_rfl) (by kernel_rfl) (by kernel_rfl) (fun _ _ _ h => h) (Or.inl ⟨by rfl, ?_⟩) k2 ?_
    rotate_left
    focus (intro w' hSw; (try dsimp only at hSw); go_simp; try with_reducible rfl)
    simp only [Act.put, List.setIfInBounds_toArray, List.set_cons_zero, List.set_cons_succ]
    refine wpAnyX_done (by kernel_rfl) ?_ _
    go_wp2_with fail
    go_ret
    exact RAfter.no ⟨_, _, H.out⟩ (K1.out.drew.trans K2.out (fun _ _ f => f)) HS.out
  rw [hc] at HRC
  have HC := hid hc
  clear hc
  by_cases hlt : (n : Int) < most
  case neg =>
    have dn : decide (most ≤ (n : Int)) = true := decide_eq_true (by omega)
    have HS := hid (show sendB most L m = false by rw [sendB, ← HN.out, decide_eq_false hlt]; rfl)
    clear hlt
    refine wp_region_X (fun y => Keep (fun _ => False) w1.drew y) [] (by kernel_rfl) hS (fun _ => ?_)
    refine wpAnyX_take (i := 0) [1, 2, 3, 4, 5, 6, 7, 8, 9, 10, 11, 12, 13, 14] (some 5) (v := _) rfl (by rfl) (by kernel_rfl) (by kernel_rfl) (by kernel_rfl) (by kernel_rfl) (fun _ _ _ h => h) (yieldsIf_row (n := 27) (vs := ms) (by rfl) rfl (by rfl) (by kernel_rfl) (by kernel_rfl) HL.out.len (fun y hy => range_of (n := 27) (hy.heap HB1.out id) _ (by simpa using HL.out.take))) hS ?_
    simp only [Act.put, List.setIfInBounds_toArray, List.set_cons_zero, List.set_cons_succ]
    refine wpAnyX_one (i := 1) (by kernel_rfl) rfl (fun K hK => ?_)
    refine step_call (some 6) (by rfl) (by rfl) rfl EC.out (by rfl) HRC.out ?_
    rintro u w2 ⟨rfl, k2⟩
    have K2 := hid k2
    refine hK _ _ (k2) ?_
    clear hK K
    simp only [Act.put, List.setIfInBounds_toArray, List.set_cons_zero, List.set_cons_succ]
    refine wpAnyX_take (i := 2) [3, 4, 5, 6, 7, 8, 9, 10, 11, 12, 13, 14] (some 7) (v := ?_) rfl (by rfl) (by kernel_rfl) (by kernel_rfl) (by kernel_rfl) (by kernel_rfl) (fun _ _ _ h => h) (Or.inl ⟨by rfl, ?_⟩) k2 ?_
    rotate_left
    focus (intro w' hSw; (try dsimp only at hSw); go_simp; try with_reducible rfl)
    simp only [Act.put, List.setIfInBounds_toArray, List.set_cons_zero, List.set_cons_succ]
    refine wpAnyX_take (i := 3) [4, 5, 6, 7, 8, 9, 10, 11, 12, 13, 14] (some 8) (v := ?_) rfl (by rfl) (by kernel_rfl) (by kernel_rfl) (by kernel_rfl) (by kernel_rfl) (fun _ _ _ h => h) (Or.inl ⟨by rfl, ?_⟩) k2 ?_
    rotate_left
    focus (intro w' hSw; (try dsimp only at hSw); go_simp; try with_reducible rfl)
    simp only [Act.put, List.setIfInBounds_toArray, List.set_cons_zero, List.set_cons_succ]
    refine wpAnyX_take (i := 4) [5, 6, 7, 8, 13, 14] (some 9) (v := ?_) rfl (by rfl) (by kernel_rfl) (by kernel_rfl) (by kernel_rfl) (by kernel_rfl) (fun _ _ _ h => h) (Or.inl ⟨by rfl, ?_⟩) k2 ?_
    rotate_left
    focus (intro w' hSw; (try dsimp only at hSw); go_simp; try with_reducible rfl)
    simp only [Act.put, List.setIfInBounds_toArray, List.set_cons_zero, List.set_cons_succ]
    refine wpAnyX_take (i := 5) [6, 7, 8, 13, 14] (some 10) (v := ?_) rfl (by rfl) (by kernel_rfl) (by kernel_rfl) (by kernel_rfl) (by kernel_rfl) (fun _ _ _ h => h) (Or.inl ⟨by rfl, ?_⟩) k2 ?_
    rotate_left
    focus (intro w' hSw; (try dsimp only at hSw); go_simp; try with_reducible rfl)
    simp only [Act.put, List.setIfInBounds_toArray, List.set_cons_zero, List.set_cons_succ]
    refine wpAnyX_take (i := 6) [7, 8, 13, 14] (some 11) (v := ?_) rfl (by rfl) (by kernel_rfl) (by kernel_rfl) (by kernel_rfl) (by kernel_rfl) (fun _ _ _ h => h) (Or.inl ⟨by rfl, ?_⟩) k2 ?_
    rotate_left
    focus (intro w' hSw; (try dsimp only at hSw); go_simp; try with_reducible rfl)
    simp only [Act.put, List.setIfInBounds_toArray, List.set_cons_zero, List.set_cons_succ]
    refine wpAnyX_take (i := 7) [8, 13, 14] (some 12) (v := _) rfl (by rfl) (by kernel_rfl) (by kernel_rfl) (by kernel_rfl) (by kernel_rfl) (fun _ _ _ h => h) (yieldsIf_cell (v := .slice A n c) (by rfl) rfl (by rfl) (by kernel_rfl) (fun y hy => cell_at (hy.heap HO1.out id) 1 _ rfl)) k2 ?_
    simp only [Act.put, List.setIfInBounds_toArray, List.set_cons_zero, List.set_cons_succ]
    refine wpAnyX_take (i := 8) [13, 14] (some 13) (v := ?_) rfl (by rfl) (by kernel_rfl) (by kernel_rfl) (by kernel_rfl) (by kernel_rfl) (fun _ _ _ h => h) (Or.inl ⟨by rfl, ?_⟩) k2 ?_
    rotate_left
    focus (intro w' hSw; (try dsimp only at hSw); go_simp; try with_reducible rfl)
    simp only [Act.put, List.setIfInBounds_toArray, List.set_cons_zero, List.set_cons_succ]
    refine wpAnyX_take (i := 9) [10, 11, 12, 13, 14] (some 14) (v := ?_) rfl (by rfl) (by kernel_rfl) (by kernel_rfl) (by kernel_rfl) (by kernel_rfl) (fun _ _ _ h => h) (Or.inl ⟨by rfl, ?_⟩) k2 ?_
    rotate_left
    focus (intro w' hSw; (try dsimp only at hSw); go_simp; try with_reducible rfl)
    simp only [Act.put, List.setIfInBounds_toArray, List.set_cons_zero, List.set_cons_succ]
    refine wpAnyX_take (i := 10) [11, 12, 13, 14] (some 15) (v := ?_) rfl (by rfl) (by kernel_rfl) (by kernel_rfl) (by kernel_rfl) (by kernel_rfl) (fun _ _ _ h => h) (Or.inl ⟨by rfl, ?_⟩) k2 ?_
    rotate_left
    focus (intro w' hSw; (try dsimp only at hSw); go_simp; try with_reducible rfl)
    simp only [Act.put, List.setIfInBounds_toArray, List.set_cons_zero, List.set_cons_succ]
    refine wpAnyX_take (i := 11) [12, 13, 14] (some 16) (v := ?_) rfl (by rfl) (by kernel_rfl) (by kernel_rfl) (by kernel_rfl) (by kernel_rfl) (fun _ _ _ h => h) (Or.inl ⟨by rfl, ?_⟩) k2 ?_
    rotate_left
    focus (intro w' hSw; (try dsimp only at hSw); go_simp; try with_reducible rfl)
    simp only [Act.put, List.setIfInBounds_toArray, List.set_cons_zero, List.set_cons_succ]
    refine wpAnyX_take (i := 12) [13, 14] (some 17) (v := _) rfl (by rfl) (by kernel_rfl) (by kernel_rfl) (by kernel_rfl) (by kernel_rfl) (fun _ _ _ h => h) (yieldsIf_cell (v := .int .i64 most) (by rfl) rfl (by rfl) (by kernel_rfl) (fun y hy => cell_at (hy.heap HO1.out id) 0 _ rfl)) k2 ?_
    simp only [Act.put, List.setIfInBounds_toArray, List.set_cons_zero, List.set_cons_succ]
    refine wpAnyX_take (i := 13) [14] (some 18) (v := ?_) rfl (by rfl) (by kernel_rfl) (by kernel_rfl) (by kernel_rfl) (by kernel_rfl) (fun _ _ _ h => h) (Or.inl ⟨by rfl, ?_⟩) k2 ?_
    rotate_left
    focus (intro w' hSw; (try dsimp only at hSw); go_simp; try with_reducible rfl)
    simp only [Act.put, List.setIfInBounds_toArray, List.set_cons_zero, List.set_cons_succ]
    refine wpAnyX_take (i := 14) [] (some 19) (v := ?_) rfl (by rfl) (by kernel_rfl) (by kernel_rfl) (by kernel_rfl) (by kernel_rfl) (fun _ _ _ h => h) (Or.inl ⟨by rfl, ?_⟩) k2 ?_
    rotate_left
    focus (intro w' hSw; (try dsimp only at hSw); go_simp; try with_reducible rfl)
    simp only [Act.put, List.setIfInBounds_toArray, List.set_cons_zero, List.set_cons_succ]
    refine wpAnyX_done (by kernel_rfl) ?_ _
    go_wp2_with fail
    go_ret
    exact RAfter.no ⟨_, _, H.out⟩ (K1.out.drew.trans K2.out (fun _ _ f => f)) HS.out
  have dn : decide (most ≤ (n : Int)) = false := decide_eq_false (by omega)
  have HS := hid (show sendB most L m = true by rw [sendB, HC.out, ← HN.out, decide_eq_true hlt]; rfl)
  have HLT := hid hlt
  clear hlt
  refine wp_region_X (fun y => Keep (fun _ => False) w1.drew y) [] (by kernel_rfl) hS (fun _ => ?_)
  refine wpAnyX_take (i := 0) [1, 2, 3, 4, 5, 6, 7, 8, 9, 10, 11, 12, 13, 14] (some 5) (v := _) rfl (by rfl) (by kernel_rfl) (by kernel_rfl) (by kernel_rfl) (by kernel_rfl) (fun _ _ _ h => h) (yieldsIf_row (n := 27) (vs := ms) (by rfl) rfl (by rfl) (by kernel_rfl) (by kernel_rfl) HL.out.len (fun y hy => range_of (n := 27) (hy.heap HB1.out id) _ (by simpa using HL.out.take))) hS ?_
  simp only [Act.put, List.setIfInBounds_toArray, List.set_cons_zero, List.set_cons_succ]
  refine wpAnyX_one (i := 1) (by kernel_rfl) rfl (fun K hK => ?_)
  refine step_call (some 6) (by rfl) (by rfl) rfl EC.out (by rfl) HRC.out ?_
  rintro u w2 ⟨rfl, k2⟩
  have K2 := hid k2
  refine hK _ _ (k2) ?_
  clear hK K
  simp only [Act.put, List.setIfInBounds_toArray, List.set_cons_zero, List.set_cons_succ]
  refine wpAnyX_take (i := 2) [3, 4, 5, 6, 7, 8, 9, 10, 11, 12, 13, 14] (some 7) (v := ?_) rfl (by rfl) (by kernel_rfl) (by kernel_rfl) (by kernel_rfl) (by kernel_rfl) (fun _ _ _ h => h) (Or.inl ⟨by rfl, ?_⟩) k2 ?_
  rotate_left
  focus (intro w' hSw; (try dsimp only at hSw); go_simp; try with_reducible rfl)
  simp only [Act.put, List.setIfInBounds_toArray, List.set_cons_zero, List.set_cons_succ]
  refine wpAnyX_take (i := 3) [4, 5, 6, 7, 8, 9, 10, 11, 12, 13, 14] (some 8) (v := ?_) rfl (by rfl) (by kernel_rfl) (by kernel_rfl) (by kernel_rfl) (by kernel_rfl) (fun _ _ _ h => h) (Or.inl ⟨by rfl, ?_⟩) k2 ?_
  rotate_left
  focus (intro w' hSw; (try dsimp only at hSw); go_simp; try with_reducible rfl)
  simp only [Act.put, List.setIfInBounds_toArray, List.set_cons_zero, List.set_cons_succ]
  refine wpAnyX_take (i := 4) [5, 6, 7, 8, 13, 14] (some 9) (v := ?_) rfl (by rfl) (by kernel_rfl) (by kernel_rfl) (by kernel_rfl) (by kernel_rfl) (fun _ _ _ h => h) (Or.inl ⟨by rfl, ?_⟩) k2 ?_
  rotate_left
  focus (intro w' hSw; (try dsimp only at hSw); go_simp; try with_reducible rfl)
  simp only [Act.put, List.setIfInBounds_toArray, List.set_cons_zero, List.set_cons_succ]
  refine wpAnyX_take (i := 5) [6, 7, 8, 13, 14] (some 10) (v := ?_) rfl (by rfl) (by kernel_rfl) (by kernel_rfl) (by kernel_rfl) (by kernel_rfl) (fun _ _ _ h => h) (Or.inl ⟨by rfl, ?_⟩) k2 ?_
  rotate_left
  focus (intro w' hSw; (try dsimp only at hSw); go_simp; try with_reducible rfl)
  simp only [Act.put, List.setIfInBounds_toArray, List.set_cons_zero, List.set_cons_succ]
  refine wpAnyX_take (i := 6) [7, 8, 13, 14] (some 11) (v := ?_) rfl (by rfl) (by kernel_rfl) (by kernel_rfl) (by kernel_rfl) (by kernel_rfl) (fun _ _ _ h => h) (Or.inl ⟨by rfl, ?_⟩) k2 ?_
  rotate_left
  focus (intro w' hSw; (try dsimp only at hSw); go_simp; try with_reducible rfl)
  simp only [Act.put, List.setIfInBounds_toArray, List.set_cons_zero, List.set_cons_succ]
  refine wpAnyX_take (i := 7) [8, 13, 14] (some 12) (v := _) rfl (by rfl) (by kernel_rfl) (by kernel_rfl) (by kernel_rfl) (by kernel_rfl) (fun _ _ _ h => h) (yieldsIf_cell (v := .slice A n c) (by rfl) rfl (by rfl) (by kernel_rfl) (fun y hy => cell_at (hy.heap HO1.out id) 1 _ rfl)) k2 ?_
  simp only [Act.put, List.setIfInBounds_toArray, List.set_cons_zero, List.set_cons_succ]
  refine wpAnyX_take (i := 8) [13, 14] (some 13) (v := ?_) rfl (by rfl) (by kernel_rfl) (by kernel_rfl) (by kernel_rfl) (by kernel_rfl) (fun _ _ _ h => h) (Or.inl ⟨by rfl, ?_⟩) k2 ?_
  rotate_left
  focus (intro w' hSw; (try dsimp only at hSw); go_simp; try with_reducible rfl)
  simp only [Act.put, List.setIfInBounds_toArray, List.set_cons_zero, List.set_cons_succ]
  refine wpAnyX_take (i := 9) [10, 11, 12, 13, 14] (some 14) (v := ?_) rfl (by rfl) (by kernel_rfl) (by kernel_rfl) (by kernel_rfl) (by kernel_rfl) (fun _ _ _ h => h) (Or.inl ⟨by rfl, ?_⟩) k2 ?_
  rotate_left
  focus (intro w' hSw; (try dsimp only at hSw); go_simp; try with_reducible rfl)
  simp only [Act.put, List.setIfInBounds_toArray, List.set_cons_zero, List.set_cons_succ]
  refine wpAnyX_take (i := 10) [11, 12, 13, 14] (some 15) (v := ?_) rfl (by rfl) (by kernel_rfl) (by kernel_rfl) (by kernel_rfl) (by kernel_rfl) (fun _ _ _ h => h) (Or.inl ⟨by rfl, ?_⟩) k2 ?_
  rotate_left
  focus (intro w' hSw; (try dsimp only at hSw); go_simp; try with_reducible rfl)
  simp only [Act.put, List.setIfInBounds_toArray, List.set_cons_zero, List.set_cons_succ]
  refine wpAnyX_take (i := 11) [12, 13, 14] (some 16) (v := ?_) rfl (by rfl) (by kernel_rfl) (by kernel_rfl) (by kernel_rfl) (by kernel_rfl) (fun _ _ _ h => h) (Or.inl ⟨by rfl, ?_⟩) k2 ?_
  rotate_left
  focus (intro w' hSw; (try dsimp only at hSw); go_simp; try with_reducible rfl)
  simp only [Act.put, List.setIfInBounds_toArray, List.set_cons_zero, List.set_cons_succ]
  refine wpAnyX_take (i := 12) [13, 14] (some 17) (v := _) rfl (by rfl) (by kernel_rfl) (by kernel_rfl) (by kernel_rfl) (by kernel_rfl) (fun _ _ _ h => h) (yieldsIf_cell (v := .int .i64 most) (by rfl) rfl (by rfl) (by kernel_rfl) (fun y hy => cell_at (hy.heap HO1.out id) 0 _ rfl)) k2 ?_
  simp only [Act.put, List.setIfInBounds_toArray, List.set_cons_zero, List.set_cons_succ]
  refine wpAnyX_take (i := 13) [14] (some 18) (v := ?_) rfl (by rfl) (by kernel_rfl) (by kernel_rfl) (by kernel_rfl) (by kernel_rfl) (fun _ _ _ h => h) (Or.inl ⟨by rfl, ?_⟩) k2 ?_
  rotate_left
  focus (intro w' hSw; (try dsimp only at hSw); go_simp; try with_reducible rfl)
  simp only [Act.put, List.setIfInBounds_toArray, List.set_cons_zero, List.set_cons_succ]
  refine wpAnyX_take (i := 14) [] (some 19) (v := ?_) rfl (by rfl) (by kernel_rfl) (by kernel_rfl) (by kernel_rfl) (by kernel_rfl) (fun _ _ _ h => h) (Or.inl ⟨by rfl, ?_⟩) k2 ?_
  rotate_left
  focus (intro w' hSw; (try dsimp only at hSw); go_simp; try with_reducible rfl)
  simp only [Act.put, List.setIfInBounds_toArray, List.set_cons_zero, List.set_cons_succ]
  refine wpAnyX_done (by kernel_rfl) ?_ _
  go_wp2_with fail
  clear dn
  have K3 := hid ((K1.out.drew.trans K2.out (fun _ _ f => f)).drew)
  have hH := H.out.keepF K3.out
  rw [← HN.out] at hH
  have H2 := hid hH
  have hb3 := (show Keep (fun _ => False) w2 w2.drew from (Keep.refl _ _).drew).heap (K2.out.heap HB1.out id) id
  have hS3 : w2.drew.cell? ⟨g, 1, none⟩ = some (.slice A n c) ∧ w2.drew.rangeAt g3 0 ms := ⟨cell_at hH.obj 1 _ rfl, range_of (n := 27) hb3 _ (by simpa using HL.out.take)⟩
  have HO2 := hid (copyM_new (Rep.msg.keep HM.out K3.out (fun _ _ => id)) (fun q hq => Nat.lt_of_lt_of_le (HG.out q hq) K3.out.size) HF.out HW.out)
  obtain ⟨dM, hu, hd⟩ : ∃ d, Tryz.prog.underlying 42 = some d ∧ d.isRow = true := ⟨_, Tryz.underlying42, rfl⟩
  have hi : (Tryz.prog.info? 42).map (·.size) = some ms.length := by rw [HL.out.len]; kernel_rfl
  have HU := hid hu; have HD := hid hd; have HI := hid hi
  clear hH hb3 hu hd hi hS
  refine wp_region_X (fun y => y.cell? ⟨g, 1, none⟩ = some (.slice A n c) ∧ y.rangeAt g3 0 ms) [11] (by kernel_rfl) hS3 (fun _ => ?_)
  refine wpAnyX_take (i := 0) [9, 10, 11] (some 20) (v := ?_) rfl (by rfl) (by kernel_rfl) (by kernel_rfl) (by kernel_rfl) (by kernel_rfl) (fun _ _ _ h => h) (Or.inl ⟨by rfl, ?_⟩) hS3 ?_
  rotate_left
  focus (intro w' hSw; (try dsimp only at hSw); go_simp; try with_reducible rfl)
  simp only [Act.put, List.setIfInBounds_toArray, List.set_cons_zero, List.set_cons_succ]
  refine wpAnyX_take (i := 1) [2, 3, 4, 8, 9, 10, 11] (some 21) (v := ?_) rfl (by rfl) (by kernel_rfl) (by kernel_rfl) (by kernel_rfl) (by kernel_rfl) (fun _ _ _ h => h) (Or.inl ⟨by rfl, ?_⟩) hS3 ?_
  rotate_left
  focus (intro w' hSw; (try dsimp only at hSw); go_simp; try with_reducible rfl)
  simp only [Act.put, List.setIfInBounds_toArray, List.set_cons_zero, List.set_cons_succ]
  refine wpAnyX_take (i := 2) [3, 4, 8, 9, 10, 11] (some 22) (v := ?_) rfl (by rfl) (by kernel_rfl) (by kernel_rfl) (by kernel_rfl) (by kernel_rfl) (fun _ _ _ h => h) (Or.inl ⟨by rfl, ?_⟩) hS3 ?_
  rotate_left
  focus (intro w' hSw; (try dsimp only at hSw); go_simp; try with_reducible rfl)
  simp only [Act.put, List.setIfInBounds_toArray, List.set_cons_zero, List.set_cons_succ]
  refine wpAnyX_take (i := 3) [4, 8, 9, 10, 11] (some 23) (v := ?_) rfl (by rfl) (by kernel_rfl) (by kernel_rfl) (by kernel_rfl) (by kernel_rfl) (fun _ _ _ h => h) (Or.inl ⟨by rfl, ?_⟩) hS3 ?_
  rotate_left
  focus (intro w' hSw; (try dsimp only at hSw); go_simp; try with_reducible rfl)
  simp only [Act.put, List.setIfInBounds_toArray, List.set_cons_zero, List.set_cons_succ]
  refine wpAnyX_take (i := 4) [8, 9, 10, 11] (some 24) (v := ?_) rfl (by rfl) (by kernel_rfl) (by kernel_rfl) (by kernel_rfl) (by kernel_rfl) (fun _ _ _ h => h) (Or.inl ⟨by rfl, ?_⟩) hS3 ?_
  rotate_left
  focus (intro w' hSw; (try dsimp only at hSw); go_simp; try with_reducible rfl)
  simp only [Act.put, List.setIfInBounds_toArray, List.set_cons_zero, List.set_cons_succ]
  refine wpAnyX_take (i := 5) [6, 7, 8, 9, 10, 11] (some 25) (v := _) rfl (by rfl) (by kernel_rfl) (by kernel_rfl) (by kernel_rfl) (by kernel_rfl) (fun _ _ _ h => h) (yieldsIf_load_mid (by rfl) _ _ rfl g3 0 rfl ms dM (fun _ h => h.2) HU.out HD.out HI.out) hS3 ?_
  simp only [Act.put, List.setIfInBounds_toArray, List.set_cons_zero, List.set_cons_succ]
  refine wpAnyX_one (i := 6) (by kernel_rfl) rfl (fun K hK => ?_)
  refine step_call (some 26) (by rfl) (by rfl) rfl EG.out (by rfl) HO2.out ?_
  rintro u w3 ⟨vs, rfl, hv3, k3⟩
  have HV3 := hid hv3; have K4 := hid k3; have HLV := hid (MsgL.of hv3)
  have hS4 : (fun y : World => y.cell? ⟨g, 1, none⟩ = some (.slice A n c) ∧ y.rangeAt g3 0 ms) w3 := ⟨k3.cell hS3.1 id, fun j u hu => k3.cell (hS3.2 j u hu) id⟩
  clear hv3 k3
  refine hK _ _ (hS4) ?_
  clear hK K
  simp only [Act.put, List.setIfInBounds_toArray, List.set_cons_zero, List.set_cons_succ]
  refine wpAnyX_one (i := 7) (by kernel_rfl) rfl (fun K hK => ?_)
  refine step_sliceOne (some 27) (by rfl) (v := .agg vs.toArray) (z := zM) (n := 27) (by rfl) rfl Tryz.underlying49 (by kernel_rfl) (by decide) (by decide) (by rfl) (by simp [Value.cells, HLV.out.len]) ?_
  intro g7 w4 hg7 hb7 k4 s4
  have K5 := hid k4
  have hS5 : (fun y : World => y.cell? ⟨g, 1, none⟩ = some (.slice A n c) ∧ y.rangeAt g3 0 ms) w4 := ⟨k4.cell hS4.1 id, fun j u hu => k4.cell (hS4.2 j u hu) id⟩
  clear hg7 s4 k4
  refine hK _ _ (hS5) ?_
  clear hK K
  simp only [Act.put, List.setIfInBounds_toArray, List.set_cons_zero, List.set_cons_succ]
  refine wpAnyX_one (i := 8) (by kernel_rfl) rfl (fun K hK => ?_)
  have hrow : Row (fun q => q = g7) w4 (.slice (some ⟨g7, 0, none⟩) 1 1) 1 27 vs := by have := row_at (w := w4) (d := vs) hb7; rwa [HLV.out.len] at this
  have hown4 := ((K4.out.trans K5.out (fun _ _ f => f)).owns H2.out.row (fun _ _ => id))
  rw [← HN.out] at hown4
  refine step_appW (some 28) (by rfl) (v := .slice A n c) (by rfl) rfl T_M (by rfl) hown4 (by rfl) hrow HLV.out.one (by omega) (by omega) ?_
  intro A8 c8 w5 ho5 k5 hn5
  have HO5 := hid ho5; have K6 := hid k5; have HN5 := hid hn5
  have hob : ∀ q, (Value.slice A n c).ownBlock = some q → q ≠ g := fun q hq => (H2.out.own q hq).2
  have hS6 : (fun y : World => y.cell? ⟨g, 1, none⟩ = some (.slice A n c) ∧ y.rangeAt g3 0 ms) w5 := ⟨k5.cell hS5.1 (fun e => hob _ e.symm rfl), fun j u hu => k5.cell (hS5.2 j u hu) (fun e => by have h1 := H2.out.own _ e.symm; have h2 := H.out.lt _ h1.1; have := HG3.out; simp only at h2; omega)⟩
  clear hrow hown4 ho5 k5 hn5
  refine hK _ _ (hS6) ?_
  clear hK K
  simp only [Act.put, List.setIfInBounds_toArray, List.set_cons_zero, List.set_cons_succ]
  refine wpAnyX_take (i := 9) [10, 11] (some 29) (v := ?_) rfl (by rfl) (by kernel_rfl) (by kernel_rfl) (by kernel_rfl) (by kernel_rfl) (fun _ _ _ h => h) (Or.inl ⟨by rfl, ?_⟩) hS6 ?_
  rotate_left
  focus (intro w' hSw; (try dsimp only at hSw); go_simp; try with_reducible rfl)
  simp only [Act.put, List.setIfInBounds_toArray, List.set_cons_zero, List.set_cons_succ]
  refine wpAnyX_take (i := 10) [11] (some 30) (v := ?_) rfl (by rfl) (by kernel_rfl) (by kernel_rfl) (by kernel_rfl) (by kernel_rfl) (fun _ _ _ h => h) (Or.inl ⟨by rfl, ?_⟩) hS6 ?_
  rotate_left
  focus (intro w' hSw; (try dsimp only at hSw); go_simp; try with_reducible rfl)
  simp only [Act.put, List.setIfInBounds_toArray, List.set_cons_zero, List.set_cons_succ]
  refine wpAnyX_oneX (i := 11) (by kernel_rfl) rfl (by kernel_rfl) (fun K hK => ?_)
  have hobj := K6.out.heap (K5.out.heap (K4.out.heap H2.out.obj id) id) (fun e => hob _ e.symm rfl)
  refine step_store (none) (by rfl) (v := .slice A8 (n + 1) c8) (C := #[.int .i64 most, .slice A n c]) (by rfl) rfl (by rfl) (by rfl) hobj (by kernel_rfl) (by simp [Value.cells]) (by simp [Value.oneCell', Value.cells]) ?_
  intro w6 hb6 k6 s6
  replace hb6 : w6.heap[g]? = some (.cells #[.int .i64 most, .slice A8 (n + 1) c8] 54) := hb6
  refine hK _ _ ?_
  clear hK K
  simp only [Act.put]
  refine wpAnyX_done (by kernel_rfl) ?_ _
  have hfin : NetAt 54 (Grow F w w6) w6 g most (L ++ [m]) ∧ Keep F w w6 := by
    obtain rfl := HN.out
    have hvs := Rep.msg.mono HV3.out (G := NewIn w w3) (fun k hk => ⟨by have := K3.out.size; have := hk.1; omega, hk.2⟩)
    exact H.out.more HLT.out (K3.out.trans K4.out (fun _ _ f => f)) hvs K5.out HO5.out K6.out HN5.out hb6 k6 HF.out
  have HFIN := hid hfin
  clear hfin hb6 k6 s6 hS3 hS4 hS5 hS6 hob hobj
  go_wp2_with fail
  go_ret
  exact RAfter.yes HS.out HFIN.out.1 HFIN.out.2
def rtwB (most : Int) (L : List Msg) : Bool := decide (0 < L.length) && decide ((L.length : Int) < most)
set_option maxRecDepth 20000 in
set_option maxHeartbeats 8000000 in
theorem rtwice_calls (h : NetAt 54 F w g most L) (hk : okI k) (hfew : ∀ m ∈ L, Few m) :
    Calls Tryz.prog 14 #[.pointer (some ⟨g, 0, none⟩), .int .i64 k] w (RAfter F w g most L (rtwB most L) (takeM L k)) := by
  have hle := h.le
  have HPL := hid (rplace_calls h hk)
  obtain ⟨v, cs, h⟩ := h
  obtain ⟨A, c, rfl⟩ := h.shape
  have H := hid h
  obtain ⟨n, hn⟩ : ∃ n, n = L.length := ⟨_, rfl⟩
  rw [← hn] at hle HPL
  have HN := hid hn
  have EG := hid (enters_of Tryz.func24 (by kernel_rfl) rfl)
  have hH := H.out.keepF ((Keep.refl (fun _ => False) w).drew)
  rw [← HN.out] at hH
  have HO1 := hid hH.obj
  have HFEW := hid hfew
  clear h hn hH hk hfew
  by_cases h0 : n = 0
  · subst h0
    go_enter Tryz.func14, Tryz.ntmps14
    go_wp2_with fail
    refine HPL.out.mono ?_
    rintro e w' ⟨rfl, rfl⟩
    rw [if_pos rfl]
    have HS := hid (show rtwB most L = false by rw [rtwB, ← HN.out]; rfl)
    have hS : Keep (fun _ => False) w.drew w.drew := Keep.refl _ _
    go_wp2_with fail
    refine wp_region_X (fun y => Keep (fun _ => False) w.drew y) [] (by kernel_rfl) hS (fun _ => ?_)
    refine wpAnyX_take (i := 0) [1, 2, 3, 4, 5, 6, 7, 8, 9, 10, 11, 12, 13] (some 9) (v := ?_) rfl (by rfl) (by kernel_rfl) (by kernel_rfl) (by kernel_rfl) (by kernel_rfl) (fun _ _ _ h => h) (Or.inl ⟨by rfl, ?_⟩) hS ?_
    rotate_left
    focus (intro w' hSw; (try dsimp only at hSw); go_simp; try with_reducible rfl)
    simp only [Act.put, List.setIfInBounds_toArray, List.set_cons_zero, List.set_cons_succ]
    refine wpAnyX_take (i := 1) [2, 3, 4, 5, 6, 7, 8, 9, 10, 11, 12, 13] (some 10) (v := ?_) rfl (by rfl) (by kernel_rfl) (by kernel_rfl) (by kernel_rfl) (by kernel_rfl) (fun _ _ _ h => h) (Or.inl ⟨by rfl, ?_⟩) hS ?_
    rotate_left
    focus (intro w' hSw; (try dsimp only at hSw); go_simp; try with_reducible rfl)
    simp only [Act.put, List.setIfInBounds_toArray, List.set_cons_zero, List.set_cons_succ]
    refine wpAnyX_take (i := 2) [3, 4, 5, 6, 7, 8, 9, 10, 11, 12, 13] (some 11) (v := ?_) rfl (by rfl) (by kernel_rfl) (by kernel_rfl) (by kernel_rfl) (by kernel_rfl) (fun _ _ _ h => h) (Or.inl ⟨by rfl, ?_⟩) hS ?_
    rotate_left
    focus (intro w' hSw; (try dsimp only at hSw); go_simp; try with_reducible rfl)
    simp only [Act.put, List.setIfInBounds_toArray, List.set_cons_zero, List.set_cons_succ]
    refine wpAnyX_take (i := 3) [4, 5, 6, 7, 12, 13] (some 12) (v := undef) rfl (by rfl) (by kernel_rfl) (by kernel_rfl) (by kernel_rfl) (by kernel_rfl) (fun _ _ _ h => h) (Or.inr ⟨by rfl, rfl⟩) hS ?_
    simp only [Act.put, List.setIfInBounds_toArray, List.set_cons_zero, List.set_cons_succ]
    refine wpAnyX_take (i := 4) [5, 6, 7, 12, 13] (some 13) (v := undef) rfl (by rfl) (by kernel_rfl) (by kernel_rfl) (by kernel_rfl) (by kernel_rfl) (fun _ _ _ h => h) (Or.inr ⟨by rfl, rfl⟩) hS ?_
    simp only [Act.put, List.setIfInBounds_toArray, List.set_cons_zero, List.set_cons_succ]
    refine wpAnyX_take (i := 5) [6, 7, 12, 13] (some 14) (v := undef) rfl (by rfl) (by kernel_rfl) (by kernel_rfl) (by kernel_rfl) (by kernel_rfl) (fun _ _ _ h => h) (Or.inr ⟨by rfl, rfl⟩) hS ?_
    simp only [Act.put, List.setIfInBounds_toArray, List.set_cons_zero, List.set_cons_succ]
    refine wpAnyX_take (i := 6) [7, 12, 13] (some 15) (v := undef) rfl (by rfl) (by kernel_rfl) (by kernel_rfl) (by kernel_rfl) (by kernel_rfl) (fun _ _ _ h => h) (Or.inr ⟨by rfl, rfl⟩) hS ?_
    simp only [Act.put, List.setIfInBounds_toArray, List.set_cons_zero, List.set_cons_succ]
    refine wpAnyX_take (i := 7) [12, 13] (some 16) (v := undef) rfl (by rfl) (by kernel_rfl) (by kernel_rfl) (by kernel_rfl) (by kernel_rfl) (fun _ _ _ h => h) (Or.inr ⟨by rfl, rfl⟩) hS ?_
    simp only [Act.put, List.setIfInBounds_toArray, List.set_cons_zero, List.set_cons_succ]
    refine wpAnyX_take (i := 8) [9, 10, 11, 12, 13] (some 17) (v := undef) rfl (by rfl) (by kernel_rfl) (by kernel_rfl) (by kernel_rfl) (by kernel_rfl) (fun _ _ _ h => h) (Or.inr ⟨by rfl, rfl⟩) hS ?_
    simp only [Act.put, List.setIfInBounds_toArray, List.set_cons_zero, List.set_cons_succ]
    refine wpAnyX_take (i := 9) [10, 11, 12, 13] (some 18) (v := undef) rfl (by rfl) (by kernel_rfl) (by kernel_rfl) (by kernel_rfl) (by kernel_rfl) (fun _ _ _ h => h) (Or.inr ⟨by rfl, rfl⟩) hS ?_
    simp only [Act.put, List.setIfInBounds_toArray, List.set_cons_zero, List.set_cons_succ]
    refine wpAnyX_take (i := 10) [11, 12, 13] (some 19) (v := undef) rfl (by rfl) (by kernel_rfl) (by kernel_rfl) (by kernel_rfl) (by kernel_rfl) (fun _ _ _ h => h) (Or.inr ⟨by rfl, rfl⟩) hS ?_
    simp only [Act.put, List.setIfInBounds_toArray, List.set_cons_zero, List.set_cons_succ]
    refine wpAnyX_take (i := 11) [12, 13] (some 20) (v := undef) rfl (by rfl) (by kernel_rfl) (by kernel_rfl) (by kernel_rfl) (by kernel_rfl) (fun _ _ _ h => h) (Or.inr ⟨by rfl, rfl⟩) hS ?_
    simp only [Act.put, List.setIfInBounds_toArray, List.set_cons_zero, List.set_cons_succ]
    refine wpAnyX_take (i := 12) [13] (some 21) (v := undef) rfl (by rfl) (by kernel_rfl) (by kernel_rfl) (by kernel_rfl) (by kernel_rfl) (fun _ _ _ h => h) (Or.inr ⟨by rfl, rfl⟩) hS ?_
    simp only [Act.put, List.setIfInBounds_toArray, List.set_cons_zero, List.set_cons_succ]
    refine wpAnyX_take (i := 13) [] (some 22) (v := ?_) rfl (by rfl) (by kernel_rfl) (by kernel_rfl) (by kernel_rfl) (by kernel_rfl) (fun _ _ _ h => h) (Or.inl ⟨by rfl, ?_⟩) hS ?_
    rotate_left
    focus (intro w' hSw; (try dsimp only at hSw); go_simp; try with_reducible rfl)
    simp only [Act.put, List.setIfInBounds_toArray, List.set_cons_zero, List.set_cons_succ]
    refine wpAnyX_done (by kernel_rfl) ?_ _
    go_wp2_with fail
    go_ret
    exact RAfter.no ⟨_, _, H.out⟩ ((Keep.refl _ _).drew) HS.out
  have hil := placeN_lt k (n := n) (by omega)
  obtain ⟨i, hi⟩ : ∃ i, i = placeN k n := ⟨_, rfl⟩
  rw [← hi] at hil
  have HI := hid hi
  have HPI := hid (HPL.out.mono (R' := fun e w' => e = .returned (.int .i64 (i : Int)) ∧ w = w') (fun e w' h => ⟨by rw [h.1, if_neg h0, HI.out], h.2⟩))
  clear HPL
  obtain ⟨x, hx⟩ : ∃ x, L[i]? = some x := ⟨L[i]'(by rw [← HN.out]; exact hil), List.getElem?_eq_getElem _⟩
  have hst := H.out
  have hxm := hst.parts i x hx
  have hsz : Rep.msg.size = 27 := rfl
  rw [hsz] at hxm
  obtain ⟨xs, hxs⟩ : ∃ xs, xs = (cs.drop (i * 27)).take 27 := ⟨_, rfl⟩
  rw [← hxs] at hxm
  have HLX := hid (MsgL.of hxm)
  rcases hst.row.2 with ⟨_, h00⟩ | ⟨b, cap, cur, he, _, hgb, hnc, hcm, hcs, htk⟩
  · have := HN.out; omega
  simp only [Value.slice.injEq, true_and] at he
  obtain ⟨rfl, rfl⟩ := he
  have hcell : ∀ j u, xs[j]? = some u → w.cell? ⟨b, i * 27 + j, none⟩ = some u := fun j u hu => by
    refine (World.ownsRow.cells hst.row (g := b) rfl (i * 27 + j) u ?_ : _).trans rfl |> fun q => by rw [Addr.add_lit, Nat.zero_add] at q; exact q
    rw [hxs, List.getElem?_take] at hu
    split at hu
    · rwa [List.getElem?_drop] at hu
    · cases hu
  have HT := hid (show takeM L k = x by rw [takeM, ← HN.out, ← HI.out, hx]; rfl)
  have HFX := hid (hst.fits x (List.mem_of_getElem? hx)); have HWX := hid (HFEW.out x (List.mem_of_getElem? hx))
  have HXM := hid hxm; have HC := hid hcell
  have hi1 : (0 : Int) ≤ (i : Int) := by omega
  have hi2 : (i : Int) < (n : Int) := by omega
  have hi3 : decide ((i : Int) < 0) = false := decide_eq_false (by omega)
  have hbl := lt_heap hgb
  clear hxm hcell hst hxs hgb hnc hcm hcs htk hsz hx hi
  rw [HT.out]
  have hS : Keep (fun _ => False) w.drew w.drew := Keep.refl _ _
  by_cases hlt : (n : Int) < most
  case neg =>
    have dn : decide (most ≤ (n : Int)) = true := decide_eq_true (by omega)
    have HS := hid (show rtwB most L = false by rw [rtwB, ← HN.out, decide_eq_false hlt, Bool.and_false])
    clear hlt
    go_enter Tryz.func14, Tryz.ntmps14
    go_wp2_with fail
    refine HPI.out.mono ?_
    rintro e w' ⟨rfl, rfl⟩
    go_wp2_with fail
    refine wp_region_X (fun y => Keep (fun _ => False) w.drew y) [] (by kernel_rfl) hS (fun _ => ?_)
    refine wpAnyX_take (i := 0) [1, 2, 3, 4, 5, 6, 7, 8, 9, 10, 11, 12, 13] (some 9) (v := ?_) rfl (by rfl) (by kernel_rfl) (by kernel_rfl) (by kernel_rfl) (by kernel_rfl) (fun _ _ _ h => h) (Or.inl ⟨by rfl, ?_⟩) hS ?_
    rotate_left
    focus (intro w' hSw; (try dsimp only at hSw); go_simp; try with_reducible rfl)
    simp only [Act.put, List.setIfInBounds_toArray, List.set_cons_zero, List.set_cons_succ]
    refine wpAnyX_take (i := 1) [2, 3, 4, 5, 6, 7, 8, 9, 10, 11, 12, 13] (some 10) (v := ?_) rfl (by rfl) (by kernel_rfl) (by kernel_rfl) (by kernel_rfl) (by kernel_rfl) (fun _ _ _ h => h) (Or.inl ⟨by rfl, ?_⟩) hS ?_
    rotate_left
    focus (intro w' hSw; (try dsimp only at hSw); go_simp; try with_reducible rfl)
    simp only [Act.put, List.setIfInBounds_toArray, List.set_cons_zero, List.set_cons_succ]
    refine wpAnyX_take (i := 2) [3, 4, 5, 6, 7, 8, 9, 10, 11, 12, 13] (some 11) (v := ?_) rfl (by rfl) (by kernel_rfl) (by kernel_rfl) (by kernel_rfl) (by kernel_rfl) (fun _ _ _ h => h) (Or.inl ⟨by rfl, ?_⟩) hS ?_
    rotate_left
    focus (intro w' hSw; (try dsimp only at hSw); go_simp; try with_reducible rfl)
    simp only [Act.put, List.setIfInBounds_toArray, List.set_cons_zero, List.set_cons_succ]
    refine wpAnyX_take (i := 3) [4, 5, 6, 7, 12, 13] (some 12) (v := ?_) rfl (by rfl) (by kernel_rfl) (by kernel_rfl) (by kernel_rfl) (by kernel_rfl) (fun _ _ _ h => h) (Or.inl ⟨by rfl, ?_⟩) hS ?_
    rotate_left
    focus (intro w' hSw; (try dsimp only at hSw); go_simp; try with_reducible rfl)
    simp only [Act.put, List.setIfInBounds_toArray, List.set_cons_zero, List.set_cons_succ]
    refine wpAnyX_take (i := 4) [5, 6, 7, 12, 13] (some 13) (v := ?_) rfl (by rfl) (by kernel_rfl) (by kernel_rfl) (by kernel_rfl) (by kernel_rfl) (fun _ _ _ h => h) (Or.inl ⟨by rfl, ?_⟩) hS ?_
    rotate_left
    focus (intro w' hSw; (try dsimp only at hSw); go_simp; try with_reducible rfl)
    simp only [Act.put, List.setIfInBounds_toArray, List.set_cons_zero, List.set_cons_succ]
    refine wpAnyX_take (i := 5) [6, 7, 12, 13] (some 14) (v := ?_) rfl (by rfl) (by kernel_rfl) (by kernel_rfl) (by kernel_rfl) (by kernel_rfl) (fun _ _ _ h => h) (Or.inl ⟨by rfl, ?_⟩) hS ?_
    rotate_left
    focus (intro w' hSw; (try dsimp only at hSw); go_simp; try with_reducible rfl)
    simp only [Act.put, List.setIfInBounds_toArray, List.set_cons_zero, List.set_cons_succ]
    refine wpAnyX_take (i := 6) [7, 12, 13] (some 15) (v := _) rfl (by rfl) (by kernel_rfl) (by kernel_rfl) (by kernel_rfl) (by kernel_rfl) (fun _ _ _ h => h) (yieldsIf_cell (v := .slice (some ⟨b, 0, none⟩) n c) (by rfl) rfl (by rfl) (by kernel_rfl) (fun y hy => cell_at (hy.heap HO1.out id) 1 _ rfl)) hS ?_
    simp only [Act.put, List.setIfInBounds_toArray, List.set_cons_zero, List.set_cons_succ]
    refine wpAnyX_take (i := 7) [12, 13] (some 16) (v := ?_) rfl (by rfl) (by kernel_rfl) (by kernel_rfl) (by kernel_rfl) (by kernel_rfl) (fun _ _ _ h => h) (Or.inl ⟨by rfl, ?_⟩) hS ?_
    rotate_left
    focus (intro w' hSw; (try dsimp only at hSw); go_simp; try with_reducible rfl)
    simp only [Act.put, List.setIfInBounds_toArray, List.set_cons_zero, List.set_cons_succ]
    refine wpAnyX_take (i := 8) [9, 10, 11, 12, 13] (some 17) (v := ?_) rfl (by rfl) (by kernel_rfl) (by kernel_rfl) (by kernel_rfl) (by kernel_rfl) (fun _ _ _ h => h) (Or.inl ⟨by rfl, ?_⟩) hS ?_
    rotate_left
    focus (intro w' hSw; (try dsimp only at hSw); go_simp; try with_reducible rfl)
    simp only [Act.put, List.setIfInBounds_toArray, List.set_cons_zero, List.set_cons_succ]
    refine wpAnyX_take (i := 9) [10, 11, 12, 13] (some 18) (v := ?_) rfl (by rfl) (by kernel_rfl) (by kernel_rfl) (by kernel_rfl) (by kernel_rfl) (fun _ _ _ h => h) (Or.inl ⟨by rfl, ?_⟩) hS ?_
    rotate_left
    focus (intro w' hSw; (try dsimp only at hSw); go_simp; try with_reducible rfl)
    simp only [Act.put, List.setIfInBounds_toArray, List.set_cons_zero, List.set_cons_succ]
    refine wpAnyX_take (i := 10) [11, 12, 13] (some 19) (v := ?_) rfl (by rfl) (by kernel_rfl) (by kernel_rfl) (by kernel_rfl) (by kernel_rfl) (fun _ _ _ h => h) (Or.inl ⟨by rfl, ?_⟩) hS ?_
    rotate_left
    focus (intro w' hSw; (try dsimp only at hSw); go_simp; try with_reducible rfl)
    simp only [Act.put, List.setIfInBounds_toArray, List.set_cons_zero, List.set_cons_succ]
    refine wpAnyX_take (i := 11) [12, 13] (some 20) (v := _) rfl (by rfl) (by kernel_rfl) (by kernel_rfl) (by kernel_rfl) (by kernel_rfl) (fun _ _ _ h => h) (yieldsIf_cell (v := .int .i64 most) (by rfl) rfl (by rfl) (by kernel_rfl) (fun y hy => cell_at (hy.heap HO1.out id) 0 _ rfl)) hS ?_
    simp only [Act.put, List.setIfInBounds_toArray, List.set_cons_zero, List.set_cons_succ]
    refine wpAnyX_take (i := 12) [13] (some 21) (v := ?_) rfl (by rfl) (by kernel_rfl) (by kernel_rfl) (by kernel_rfl) (by kernel_rfl) (fun _ _ _ h => h) (Or.inl ⟨by rfl, ?_⟩) hS ?_
    rotate_left
    focus (intro w' hSw; (try dsimp only at hSw); go_simp; try with_reducible rfl)
    simp only [Act.put, List.setIfInBounds_toArray, List.set_cons_zero, List.set_cons_succ]
    refine wpAnyX_take (i := 13) [] (some 22) (v := ?_) rfl (by rfl) (by kernel_rfl) (by kernel_rfl) (by kernel_rfl) (by kernel_rfl) (fun _ _ _ h => h) (Or.inl ⟨by rfl, ?_⟩) hS ?_
    rotate_left
    focus (intro w' hSw; (try dsimp only at hSw); go_simp; try with_reducible rfl)
    simp only [Act.put, List.setIfInBounds_toArray, List.set_cons_zero, List.set_cons_succ]
    refine wpAnyX_done (by kernel_rfl) ?_ _
    go_wp2_with fail
    go_ret
    exact RAfter.no ⟨_, _, H.out⟩ ((Keep.refl _ _).drew) HS.out
  have dn : decide (most ≤ (n : Int)) = false := decide_eq_false (by omega)
  have HS := hid (show rtwB most L = true by rw [rtwB, ← HN.out, decide_eq_true hlt, decide_eq_true (show 0 < n by omega)]; rfl)
  have HLT := hid hlt
  clear hlt
  go_enter Tryz.func14, Tryz.ntmps14
  go_wp2_with fail
  refine HPI.out.mono ?_
  rintro e w' ⟨rfl, rfl⟩
  go_wp2_with fail
  refine wp_region_X (fun y => Keep (fun _ => False) w.drew y) [] (by kernel_rfl) hS (fun _ => ?_)
  refine wpAnyX_take (i := 0) [1, 2, 3, 4, 5, 6, 7, 8, 9, 10, 11, 12, 13] (some 9) (v := ?_) rfl (by rfl) (by kernel_rfl) (by kernel_rfl) (by kernel_rfl) (by kernel_rfl) (fun _ _ _ h => h) (Or.inl ⟨by rfl, ?_⟩) hS ?_
  rotate_left
  focus (intro w' hSw; (try dsimp only at hSw); go_simp; try with_reducible rfl)
  simp only [Act.put, List.setIfInBounds_toArray, List.set_cons_zero, List.set_cons_succ]
  refine wpAnyX_take (i := 1) [2, 3, 4, 5, 6, 7, 8, 9, 10, 11, 12, 13] (some 10) (v := ?_) rfl (by rfl) (by kernel_rfl) (by kernel_rfl) (by kernel_rfl) (by kernel_rfl) (fun _ _ _ h => h) (Or.inl ⟨by rfl, ?_⟩) hS ?_
  rotate_left
  focus (intro w' hSw; (try dsimp only at hSw); go_simp; try with_reducible rfl)
  simp only [Act.put, List.setIfInBounds_toArray, List.set_cons_zero, List.set_cons_succ]
  refine wpAnyX_take (i := 2) [3, 4, 5, 6, 7, 8, 9, 10, 11, 12, 13] (some 11) (v := ?_) rfl (by rfl) (by kernel_rfl) (by kernel_rfl) (by kernel_rfl) (by kernel_rfl) (fun _ _ _ h => h) (Or.inl ⟨by rfl, ?_⟩) hS ?_
  rotate_left
  focus (intro w' hSw; (try dsimp only at hSw); go_simp; try with_reducible rfl)
  simp only [Act.put, List.setIfInBounds_toArray, List.set_cons_zero, List.set_cons_succ]
  refine wpAnyX_take (i := 3) [4, 5, 6, 7, 12, 13] (some 12) (v := ?_) rfl (by rfl) (by kernel_rfl) (by kernel_rfl) (by kernel_rfl) (by kernel_rfl) (fun _ _ _ h => h) (Or.inl ⟨by rfl, ?_⟩) hS ?_
  rotate_left
  focus (intro w' hSw; (try dsimp only at hSw); go_simp; try with_reducible rfl)
  simp only [Act.put, List.setIfInBounds_toArray, List.set_cons_zero, List.set_cons_succ]
  refine wpAnyX_take (i := 4) [5, 6, 7, 12, 13] (some 13) (v := ?_) rfl (by rfl) (by kernel_rfl) (by kernel_rfl) (by kernel_rfl) (by kernel_rfl) (fun _ _ _ h => h) (Or.inl ⟨by rfl, ?_⟩) hS ?_
  rotate_left
  focus (intro w' hSw; (try dsimp only at hSw); go_simp; try with_reducible rfl)
  simp only [Act.put, List.setIfInBounds_toArray, List.set_cons_zero, List.set_cons_succ]
  refine wpAnyX_take (i := 5) [6, 7, 12, 13] (some 14) (v := ?_) rfl (by rfl) (by kernel_rfl) (by kernel_rfl) (by kernel_rfl) (by kernel_rfl) (fun _ _ _ h => h) (Or.inl ⟨by rfl, ?_⟩) hS ?_
  rotate_left
  focus (intro w' hSw; (try dsimp only at hSw); go_simp; try with_reducible rfl)
  simp only [Act.put, List.setIfInBounds_toArray, List.set_cons_zero, List.set_cons_succ]
  refine wpAnyX_take (i := 6) [7, 12, 13] (some 15) (v := _) rfl (by rfl) (by kernel_rfl) (by kernel_rfl) (by kernel_rfl) (by kernel_rfl) (fun _ _ _ h => h) (yieldsIf_cell (v := .slice (some ⟨b, 0, none⟩) n c) (by rfl) rfl (by rfl) (by kernel_rfl) (fun y hy => cell_at (hy.heap HO1.out id) 1 _ rfl)) hS ?_
  simp only [Act.put, List.setIfInBounds_toArray, List.set_cons_zero, List.set_cons_succ]
  refine wpAnyX_take (i := 7) [12, 13] (some 16) (v := ?_) rfl (by rfl) (by kernel_rfl) (by kernel_rfl) (by kernel_rfl) (by kernel_rfl) (fun _ _ _ h => h) (Or.inl ⟨by rfl, ?_⟩) hS ?_
  rotate_left
  focus (intro w' hSw; (try dsimp only at hSw); go_simp; try with_reducible rfl)
  simp only [Act.put, List.setIfInBounds_toArray, List.set_cons_zero, List.set_cons_succ]
  refine wpAnyX_take (i := 8) [9, 10, 11, 12, 13] (some 17) (v := ?_) rfl (by rfl) (by kernel_rfl) (by kernel_rfl) (by kernel_rfl) (by kernel_rfl) (fun _ _ _ h => h) (Or.inl ⟨by rfl, ?_⟩) hS ?_
  rotate_left
  focus (intro w' hSw; (try dsimp only at hSw); go_simp; try with_reducible rfl)
  simp only [Act.put, List.setIfInBounds_toArray, List.set_cons_zero, List.set_cons_succ]
  refine wpAnyX_take (i := 9) [10, 11, 12, 13] (some 18) (v := ?_) rfl (by rfl) (by kernel_rfl) (by kernel_rfl) (by kernel_rfl) (by kernel_rfl) (fun _ _ _ h => h) (Or.inl ⟨by rfl, ?_⟩) hS ?_
  rotate_left
  focus (intro w' hSw; (try dsimp only at hSw); go_simp; try with_reducible rfl)
  simp only [Act.put, List.setIfInBounds_toArray, List.set_cons_zero, List.set_cons_succ]
  refine wpAnyX_take (i := 10) [11, 12, 13] (some 19) (v := ?_) rfl (by rfl) (by kernel_rfl) (by kernel_rfl) (by kernel_rfl) (by kernel_rfl) (fun _ _ _ h => h) (Or.inl ⟨by rfl, ?_⟩) hS ?_
  rotate_left
  focus (intro w' hSw; (try dsimp only at hSw); go_simp; try with_reducible rfl)
  simp only [Act.put, List.setIfInBounds_toArray, List.set_cons_zero, List.set_cons_succ]
  refine wpAnyX_take (i := 11) [12, 13] (some 20) (v := _) rfl (by rfl) (by kernel_rfl) (by kernel_rfl) (by kernel_rfl) (by kernel_rfl) (fun _ _ _ h => h) (yieldsIf_cell (v := .int .i64 most) (by rfl) rfl (by rfl) (by kernel_rfl) (fun y hy => cell_at (hy.heap HO1.out id) 0 _ rfl)) hS ?_
  simp only [Act.put, List.setIfInBounds_toArray, List.set_cons_zero, List.set_cons_succ]
  refine wpAnyX_take (i := 12) [13] (some 21) (v := ?_) rfl (by rfl) (by kernel_rfl) (by kernel_rfl) (by kernel_rfl) (by kernel_rfl) (fun _ _ _ h => h) (Or.inl ⟨by rfl, ?_⟩) hS ?_
  rotate_left
  focus (intro w' hSw; (try dsimp only at hSw); go_simp; try with_reducible rfl)
  simp only [Act.put, List.setIfInBounds_toArray, List.set_cons_zero, List.set_cons_succ]
  refine wpAnyX_take (i := 13) [] (some 22) (v := ?_) rfl (by rfl) (by kernel_rfl) (by kernel_rfl) (by kernel_rfl) (by kernel_rfl) (fun _ _ _ h => h) (Or.inl ⟨by rfl, ?_⟩) hS ?_
  rotate_left
  focus (intro w' hSw; (try dsimp only at hSw); go_simp; try with_reducible rfl)
  simp only [Act.put, List.setIfInBounds_toArray, List.set_cons_zero, List.set_cons_succ]
  refine wpAnyX_done (by kernel_rfl) ?_ _
  go_wp2_with fail
  clear dn
  have K3 := hid (((Keep.refl (fun _ => False) w).drew).drew)
  have hH := H.out.keepF K3.out
  rw [← HN.out] at hH
  have H2 := hid hH
  have hS3 : w.drew.drew.cell? ⟨g, 1, none⟩ = some (.slice (some ⟨b, 0, none⟩) n c) ∧ w.drew.drew.rangeAt b (i * 27) xs := ⟨cell_at hH.obj 1 _ rfl, HC.out⟩
  have HO2 := hid (copyM_new (Rep.msg.keep HXM.out K3.out (fun _ _ => id)) (fun q hq => Nat.lt_of_lt_of_le (H.out.lt q hq.1) K3.out.size) HFX.out HWX.out)
  obtain ⟨dM, hu, hd⟩ : ∃ d, Tryz.prog.underlying 42 = some d ∧ d.isRow = true := ⟨_, Tryz.underlying42, rfl⟩
  have hinf : (Tryz.prog.info? 42).map (·.size) = some xs.length := by rw [HLX.out.len]; kernel_rfl
  have HU := hid hu; have HD := hid hd; have HIN := hid hinf
  clear hH hu hd hinf hS hi3
  refine wp_region_Y (fun y => y.cell? ⟨g, 1, none⟩ = some (.slice (some ⟨b, 0, none⟩) n c) ∧ y.rangeAt b (i * 27) xs) [14, 15, 16, 17] (by kernel_rfl) hS3 (fun _ => ?_)
  refine wpAnyY_takeW (i := 0) (some 23) (v := ?_) rfl (by rfl) (by kernel_rfl) (by kernel_rfl) (by kernel_rfl) (fun _ _ _ h => h) (Or.inl ⟨by rfl, ?_⟩) ?_
  rotate_left
  focus (intro w' _; go_simp; try with_reducible rfl)
  simp only [Act.put, List.setIfInBounds_toArray, List.set_cons_zero, List.set_cons_succ]
  refine wpAnyY_take (i := 1) [2, 3, 4, 14, 15, 16, 17] (some 24) (v := ?_) rfl (by rfl) (by kernel_rfl) (by kernel_rfl) (by kernel_rfl) (by kernel_rfl) (fun _ _ _ h => h) (Or.inl ⟨by rfl, ?_⟩) hS3 ?_
  rotate_left
  focus (intro w' hSw; (try dsimp only at hSw); go_simp; try with_reducible rfl)
  simp only [Act.put, List.setIfInBounds_toArray, List.set_cons_zero, List.set_cons_succ]
  refine wpAnyY_take (i := 2) [3, 4, 14, 15, 16, 17] (some 25) (v := ?_) rfl (by rfl) (by kernel_rfl) (by kernel_rfl) (by kernel_rfl) (by kernel_rfl) (fun _ _ _ h => h) (Or.inl ⟨by rfl, ?_⟩) hS3 ?_
  rotate_left
  focus (intro w' hSw; (try dsimp only at hSw); go_simp; try with_reducible rfl)
  simp only [Act.put, List.setIfInBounds_toArray, List.set_cons_zero, List.set_cons_succ]
  refine wpAnyY_take (i := 3) [4, 14, 15, 16, 17] (some 26) (v := ?_) rfl (by rfl) (by kernel_rfl) (by kernel_rfl) (by kernel_rfl) (by kernel_rfl) (fun _ _ _ h => h) (Or.inl ⟨by rfl, ?_⟩) hS3 ?_
  rotate_left
  focus (intro w' hSw; (try dsimp only at hSw); go_simp; try with_reducible rfl)
  simp only [Act.put, List.setIfInBounds_toArray, List.set_cons_zero, List.set_cons_succ]
  refine wpAnyY_take (i := 4) [14, 15, 16, 17] (some 27) (v := ?_) rfl (by rfl) (by kernel_rfl) (by kernel_rfl) (by kernel_rfl) (by kernel_rfl) (fun _ _ _ h => h) (Or.inl ⟨by rfl, ?_⟩) hS3 ?_
  rotate_left
  focus (intro w' hSw; (try dsimp only at hSw); go_simp; try with_reducible rfl)
  simp only [Act.put, List.setIfInBounds_toArray, List.set_cons_zero, List.set_cons_succ]
  refine wpAnyY_take (i := 5) [6, 7, 8, 10, 11, 12, 13, 14, 15, 16, 17] (some 28) (v := ?_) rfl (by rfl) (by kernel_rfl) (by kernel_rfl) (by kernel_rfl) (by kernel_rfl) (fun _ _ _ h => h) (Or.inl ⟨by rfl, ?_⟩) hS3 ?_
  rotate_left
  focus (intro w' hSw; (try dsimp only at hSw); go_simp; try with_reducible rfl)
  simp only [Act.put, List.setIfInBounds_toArray, List.set_cons_zero, List.set_cons_succ]
  refine wpAnyY_take (i := 6) [7, 8, 10, 11, 12, 13, 14, 15, 16, 17] (some 29) (v := ?_) rfl (by rfl) (by kernel_rfl) (by kernel_rfl) (by kernel_rfl) (by kernel_rfl) (fun _ _ _ h => h) (Or.inl ⟨by rfl, ?_⟩) hS3 ?_
  rotate_left
  focus (intro w' hSw; (try dsimp only at hSw); go_simp; try with_reducible rfl)
  simp only [Act.put, List.setIfInBounds_toArray, List.set_cons_zero, List.set_cons_succ]
  refine wpAnyY_take (i := 7) [8, 10, 11, 12, 13, 14, 15, 16, 17] (some 30) (v := ?_) rfl (by rfl) (by kernel_rfl) (by kernel_rfl) (by kernel_rfl) (by kernel_rfl) (fun _ _ _ h => h) (Or.inl ⟨by rfl, ?_⟩) hS3 ?_
  rotate_left
  focus (intro w' hSw; (try dsimp only at hSw); go_simp; try with_reducible rfl)
  simp only [Act.put, List.setIfInBounds_toArray, List.set_cons_zero, List.set_cons_succ]
  refine wpAnyY_take (i := 8) [10, 11, 12, 13, 14, 15, 16, 17] (some 31) (v := ?_) rfl (by rfl) (by kernel_rfl) (by kernel_rfl) (by kernel_rfl) (by kernel_rfl) (fun _ _ _ h => h) (Or.inl ⟨by rfl, ?_⟩) hS3 ?_
  rotate_left
  focus (intro w' hSw; (try dsimp only at hSw); go_simp; try with_reducible rfl)
  simp only [Act.put, List.setIfInBounds_toArray, List.set_cons_zero, List.set_cons_succ]
  refine wpAnyY_take (i := 9) [10, 11, 12, 13, 14, 15, 16, 17] (some 32) (v := ?_) rfl (by rfl) (by kernel_rfl) (by kernel_rfl) (by kernel_rfl) (by kernel_rfl) (fun _ _ _ h => h) (Or.inl ⟨by rfl, ?_⟩) hS3 ?_
  rotate_left
  focus (intro w' hSw; (try dsimp only at hSw); go_simp; try with_reducible rfl)
  simp only [Act.put, List.setIfInBounds_toArray, List.set_cons_zero, List.set_cons_succ]
  refine wpAnyY_take (i := 10) [11, 12, 13, 14, 15, 16, 17] (some 33) (v := ?_) rfl (by rfl) (by kernel_rfl) (by kernel_rfl) (by kernel_rfl) (by kernel_rfl) (fun _ _ _ h => h) (Or.inl ⟨by rfl, ?_⟩) hS3 ?_
  rotate_left
  focus (intro w' hSw; (try dsimp only at hSw); go_simp; try with_reducible rfl)
  simp only [Act.put, List.setIfInBounds_toArray, List.set_cons_zero, List.set_cons_succ]
  refine wpAnyY_take (i := 11) [12, 13, 14, 15, 16, 17] (some 34) (v := _) rfl (by rfl) (by kernel_rfl) (by kernel_rfl) (by kernel_rfl) (by kernel_rfl) (fun _ _ _ h => h) (yieldsIf_load_mid (by rfl) _ _ rfl b (i * 27) rfl xs dM (fun _ h => h.2) HU.out HD.out HIN.out) hS3 ?_
  simp only [Act.put, List.setIfInBounds_toArray, List.set_cons_zero, List.set_cons_succ]
  refine wpAnyY_one (i := 12) (by kernel_rfl) rfl (fun K hK => ?_)
  refine step_call (some 35) (by rfl) (by rfl) rfl EG.out (by rfl) HO2.out ?_
  rintro u w3 ⟨vs, rfl, hv3, k3⟩
  have HV3 := hid hv3; have K4 := hid k3; have HLV := hid (MsgL.of hv3)
  have hS4 : (fun y : World => y.cell? ⟨g, 1, none⟩ = some (.slice (some ⟨b, 0, none⟩) n c) ∧ y.rangeAt b (i * 27) xs) w3 := ⟨k3.cell hS3.1 id, fun j u hu => k3.cell (hS3.2 j u hu) id⟩
  clear hv3 k3
  refine hK _ _ (fun _ => hS4) ?_
  clear hK K
  simp only [Act.put, List.setIfInBounds_toArray, List.set_cons_zero, List.set_cons_succ]
  refine wpAnyY_one (i := 13) (by kernel_rfl) rfl (fun K hK => ?_)
  refine step_sliceOne (some 36) (by rfl) (v := .agg vs.toArray) (z := zM) (n := 27) (by rfl) rfl Tryz.underlying49 (by kernel_rfl) (by decide) (by decide) (by rfl) (by simp [Value.cells, HLV.out.len]) ?_
  intro g7 w4 hg7 hb7 k4 s4
  have K5 := hid k4
  have hS5 : (fun y : World => y.cell? ⟨g, 1, none⟩ = some (.slice (some ⟨b, 0, none⟩) n c) ∧ y.rangeAt b (i * 27) xs) w4 := ⟨k4.cell hS4.1 id, fun j u hu => k4.cell (hS4.2 j u hu) id⟩
  clear hg7 s4 k4
  refine hK _ _ (fun _ => hS5) ?_
  clear hK K
  simp only [Act.put, List.setIfInBounds_toArray, List.set_cons_zero, List.set_cons_succ]
  refine wpAnyY_oneX (i := 14) (by kernel_rfl) rfl (by kernel_rfl) (fun K hK => ?_)
  have hrow : Row (fun q => q = g7) w4 (.slice (some ⟨g7, 0, none⟩) 1 1) 1 27 vs := by have := row_at (w := w4) (d := vs) hb7; rwa [HLV.out.len] at this
  have hown4 := ((K4.out.trans K5.out (fun _ _ f => f)).owns H2.out.row (fun _ _ => id))
  rw [← HN.out] at hown4
  refine step_appW (some 37) (by rfl) (v := .slice (some ⟨b, 0, none⟩) n c) (by rfl) rfl T_M (by rfl) hown4 (by rfl) hrow HLV.out.one (by omega) (by omega) ?_
  intro A8 c8 w5 ho5 k5 hn5
  have HO5 := hid ho5; have K6 := hid k5; have HN5 := hid hn5
  have hob : ∀ q, (Value.slice (some ⟨b, 0, none⟩) n c).ownBlock = some q → q ≠ g := fun q hq => (H2.out.own q hq).2
  clear hrow hown4 ho5 k5 hn5
  refine hK _ _ ?_
  clear hK K
  simp only [Act.put, List.setIfInBounds_toArray, List.set_cons_zero, List.set_cons_succ]
  refine wpAnyY_oneX (i := 15) (by kernel_rfl) rfl (by kernel_rfl) (fun K hK => ?_)
  rw [if_pos (by rfl)]
  go_simp
  refine hK _ _ ?_
  clear hK K
  refine wpAnyY_oneX (i := 16) (by kernel_rfl) rfl (by kernel_rfl) (fun K hK => ?_)
  rw [if_pos (by rfl)]
  go_simp
  refine hK _ _ ?_
  clear hK K
  refine wpAnyY_oneX (i := 17) (by kernel_rfl) rfl (by kernel_rfl) (fun K hK => ?_)
  have hobj := K6.out.heap (K5.out.heap (K4.out.heap H2.out.obj id) id) (fun e => hob _ e.symm rfl)
  refine step_store (none) (by rfl) (v := .slice A8 (n + 1) c8) (C := #[.int .i64 most, .slice (some ⟨b, 0, none⟩) n c]) (by rfl) rfl (by rfl) (by rfl) hobj (by kernel_rfl) (by simp [Value.cells]) (by simp [Value.oneCell', Value.cells]) ?_
  intro w6 hb6 k6 s6
  replace hb6 : w6.heap[g]? = some (.cells #[.int .i64 most, .slice A8 (n + 1) c8] 54) := hb6
  refine hK _ _ ?_
  clear hK K
  simp only [Act.put]
  refine wpAnyY_done (by kernel_rfl) ?_ _
  have hfin : NetAt 54 (Grow F w w6) w6 g most (L ++ [x]) ∧ Keep F w w6 := by
    obtain rfl := HN.out
    have hvs := Rep.msg.mono HV3.out (G := NewIn w w3) (fun k hk => ⟨by have := K3.out.size; have := hk.1; omega, hk.2⟩)
    exact H.out.more HLT.out (K3.out.trans K4.out (fun _ _ f => f)) hvs K5.out HO5.out K6.out HN5.out hb6 k6 HFX.out
  have HFIN := hid hfin
  clear hfin hb6 k6 s6 hS3 hS4 hS5 hob hobj
  go_wp2_with fail
  go_ret
  exact RAfter.yes HS.out HFIN.out.1 HFIN.out.2
end
end Go.Proofs.YtofljidmdabkcaaGreat
