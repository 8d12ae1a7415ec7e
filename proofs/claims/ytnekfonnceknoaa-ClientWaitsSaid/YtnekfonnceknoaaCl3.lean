/- client: tell. -/
import Derived.Test.YtnekfonnceknoaaCa
import Derived.Test.YtnekfonnceknoaaCp
import Derived.Deep.RegionWith
import Derived.Deep.RegionHeld3
namespace Go.Proofs.Ytnekfonnceknoaa
open Go.RowKit Go.Lib
def tellS (s : CS) (x : Verdict) : CS := { s with busy := false, has := true, told := s.asked, verdict := x, session := if x.code = 6 then 0 else s.session, seq := if x.code = 6 then 0 else s.seq }
def Verdict.Few (x : Verdict) : Prop := x.commits.length ≤ 1000000 ∧ ∀ c ∈ x.commits, c.changes.length ≤ 4294967296
theorem CInv.tell {s : CS} {N : Int} {x : Verdict} (h : CInv N s) (hx : x.Ok) : CInv N (tellS s x) :=
  { h with ses := (by simp only [tellS]; split; exact ok0; exact h.ses), seq := by simp only [tellS]; have := h.seq; have := h.num; split <;> omega, told := h.asked, verdict := hx }
theorem cloneC_n {F : Nat → Prop} {w : World} {A : Option Addr} {n c : Nat} {l : List Change} (hn : l.length = n) (hv : Sl .change w F (.slice A n c) l) (hl : n ≤ 4294967296) :
    Calls Try.prog 31 #[.slice A n c] w fun e w' => ∃ A' c', e = .returned (.slice A' n c') ∧ Sl .change w' (NewIn w w') (.slice A' n c') l ∧ Keep (fun _ => False) w w' := by
  subst hn
  refine (cloneC_calls hv hl).mono ?_
  rintro e w' ⟨v, rfl, hs, hk⟩
  obtain ⟨A', c', rfl⟩ := hs.shape
  exact ⟨A', c', rfl, hs, hk⟩
section
variable {X Y : Nat → Prop} {w w' : World} {g : Nat} {s : CS} {vw va vt vk : Value} {F : Nat → Prop} {N : Int}
def TellPost (X : Nat → Prop) (w : World) (g : Nat) (s : CS) (vw va : Value) (e : Ending) (w' : World) : Prop := e = .returned (.tuple #[]) ∧ (∃ vk, CliM X w' g s vw va va vk) ∧ Keep (fun q => q = g) w w'
set_option maxRecDepth 20000 in
set_option maxHeartbeats 8000000 in
theorem tell_calls {x : Verdict} {v : Value} (h : CliM X w g s vw va vt vk) (hv : Sl .commit w F v x.commits) (hF : ∀ q, F q → q < w.heap.size) (hfew : x.Few) :
    Calls Try.prog 28 #[.pointer (some ⟨g, 0, none⟩), .agg (verdictCs x v).toArray] w (TellPost X w g (tellS s x) vw va) := by
  obtain ⟨A, c, rfl⟩ := hv.shape
  obtain ⟨nk, hnk⟩ : ∃ nk, nk = x.commits.length := ⟨_, rfl⟩
  rw [← hnk] at hv ⊢
  obtain ⟨Aa, ca, hsa⟩ := h.ha.shape
  have H := hid h; have HV := hid hv; have HFF := hid hF; have HNK := hid hnk; have HFEW := hid hfew; have HSA := hid hsa
  have hbg := h.obj
  have hgl := lt_heap h.obj
  have h4 : nk ≤ 1000000 := by rw [hnk]; exact hfew.1
  clear h hv hF hnk hfew hsa
  go_enter Try.func28, Try.ntmps28
  go_wp2_with (first
    | (refine wpl_boxB (v := .agg (verdictCs x (.slice A nk c)).toArray) rfl rfl rfl ?_; intro g3 w1 hg3 hb1 k1 s1; have HG3 := hid hg3; have HS1 := hid s1; have K1 := hid k1; have hbg1 := k1.heap hbg id; clear hg3 s1 k1)
    | (refine wpl_load1 rfl rfl rfl hb1 (by kernel_rfl) (v := .slice A nk c) rfl ?_))
  obtain ⟨ck0, hrowk, hpartsk⟩ := (HV.out.keep K1.out (fun _ _ => id)).cells
  have hrowk' : Row F w1 (.slice A nk c) nk 4 ck0 := by have := hrowk; rw [← HNK.out] at this; exact this
  have h1k := row_one (by decide) commit_one (by have := hrowk; obtain ⟨_, _, _, q, _⟩ := this; exact q) hpartsk
  have HPK := hid hpartsk
  clear hpartsk hrowk hbg
  refine (clone_K hrowk' h1k (by omega)).mono ?_
  rintro e w2 ⟨A2, c2, rfl, ho2, hn2, k2⟩
  have hb2 := k2.heap hb1 id
  have hbg2 := k2.heap hbg1 id
  have K2 := hid k2
  clear hrowk' h1k hb1 hbg1 k2
  go_wp2_with (first
    | (refine wpl_storeB (v := .slice A2 nk c2) (o := 5) (b := g3) rfl rfl rfl rfl hb2 (by kernel_rfl) (by simp [verdictCs, Value.cells]) (by simp [Value.oneCell', Value.cells]) ?_; intro w3 hb3 k3 s3; replace hb3 : w3.heap[g3]? = some (.cells (verdictCs x (.slice A2 nk c2)).toArray 35) := hb3; have hbg3 := k3.heap hbg2 (fun e => by have := HG3.out; omega))
    | (refine wpl_load1 rfl rfl rfl hb3 (by kernel_rfl) (v := .slice A2 nk c2) rfl ?_))
  have z1 := K1.out.size
  have z2 := K2.out.size
  have z3 := k3.size
  have e3 := HG3.out
  have hs1 := HS1.out
  have ho3 := k3.owns ho2 (fun q hq e => by have := hn2 q hq; omega)
  have H1 : CopyAt commitK 69 w1.heap.size F w1 (.slice A2 nk c2) x.commits 0 w3 := CopyAt.start (S := fun k => k = g3) ho3 HNK.out.symm (fun q hq => hn2 q hq) HPK.out ((K2.out.mono (fun _ _ q => q.elim)).trans k3 (fun _ _ e => e)) (fun q hq e => by have := HFF.out q hq; omega)
  have K3 := hid (show Keep (fun _ => False) w w3 from ((K1.out.trans K2.out (fun _ _ f => f)).trans k3 (fun q hq e => by omega)))
  clear hb2 hbg2 ho2 hn2 HPK k3 s3 ho3 e3 hs1
  go_loopw [12] (fun i wt => ∃ j : Nat, j ≤ nk ∧ i = .int .i64 j ∧ CopyAt commitK 69 w1.heap.size F w1 (.slice A2 nk c2) x.commits j wt ∧ Keep (fun q => w1.heap.size ≤ q) w3 wt) (fun i _ => nk - (intOf i).toNat)
  case atStart => exact ⟨0, Nat.zero_le _, rfl, H1, Keep.refl _ _⟩
  case round =>
    obtain ⟨j, hj, rfl, hat, hkq⟩ := hrel
    have hbt3 := hkq.heap hb3 (by have := HG3.out; have := HS1.out; omega)
    have hbtg := hkq.heap hbg3 (by have := HG3.out; have := HS1.out; omega)
    have zt := hkq.size
    have HE3 := hid (show g3 = w.heap.size ∧ w1.heap.size = g3 + 1 from ⟨HG3.out, HS1.out⟩)
    by_cases hlt2 : j < nk
    · obtain ⟨y, hy⟩ : ∃ y, x.commits[j]? = some y := ⟨x.commits[j]'(by rw [← HNK.out]; exact hlt2), by simp [← HNK.out, hlt2]⟩
      obtain ⟨gk, cur, cap, v', he, hgk, hbk, hfit, hcell, hsv⟩ := hat.at hy
      simp only [Value.slice.injEq] at he
      obtain ⟨rfl, hlen, rfl⟩ := he
      clear hlen
      obtain ⟨Av', cv', rfl⟩ := hsv.shape
      obtain ⟨nx, hnx⟩ : ∃ nx, nx = (commitK.ch y).length := ⟨_, rfl⟩
      rw [← hnx] at hcell hsv
      have HNX := hid hnx
      have hlx := HFEW.out.2 y (List.mem_of_getElem? hy)
      have HX := hid hy
      have HAT := hid hat
      have c7 : wr.cell? ⟨g3, 5, none⟩ = some (.slice (some ⟨gk, 0, none⟩) nk c2) := cell_at hbt3 5 _ rfl
      have e0 : wr.cell? ⟨gk, j * 4 + 3, none⟩ = some (.slice Av' nx cv') := hcell 3 _ rfl
      have HSV := hid hsv
      clear hy hat hcell hsv hnx H1
      have hfit2 : j * 4 + 3 + 1 ≤ cur.size := by have : (j + 1) * 4 ≤ cur.size := hfit; omega
      go_wp2_with fail
      go_region_with (first | (go_at_call 31; refine (cloneC_n HNX.out.symm (HSV.out.keep ((Keep.refl (fun _ => False) _).drewN _) (fun _ _ => id)) (by rw [HNX.out]; exact hlx)).mono ?_; rintro e w12 ⟨A12, c12, rfl, hs12, k12⟩; have d7 := k12.cell c7 id; have d0 := k12.cell e0 id; have hfr := frozen_at (k12.heap hbk id) (j * 4 + 3)))
      all_goals
        obtain ⟨q1, q2, q3⟩ := HAT.out.step HX.out (w1 := w12) (v1 := .slice A12 nx c12) (((Keep.refl (fun _ => False) wr).drewN 1).trans k12 (fun _ _ q => q)) hs12 (by omega) (fun q hq => by have := HFF.out q hq; have := HE3.out; omega) (by rw [← HNK.out])
        go_wp2_with fail
        exact ⟨⟨j + 1, by omega, by simp, q1, hkq.trans q2 (fun b hb e => by have := HE3.out; omega)⟩, by simp [intOf]; omega⟩
    · have hsk := hat.done (by rw [← HNK.out]; omega)
      have HSK := hid hsk
      have HKQ := hid hkq
      have kd : Keep (fun _ => False) wr wr.drew := (Keep.refl _ _).drew
      have HB3 := hid (kd.heap hbt3 id); have HBG := hid (kd.heap hbtg id)
      have HGNE := hid (show g ≠ g3 by have := HE3.out.1; omega)
      have hS : wr.drew.rangeAt g 26 (reqCs s.asked va) ∧ wr.drew.rangeAt g3 0 (verdictCs x (.slice A2 nk c2)) := ⟨range_of (n := 11) HBG.out _ rfl, range_of (n := 7) HB3.out _ rfl⟩
      have hva1 : va.oneCell' = true := by rw [HSA.out]; rfl
      clear hsk hat hbt3 hbtg H1 hkq kd hb3 hbg3
      go_wp2_with fail
      refine wp_region_X (fun y => y.rangeAt g 26 (reqCs s.asked va) ∧ y.rangeAt g3 0 (verdictCs x (.slice A2 nk c2))) [] (by kernel_rfl) hS (fun _ => ?_)
      refine wpAnyX_take (i := 0) [9, 10, 11, 12, 13, 14, 15, 16, 17, 18, 19, 20] (some 28) (v := ?_) rfl (by rfl) (by kernel_rfl) (by kernel_rfl) (by kernel_rfl) (by kernel_rfl) (fun _ _ _ h => h) (Or.inl ⟨by rfl, ?_⟩) hS ?_
      rotate_left
      focus (intro w' hSw; (try dsimp only at hSw); go_simp; try with_reducible rfl)
      simp only [Act.put, List.setIfInBounds_toArray, List.set_cons_zero, List.set_cons_succ]
      refine wpAnyX_take (i := 1) [12, 13, 14, 15, 16, 17, 18, 19, 20] (some 29) (v := ?_) rfl (by rfl) (by kernel_rfl) (by kernel_rfl) (by kernel_rfl) (by kernel_rfl) (fun _ _ _ h => h) (Or.inl ⟨by rfl, ?_⟩) hS ?_
      rotate_left
      focus (intro w' hSw; (try dsimp only at hSw); go_simp; try with_reducible rfl)
      simp only [Act.put, List.setIfInBounds_toArray, List.set_cons_zero, List.set_cons_succ]
      refine wpAnyX_take (i := 2) [15, 16, 17, 18, 19, 20] (some 30) (v := ?_) rfl (by rfl) (by kernel_rfl) (by kernel_rfl) (by kernel_rfl) (by kernel_rfl) (fun _ _ _ h => h) (Or.inl ⟨by rfl, ?_⟩) hS ?_
      rotate_left
      focus (intro w' hSw; (try dsimp only at hSw); go_simp; try with_reducible rfl)
      simp only [Act.put, List.setIfInBounds_toArray, List.set_cons_zero, List.set_cons_succ]
      refine wpAnyX_take (i := 3) [18, 19, 20] (some 31) (v := ?_) rfl (by rfl) (by kernel_rfl) (by kernel_rfl) (by kernel_rfl) (by kernel_rfl) (fun _ _ _ h => h) (Or.inl ⟨by rfl, ?_⟩) hS ?_
      rotate_left
      focus (intro w' hSw; (try dsimp only at hSw); go_simp; try with_reducible rfl)
      simp only [Act.put, List.setIfInBounds_toArray, List.set_cons_zero, List.set_cons_succ]
      refine wpAnyX_take (i := 4) [5, 6, 7, 9, 10, 11, 12, 13, 14, 15, 16, 17, 18, 19, 20] (some 32) (v := ?_) rfl (by rfl) (by kernel_rfl) (by kernel_rfl) (by kernel_rfl) (by kernel_rfl) (fun _ _ _ h => h) (Or.inl ⟨by rfl, ?_⟩) hS ?_
      rotate_left
      focus (intro w' hSw; (try dsimp only at hSw); go_simp; try with_reducible rfl)
      simp only [Act.put, List.setIfInBounds_toArray, List.set_cons_zero, List.set_cons_succ]
      refine wpAnyX_take (i := 5) [6, 7, 9, 10, 11, 12, 13, 14, 15, 16, 17, 18, 19, 20] (some 33) (v := ?_) rfl (by rfl) (by kernel_rfl) (by kernel_rfl) (by kernel_rfl) (by kernel_rfl) (fun _ _ _ h => h) (Or.inl ⟨by rfl, ?_⟩) hS ?_
      rotate_left
      focus (intro w' hSw; (try dsimp only at hSw); go_simp; try with_reducible rfl)
      simp only [Act.put, List.setIfInBounds_toArray, List.set_cons_zero, List.set_cons_succ]
      refine wpAnyX_take (i := 6) [7, 9, 10, 11, 12, 13, 14, 15, 16, 17, 18, 19, 20] (some 34) (v := ?_) rfl (by rfl) (by kernel_rfl) (by kernel_rfl) (by kernel_rfl) (by kernel_rfl) (fun _ _ _ h => h) (Or.inl ⟨by rfl, ?_⟩) hS ?_
      rotate_left
      focus (intro w' hSw; (try dsimp only at hSw); go_simp; try with_reducible rfl)
      simp only [Act.put, List.setIfInBounds_toArray, List.set_cons_zero, List.set_cons_succ]
      refine wpAnyX_take (i := 7) [9, 10, 11, 12, 13, 14, 15, 16, 17, 18, 19, 20] (some 35) (v := _) rfl (by rfl) (by kernel_rfl) (by kernel_rfl) (by kernel_rfl) (by kernel_rfl) (fun _ _ _ h => h) (yieldsIf_row (n := 11) (vs := reqCs s.asked va) (by rfl) rfl (by rfl) (by kernel_rfl) (by kernel_rfl) rfl (fun y hy => hy.1)) hS ?_
      simp only [Act.put, List.setIfInBounds_toArray, List.set_cons_zero, List.set_cons_succ]
      refine wpAnyX_take (i := 8) [18, 19, 20] (some 36) (v := _) rfl (by rfl) (by kernel_rfl) (by kernel_rfl) (by kernel_rfl) (by kernel_rfl) (fun _ _ _ h => h) (yieldsIf_row (n := 7) (vs := verdictCs x (.slice A2 nk c2)) (by rfl) rfl (by rfl) (by kernel_rfl) (by kernel_rfl) rfl (fun y hy => hy.2)) hS ?_
      simp only [Act.put, List.setIfInBounds_toArray, List.set_cons_zero, List.set_cons_succ]
      refine wpAnyX_take (i := 9) [10, 11, 12, 13, 14, 15, 16, 17, 18, 19, 20] (some 37) (v := ?_) rfl (by rfl) (by kernel_rfl) (by kernel_rfl) (by kernel_rfl) (by kernel_rfl) (fun _ _ _ h => h) (Or.inl ⟨by rfl, ?_⟩) hS ?_
      rotate_left
      focus (intro w' hSw; (try dsimp only at hSw); go_simp; try with_reducible rfl)
      simp only [Act.put, List.setIfInBounds_toArray, List.set_cons_zero, List.set_cons_succ]
      refine wpAnyX_take (i := 10) [11, 12, 13, 14, 15, 16, 17, 18, 19, 20] (some 38) (v := ?_) rfl (by rfl) (by kernel_rfl) (by kernel_rfl) (by kernel_rfl) (by kernel_rfl) (fun _ _ _ h => h) (Or.inl ⟨by rfl, ?_⟩) hS ?_
      rotate_left
      focus (intro w' hSw; (try dsimp only at hSw); go_simp; try with_reducible rfl)
      simp only [Act.put, List.setIfInBounds_toArray, List.set_cons_zero, List.set_cons_succ]
      refine wpAnyX_one (i := 11) (by kernel_rfl) rfl (fun K hK => ?_)
      refine step_store (none) (by rfl) (v := .bool false) (by rfl) rfl (by rfl) (by rfl) HBG.out (by kernel_rfl) (of_decide_eq_true (by kernel_rfl)) (by simp [Value.oneCell', Value.cells]) ?_
      intro w4 hb4 k4 s4
      replace hb4 : w4.heap[g]? = some (CObj { s with busy := false } vw va vt vk) := hb4
      have hS4 : w4.rangeAt g 26 (reqCs s.asked va) ∧ w4.rangeAt g3 0 (verdictCs x (.slice A2 nk c2)) := ⟨range_of (n := 11) hb4 _ rfl, fun i u hu => k4.cell (hS.2 i u hu) (fun e => HGNE.out e.symm)⟩
      refine hK _ _ (hS4) ?_
      clear hK K
      simp only [Act.put]
      refine wpAnyX_take (i := 12) [13, 14, 15, 16, 17, 18, 19, 20] (some 39) (v := ?_) rfl (by rfl) (by kernel_rfl) (by kernel_rfl) (by kernel_rfl) (by kernel_rfl) (fun _ _ _ h => h) (Or.inl ⟨by rfl, ?_⟩) hS4 ?_
      rotate_left
      focus (intro w' hSw; (try dsimp only at hSw); go_simp; try with_reducible rfl)
      simp only [Act.put, List.setIfInBounds_toArray, List.set_cons_zero, List.set_cons_succ]
      refine wpAnyX_take (i := 13) [14, 15, 16, 17, 18, 19, 20] (some 40) (v := ?_) rfl (by rfl) (by kernel_rfl) (by kernel_rfl) (by kernel_rfl) (by kernel_rfl) (fun _ _ _ h => h) (Or.inl ⟨by rfl, ?_⟩) hS4 ?_
      rotate_left
      focus (intro w' hSw; (try dsimp only at hSw); go_simp; try with_reducible rfl)
      simp only [Act.put, List.setIfInBounds_toArray, List.set_cons_zero, List.set_cons_succ]
      refine wpAnyX_one (i := 14) (by kernel_rfl) rfl (fun K hK => ?_)
      refine step_store (none) (by rfl) (v := .bool true) (by rfl) rfl (by rfl) (by rfl) hb4 (by kernel_rfl) (of_decide_eq_true (by kernel_rfl)) (by simp [Value.oneCell', Value.cells]) ?_
      intro w5 hb5 k5 s5
      replace hb5 : w5.heap[g]? = some (CObj { s with busy := false, has := true } vw va vt vk) := hb5
      have hS5 : w5.rangeAt g 26 (reqCs s.asked va) ∧ w5.rangeAt g3 0 (verdictCs x (.slice A2 nk c2)) := ⟨range_of (n := 11) hb5 _ rfl, fun i u hu => k5.cell (hS4.2 i u hu) (fun e => HGNE.out e.symm)⟩
      refine hK _ _ (hS5) ?_
      clear hK K
      simp only [Act.put]
      refine wpAnyX_take (i := 15) [16, 17, 18, 19, 20] (some 41) (v := ?_) rfl (by rfl) (by kernel_rfl) (by kernel_rfl) (by kernel_rfl) (by kernel_rfl) (fun _ _ _ h => h) (Or.inl ⟨by rfl, ?_⟩) hS5 ?_
      rotate_left
      focus (intro w' hSw; (try dsimp only at hSw); go_simp; try with_reducible rfl)
      simp only [Act.put, List.setIfInBounds_toArray, List.set_cons_zero, List.set_cons_succ]
      refine wpAnyX_take (i := 16) [17, 18, 19, 20] (some 42) (v := ?_) rfl (by rfl) (by kernel_rfl) (by kernel_rfl) (by kernel_rfl) (by kernel_rfl) (fun _ _ _ h => h) (Or.inl ⟨by rfl, ?_⟩) hS5 ?_
      rotate_left
      focus (intro w' hSw; (try dsimp only at hSw); go_simp; try with_reducible rfl)
      simp only [Act.put, List.setIfInBounds_toArray, List.set_cons_zero, List.set_cons_succ]
      refine wpAnyX_one (i := 17) (by kernel_rfl) rfl (fun K hK => ?_)
      refine step_store (none) (by rfl) (v := (.agg (reqCs s.asked va).toArray)) (by rfl) rfl (by rfl) (by rfl) hb5 (by kernel_rfl) (of_decide_eq_true (by kernel_rfl)) (by simp [reqCs, Value.oneCell', Value.cells]; exact hva1) ?_
      intro w6 hb6 k6 s6
      replace hb6 : w6.heap[g]? = some (CObj { s with busy := false, has := true, told := s.asked } vw va va vk) := hb6
      have hS6 : w6.rangeAt g 26 (reqCs s.asked va) ∧ w6.rangeAt g3 0 (verdictCs x (.slice A2 nk c2)) := ⟨range_of (n := 11) hb6 _ rfl, fun i u hu => k6.cell (hS5.2 i u hu) (fun e => HGNE.out e.symm)⟩
      refine hK _ _ (hS6) ?_
      clear hK K
      simp only [Act.put]
      refine wpAnyX_take (i := 18) [19, 20] (some 43) (v := ?_) rfl (by rfl) (by kernel_rfl) (by kernel_rfl) (by kernel_rfl) (by kernel_rfl) (fun _ _ _ h => h) (Or.inl ⟨by rfl, ?_⟩) hS6 ?_
      rotate_left
      focus (intro w' hSw; (try dsimp only at hSw); go_simp; try with_reducible rfl)
      simp only [Act.put, List.setIfInBounds_toArray, List.set_cons_zero, List.set_cons_succ]
      refine wpAnyX_take (i := 19) [20] (some 44) (v := ?_) rfl (by rfl) (by kernel_rfl) (by kernel_rfl) (by kernel_rfl) (by kernel_rfl) (fun _ _ _ h => h) (Or.inl ⟨by rfl, ?_⟩) hS6 ?_
      rotate_left
      focus (intro w' hSw; (try dsimp only at hSw); go_simp; try with_reducible rfl)
      simp only [Act.put, List.setIfInBounds_toArray, List.set_cons_zero, List.set_cons_succ]
      refine wpAnyX_one (i := 20) (by kernel_rfl) rfl (fun K hK => ?_)
      refine step_store (none) (by rfl) (v := (.agg (verdictCs x (.slice A2 nk c2)).toArray)) (by rfl) rfl (by rfl) (by rfl) hb6 (by kernel_rfl) (of_decide_eq_true (by kernel_rfl)) (by simp [verdictCs, Value.oneCell', Value.cells]) ?_
      intro w7 hb7 k7 s7
      replace hb7 : w7.heap[g]? = some (CObj { s with busy := false, has := true, told := s.asked, verdict := x } vw va va (.slice A2 nk c2)) := hb7
      have hS7 : w7.rangeAt g 26 (reqCs s.asked va) ∧ w7.rangeAt g3 0 (verdictCs x (.slice A2 nk c2)) := ⟨range_of (n := 11) hb7 _ rfl, fun i u hu => k7.cell (hS6.2 i u hu) (fun e => HGNE.out e.symm)⟩
      refine hK _ _ (hS7) ?_
      clear hK K
      simp only [Act.put]
      refine wpAnyX_done (by kernel_rfl) ?_ _
      have KEND := hid (show Keep (fun q => q = g) wr w7 from ((((Keep.refl (fun _ => False) wr).drew.mono (fun _ _ f => f.elim)).trans k4 (fun _ _ e => e)).trans k5 (fun _ _ e => e)).trans k6 (fun _ _ e => e) |>.trans k7 (fun _ _ e => e))
      have hb37 := KEND.out.heap (show wr.heap[g3]? = _ from HB3.out) (fun e => HGNE.out e.symm)
      have c30 := cell_at hb37 0 (.int .i64 x.code) rfl
      have z37 := KEND.out.size
      have zq := HKQ.out.size
      have kall : ∀ w8, Keep (fun q => q = g) w7 w8 → Keep (fun q => q = g) w w8 := fun w8 k8 => (((K3.out.trans HKQ.out (fun q hq e => by have := HE3.out; omega)).mono (fun _ _ f => f.elim)).trans KEND.out (fun _ _ e => e)).trans k8 (fun _ _ e => e)
      have hsk8 : ∀ w8, Keep (fun q => q = g) w7 w8 → Sl .commit w8 (fun k => ¬ X k ∧ k < w8.heap.size) (.slice A2 nk c2) x.commits := fun w8 k8 =>
        ((HSK.out.keep (KEND.out.trans k8 (fun _ _ e => e)) (fun q hq e => by have := hq.1; have := HE3.out; omega)).mono (fun q hq => ⟨fun hx => by have := hq.1; have := H.out.hX q hx; have := HE3.out; omega, by have := hq.2; have := k8.size; omega⟩))
      have KALL := hid kall; have HSK8 := hid hsk8
      clear hS hS4 hS5 hS6 hS7 k4 s4 k5 s5 k6 s6 k7 s7 hb37 kall hsk8
      by_cases h6 : x.code = 6
      · have he6 : (x.code == 6) = true := by simp [h6]
        have HS6 := hid (show tellS s x = { s with busy := false, has := true, told := s.asked, verdict := x, session := 0, seq := 0 } from by rw [tellS, if_pos h6, if_pos h6])
        clear h6
        go_wp2_with (first
          | (refine wpl_storeB (v := .int .i64 0) (o := 8) (b := g) rfl rfl rfl rfl hb7 (by kernel_rfl) (of_decide_eq_true (by kernel_rfl)) (by simp [Value.oneCell', Value.cells]) ?_; intro w8 hb8 k8 s8; have K8 := hid k8; clear s8 k8)
          | (refine wpl_storeB (v := .int .i64 0) (o := 9) (b := g) rfl rfl rfl rfl hb8 (by kernel_rfl) (of_decide_eq_true (by kernel_rfl)) (by simp [Value.oneCell', Value.cells]) ?_; intro w9 hb9 k9 s9; have K9 := hid (K8.out.trans k9 (fun _ _ q => q)); clear s9 k9; replace hb9 : w9.heap[g]? = some (CObj { s with busy := false, has := true, told := s.asked, verdict := x, session := 0, seq := 0 } vw va va (.slice A2 nk c2)) := hb9))
        go_end0
        have kk := KALL.out _ K9.out
        have hsk9 := HSK8.out _ K9.out
        rw [HNK.out] at hb9 hsk9
        refine ⟨rfl, ⟨_, by rw [HS6.out]; exact hb9, H.out.hg, fun k q => Nat.lt_of_lt_of_le (H.out.hX k q) kk.size, ?_, ?_, ?_, ?_, ?_, ?_, ?_, ?_⟩, kk⟩
        · exact slKeepG H.out.hg H.out.hw kk
        · exact slKeepG H.out.hg H.out.ha kk
        · exact slKeepG H.out.hg H.out.ha kk
        · exact hsk9
        · exact H.out.lw
        · exact H.out.la
        · exact H.out.la
        · exact H.out.hr
      · have he6 : (x.code == 6) = false := by simp [h6]
        have HS6 := hid (show tellS s x = { s with busy := false, has := true, told := s.asked, verdict := x } from by rw [tellS, if_neg h6, if_neg h6])
        clear h6
        go_wp2_with fail
        go_end0
        have kk := KALL.out _ (Keep.refl _ _)
        have hsk9 := HSK8.out _ (Keep.refl _ _)
        rw [HNK.out] at hb7 hsk9
        refine ⟨rfl, ⟨_, by rw [HS6.out]; exact hb7, H.out.hg, fun k q => Nat.lt_of_lt_of_le (H.out.hX k q) kk.size, ?_, ?_, ?_, ?_, ?_, ?_, ?_, ?_⟩, kk⟩
        · exact slKeepG H.out.hg H.out.hw kk
        · exact slKeepG H.out.hg H.out.ha kk
        · exact slKeepG H.out.hg H.out.ha kk
        · exact hsk9
        · exact H.out.lw
        · exact H.out.la
        · exact H.out.la
        · exact H.out.hr
end
end Go.Proofs.Ytnekfonnceknoaa
