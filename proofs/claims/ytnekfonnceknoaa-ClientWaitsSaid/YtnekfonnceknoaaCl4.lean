/- client: away, Tick. -/
import Derived.Test.YtnekfonnceknoaaCl3
namespace Go.Proofs.Ytnekfonnceknoaa
open Go.RowKit Go.Lib
def awayB (s : CS) (slot : Int) : CS :=
  if s.hinted = false ∧ 1 ≤ slot ∧ slot ≤ s.replicas ∧ slot ≠ s.at_ + 1 then { ({ s with moved := true } : CS) with at_ := slot - 1, hinted := true } else nextS { s with moved := true }
def awayS (s : CS) (slot : Int) : CS := if s.loc then tellS (awayB s slot) vdZ' else awayB s slot
def tickF (s : CS) (b : Int) : CS × Option Msg :=
  if b < 0 ∨ s.busy = false then (s, none)
  else if b < s.patience - s.waited then ({ s with waited := s.waited + b }, none)
  else if s.loc then (tellS s vdZ', none)
  else
    let s1 := if s.moved then s else nextS s
    (sentS s1, some (sentM s1))
theorem vdZ_ok : vdZ'.Ok := ⟨ok0, ok0, ok0, Nat.zero_le _, ok0⟩
theorem vdZ_few : vdZ'.Few := ⟨Nat.zero_le _, fun c hc => by simp [vdZ'] at hc⟩
theorem CInv.moved {s : CS} {N : Int} (h : CInv N s) : CInv N { s with moved := true } := { h with }
theorem CInv.away {s : CS} {N : Int} {slot : Int} (h : CInv N s) : CInv N (awayS s slot) := by
  have h2 : CInv N (awayB s slot) := by
    unfold awayB
    split
    · rename_i hc
      exact { h.moved with at_ := ⟨by simp only; omega, by simp only; omega⟩ }
    · exact h.moved.next
  unfold awayS
  split
  · exact h2.tell vdZ_ok
  · exact h2
theorem CInv.tick {s : CS} {N : Int} {b : Int} (h : CInv N s) : CInv N (tickF s b).1 := by
  unfold tickF
  split
  · exact h
  · split
    · exact { h with wait := ⟨by have := h.wait; simp only; omega, by have := h.wait; simp only; omega⟩ }
    · split
      · exact h.tell vdZ_ok
      · simp only
        split
        · exact h.sent
        · exact h.next.sent
section
variable {X Y : Nat → Prop} {w w' : World} {g : Nat} {s : CS} {vw va vt vk : Value} {F : Nat → Prop} {N : Int}
theorem CliM.box {gm : Nat} (h : CliM X w g s vw va vt vk) (hk : Keep (fun _ => False) w w') (hm : w.heap.size ≤ gm) (hl : gm < w'.heap.size) : CliM (fun k => X k ∨ k = gm) w' g s vw va vt vk :=
  h.wide hk (fun _ q => .inl q) (fun k q => q.imp id (fun e => by subst e; omega))
theorem Ans.none {gm : Nat} {w1 w2 w3 : World} (hg : X g) (hk1 : Keep (fun _ => False) w w1) (hm : w.heap.size ≤ gm) (hk2 : Keep (fun q => q = g) w1 w2) (hk3 : Keep (fun q => q = gm) w2 w3) (hgl : g < w.heap.size) (h : CliAt (fun k => X k ∨ k = gm) w2 g s) :
    Ans X w g s none (.returned (.tuple #[.agg (msgCs msgZ nilV nilV nilV nilV).toArray, .bool false])) w3 :=
  ⟨_, rfl, msgZ_cells _ _, (h.keepX hk3 (fun _ e => .inr e) (by omega)).less (fun _ q => .inl q) hg, ((hk1.mono (fun _ _ f => f.elim)).trans hk2 (fun _ _ e => e)).trans hk3 (fun b hb e => by omega)⟩
theorem Ans.lay {gm : Nat} {w1 w2 w3 w4 : World} {m : Msg} {cs : List Value} (hg : X g) (hk1 : Keep (fun _ => False) w w1) (hm : w.heap.size ≤ gm) (hk2 : Keep (fun q => q = g) w1 w2) (hk3 : Keep (fun q => q = g) w2 w3) (hk4 : Keep (fun q => q = gm) w3 w4) (hgl : g < w.heap.size)
    (hc : Rep.msg.cells w3 (fun k => ¬ (X k ∨ k = gm) ∧ k < w3.heap.size) m cs) (h : CliAt (fun k => X k ∨ k = gm) w3 g s) : Ans X w g s (some m) (.returned (.tuple #[.agg cs.toArray, .bool true])) w4 :=
  ⟨_, rfl, Rep.msg.mono (Rep.msg.keep hc hk4 (fun q hq e => hq.1 (.inr e))) (fun q hq => ⟨fun hx => hq.1 (.inl hx), Nat.lt_of_lt_of_le hq.2 hk4.size⟩), (h.keepX hk4 (fun _ e => .inr e) (by omega)).less (fun _ q => .inl q) hg,
    (((hk1.mono (fun _ _ f => f.elim)).trans hk2 (fun _ _ e => e)).trans hk3 (fun _ _ e => e)).trans hk4 (fun b hb e => by omega)⟩
theorem CliM.at (h : CliM X w g s vw va vt vk) : CliAt X w g s := ⟨_, _, _, _, h⟩
theorem vdZ_sl (w : World) (F : Nat → Prop) : Sl .commit w F nilV vdZ'.commits := nilSl _ _ _
set_option maxRecDepth 20000 in
set_option maxHeartbeats 8000000 in
theorem away_calls {slot : Int} (h : CliM X w g s vw va vt vk) (hI : CInv N s) (hs : okI slot) : Calls Try.prog 29 #[.pointer (some ⟨g, 0, none⟩), .int .i64 slot] w fun e w' => e = .returned (.tuple #[]) ∧ CliAt X w' g (awayS s slot) ∧ Keep (fun q => q = g) w w' := by
  have H := hid h; have HI := hid hI; have HS := hid hs
  have hb := h.obj
  have hat1 := hI.at_.1; have hat2 := hI.at_.2; have hr2 := hI.rep.2
  have hw1 : IntKind.i64.wrap (s.at_ + 1) = s.at_ + 1 := by simp [IntKind.wrap, IntKind.signed, IntKind.bits]; omega
  clear h hI hs
  go_enter Try.func29, Try.ntmps29
  go_upto_region 1 with (first
    | (refine wpl_storeB (v := .bool true) (o := 13) (b := g) rfl rfl rfl rfl hb (by kernel_rfl) (of_decide_eq_true (by kernel_rfl)) (by simp [Value.oneCell', Value.cells]) ?_; intro w1 hb1 k1 s1; have K1 := hid k1; clear s1 k1; replace hb1 : w1.heap[g]? = some (CObj { s with moved := true } vw va vt vk) := hb1))
  have H1 := hid ((H.out.same K1.out hb1 rfl rfl rfl rfl rfl : CliM X w1 g { s with moved := true } vw va vt vk))
  have I1 := hid HI.out.moved
  have c7 := cell_at hb1 7 (.bool s.hinted) rfl
  have c1 := cell_at hb1 1 (.int .i64 s.replicas) rfl
  have c4 := cell_at hb1 4 (.int .i64 s.at_) rfl
  have HB1 := hid hb1
  clear hb
  cases hh : s.hinted with
  | true =>
    rw [hh] at c7
    have HH := hid hh
    clear hh
    have AWEQ := hid (show awayB s slot = (nextS { s with moved := true }) from if_neg (fun q => by have := q.1; rw [HH.out] at this; cases this))
    have hnx := next_calls H1.out I1.out
    have HNX := hid hnx
    clear hnx
    go_wp2_with fail
    refine HNX.out.mono ?_
    rintro e w2 ⟨rfl, hm2, k2⟩
    have HMC := hid hm2
    have KC := hid (K1.out.trans k2 (fun _ _ e => e))
    clear hm2 k2 hb1 c7 c1 c4
    have Q12 := hid (cell_at (HMC.out.obj) 12 (.bool s.loc) rfl)
    have q12 := Q12.out
    cases hl : s.loc with
    | false =>
      rw [hl] at q12
      have HE := hid (show awayS s slot = (nextS { s with moved := true }) from by rw [awayS, if_neg (by rw [hl]; exact Bool.false_ne_true)]; exact AWEQ.out)
      clear hl
      go_wp2_with fail
      go_end0
      exact ⟨rfl, by rw [HE.out]; exact HMC.out.at, KC.out⟩
    | true =>
      rw [hl] at q12
      have HE := hid (show awayS s slot = tellS (nextS { s with moved := true }) vdZ' from by rw [awayS, if_pos hl, AWEQ.out])
      clear hl
      have ht := tell_calls HMC.out (vdZ_sl _ (fun _ => False)) (fun _ f => f.elim) vdZ_few
      have HT := hid ht
      clear ht
      go_wp2_with (first | (refine wpl_build rfl rfl (verdictCs vdZ' nilV).toArray (by kernel_rfl) ?_))
      refine HT.out.mono ?_
      rintro e w3 ⟨rfl, ⟨vk3, h3⟩, k3⟩
      go_wp2_with fail
      go_end0
      exact ⟨rfl, by rw [HE.out]; exact h3.at, KC.out.trans k3 (fun _ _ e => e)⟩
  | false =>
    rw [hh] at c7
    have HH := hid hh
    clear hh
    by_cases p1 : 1 ≤ slot
    case neg =>
      have d1 : decide (1 ≤ slot) = false := decide_eq_false p1
      have P1 := hid p1
      clear p1
      have AWEQ := hid (show awayB s slot = (nextS { s with moved := true }) from if_neg (fun q => P1.out q.2.1))
      have hnx := next_calls H1.out I1.out
      have HNX := hid hnx
      clear hnx
      go_wp2_with fail
      refine HNX.out.mono ?_
      rintro e w2 ⟨rfl, hm2, k2⟩
      have HMC := hid hm2
      have KC := hid (K1.out.trans k2 (fun _ _ e => e))
      clear hm2 k2 hb1 c7 c1 c4
      have Q12 := hid (cell_at (HMC.out.obj) 12 (.bool s.loc) rfl)
      have q12 := Q12.out
      cases hl : s.loc with
      | false =>
        rw [hl] at q12
        have HE := hid (show awayS s slot = (nextS { s with moved := true }) from by rw [awayS, if_neg (by rw [hl]; exact Bool.false_ne_true)]; exact AWEQ.out)
        clear hl
        go_wp2_with fail
        go_end0
        exact ⟨rfl, by rw [HE.out]; exact HMC.out.at, KC.out⟩
      | true =>
        rw [hl] at q12
        have HE := hid (show awayS s slot = tellS (nextS { s with moved := true }) vdZ' from by rw [awayS, if_pos hl, AWEQ.out])
        clear hl
        have ht := tell_calls HMC.out (vdZ_sl _ (fun _ => False)) (fun _ f => f.elim) vdZ_few
        have HT := hid ht
        clear ht
        go_wp2_with (first | (refine wpl_build rfl rfl (verdictCs vdZ' nilV).toArray (by kernel_rfl) ?_))
        refine HT.out.mono ?_
        rintro e w3 ⟨rfl, ⟨vk3, h3⟩, k3⟩
        go_wp2_with fail
        go_end0
        exact ⟨rfl, by rw [HE.out]; exact h3.at, KC.out.trans k3 (fun _ _ e => e)⟩
    have d1 : decide (1 ≤ slot) = true := decide_eq_true p1
    by_cases p2 : slot ≤ s.replicas
    case neg =>
      have d2 : decide (slot ≤ s.replicas) = false := decide_eq_false p2
      have P2 := hid p2
      clear p2 p1
      have AWEQ := hid (show awayB s slot = (nextS { s with moved := true }) from if_neg (fun q => P2.out q.2.2.1))
      have hnx := next_calls H1.out I1.out
      have HNX := hid hnx
      clear hnx
      go_wp2_with fail
      refine HNX.out.mono ?_
      rintro e w2 ⟨rfl, hm2, k2⟩
      have HMC := hid hm2
      have KC := hid (K1.out.trans k2 (fun _ _ e => e))
      clear hm2 k2 hb1 c7 c1 c4
      have Q12 := hid (cell_at (HMC.out.obj) 12 (.bool s.loc) rfl)
      have q12 := Q12.out
      cases hl : s.loc with
      | false =>
        rw [hl] at q12
        have HE := hid (show awayS s slot = (nextS { s with moved := true }) from by rw [awayS, if_neg (by rw [hl]; exact Bool.false_ne_true)]; exact AWEQ.out)
        clear hl
        go_wp2_with fail
        go_end0
        exact ⟨rfl, by rw [HE.out]; exact HMC.out.at, KC.out⟩
      | true =>
        rw [hl] at q12
        have HE := hid (show awayS s slot = tellS (nextS { s with moved := true }) vdZ' from by rw [awayS, if_pos hl, AWEQ.out])
        clear hl
        have ht := tell_calls HMC.out (vdZ_sl _ (fun _ => False)) (fun _ f => f.elim) vdZ_few
        have HT := hid ht
        clear ht
        go_wp2_with (first | (refine wpl_build rfl rfl (verdictCs vdZ' nilV).toArray (by kernel_rfl) ?_))
        refine HT.out.mono ?_
        rintro e w3 ⟨rfl, ⟨vk3, h3⟩, k3⟩
        go_wp2_with fail
        go_end0
        exact ⟨rfl, by rw [HE.out]; exact h3.at, KC.out.trans k3 (fun _ _ e => e)⟩
    have d2 : decide (slot ≤ s.replicas) = true := decide_eq_true p2
    by_cases p3 : slot = s.at_ + 1
    case pos =>
      have d3 : (slot != s.at_ + 1) = false := by simp [p3]
      have P3 := hid p3
      clear p3 p2 p1
      have AWEQ := hid (show awayB s slot = (nextS { s with moved := true }) from if_neg (fun q => q.2.2.2 P3.out))
      have hnx := next_calls H1.out I1.out
      have HNX := hid hnx
      clear hnx
      go_wp2_with fail
      refine HNX.out.mono ?_
      rintro e w2 ⟨rfl, hm2, k2⟩
      have HMC := hid hm2
      have KC := hid (K1.out.trans k2 (fun _ _ e => e))
      clear hm2 k2 hb1 c7 c1 c4
      have Q12 := hid (cell_at (HMC.out.obj) 12 (.bool s.loc) rfl)
      have q12 := Q12.out
      cases hl : s.loc with
      | false =>
        rw [hl] at q12
        have HE := hid (show awayS s slot = (nextS { s with moved := true }) from by rw [awayS, if_neg (by rw [hl]; exact Bool.false_ne_true)]; exact AWEQ.out)
        clear hl
        go_wp2_with fail
        go_end0
        exact ⟨rfl, by rw [HE.out]; exact HMC.out.at, KC.out⟩
      | true =>
        rw [hl] at q12
        have HE := hid (show awayS s slot = tellS (nextS { s with moved := true }) vdZ' from by rw [awayS, if_pos hl, AWEQ.out])
        clear hl
        have ht := tell_calls HMC.out (vdZ_sl _ (fun _ => False)) (fun _ f => f.elim) vdZ_few
        have HT := hid ht
        clear ht
        go_wp2_with (first | (refine wpl_build rfl rfl (verdictCs vdZ' nilV).toArray (by kernel_rfl) ?_))
        refine HT.out.mono ?_
        rintro e w3 ⟨rfl, ⟨vk3, h3⟩, k3⟩
        go_wp2_with fail
        go_end0
        exact ⟨rfl, by rw [HE.out]; exact h3.at, KC.out.trans k3 (fun _ _ e => e)⟩
    have d3 : (slot != s.at_ + 1) = true := by simp [p3]
    have HE4 := hid p3
    have hw2 : IntKind.i64.wrap (slot - 1) = slot - 1 := by simp [IntKind.wrap, IntKind.signed, IntKind.bits]; omega
    clear p3
    have AWEQ := hid (show awayB s slot = { ({ s with moved := true } : CS) with at_ := slot - 1, hinted := true } from if_pos ⟨HH.out, by omega, by omega, HE4.out⟩)
    go_upto_region 4 with (first
      | (refine wpl_storeB (v := .int .i64 (slot - 1)) (o := 4) (b := g) rfl rfl rfl rfl hb1 (by kernel_rfl) (of_decide_eq_true (by kernel_rfl)) (by simp [Value.oneCell', Value.cells]) ?_; intro w2 hb2 k2 s2; have K2 := hid k2; clear s2 k2)
      | (refine wpl_storeB (v := .bool true) (o := 7) (b := g) rfl rfl rfl rfl hb2 (by kernel_rfl) (of_decide_eq_true (by kernel_rfl)) (by simp [Value.oneCell', Value.cells]) ?_; intro w3 hb3 k3 s3; have K3 := hid (K2.out.trans k3 (fun _ _ q => q)); clear s3 k3; replace hb3 : w3.heap[g]? = some (CObj { ({ s with moved := true } : CS) with at_ := slot - 1, hinted := true } vw va vt vk) := hb3))
    have HMC := hid (H1.out.same K3.out hb3 rfl rfl rfl rfl rfl)
    have KC := hid (K1.out.trans K3.out (fun _ _ e => e))
    clear hb1 hb2 hb3 c7 c1 c4
    have Q12 := hid (cell_at (HMC.out.obj) 12 (.bool s.loc) rfl)
    have q12 := Q12.out
    cases hl : s.loc with
    | false =>
      rw [hl] at q12
      have HE := hid (show awayS s slot = { ({ s with moved := true } : CS) with at_ := slot - 1, hinted := true } from by rw [awayS, if_neg (by rw [hl]; exact Bool.false_ne_true)]; exact AWEQ.out)
      clear hl
      go_wp2_with fail
      go_end0
      exact ⟨rfl, by rw [HE.out]; exact HMC.out.at, KC.out⟩
    | true =>
      rw [hl] at q12
      have HE := hid (show awayS s slot = tellS { ({ s with moved := true } : CS) with at_ := slot - 1, hinted := true } vdZ' from by rw [awayS, if_pos hl, AWEQ.out])
      clear hl
      have ht := tell_calls HMC.out (vdZ_sl _ (fun _ => False)) (fun _ f => f.elim) vdZ_few
      have HT := hid ht
      clear ht
      go_wp2_with (first | (refine wpl_build rfl rfl (verdictCs vdZ' nilV).toArray (by kernel_rfl) ?_))
      refine HT.out.mono ?_
      rintro e w4 ⟨rfl, ⟨vk4, h4⟩, k4⟩
      go_wp2_with fail
      go_end0
      exact ⟨rfl, by rw [HE.out]; exact h4.at, KC.out.trans k4 (fun _ _ e => e)⟩
set_option maxRecDepth 20000 in
set_option maxHeartbeats 8000000 in
theorem tick_calls {b : Int} (h : CliM X w g s vw va vt vk) (hI : CInv N s) (hN : N ≤ 1000000) (hb0 : okI b) : Calls Try.prog 14 #[.pointer (some ⟨g, 0, none⟩), .int .i64 b] w (Ans X w g (tickF s b).1 (tickF s b).2) := by
  have H := hid h; have HI := hid hI; have HN := hid hN; have HB0 := hid hb0
  have hgl := lt_heap h.obj
  have HGL := hid hgl; have HG := hid h.hg
  clear h hI hN hb0 hgl
  go_enter Try.func14, Try.ntmps14
  go_wp2_with (first
    | (refine wpl_allocB (ty := 37) rfl rfl (z := zM) (by kernel_rfl) ?_; intro gm w1 hgm hbm k1 s1; have HGM := hid hgm; have K1 := hid k1; have HBM := hid hbm; clear hgm s1 k1 hbm))
  have HM1 := hid (H.out.box K1.out (Nat.le_of_eq HGM.out.symm) (by have := lt_heap HBM.out; exact this))
  have hmade := made_calls HM1.out
  refine hmade.mono ?_
  rintro e w' ⟨rfl, rfl⟩
  clear hmade
  have c10 := cell_at HM1.out.obj 10 (.bool s.busy) rfl
  by_cases p1 : b < 0
  · have d1 : decide (b < 0) = true := decide_eq_true p1
    have HMC := hid HM1.out
    have HE := hid (show tickF s b = (s, none) from by rw [tickF, if_pos (.inl p1)])
    have hbm := HBM.out
    clear p1 c10
    go_wp2_with (first
      | (refine wpl_build rfl rfl (msgCs msgZ nilV nilV nilV nilV).toArray (by kernel_rfl) ?_)
      | (refine wpl_storeB (v := zM) rfl rfl rfl rfl hbm msgL_z.info msgL_z.fit msgL_z.oneA ?_; intro w9 hb9 k9 s9))
    refine bodyPost_ret (res_cell_tmp (g := gm) (cs := (msgCs msgZ nilV nilV nilV nilV).toArray) (v := .bool false) Try.results14 _ rfl rfl (hb9.trans (msgL_z.whole rfl)) (by kernel_rfl) (by kernel_rfl)) rfl ?_
    rw [HE.out]
    exact Ans.none HG.out K1.out (Nat.le_of_eq HGM.out.symm) (Keep.refl _ _) k9 HGL.out HMC.out.at
  have d1 : decide (b < 0) = false := decide_eq_false p1
  have P1 := hid p1
  clear p1
  cases hbz : s.busy with
  | false =>
    rw [hbz] at c10
    have HMC := hid HM1.out
    have HE := hid (show tickF s b = (s, none) from by rw [tickF, if_pos (.inr hbz)])
    have hbm := HBM.out
    clear hbz
    go_wp2_with (first
      | (refine wpl_build rfl rfl (msgCs msgZ nilV nilV nilV nilV).toArray (by kernel_rfl) ?_)
      | (refine wpl_storeB (v := zM) rfl rfl rfl rfl hbm msgL_z.info msgL_z.fit msgL_z.oneA ?_; intro w9 hb9 k9 s9))
    refine bodyPost_ret (res_cell_tmp (g := gm) (cs := (msgCs msgZ nilV nilV nilV nilV).toArray) (v := .bool false) Try.results14 _ rfl rfl (hb9.trans (msgL_z.whole rfl)) (by kernel_rfl) (by kernel_rfl)) rfl ?_
    rw [HE.out]
    exact Ans.none HG.out K1.out (Nat.le_of_eq HGM.out.symm) (Keep.refl _ _) k9 HGL.out HMC.out.at
  | true =>
    rw [hbz] at c10
    have HBZ := hid hbz
    clear hbz
    have kd : Keep (fun _ => False) w1 w1.drew := (Keep.refl _ _).drew
    have HM2 := hid (HM1.out.keep kd)
    have HO := hid HM2.out.obj
    have HBM2 := hid (kd.heap HBM.out id)
    have hS : Keep (fun _ => False) w1.drew w1.drew := Keep.refl _ _
    have hwt1 := HI.out.wait.1; have hwt2 := HI.out.wait.2; have hpt := HI.out.pat.2
    have hw1 : IntKind.i64.wrap (s.patience - s.waited) = s.patience - s.waited := by simp [IntKind.wrap, IntKind.signed, IntKind.bits]; omega
    go_wp2_with fail
    refine wp_region_X (fun y => Keep (fun _ => False) w1.drew y) [] (by kernel_rfl) hS (fun _ => ?_)
    refine wpAnyX_take (i := 0) [10] (some 22) (v := ?_) rfl (by rfl) (by kernel_rfl) (by kernel_rfl) (by kernel_rfl) (by kernel_rfl) (fun _ _ _ h => h) (Or.inl ⟨by rfl, ?_⟩) hS ?_
    rotate_left
    focus (intro w' hSw; (try dsimp only at hSw); go_simp; try with_reducible rfl)
    simp only [Act.put, List.setIfInBounds_toArray, List.set_cons_zero, List.set_cons_succ]
    refine wpAnyX_take (i := 1) [2, 3, 4, 9, 10] (some 23) (v := ?_) rfl (by rfl) (by kernel_rfl) (by kernel_rfl) (by kernel_rfl) (by kernel_rfl) (fun _ _ _ h => h) (Or.inl ⟨by rfl, ?_⟩) hS ?_
    rotate_left
    focus (intro w' hSw; (try dsimp only at hSw); go_simp; try with_reducible rfl)
    simp only [Act.put, List.setIfInBounds_toArray, List.set_cons_zero, List.set_cons_succ]
    refine wpAnyX_take (i := 2) [3, 4, 9, 10] (some 24) (v := ?_) rfl (by rfl) (by kernel_rfl) (by kernel_rfl) (by kernel_rfl) (by kernel_rfl) (fun _ _ _ h => h) (Or.inl ⟨by rfl, ?_⟩) hS ?_
    rotate_left
    focus (intro w' hSw; (try dsimp only at hSw); go_simp; try with_reducible rfl)
    simp only [Act.put, List.setIfInBounds_toArray, List.set_cons_zero, List.set_cons_succ]
    refine wpAnyX_take (i := 3) [4, 9, 10] (some 25) (v := ?_) rfl (by rfl) (by kernel_rfl) (by kernel_rfl) (by kernel_rfl) (by kernel_rfl) (fun _ _ _ h => h) (Or.inl ⟨by rfl, ?_⟩) hS ?_
    rotate_left
    focus (intro w' hSw; (try dsimp only at hSw); go_simp; try with_reducible rfl)
    simp only [Act.put, List.setIfInBounds_toArray, List.set_cons_zero, List.set_cons_succ]
    refine wpAnyX_take (i := 4) [9, 10] (some 26) (v := _) rfl (by rfl) (by kernel_rfl) (by kernel_rfl) (by kernel_rfl) (by kernel_rfl) (fun _ _ _ h => h) (yieldsIf_cell (v := .int .i64 s.patience) (by rfl) rfl (by rfl) (by kernel_rfl) (fun y hy => cell_at (hy.heap HO.out id) 2 _ rfl)) hS ?_
    simp only [Act.put, List.setIfInBounds_toArray, List.set_cons_zero, List.set_cons_succ]
    refine wpAnyX_take (i := 5) [6, 7, 8, 9, 10] (some 27) (v := ?_) rfl (by rfl) (by kernel_rfl) (by kernel_rfl) (by kernel_rfl) (by kernel_rfl) (fun _ _ _ h => h) (Or.inl ⟨by rfl, ?_⟩) hS ?_
    rotate_left
    focus (intro w' hSw; (try dsimp only at hSw); go_simp; try with_reducible rfl)
    simp only [Act.put, List.setIfInBounds_toArray, List.set_cons_zero, List.set_cons_succ]
    refine wpAnyX_take (i := 6) [7, 8, 9, 10] (some 28) (v := ?_) rfl (by rfl) (by kernel_rfl) (by kernel_rfl) (by kernel_rfl) (by kernel_rfl) (fun _ _ _ h => h) (Or.inl ⟨by rfl, ?_⟩) hS ?_
    rotate_left
    focus (intro w' hSw; (try dsimp only at hSw); go_simp; try with_reducible rfl)
    simp only [Act.put, List.setIfInBounds_toArray, List.set_cons_zero, List.set_cons_succ]
    refine wpAnyX_take (i := 7) [8, 9, 10] (some 29) (v := ?_) rfl (by rfl) (by kernel_rfl) (by kernel_rfl) (by kernel_rfl) (by kernel_rfl) (fun _ _ _ h => h) (Or.inl ⟨by rfl, ?_⟩) hS ?_
    rotate_left
    focus (intro w' hSw; (try dsimp only at hSw); go_simp; try with_reducible rfl)
    simp only [Act.put, List.setIfInBounds_toArray, List.set_cons_zero, List.set_cons_succ]
    refine wpAnyX_take (i := 8) [9, 10] (some 30) (v := _) rfl (by rfl) (by kernel_rfl) (by kernel_rfl) (by kernel_rfl) (by kernel_rfl) (fun _ _ _ h => h) (yieldsIf_cell (v := .int .i64 s.waited) (by rfl) rfl (by rfl) (by kernel_rfl) (fun y hy => cell_at (hy.heap HO.out id) 14 _ rfl)) hS ?_
    simp only [Act.put, List.setIfInBounds_toArray, List.set_cons_zero, List.set_cons_succ]
    refine wpAnyX_take (i := 9) [10] (some 31) (v := ?_) rfl (by rfl) (by kernel_rfl) (by kernel_rfl) (by kernel_rfl) (by kernel_rfl) (fun _ _ _ h => h) (Or.inl ⟨by rfl, ?_⟩) hS ?_
    rotate_left
    focus (intro w' hSw; (try dsimp only at hSw); go_simp; try with_reducible rfl)
    simp only [Act.put, List.setIfInBounds_toArray, List.set_cons_zero, List.set_cons_succ]
    refine wpAnyX_take (i := 10) [] (some 32) (v := ?_) rfl (by rfl) (by kernel_rfl) (by kernel_rfl) (by kernel_rfl) (by kernel_rfl) (fun _ _ _ h => h) (Or.inl ⟨by rfl, ?_⟩) hS ?_
    rotate_left
    focus (intro w' hSw; (try dsimp only at hSw); go_simp; try with_reducible rfl)
    simp only [Act.put, List.setIfInBounds_toArray, List.set_cons_zero, List.set_cons_succ]
    refine wpAnyX_done (by kernel_rfl) ?_ _
    have KD := hid kd
    have hb2 := HO.out
    have c14 := cell_at hb2 14 (.int .i64 s.waited) rfl
    have c12 := cell_at hb2 12 (.bool s.loc) rfl
    have c13 := cell_at hb2 13 (.bool s.moved) rfl
    clear c10 kd hS d1
    have hn0 : ¬ (b < 0 ∨ s.busy = false) := fun q => q.elim (fun e => by have := P1.out; omega) (fun e => by rw [HBZ.out] at e; cases e)
    have HN0 := hid hn0
    clear hn0
    by_cases p2 : b < s.patience - s.waited
    · have d2 : decide (b < s.patience - s.waited) = true := decide_eq_true p2
      have hw2 : IntKind.i64.wrap (s.waited + b) = s.waited + b := by have := P1.out; simp [IntKind.wrap, IntKind.signed, IntKind.bits]; omega
      have P2 := hid p2
      go_upto_region 5 with (first
        | (refine wpl_storeB (v := .int .i64 (s.waited + b)) (o := 14) (b := g) rfl rfl rfl rfl hb2 (by kernel_rfl) (of_decide_eq_true (by kernel_rfl)) (by simp [Value.oneCell', Value.cells]) ?_; intro w3 hb3 k3 s3; have K3 := hid k3; clear s3 k3; replace hb3 : w3.heap[g]? = some (CObj { s with waited := s.waited + b } vw va vt vk) := hb3))
      have HMC := hid ((HM2.out.same K3.out hb3 rfl rfl rfl rfl rfl : CliM _ w3 g { s with waited := s.waited + b } vw va vt vk))
      have HGN := hid (show gm ≠ g by have := HGM.out; have := HGL.out; omega)
      have HE := hid (show tickF s b = ({ s with waited := s.waited + b }, none) from by rw [tickF, if_neg HN0.out, if_pos P2.out])
      have hbm := K3.out.heap HBM2.out HGN.out
      clear hb2 hb3 c14 c12 c13 p2
      go_wp2_with (first
        | (refine wpl_build rfl rfl (msgCs msgZ nilV nilV nilV nilV).toArray (by kernel_rfl) ?_)
        | (refine wpl_storeB (v := zM) rfl rfl rfl rfl hbm msgL_z.info msgL_z.fit msgL_z.oneA ?_; intro w9 hb9 k9 s9))
      refine bodyPost_ret (res_cell_tmp (g := gm) (cs := (msgCs msgZ nilV nilV nilV nilV).toArray) (v := .bool false) Try.results14 _ rfl rfl (hb9.trans (msgL_z.whole rfl)) (by kernel_rfl) (by kernel_rfl)) rfl ?_
      rw [HE.out]
      exact Ans.none HG.out K1.out (Nat.le_of_eq HGM.out.symm) ((KD.out.mono (fun _ _ f => f.elim)).trans K3.out (fun _ _ e => e)) k9 HGL.out HMC.out.at
    have d2 : decide (b < s.patience - s.waited) = false := decide_eq_false p2
    have P2 := hid p2
    have HGN := hid (show gm ≠ g by have := HGM.out; have := HGL.out; omega)
    clear hwt1 hwt2 hpt hw1
    cases hl : s.loc with
    | true =>
      rw [hl] at c12
      have HL := hid hl
      clear hl
      have ht := tell_calls HM2.out (vdZ_sl _ (fun _ => False)) (fun _ f => f.elim) vdZ_few
      have HT := hid ht
      clear ht
      go_wp2_with (first | (refine wpl_build rfl rfl (verdictCs vdZ' nilV).toArray (by kernel_rfl) ?_))
      refine HT.out.mono ?_
      rintro e w3 ⟨rfl, ⟨vk3, h3⟩, k3⟩
      have K3 := hid k3
      have HMC := hid h3
      clear h3 k3 HT
      have HE := hid (show tickF s b = (tellS s vdZ', none) from by rw [tickF, if_neg HN0.out, if_neg (by have := P2.out; omega), if_pos HL.out])
      have hbm := K3.out.heap HBM2.out HGN.out
      clear hb2 c14 c12 c13
      go_wp2_with (first
        | (refine wpl_build rfl rfl (msgCs msgZ nilV nilV nilV nilV).toArray (by kernel_rfl) ?_)
        | (refine wpl_storeB (v := zM) rfl rfl rfl rfl hbm msgL_z.info msgL_z.fit msgL_z.oneA ?_; intro w9 hb9 k9 s9))
      refine bodyPost_ret (res_cell_tmp (g := gm) (cs := (msgCs msgZ nilV nilV nilV nilV).toArray) (v := .bool false) Try.results14 _ rfl rfl (hb9.trans (msgL_z.whole rfl)) (by kernel_rfl) (by kernel_rfl)) rfl ?_
      rw [HE.out]
      exact Ans.none HG.out K1.out (Nat.le_of_eq HGM.out.symm) ((KD.out.mono (fun _ _ f => f.elim)).trans K3.out (fun _ _ e => e)) k9 HGL.out HMC.out.at
    | false =>
      rw [hl] at c12
      have HL := hid hl
      clear hl
      cases hv : s.moved with
      | true =>
        rw [hv] at c13
        have HV := hid hv
        clear hv
        have HE := hid (show tickF s b = (sentS s, some (sentM s)) from by rw [tickF, if_neg HN0.out, if_neg (by have := P2.out; omega), if_neg (by rw [HL.out]; exact Bool.false_ne_true)]; simp only [HV.out, if_true])
        have hst := sent_calls HM2.out HI.out HN.out
        have HST := hid hst
        clear hst
        go_wp2_with fail
        refine HST.out.mono ?_
        rintro e w4 ⟨cs, rfl, hm4, hc4, k4⟩
        have HL4 := hid (MsgL.of hm4); have HM4 := hid hm4; have HC4 := hid hc4; have K4 := hid k4
        have hbm := K4.out.heap (HBM2.out) HGN.out
        clear hm4 hc4 k4 HST hb2 c14 c12 c13
        go_wp2_with (first
          | (refine wpl_storeB (v := .agg cs.toArray) rfl rfl rfl rfl hbm HL4.out.info HL4.out.fit HL4.out.oneA ?_; intro w9 hb9 k9 s9))
        refine bodyPost_ret (res_cell_tmp (g := gm) (cs := cs.toArray) (v := .bool true) Try.results14 _ rfl rfl (hb9.trans (HL4.out.whole rfl)) (by kernel_rfl) HL4.out.info') rfl ?_
        rw [HE.out]
        exact Ans.lay HG.out K1.out (Nat.le_of_eq HGM.out.symm) (KD.out.mono (fun _ _ f => f.elim)) K4.out k9 HGL.out HM4.out HC4.out
      | false =>
        rw [hv] at c13
        have HV := hid hv
        clear hv
        have hnx := next_calls HM2.out HI.out
        have HNX := hid hnx
        clear hnx
        go_wp2_with fail
        refine HNX.out.mono ?_
        rintro e w3 ⟨rfl, hm3, k3⟩
        have HM3 := hid hm3; have K3 := hid k3
        clear hm3 k3 HNX
        have HE := hid (show tickF s b = (sentS (nextS s), some (sentM (nextS s))) from by rw [tickF, if_neg HN0.out, if_neg (by have := P2.out; omega), if_neg (by rw [HL.out]; exact Bool.false_ne_true)]; simp only [HV.out, Bool.false_eq_true, if_false])
        have hst := sent_calls HM3.out HI.out.next HN.out
        have HST := hid hst
        clear hst
        go_wp2_with fail
        refine HST.out.mono ?_
        rintro e w4 ⟨cs, rfl, hm4, hc4, k4⟩
        have HL4 := hid (MsgL.of hm4); have HM4 := hid hm4; have HC4 := hid hc4; have K4 := hid k4
        have hbm := K4.out.heap (K3.out.heap HBM2.out HGN.out) HGN.out
        clear hm4 hc4 k4 HST hb2 c14 c12 c13
        go_wp2_with (first
          | (refine wpl_storeB (v := .agg cs.toArray) rfl rfl rfl rfl hbm HL4.out.info HL4.out.fit HL4.out.oneA ?_; intro w9 hb9 k9 s9))
        refine bodyPost_ret (res_cell_tmp (g := gm) (cs := cs.toArray) (v := .bool true) Try.results14 _ rfl rfl (hb9.trans (HL4.out.whole rfl)) (by kernel_rfl) HL4.out.info') rfl ?_
        rw [HE.out]
        exact Ans.lay HG.out K1.out (Nat.le_of_eq HGM.out.symm) ((KD.out.mono (fun _ _ f => f.elim)).trans K3.out (fun _ _ e => e)) K4.out k9 HGL.out HM4.out HC4.out
end
end Go.Proofs.Ytnekfonnceknoaa
