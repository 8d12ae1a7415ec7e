/- wapentakeref15.Tally: Value. -/
import Derived.Test.YthlgnilgjeebaaaTalT
import Derived.Test.YthlgnilgjeebaaaTalV
namespace Go.Proofs.Ythlgnilgjeebaaa
open Go.RowKit Go.ChangeShapes Go.WideShapes Go.ChangeAt
def pickB (slot : Int) (p : Option Vote) (y : Vote) : Bool := (y.slot == slot) && (goodS slot && (match p with | none => true | some x => decide (x.ballot < y.ballot)))
def vPick (slot : Int) (p : Option Vote) (y : Vote) : Option Vote := if pickB slot p y then some y else p
def rvalR (s : RS) (slot : Int) : Option Vote := (s.P.flatMap (·.v)).foldl (vPick slot) none
/-- What has been picked, in its variable. -/
def PickIn (F : Nat → Prop) (g6 : Nat) (p : Option Vote) (wr : World) : Prop :=
  ∃ A c, wr.heap[g6]? = some (.cells (voteCs (p.getD votZ) (.slice A (p.getD votZ).value.changes.length c)).toArray 36) ∧ Sl .change wr F (.slice A (p.getD votZ).value.changes.length c) (p.getD votZ).value.changes ∧ (p.getD votZ).value.changes.length ≤ 4294967296
theorem PickIn.keep {F S : Nat → Prop} {g6 : Nat} {p : Option Vote} {w w' : World} (h : PickIn F g6 p w) (hk : Keep S w w') (hF : ∀ k, F k → ¬ S k) (hg : ¬ S g6) : PickIn F g6 p w' := by
  obtain ⟨A, c, h1, h2, h3⟩ := h
  exact ⟨A, c, hk.heap h1 hg, h2.keep hk hF, h3⟩
section
variable {F : Nat → Prop} {w : World} {g : Nat} {s : RS} {AP AC : Option Addr} {cP cC : Nat}
def RValPost (w : World) (s : RS) (slot : Int) (e : Ending) (w' : World) : Prop :=
  ∃ A c, e = .returned (.tuple #[.agg (reqCs ((rvalR s slot).getD votZ).value (.slice A ((rvalR s slot).getD votZ).value.changes.length c)).toArray, .bool (rvalR s slot).isSome]) ∧ Sl .change w' (NewIn w w') (.slice A ((rvalR s slot).getD votZ).value.changes.length c) ((rvalR s slot).getD votZ).value.changes ∧ Keep (fun _ => False) w w'
set_option maxRecDepth 20000 in
set_option maxHeartbeats 8000000 in
theorem rval_calls (h : RV F w g s AP AC cP cC) (hF : ∀ q, F q → q < w.heap.size) (slot : Int) (hch : ∀ p ∈ s.P, ∀ x ∈ p.v, x.value.changes.length ≤ 4294967296) :
    Calls Try.prog 27 #[.pointer (some ⟨g, 0, none⟩), .int .i64 slot] w (RValPost w s slot) := by
  have H := hid h
  have hmax := h.P.cap
  have hgl := lt_heap h.obj
  obtain ⟨m, hm⟩ : ∃ m, m = s.P.length := ⟨_, rfl⟩
  have hobj := h.obj
  rw [← hm] at hobj hmax
  have HM := hid hm; have HO := hid hobj; have HF := hid hF; have HCH := hid hch; have HGL := hid hgl
  clear h hm hobj hF hch hgl
  go_enter Try.func27, Try.ntmps27
  go_upto_region 3 with (first
    | (refine wpl_build rfl rfl (cells := (voteCs votZ (.slice none 0 0)).toArray) (by kernel_rfl) ?_)
    | (refine wpl_allocB (ty := 34) rfl rfl (z := .agg (reqCs reqZ' (.slice none 0 0)).toArray) (by kernel_rfl) ?_; intro g4 w4 hg4 hb4 k4 s4; have HG4 := hid hg4; have HS4 := hid s4; have K4 := hid k4; clear hg4 s4 k4)
    | (refine wpl_allocB (ty := 36) rfl rfl (z := .agg (voteCs votZ (.slice none 0 0)).toArray) (by kernel_rfl) ?_; intro g6 w5 hg6 hb5 k5 s5; have HG6 := hid hg6; have HS5 := hid s5; have hb4' := k5.heap hb4 id; have K5 := hid k5; clear hg6 s5 k5)
    | (refine wpl_storeB (v := .agg (voteCs votZ (.slice none 0 0)).toArray) rfl rfl rfl rfl hb5 (by kernel_rfl) (by simp [reqCs, voteCs, Value.cells]) (by simp [reqCs, voteCs, Value.oneCell', Value.cells]) ?_; intro w6 hb6 k6 s6; have HS6 := hid s6; have K6 := hid k6; have hb4'' := k6.heap hb4' (fun e => by have e : g4 = g6 := e; have := HG6.out; have := HS4.out; omega); clear s6 k6; replace hb6 : w6.heap[g6]? = some (.cells (voteCs votZ (.slice none 0 0)).toArray 36) := hb6))
  have K06 := hid (show Keep (fun _ => False) w w6 from ((K4.out.trans K5.out (fun _ _ q => q)).trans K6.out (fun b hb e => by have := HG6.out; have := HS4.out; have := HG4.out; omega)))
  have HB4 := hid hb4''
  have HP0 := hid (show PickIn F g6 none w6 from ⟨none, 0, hb6, ⟨none, 0, rfl, Nat.le_refl _, Nat.zero_le _, .inl rfl⟩, by simp [votZ, reqZ']⟩)
  have HNF := hid (show ∀ q, F q → ¬ q = g6 from fun q hq e => by have := HF.out q hq; have := HG6.out; have := HS4.out; have := HG4.out; omega)
  have HGN := hid (show g ≠ g6 from fun e => by have := HGL.out; have := HG6.out; have := HS4.out; have := HG4.out; omega)
  have HG46 := hid (show g4 ≠ g6 from fun e => by have := HG6.out; have := HS4.out; omega)
  clear hb4 hb5 hb4' hb4'' hb6
  go_wp2_with fail
  go_loopw [7, 8] (fun f i wr => ∃ (k : Nat) (p : Option Vote), k ≤ m ∧ i = .int .i64 k ∧ f = .bool p.isSome ∧ p = ((s.P.take k).flatMap (·.v)).foldl (vPick slot) none ∧ PickIn F g6 p wr ∧ Keep (fun q => q = g6) w6 wr) (fun _ i _ => m - (intOf i).toNat)
  case atStart => exact ⟨0, none, Nat.zero_le _, rfl, rfl, rfl, HP0.out, Keep.refl _ _⟩
  case round =>
    obtain ⟨k, p, hk, rfl, rfl, hp, hpi, hkr⟩ := hrel
    have hobr := hkr.heap (K06.out.heap HO.out id) HGN.out
    have c2 := cell_at hobr 2 (.slice AP m cP) rfl
    have HPP := hid hp; have HPI := hid hpi; have HKR := hid hkr
    clear hobr hp hpi hkr
    by_cases hlt : k < m
    · have hkm : decide ((k : Int) < (m : Int)) = true := decide_eq_true (by omega)
      obtain ⟨x, hx⟩ : ∃ x, s.P[k]? = some x := ⟨s.P[k]'(by rw [← HM.out]; exact hlt), by simp [show k < s.P.length by rw [← HM.out]; exact hlt]⟩
      have hKF : ∀ W, Keep (fun q => q = g6) w6 W → Sl .prom W F (.slice AP s.P.length cP) s.P := fun W hW => (H.out.P.keep K06.out (fun _ _ => id)).keep hW HNF.out
      have hcellK : ∀ W, Keep (fun q => q = g6) w6 W → ∃ b off Av cv, AP = some ⟨b, off, none⟩ ∧ W.cell? ⟨b, off + k * 3 + 2, none⟩ = some (.slice Av x.v.length cv) ∧ Sl .vote W F (.slice Av x.v.length cv) x.v := fun W hW => by
        obtain ⟨A', c', b, off, cs, he, hb, _, hcs, hcell⟩ := elem_cells7 (hKF W hW) rfl hx
        simp only [Value.slice.injEq, true_and] at he
        obtain ⟨rfl, rfl⟩ := he
        obtain ⟨vc, rfl, hvc, _⟩ := prom_cells hcs
        obtain ⟨Av, cv, rfl⟩ := hvc.shape
        exact ⟨b, off, Av, cv, hb, hcell 2 _ rfl, hvc⟩
      obtain ⟨b, off, Av, cv, rfl, d2, hvc⟩ := hcellK wr HKR.out
      have hvmax := hvc.cap
      have hxm := List.mem_of_getElem? hx
      obtain ⟨nv, hnv⟩ : ∃ nv, nv = x.v.length := ⟨_, rfl⟩
      rw [← hnv] at d2 hvmax hvc
      have HNV := hid hnv; have HVC := hid hvc; have D2 := hid d2; have HXM := hid hxm
      have hnx : ((s.P.take (k + 1)).flatMap (·.v)).foldl (vPick slot) none = x.v.foldl (vPick slot) p := by
        rw [HPP.out, List.take_add_one, hx, List.flatMap_append, List.foldl_append]
        simp
      have HNX := hid hnx; have HWR := hid (show ∀ W, Keep (fun q => q = g6) wr W → W.cell? ⟨g, 2, none⟩ = some (.slice (some ⟨b, off, none⟩) m cP) from fun W hW => hW.cell c2 HGN.out)
      have HBF := hid (show F b from by
        obtain ⟨A', c', b', off', cs, he, hb, hFb, _⟩ := elem_cells7 (hKF wr HKR.out) rfl hx
        simp only [Value.slice.injEq, true_and] at he
        obtain ⟨rfl, rfl⟩ := he
        simp only [Option.some.injEq, Addr.mk.injEq, and_true] at hb
        rw [hb.1]; exact hFb)
      clear hnx hx hnv hvc hKF hcellK hxm
      go_wp2_with fail
      go_loopw [7, 9] (fun f i wq => ∃ (j : Nat) (p' : Option Vote), j ≤ nv ∧ i = .int .i64 j ∧ f = .bool p'.isSome ∧ p' = (x.v.take j).foldl (vPick slot) p ∧ PickIn F g6 p' wq ∧ Keep (fun q => q = g6) wr wq) (fun _ i _ => nv - (intOf i).toNat)
      case atStart => exact ⟨0, p, Nat.zero_le _, rfl, rfl, rfl, HPI.out, Keep.refl _ _⟩
      case round =>
        obtain ⟨j, p', hj, rfl, rfl, hp', hpi', hkq⟩ := hrel
        have c2q := HWR.out _ hkq
        have d2q := hkq.cell D2.out (fun e => HNF.out b HBF.out e)
        have HPP' := hid hp'; have HPI' := hid hpi'; have HKQ := hid hkq
        clear hp' hpi' hkq
        by_cases hjt : j < nv
        · obtain ⟨y, hy⟩ : ∃ y, x.v[j]? = some y := ⟨x.v[j]'(by rw [← HNV.out]; exact hjt), by simp [show j < x.v.length by rw [← HNV.out]; exact hjt]⟩
          obtain ⟨A2, c2', b2, off2, es, he2, hb2, hFb2, hes, hcell⟩ := elem_cells7 (HVC.out.keep HKQ.out HNF.out) HNV.out hy
          simp only [Value.slice.injEq, true_and] at he2
          obtain ⟨rfl, rfl⟩ := he2
          subst hb2
          obtain ⟨v1, rfl, hs1, _⟩ := vote_cells hes
          have hyl := HCH.out x HXM.out y (List.mem_of_getElem? hy)
          obtain ⟨A1, c1, rfl⟩ := hs1.shape
          have hsz : Rep.vote.size = 13 := rfl
          rw [hsz] at hcell
          obtain ⟨ny, hny⟩ : ∃ ny, ny = y.value.changes.length := ⟨_, rfl⟩
          rw [← hny] at hcell hs1
          have p0 := hcell 0 (.int .i64 y.slot) rfl
          rw [Nat.add_zero] at p0
          have p1 := hcell 1 (.int .i64 y.ballot) rfl
          have p2 := hcell 2 (.int .i64 y.value.kind) rfl
          have p3 := hcell 3 (.string y.value.name) rfl
          have p4 := hcell 4 (.int .i64 y.value.session) rfl
          have p5 := hcell 5 (.int .i64 y.value.seq) rfl
          have p6 := hcell 6 (.int .i64 y.value.base) rfl
          have p7 := hcell 7 (.string y.value.ref) rfl
          have p8 := hcell 8 (.slice A1 ny c1) rfl
          have p9 := hcell 9 (.string y.value.path) rfl
          have p10 := hcell 10 (.int .i64 y.value.from') rfl
          have p11 := hcell 11 (.int .i64 y.value.many) rfl
          have p12 := hcell 12 (.int .i64 y.value.member) rfl
          have HY := hid hy; have HNY := hid hny; have HS1 := hid hs1; have HYL := hid hyl
          clear hcell hs1 hes hy hsz hny hyl hFb2
          have hnx2 : ∀ q, vPick slot p' y = q → (x.v.take (j + 1)).foldl (vPick slot) p = q := fun q hq => by
            rw [List.take_add_one, HY.out, List.foldl_append, ← HPP'.out]; exact hq
          have FINo : Hid (∀ wf, Keep (fun _ => False) wr wf → vPick slot p' y = p' → ∃ (j' : Nat) (p'' : Option Vote), j' ≤ nv ∧ (Value.int .i64 ((j : Int) + 1)) = .int .i64 j' ∧ (Value.bool p'.isSome) = .bool p''.isSome ∧ p'' = (x.v.take j').foldl (vPick slot) p ∧ PickIn F g6 p'' wf ∧ Keep (fun q => q = g6) _ wf) := hid (fun wf hk hv =>
            ⟨j + 1, p', by omega, by simp, rfl, (hnx2 _ hv).symm, HPI'.out.keep hk (fun _ _ => id) id, HKQ.out.trans hk (fun _ _ f => f.elim)⟩)
          have FINy : Hid (∀ wf, Keep (fun q => q = g6) wr wf → wf.heap[g6]? = some (.cells (voteCs y (.slice A1 y.value.changes.length c1)).toArray 36) → vPick slot p' y = some y → ∃ (j' : Nat) (p'' : Option Vote), j' ≤ nv ∧ (Value.int .i64 ((j : Int) + 1)) = .int .i64 j' ∧ (Value.bool true) = .bool p''.isSome ∧ p'' = (x.v.take j').foldl (vPick slot) p ∧ PickIn F g6 p'' wf ∧ Keep (fun q => q = g6) _ wf) := hid (fun wf hk hb hv =>
            ⟨j + 1, some y, by omega, by simp, rfl, (hnx2 _ hv).symm, ⟨A1, c1, hb, by rw [show ((some y).getD votZ) = y from rfl, ← HNY.out]; exact HS1.out.keep hk HNF.out, HYL.out⟩, HKQ.out.trans hk (fun _ _ q => q)⟩)
          clear hnx2
          go_upto_region 10 with fail
          have hg12 := heap_alloc_new wr (.cells (voteCs y (.slice A1 ny c1)).toArray 36)
          have ka : Keep (fun _ => False) wr (wr.alloc (.cells (voteCs y (.slice A1 ny c1)).toArray 36)) := (Keep.refl _ wr).alloc _
          change Code.wp _ _ _ _ (wr.alloc (.cells (voteCs y (.slice A1 ny c1)).toArray 36))
          generalize wr.alloc (.cells (voteCs y (.slice A1 ny c1)).toArray 36) = wa at *
          obtain ⟨gd, hgd⟩ : ∃ gd, gd = wr.heap.size := ⟨_, rfl⟩
          rw [← hgd] at hg12 ⊢
          have HGD := hid hgd; have KA := hid ka
          clear p0 p1 p2 p3 p4 p5 p6 p7 p8 p9 p10 p11 p12 hgd c2q d2q
          obtain ⟨Ax, cx, hb6, _, _⟩ := HPI'.out.keep ka (fun _ _ => id) id
          clear ka
          have q0 := cell_at hg12 0 (.int .i64 y.slot) rfl
          have q1 := cell_at hg12 1 (.int .i64 y.ballot) rfl
          have o1 := cell_at hb6 1 (.int .i64 (p'.getD votZ).ballot) rfl
          by_cases e0 : y.slot = slot
          case neg =>
            have b0 : (y.slot == slot) = false := by simpa using e0
            clear e0
            have hv : vPick slot p' y = p' := by rw [vPick, show pickB slot p' y = false from by unfold pickB; rw [b0, Bool.false_and]]; rfl
            have HVP := hid hv
            clear hv
            go_wp2_with fail
            exact ⟨FINo.out _ KA.out HVP.out, by simp [intOf]; omega⟩

          have b0 : (y.slot == slot) = true := by simpa using e0
          clear e0
          cases hgs : goodS slot with
          | false =>
            go_wp2_with fail
            refine (rgood_calls slot).mono ?_
            rintro e w' ⟨rfl, rfl⟩
            rw [hgs]
            have hv : vPick slot p' y = p' := by rw [vPick, show pickB slot p' y = false from by unfold pickB; rw [b0, hgs, Bool.false_and, Bool.and_false]]; rfl
            have HVP := hid hv
            clear hv
            go_wp2_with fail
            exact ⟨FINo.out _ KA.out HVP.out, by simp [intOf]; omega⟩

          | true =>
            rcases p' with _ | xo
            · have e1 : (none : Option Vote).isSome = false := rfl
              simp only [e1] at FINo FINy ⊢
              clear e1
              go_wp2_with fail
              refine (rgood_calls slot).mono ?_
              rintro e w' ⟨rfl, rfl⟩
              rw [hgs]
              have hv : vPick slot none y = some y := by rw [vPick, pickB, b0, hgs]; rfl
              have HVP := hid hv
              clear hv
              go_wp2_with (first
                | (refine wpl_loadA (ty := 36) (o := 0) rfl rfl rfl hg12 (by kernel_rfl) (by kernel_rfl) (voteCs y (.slice A1 ny c1)) rfl rfl ?_)
                | (refine wpl_storeB (v := .agg (voteCs y (.slice A1 ny c1)).toArray) rfl rfl rfl rfl hb6 (by kernel_rfl) (by simp [reqCs, voteCs, Value.cells]) (by simp [reqCs, voteCs, Value.oneCell', Value.cells]) ?_; intro w8 hb8 k8 s8; have K8 := hid k8; clear s8 k8; replace hb8 : w8.heap[g6]? = some (.cells (voteCs y (.slice A1 ny c1)).toArray 36) := hb8))
              exact ⟨FINy.out _ (KA.out.mono (fun _ _ f => f.elim) |>.trans K8.out (fun _ _ q => q)) (by rw [← HNY.out]; exact hb8) HVP.out, by simp [intOf]; omega⟩

            · have e1 : (some xo).isSome = true := rfl
              simp only [e1, Option.getD_some] at FINo FINy o1 ⊢
              clear e1
              by_cases e2 : xo.ballot < y.ballot
              · have b2 : decide (xo.ballot < y.ballot) = true := by simpa using e2
                clear e2
                go_wp2_with fail
                refine (rgood_calls slot).mono ?_
                rintro e w' ⟨rfl, rfl⟩
                rw [hgs]
                have hv : vPick slot (some xo) y = some y := by rw [vPick, pickB, b0, hgs, b2]; rfl
                have HVP := hid hv
                clear hv
                go_wp2_with (first
                  | (refine wpl_loadA (ty := 36) (o := 0) rfl rfl rfl hg12 (by kernel_rfl) (by kernel_rfl) (voteCs y (.slice A1 ny c1)) rfl rfl ?_)
                  | (refine wpl_storeB (v := .agg (voteCs y (.slice A1 ny c1)).toArray) rfl rfl rfl rfl hb6 (by kernel_rfl) (by simp [reqCs, voteCs, Value.cells]) (by simp [reqCs, voteCs, Value.oneCell', Value.cells]) ?_; intro w8 hb8 k8 s8; have K8 := hid k8; clear s8 k8; replace hb8 : w8.heap[g6]? = some (.cells (voteCs y (.slice A1 ny c1)).toArray 36) := hb8))
                exact ⟨FINy.out _ (KA.out.mono (fun _ _ f => f.elim) |>.trans K8.out (fun _ _ q => q)) (by rw [← HNY.out]; exact hb8) HVP.out, by simp [intOf]; omega⟩

              · have b2 : decide (xo.ballot < y.ballot) = false := by simpa using e2
                clear e2
                go_wp2_with fail
                refine (rgood_calls slot).mono ?_
                rintro e w' ⟨rfl, rfl⟩
                rw [hgs]
                have hv : vPick slot (some xo) y = (some xo) := by rw [vPick, pickB, b0, hgs, b2]; rfl
                have HVP := hid hv
                clear hv
                go_wp2_with fail
                exact ⟨FINo.out _ KA.out HVP.out, by simp [intOf]; omega⟩

        · obtain rfl : j = nv := by omega
          have hfin : p' = ((s.P.take (k + 1)).flatMap (·.v)).foldl (vPick slot) none := by
            rw [HNX.out, HPP'.out, List.take_of_length_le (by rw [HNV.out]; exact Nat.le_refl _)]
          have HFIN := hid hfin
          clear hfin
          go_wp2_with fail
          exact ⟨⟨k + 1, p', by omega, by simp, rfl, HFIN.out, HPI'.out, HKR.out.trans HKQ.out (fun _ _ q => q)⟩, by simp [intOf]; omega⟩
    · obtain rfl : k = m := by omega
      have et : s.P.take k = s.P := List.take_of_length_le (by rw [HM.out]; exact Nat.le_refl _)
      have hfin : p = rvalR s slot := by rw [HPP.out, et]; rfl
      subst hfin
      clear et
      obtain ⟨Ax, cx, hb6, hslx, hlx⟩ := HPI.out
      have hb4 := HKR.out.heap HB4.out HG46.out
      generalize hpr : rvalR s slot = pr at *
      have HPR := hid hpr
      have ho := copyReq_calls (r := (pr.getD votZ).value) hslx hlx
      obtain ⟨nx, hnx⟩ : ∃ nx, nx = (pr.getD votZ).value.changes.length := ⟨_, rfl⟩
      rw [← hnx] at hb6 ho
      have HNX := hid hnx
      generalize hvv : pr.getD votZ = vv at *
      have HVV := hid hvv
      clear hpr hnx hslx hlx hvv
      go_wp2_with (first
        | (refine wpl_loadA (ty := 34) (o := 2) rfl rfl rfl hb6 (by kernel_rfl) (by kernel_rfl) (reqCs vv.value (.slice Ax nx cx)) rfl rfl ?_))
      refine Calls.mono ho ?_
      rintro e w7 ⟨A7, c7, rfl, hoc, k7⟩
      have HOC := hid hoc; have K7 := hid k7
      have hb47 := k7.heap hb4 id
      clear hoc k7 ho hb4 hb6
      go_wp2_with (first
        | (refine wpl_storeB (v := .agg (reqCs vv.value (.slice A7 nx c7)).toArray) rfl rfl rfl rfl hb47 (by kernel_rfl) (by simp [reqCs, Value.cells]) (by simp [reqCs, Value.oneCell', Value.cells]) ?_; intro w8 hb8 k8 s8; have HS8 := hid s8; clear s8; replace hb8 : w8.heap[g4]? = some (.cells (reqCs vv.value (.slice A7 nx c7)).toArray 34) := hb8))
      refine bodyPost_ret (v := .tuple #[.agg (reqCs vv.value (.slice A7 nx c7)).toArray, .bool pr.isSome]) (res_cell_tmp (by rw [Try.results27]) _ rfl rfl hb8 (by kernel_rfl) (by kernel_rfl)) rfl ?_
      have h06 := K06.out.size
      have hkr := HKR.out.size
      have h7 := K7.out.size
      have hg4 := HG4.out
      have hg6 := HG6.out
      have hs4 := HS4.out
      have hs5 := HS5.out
      have hs6 := HS6.out
      refine ⟨A7, c7, ?_, ?_, ?_⟩
      · rw [HPR.out, HVV.out, ← HNX.out]
      · rw [HPR.out, HVV.out, ← HNX.out]
        exact (HOC.out.1.keep k8 (fun q hq e => by have := hq.1; omega)).mono (fun q hq => ⟨by have := hq.1; omega, by have := hq.2; have := HS8.out; omega⟩)
      · exact ((K06.out.trans HKR.out (fun q hq e => by omega)).trans K7.out (fun _ _ f => f)).trans k8 (fun q hq e => by omega)
end
end Go.Proofs.Ythlgnilgjeebaaa
