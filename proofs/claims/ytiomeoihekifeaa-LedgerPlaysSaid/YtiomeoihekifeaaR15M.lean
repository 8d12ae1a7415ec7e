/- wapentakeref15.Ledger: Step, forget, Cut, Jump, Known. -/
import Derived.Test.YtiomeoihekifeaaR15L
import Derived.Test.YtiomeoihekifeaaLedCut
import Derived.Test.YtiomeoihekifeaaSameI
namespace Go.Proofs.Ytiomeoihekifeaa
open Go.RowKit Go.ChangeShapes Go.WideShapes Go.ChangeAt
theorem SLI15 : SlT Try.prog 22 3 (.int .i64 0) 1 8 := SlT.mk' Try.underlying22 (by kernel_rfl) rfl (by decide)
section
variable {F S : Nat → Prop} {w w' : World} {g : Nat} {s : LS}
theorem RAt.setNext (h : RAt F w g s) (n : Int) : RAt F (w.setCell ⟨g, 0, none⟩ (.int .i64 n)) g ⟨s.base, n, s.l⟩ := by
  obtain ⟨v, h1, h2, h3⟩ := h
  have hk : Keep (fun b => b = g) w (w.setCell ⟨g, 0, none⟩ (.int .i64 n)) := (Keep.refl _ w).setCell _ _ (fun _ => rfl)
  exact ⟨v, by rw [heap_set h1]; rfl, h2.keep hk (fun k q e => q.2 e), h3⟩
theorem RAt.setBase (h : RAt F w g s) (n : Int) : RAt F (w.setCell ⟨g, 1, none⟩ (.int .i64 n)) g ⟨n, s.next, s.l⟩ := by
  obtain ⟨v, h1, h2, h3⟩ := h
  have hk : Keep (fun b => b = g) w (w.setCell ⟨g, 1, none⟩ (.int .i64 n)) := (Keep.refl _ w).setCell _ _ (fun _ => rfl)
  exact ⟨v, by rw [heap_set h1]; rfl, h2.keep hk (fun k q e => q.2 e), h3⟩
theorem RAt.lt (h : RAt F w g s) : g < w.heap.size := by obtain ⟨_, h, _⟩ := h; exact lt_heap h
set_option maxRecDepth 20000 in
set_option maxHeartbeats 4000000 in
theorem rstep_calls (h : RAt F w g s) (h0 : 0 ≤ s.next) (h1 : s.next < 1099511627776) : Calls Try.prog 25 #[.pointer (some ⟨g, 0, none⟩)] w fun e w' =>
    e = .returned (.bool (look s.l s.next).isSome) ∧ RAt F w' g (stepS s) ∧ Keep (fun k => k = g) w w' := by
  have H := hid h
  have hgl := h.lt
  obtain ⟨vl, hg, _⟩ := h
  have c0 := cell_at hg 0 (.int .i64 s.next) rfl
  clear hg
  go_enter Try.func25, Try.ntmps25
  go_wp2_with fail
  refine (rget_calls H.out s.next).mono ?_
  rintro e w1 ⟨v1, rfl, hs1, k1⟩
  have hst : ∀ b, (look s.l s.next).isSome = b → stepS s = if b then ⟨s.base, s.next + 1, s.l⟩ else s := fun b h => by rw [stepS, h]
  generalize (look s.l s.next).getD reqZero = rr at *
  generalize hoo : (look s.l s.next).isSome = oo at *
  have HST := hid (hst oo rfl)
  have HOO := hid hoo
  obtain ⟨A1, c1, rfl⟩ := hs1.shape
  have H1 := hid (H.out.keep k1 (fun _ _ => id))
  have K1 := hid k1
  clear hst hoo hs1 k1 c0
  have hgl1 := H1.out.lt
  cases oo
  · go_wp2_with (first
      | (refine wpl_allocB (z := .agg (reqCs reqZ' (.slice none 0 0)).toArray) rfl rfl (by kernel_rfl) ?_; intro g7 w7 hg7 hb7 k7 s7; have HG7 := hid hg7; have K7 := hid k7; clear hg7 k7 s7)
      | (refine wpl_storeB (v := .agg (reqCs rr (.slice A1 rr.changes.length c1)).toArray) rfl rfl rfl rfl hb7 (by kernel_rfl) (Nat.le_refl 11) (by simp [Value.oneCell', reqCs, Value.cells]) ?_; intro w8 hb8 k8 s8; have K8 := hid k8; clear k8 s8))
    have k18 : Keep (fun _ => False) w1 w8 := K7.out.trans K8.out (fun b hb e => by have := HG7.out; omega)
    go_ret
    rw [HST.out]
    exact ⟨by rw [HOO.out]; rfl, H1.out.keep k18 (fun _ _ => id), (K1.out.trans k18 (fun _ _ q => q)).mono (fun _ _ q => q.elim)⟩
  · go_wp2_with (first
      | (refine wpl_allocB (z := .agg (reqCs reqZ' (.slice none 0 0)).toArray) rfl rfl (by kernel_rfl) ?_; intro g7 w7 hg7 hb7 k7 s7; have HG7 := hid hg7; have K7 := hid k7; clear hg7 k7 s7)
      | (refine wpl_storeB (v := .agg (reqCs rr (.slice A1 rr.changes.length c1)).toArray) rfl rfl rfl rfl hb7 (by kernel_rfl) (Nat.le_refl 11) (by simp [Value.oneCell', reqCs, Value.cells]) ?_; intro w8 hb8 k8 s8; have k18 : Keep (fun _ => False) w1 w8 := K7.out.trans k8 (fun b hb e => by have := HG7.out; omega); have H8 := hid (H1.out.keep k18 (fun _ _ => id)); have K18 := hid k18; have hg8 : ∃ vl, w8.heap[g]? = some (RObj s vl) := (by obtain ⟨vl, q, _⟩ := H8.out; exact ⟨vl, q⟩); have c0 : w8.cell? ⟨g, 0, none⟩ = some (.int .i64 s.next) := (by obtain ⟨vl, q⟩ := hg8; exact cell_at q 0 _ rfl); have f0 : w8.frozen? ⟨g, 0, none⟩ = false := (by obtain ⟨vl, q⟩ := hg8; exact free_at q 0); clear k8 s8 k18 hg8))
    go_ret
    rw [HST.out]
    have hww : wrap64 (s.next + 1) = s.next + 1 := by unfold wrap64; omega
    try rw [hww]
    exact ⟨by rw [HOO.out]; rfl, H8.out.setNext _, ((K1.out.trans K18.out (fun _ _ q => q)).mono (fun _ _ q => q.elim)).setCell _ _ (fun _ => rfl)⟩
theorem fromE_take {l : List (Int × Req)} {slot : Int} {j : Nat} {x : Int × Req} (hx : l[j]? = some x) : fromE (l.take (j + 1)) slot = fromE (l.take j) slot ++ if x.1 < slot then [] else [x] := by
  rw [List.take_add_one, hx]
  unfold fromE
  rw [List.filter_append]
  congr 1
  by_cases h : x.1 < slot <;> simp [h]
set_option maxRecDepth 20000 in
set_option maxHeartbeats 8000000 in
theorem rforget_calls (h : RAt F w g s) (hF : ∀ k, F k → k < w.heap.size) (slot : Int) (hsl : s.l.length ≤ 100000) : Calls Try.prog 53 #[.pointer (some ⟨g, 0, none⟩), .int .i64 slot] w fun e w' =>
    e = .returned (.tuple #[]) ∧ RAt (Grow F w w') w' g ⟨slot, s.next, fromE s.l slot⟩ ∧ Keep (fun k => k = g) w w' := by
  have hgl := h.lt
  have H1 := hid (h.setBase slot)
  obtain ⟨vl, hg, _⟩ := h
  have f1 := free_at hg 1
  have c1 := cell_at hg 1 (.int .i64 s.base) rfl
  have K1 := hid ((Keep.refl (fun k => k = g) w).setCell ⟨g, 1, none⟩ (.int .i64 slot) (fun _ => rfl))
  go_enter Try.func53, Try.ntmps53
  go_wp2_with fail
  have hs1 := K1.out.size
  have hs1' : (w.setCell ⟨g, 1, none⟩ (.int .i64 slot)).heap.size = w.heap.size := by simp
  generalize w.setCell ⟨g, 1, none⟩ (.int .i64 slot) = w1 at *
  clear f1 c1 hg
  obtain ⟨v, hg1, hsl1, hgF, hch⟩ := H1.out
  simp only at hg1 hsl1 hch
  obtain ⟨A, c, rfl⟩ := hsl1.shape
  obtain ⟨n, hn⟩ : ∃ n, n = s.l.length := ⟨_, rfl⟩
  rw [← hn] at hg1 hsl1 hsl
  have HN := hid hn; have HG1 := hid hg1; have HS1 := hid hsl1; have HCH := hid hch; have HF := hid hF
  clear hn hg1 hsl1 hch hF H1
  go_loopw [4, 5] (fun o i wr => ∃ (j m : Nat) (Ao : Option Addr) (co : Nat) (cs : List Value), j ≤ n ∧ m ≤ j ∧ i = .int .i64 j ∧ o = .slice Ao m co ∧ m = (fromE (s.l.take j) slot).length ∧ wr.ownsRow 0 92 12 (.slice Ao m co) m cs ∧
    Parts .lrn wr (fun k => F k ∧ k ≠ g) cs (fromE (s.l.take j) slot) ∧ (∀ b, (Value.slice Ao m co).ownBlock = some b → w1.heap.size ≤ b) ∧ Keep (fun _ => False) w1 wr) (fun _ i _ => n - (intOf i).toNat)
  case atStart => exact ⟨0, 0, none, 0, [], Nat.zero_le _, Nat.le_refl _, rfl, rfl, rfl, World.ownsRow_nil _ 0 _ _, Parts.nil, fun b hb => by simp [Value.ownBlock] at hb, Keep.refl _ _⟩
  case round =>
    obtain ⟨j, m, Ao, co, cs, hj, hmj, rfl, rfl, hm, ho, hpa, hnb, hkp⟩ := hrel
    have cl := cell_at (hkp.heap HG1.out id) 2 (.slice A n c) rfl
    have HM := hid hm; have HO := hid ho; have HPA := hid hpa; have HNB := hid hnb; have HKP := hid hkp
    have hgr : g < wr.heap.size := lt_heap (hkp.heap HG1.out id)
    by_cases hlt : j < n
    · obtain ⟨x, hx⟩ : ∃ x, s.l[j]? = some x := ⟨s.l[j]'(by rw [← HN.out]; exact hlt), by simp [show j < s.l.length by rw [← HN.out]; exact hlt]⟩
      obtain ⟨A', c', b, off, cx, he, rfl, hcs, hcell⟩ := elem_cells7 (HS1.out.keep hkp (fun _ _ => id)) HN.out hx
      simp only [Value.slice.injEq, true_and] at he
      obtain ⟨rfl, rfl⟩ := he
      have HCX := hid hcs
      obtain ⟨vc, rfl, hok, hvc, _⟩ := lrn_cells hcs
      obtain ⟨Ac, cc, rfl⟩ := hvc.shape
      have hsz : Rep.lrn.size = 12 := rfl
      rw [hsz] at hcell
      have d0 : wr.cell? ⟨b, off + j * 12, none⟩ = some (.int .i64 x.1) := hcell 0 _ rfl
      have hr : wr.rangeAt b (off + j * 12) (lrnCs x.1 x.2 (.slice Ac x.2.changes.length cc)) := fun i u hu => hcell i u hu
      obtain ⟨dM, hu, hd⟩ : ∃ d, Try.prog.underlying 92 = some d ∧ d.isRow = true := ⟨_, Try.underlying92, rfl⟩
      have hi : (Try.prog.info? 92).map (·.size) = some 12 := by kernel_rfl
      have HFT := hid (fromE_take (slot := slot) hx)
      have HR := hid hr; have HU := hid hu; have HD := hid hd; have HI := hid hi
      clear hcs hcell hsz hr hu hd hi hvc hok hx hm ho hpa hnb hkp
      by_cases hk : x.1 < slot
      · have HK := hid hk
        go_wp2_with fail
        refine ⟨⟨j + 1, m, Ao, co, cs, by omega, by omega, by simp, rfl, ?_, HO.out, ?_, HNB.out, HKP.out⟩, by simp [intOf]; omega⟩
        · rw [HFT.out, if_pos HK.out, List.append_nil]; exact HM.out
        · rw [HFT.out, if_pos HK.out, List.append_nil]; exact HPA.out
      · have HK := hid hk
        have hjm : m ≤ 100000 := by omega
        go_wp2_with (first
          | (refine wpList_load_mid rfl _ _ rfl b (off + j * 12) rfl (lrnCs x.1 x.2 (.slice Ac x.2.changes.length cc)) dM HR.out HU.out HD.out HI.out ?_)
          | (refine wpl_sliceOne (v := .agg (lrnCs x.1 x.2 (.slice Ac x.2.changes.length cc)).toArray) (z := .agg (lrnCs 0 reqZ' (.slice none 0 0)).toArray) rfl rfl Try.underlying47 (n := 12) (by kernel_rfl) (by decide) (by decide) rfl (by simp [Value.cells, lrnCs, reqCs]) ?_; intro g12 w12 hg12 hb12 k12 s12; have HG12 := hid hg12; have HB12 := hid hb12; have K12 := hid k12; clear hg12 hb12 k12 s12)
          | (at_builtin; refine stopHere ?_))
        have hrow1 : Row (fun q => q = g12) w12 (.slice (some ⟨g12, 0, none⟩) 1 1) 1 12 (lrnCs x.1 x.2 (.slice Ac x.2.changes.length cc)) := ⟨_, _, rfl, rfl, Nat.le_refl _, by decide, .inr ⟨g12, 0, rfl, rfl, lt_heap HB12.out, fun j u hu => cell_at HB12.out _ u (by rw [Nat.zero_add]; show (lrnCs _ _ _).toArray[j]? = _; simpa using hu)⟩⟩
        refine goOn (wpl_app (v := .slice Ao m co) rfl rfl T_L rfl (K12.out.owns HO.out (fun _ _ => id)) rfl hrow1 (by simp [lrnCs, reqCs, Value.oneCell']) (by omega) (by omega) ?_)
        intro A13 c13 w13 ho13 hk13 hn13
        have K13 := hid hk13; have HO13 := hid ho13; have HN13 := hid hn13
        have k113 : Keep (fun _ => False) wr w13 → True := fun _ => trivial
        clear ho13 hk13 hn13 hrow1 k113
        go_wp2_with fail
        have hob : ∀ q, (Value.slice Ao m co).ownBlock = some q → w1.heap.size ≤ q := HNB.out
        have kr : Keep (fun q => some q = (Value.slice Ao m co).ownBlock) wr w13 := (K12.out.mono (fun _ _ h => h.elim)).trans K13.out (fun _ _ h => h)
        have hFb : ∀ q, F q ∧ q ≠ g → ¬ some q = (Value.slice Ao m co).ownBlock := fun q hq e => by have := hob q e.symm; have := HF.out q hq.1; omega
        refine ⟨⟨j + 1, m + 1, A13, c13, _, by omega, by omega, by simp, rfl, ?_, HO13.out, ?_, ?_, HKP.out.trans kr (fun q hq e => by have := hob q e.symm; omega)⟩, by simp [intOf]; omega⟩
        · rw [HFT.out, if_neg (by have := HK.out; omega), List.length_append, ← HM.out]; rfl
        · rw [HFT.out, if_neg (by have := HK.out; omega)]
          exact Parts.app (HPA.out.keep kr hFb) (by rw [HO.out.1, ← HM.out]; rfl) (Parts.one (Rep.lrn.keep HCX.out kr hFb))
        · intro q hq
          rcases HN13.out q hq with e | e
          · exact hob q e
          · have := HKP.out.size; have := K12.out.size; omega
    · obtain rfl : j = n := by omega
      have f2 := free_at (hkp.heap HG1.out id) 2
      have HGR := hid (hkp.heap HG1.out id)
      clear hm ho hpa hnb hkp
      go_wp2_with fail
      go_end0
      have ks : Keep (fun q => q = g) wr (wr.setCell ⟨g, 2, none⟩ (.slice Ao m co)) := (Keep.refl _ wr).setCell _ _ (fun _ => rfl)
      have hgn : (wr.setCell ⟨g, 2, none⟩ (.slice Ao m co)).heap[g]? = some (RObj ⟨slot, s.next, fromE s.l slot⟩ (.slice Ao m co)) := by rw [heap_set HGR.out]; rfl
      have htk : s.l.take j = s.l := List.take_of_length_le (by rw [← HN.out]; exact Nat.le_refl _)
      have hm := HM.out
      have hpa := HPA.out
      rw [htk] at hm hpa
      have e1 := ks.size
      have e2 := HKP.out.size
      refine ⟨rfl, ⟨_, hgn, ?_, .inl hgF, fun p hp => HCH.out p (List.mem_filter.1 hp).1⟩, (K1.out.trans (HKP.out.mono (fun _ _ h => h.elim)) (fun _ _ h => h)).trans ks (fun _ _ h => h)⟩
      refine Parts.sl ((hpa.keep ks (fun q hq e => hq.2 e)).mono (fun q hq => ⟨.inl hq.1, hq.2⟩)) (F := fun q => Grow F w (wr.setCell ⟨g, 2, none⟩ (.slice Ao m co)) q ∧ q ≠ g) ?_ (fun _ h => h)
      rw [← hm]
      refine ((Row.ofOwn HO.out).keep ks (fun b hb e => by have e : b = g := e; have := HNB.out b hb.symm; omega)).mono (fun b hb => ?_)
      have h1 := HNB.out b hb.symm
      have h2 := own_lt' HO.out b hb.symm
      exact ⟨.inr ⟨by omega, by omega⟩, by omega⟩
def rcutS (s : LS) (slot : Int) : LS := if s.base < min slot s.next then ⟨min slot s.next, s.next, fromE s.l (min slot s.next)⟩ else s
theorem RAt.grow (h : RAt F w g s) : RAt (Grow F w w) w g s := h.mono (fun _ => .inl)
set_option maxRecDepth 20000 in
set_option maxHeartbeats 4000000 in
theorem rcut_calls (h : RAt F w g s) (hF : ∀ k, F k → k < w.heap.size) (slot : Int) (hsl : s.l.length ≤ 100000) : Calls Try.prog 26 #[.pointer (some ⟨g, 0, none⟩), .int .i64 slot] w fun e w' =>
    e = .returned (.tuple #[]) ∧ RAt (Grow F w w') w' g (rcutS s slot) ∧ Keep (fun k => k = g) w w' := by
  have H := hid h
  obtain ⟨mn, hmn⟩ : ∃ mn, mn = min slot s.next := ⟨_, rfl⟩
  have hfg := rforget_calls h hF mn hsl
  obtain ⟨vl, hg, _⟩ := h
  have c0 := cell_at hg 0 (.int .i64 s.next) rfl
  have c1 := cell_at hg 1 (.int .i64 s.base) rfl
  have hR : rcutS s slot = if s.base < mn then ⟨mn, s.next, fromE s.l mn⟩ else s := by rw [rcutS, ← hmn]
  have HR := hid hR
  have HFG := hid hfg
  clear hg hR hfg
  by_cases hs : s.next < slot
  · have e : s.next = mn := by omega
    subst e
    clear hmn
    by_cases hb : s.base < s.next
    · have HB := hid hb
      go_enter Try.func26, Try.ntmps26
      go_wp2_with fail
      refine HFG.out.mono ?_
      rintro e w1 ⟨rfl, hr, hk⟩
      go_wp2_with fail
      go_end0
      rw [HR.out, if_pos HB.out]
      exact ⟨rfl, hr, hk⟩
    · have HB := hid hb
      go_enter Try.func26, Try.ntmps26
      go_wp2_with fail
      go_end0
      rw [HR.out, if_neg (by have := HB.out; omega)]
      exact ⟨rfl, H.out.grow, Keep.refl _ _⟩
  · have e : slot = mn := by omega
    subst e
    clear hmn
    by_cases hb : s.base < slot
    · have HB := hid hb
      go_enter Try.func26, Try.ntmps26
      go_wp2_with fail
      refine HFG.out.mono ?_
      rintro e w1 ⟨rfl, hr, hk⟩
      go_wp2_with fail
      go_end0
      rw [HR.out, if_pos HB.out]
      exact ⟨rfl, hr, hk⟩
    · have HB := hid hb
      go_enter Try.func26, Try.ntmps26
      go_wp2_with fail
      go_end0
      rw [HR.out, if_neg (by have := HB.out; omega)]
      exact ⟨rfl, H.out.grow, Keep.refl _ _⟩
set_option maxRecDepth 20000 in
set_option maxHeartbeats 4000000 in
theorem rjump_calls (h : RAt F w g s) (hF : ∀ k, F k → k < w.heap.size) (slot : Int) (hsl : s.l.length ≤ 100000) : Calls Try.prog 28 #[.pointer (some ⟨g, 0, none⟩), .int .i64 slot] w fun e w' =>
    e = .returned (.tuple #[]) ∧ RAt (Grow F w w') w' g (jumpS s slot) ∧ Keep (fun k => k = g) w w' := by
  have H := hid h
  have HF := hid hF
  have hgl := h.lt
  obtain ⟨vl, hg, _⟩ := h
  have c0 := cell_at hg 0 (.int .i64 s.next) rfl
  have f0 := free_at hg 0
  clear hg hF
  by_cases hb : s.next < slot
  · have HR := hid (show jumpS s slot = ⟨slot, slot, fromE s.l slot⟩ by rw [jumpS, if_pos hb])
    go_enter Try.func28, Try.ntmps28
    go_wp2_with fail
    have k1 : Keep (fun k => k = g) w (w.setCell ⟨g, 0, none⟩ (.int .i64 slot)) := (Keep.refl _ w).setCell _ _ (fun _ => rfl)
    have hsz : (w.setCell ⟨g, 0, none⟩ (.int .i64 slot)).heap.size = w.heap.size := by simp
    refine (rforget_calls (H.out.setNext slot) (fun k hk => by rw [hsz]; exact HF.out k hk) slot hsl).mono ?_
    rintro e w1 ⟨rfl, hr, hk⟩
    have HRR := hid hr; have HK := hid (k1.trans hk (fun _ _ h => h))
    have HSZ := hid hsz
    clear hr hk hsz k1 c0 f0
    go_wp2_with fail
    go_end0
    rw [HR.out]
    exact ⟨rfl, HRR.out.mono (fun k q => q.imp id (fun ⟨a, b⟩ => ⟨by rw [HSZ.out] at a; exact a, b⟩)), HK.out⟩
  · have HR := hid (show jumpS s slot = s by rw [jumpS, if_neg hb])
    go_enter Try.func28, Try.ntmps28
    go_wp2_with fail
    go_end0
    rw [HR.out]
    exact ⟨rfl, H.out.grow, Keep.refl _ _⟩
set_option maxRecDepth 20000 in
set_option maxHeartbeats 4000000 in
theorem rknown_calls (h : RAt F w g s) (hsl : s.l.length ≤ 100000) : Calls Try.prog 33 #[.pointer (some ⟨g, 0, none⟩)] w fun e w' =>
    ∃ v, e = .returned v ∧ Row (NewIn w w') w' v (s.l.map Prod.fst).length 1 ((s.l.map Prod.fst).map I64) ∧ Keep (fun _ => False) w w' := by
  obtain ⟨v, hg1, hsl1, hgF, hch⟩ := h
  obtain ⟨A, c, rfl⟩ := hsl1.shape
  obtain ⟨n, hn⟩ : ∃ n, n = s.l.length := ⟨_, rfl⟩
  rw [← hn] at hg1 hsl1 hsl
  have hgl := lt_heap hg1
  have HN := hid hn; have HG1 := hid hg1; have HS1 := hid hsl1
  clear hn hg1 hsl1 hch
  go_enter Try.func33, Try.ntmps33
  go_wp2_with fail
  go_loopw [3, 4] (fun o i wr => ∃ (j : Nat) (Ao : Option Addr) (co : Nat), j ≤ n ∧ i = .int .i64 j ∧ o = .slice Ao j co ∧ wr.ownsRow 0 3 1 (.slice Ao j co) j (((s.l.take j).map Prod.fst).map I64) ∧
    (∀ b, (Value.slice Ao j co).ownBlock = some b → w.heap.size ≤ b) ∧ Keep (fun _ => False) w wr) (fun _ i _ => n - (intOf i).toNat)
  case atStart => exact ⟨0, none, 0, Nat.zero_le _, rfl, rfl, World.ownsRow_nil _ 0 _ _, fun b hb => by simp [Value.ownBlock] at hb, Keep.refl _ _⟩
  case round =>
    obtain ⟨j, Ao, co, hj, rfl, rfl, ho, hnb, hkp⟩ := hrel
    have cl := cell_at (hkp.heap HG1.out id) 2 (.slice A n c) rfl
    have HO := hid ho; have HNB := hid hnb; have HKP := hid hkp
    by_cases hlt : j < n
    · obtain ⟨x, hx⟩ : ∃ x, s.l[j]? = some x := ⟨s.l[j]'(by rw [← HN.out]; exact hlt), by simp [show j < s.l.length by rw [← HN.out]; exact hlt]⟩
      obtain ⟨A', c', b, off, cx, he, rfl, hcs, hcell⟩ := elem_cells7 (HS1.out.keep hkp (fun _ _ => id)) HN.out hx
      simp only [Value.slice.injEq, true_and] at he
      obtain ⟨rfl, rfl⟩ := he
      obtain ⟨vc, rfl, hok, hvc, _⟩ := lrn_cells hcs
      have hsz : Rep.lrn.size = 12 := rfl
      rw [hsz] at hcell
      have d0 : wr.cell? ⟨b, off + j * 12, none⟩ = some (.int .i64 x.1) := hcell 0 _ rfl
      have HX := hid hx
      clear hcs hcell hsz hvc hok hx ho hnb hkp
      go_wp2_with (at_builtin; refine stopHere ?_)
      have kal : ∀ o, Keep (fun _ => False) wr (wr.alloc o) := fun o => (Keep.refl _ wr).alloc o
      refine goOn (wpl_app (v := .slice Ao j co) rfl rfl SLI15 rfl (ownsAlloc HO.out _) rfl (Row.one wr _ _) (by simp [Value.oneCell']) (by omega) (by omega) ?_)
      intro A13 c13 w13 ho13 hk13 hn13
      have K13 := hid (((kal _).mono (T := fun q => some q = (Value.slice Ao j co).ownBlock) (fun _ _ h => h.elim)).trans hk13 (fun b _ e => e)); have HO13 := hid ho13; have HN13 := hid hn13
      clear ho13 hk13 hn13 kal
      go_wp2_with fail
      refine ⟨⟨j + 1, A13, c13, by omega, by simp, rfl, ?_, ?_, HKP.out.trans K13.out (fun q hq e => by have := HNB.out q e.symm; omega)⟩, by simp [intOf]; omega⟩
      · rw [List.take_add_one, HX.out]
        have := HO13.out
        simpa using this
      · intro q hq
        rcases HN13.out q hq with e | e
        · exact HNB.out q e
        · have := HKP.out.size; simp at e; omega
    · obtain rfl : j = n := by omega
      clear ho hnb hkp
      go_wp2_with fail
      go_ret
      have htk : s.l.take j = s.l := List.take_of_length_le (by rw [← HN.out]; exact Nat.le_refl _)
      have ho := HO.out
      rw [htk] at ho
      refine ⟨_, rfl, ?_, HKP.out⟩
      rw [List.length_map, ← HN.out]
      exact (Row.ofOwn ho).mono (fun b hb => ⟨HNB.out b hb.symm, own_lt' ho b hb.symm⟩)
end
end Go.Proofs.Ytiomeoihekifeaa
