/- wapentakelaw16.TallyPlays. -/
import Derived.Test.YthlgnilgjeebaaaTalChk
import Derived.Test.YthlgnilgjeebaaaTalA
namespace Go.Proofs.Ythlgnilgjeebaaa
open Go.RowKit Go.MapKept
theorem TInv.sum {n : Nat} {s : TS} (h : TInv n s) (b : Bool) (id base slot : Int) (l : List Vote) : TInv (n + 1) (if b then promS s id base l else voteS s slot id) := by
  cases b
  · exact h.vote slot id
  · exact h.prom id base l
/-- What one deed does. -/
def pStep (d : TDeed) (s : TS) : TS := if decide (d.do_ ≤ 3) then promS s d.id d.base d.v else voteS s d.slot d.id
def pStepR (d : TDeed) (r : RS) : RS := if decide (d.do_ ≤ 3) then rpromS r d.id d.base d.v else rvoteS r d.slot d.id
def pS (fr : Int) (l : List TDeed) : TS := l.foldl (fun s d => pStep d s) ⟨20, fr, [], [], fr, []⟩
def pR (fr : Int) (l : List TDeed) : RS := l.foldl (fun s d => pStepR d s) ⟨20, fr, [], []⟩
theorem pS_next {l : List TDeed} {k : Nat} {d : TDeed} (fr : Int) (h : l[k]? = some d) : pS fr (l.take (k + 1)) = pStep d (pS fr (l.take k)) := by
  rw [pS, List.take_add_one, h, List.foldl_append]; rfl
theorem pR_next {l : List TDeed} {k : Nat} {d : TDeed} (fr : Int) (h : l[k]? = some d) : pR fr (l.take (k + 1)) = pStepR d (pR fr (l.take k)) := by
  rw [pR, List.take_add_one, h, List.foldl_append]; rfl
structure PInvT (fr : Int) (k : Nat) (s : TS) (r : RS) : Prop where
  rel : TRel fr s r
  inv : TInv k s
  lp : r.P.length ≤ k
  lc : r.C.length ≤ k
theorem pS_inv (fr : Int) (l : List TDeed) (hl : l.all deedOk = true) : ∀ k, k ≤ l.length → PInvT fr k (pS fr (l.take k)) (pR fr (l.take k))
  | 0, _ => ⟨TRel.new fr, TInv.new 20 fr, Nat.le_refl _, Nat.le_refl _⟩
  | k + 1, hk => by
    have ih := pS_inv fr l hl k (by omega)
    have hx : l[k]? = some l[k] := List.getElem?_eq_getElem (by omega)
    have hd : deedOk l[k] = true := List.all_eq_true.1 hl _ (List.getElem_mem (by omega))
    have hch : ∀ x ∈ l[k].v, x.value.changes.length ≤ 4294967296 := fun x hx => by
      simp only [deedOk, votesOk, Bool.and_eq_true, List.all_eq_true, decide_eq_true_eq] at hd
      have := hd.2 x hx; omega
    rw [pS_next fr hx, pR_next fr hx, pStep, pStepR]
    have h1 := rprom_len (pR fr (l.take k)) l[k].id l[k].base l[k].v
    have h2 := rvote_len (pR fr (l.take k)) l[k].slot l[k].id
    have := ih.lp
    have := ih.lc
    split
    · exact ⟨ih.rel.prom _ _ _ hch, ih.inv.prom _ _ _, by omega, by omega⟩
    · exact ⟨ih.rel.vote _ _, ih.inv.vote _ _, by omega, by omega⟩
section
variable {F : Nat → Prop} {w : World} {v1 v2 : Value} {M : List Int} {l : List TDeed}
/-- Where a round goes on to check. -/
structure Chk (fr : Int) (B : Nat) (w0 w : World) (g g2 gd k : Nat) (x : TDeed) (v : Value) (s : TS) (r : RS) : Prop where
  two : Two B (fun q => q = gd) w g g2 s r
  inv : PInvT fr k s r
  deed : w.heap[gd]? = some (.cells (deedCs x v).toArray 30)
  kp : Keep (fun q => B ≤ q) w0 w
  hB : B ≤ w.heap.size
set_option maxRecDepth 20000 in
set_option maxHeartbeats 16000000 in
theorem tallyPlays_row (fr : Int) (_ : (Lit.int .i64 fr).wf = true) (hM : Row F w v1 M.length 1 (M.map I64)) (_ : ∀ n ∈ M, (Lit.int .i64 n).wf = true) (hv : Sl .tdeed w (fun b => b < w.heap.size) v2 l) :
    Calls Try.prog 5 #[.int .i64 fr, v1, v2] w fun e w' => e = .returned (.bool true) ∧ Below w.heap.size w w' := by
  obtain ⟨A0, c0, rfl⟩ := hM.shape
  obtain ⟨A1, c1, rfl⟩ := hv.shape
  have hmax : M.length ≤ 9223372036854775807 := by have := hM.cap; unfold maxLen at this; omega
  have hmax1 := hv.cap
  have HM := hid hM; have HV := hid hv
  obtain ⟨m, hm⟩ : ∃ m, m = M.length := ⟨_, rfl⟩
  obtain ⟨n, hn⟩ : ∃ n, n = l.length := ⟨_, rfl⟩
  rw [← hm] at hmax
  rw [← hn] at hmax1
  rw [← hm, ← hn]
  have HMM := hid hm; have HN := hid hn
  clear hM hv hm hn
  go_enter Try.func5, Try.ntmps5
  go_wp2_with fail
  refine (awake16_calls w).mono ?_
  rintro e w0 ⟨rfl, k0⟩
  have K0 := hid k0
  clear k0
  by_cases hm1 : 100 < m
  case pos =>
    go_wp2_with fail
    go_ret
    exact ⟨rfl, K0.out.below (Nat.le_refl _) (fun _ _ f => f)⟩
  go_wp2_with fail
  have hroom := room16_calls (HV.out.keep K0.out (fun _ _ => id))
  rw [← HN.out] at hroom
  refine hroom.mono ?_
  rintro e w' ⟨rfl, rfl⟩
  clear hroom
  cases hrm : roomT l
  case false =>
    clear hrm
    go_wp2_with fail
    go_ret
    exact ⟨rfl, K0.out.below (Nat.le_refl _) (fun _ _ f => f)⟩
  have hn100 : n ≤ 100 := by
    simp only [roomT, Bool.and_eq_true, decide_eq_true_eq] at hrm
    have := HN.out; omega
  have hall : l.all deedOk = true := by
    simp only [roomT, Bool.and_eq_true] at hrm
    exact hrm.2
  have HALL := hid hall
  clear hrm hall
  go_wp2_with fail
  refine (tnew_calls 20 fr).mono ?_
  rintro e w1 ⟨g, rfl, ht1, k1⟩
  have HT1 := hid ht1; have K1 := hid k1
  clear ht1 k1
  go_wp2_with fail
  have hobj2 := heap_alloc_new w1 (RObj ⟨20, fr, [], []⟩ (.slice none 0 0) (.slice none 0 0))
  have ka2 : Keep (fun _ => False) w1 (w1.alloc (RObj ⟨20, fr, [], []⟩ (.slice none 0 0) (.slice none 0 0))) := (Keep.refl _ w1).alloc _
  have htwo : Two w0.heap.size (fun _ => False) (w1.alloc (RObj ⟨20, fr, [], []⟩ (.slice none 0 0) (.slice none 0 0))) g w1.heap.size (pS fr []) (pR fr []) := by
    have hs := K1.out.size
    refine ⟨NewIn w0 w1, fun k => k = w1.heap.size, HT1.out.keep ka2 (fun _ _ => id), ⟨none, none, 0, 0, [], [], hobj2, World.ownsRow_nil _ _ _ _, Parts.nil, World.ownsRow_nil _ _ _ _, Parts.nil, rfl, fun b hb => by simp [Value.ownBlock] at hb, fun b hb => by simp [Value.ownBlock] at hb⟩, fun k q => ?_, fun k q e => by have := q.2; omega⟩
    rcases q with ⟨q1, q2⟩ | q
    · exact ⟨q1, by simp; omega, id⟩
    · exact ⟨by omega, by simp; omega, id⟩
  have hk02 : Keep (fun q => w0.heap.size ≤ q) w0 (w1.alloc (RObj ⟨20, fr, [], []⟩ (.slice none 0 0) (.slice none 0 0))) := ((K1.out.trans ka2 (fun _ _ f => f)).mono (fun _ _ f => f.elim))
  generalize w1.alloc (RObj ⟨20, fr, [], []⟩ (.slice none 0 0) (.slice none 0 0)) = w2 at *
  obtain ⟨g2, hg2⟩ : ∃ g2, g2 = w1.heap.size := ⟨_, rfl⟩
  rw [← hg2] at htwo ⊢
  have HTW := hid htwo; have HK02 := hid hk02
  clear htwo hk02 hg2 hobj2 ka2
  have HMR := hid (show ∀ W, Keep (fun q => w0.heap.size ≤ q) w0 W → Row (fun q => F q ∧ q < w.heap.size) W (.slice A0 m c0) M.length 1 (M.map I64) from fun W hW => by
    rw [HMM.out]
    refine Row.keep (S := fun q => w0.heap.size ≤ q) ?_ hW (fun b hb q => by have := K0.out.size; omega)
    refine Row.keep ?_ K0.out (fun _ _ => id)
    obtain ⟨A', c', he, q1, q2, q3, q4⟩ := HM.out
    exact ⟨A', c', he, q1, q2, q3, q4.imp _root_.id (fun ⟨b, off, h1, h2, h3, h4⟩ => ⟨b, off, h1, ⟨h2, h3⟩, h3, h4⟩)⟩)
  have HVR := hid (show ∀ W, Keep (fun q => w0.heap.size ≤ q) w0 W → Sl .tdeed W (fun b => b < w.heap.size) (.slice A1 l.length c1) l from fun W hW => (HV.out.keep K0.out (fun _ _ => id)).keep hW (fun b hb q => by have := K0.out.size; omega))
  go_loopw [9] (fun i wr => ∃ k : Nat, k ≤ n ∧ i = .int .i64 k ∧ Two w0.heap.size (fun _ => False) wr g g2 (pS fr (l.take k)) (pR fr (l.take k)) ∧ Keep (fun q => w0.heap.size ≤ q) w0 wr) (fun i _ => n - (intOf i).toNat)
  case atStart => exact ⟨0, Nat.zero_le _, rfl, HTW.out, HK02.out⟩
  case round =>
    obtain ⟨k, hk, rfl, htw, hkr⟩ := hrel
    by_cases hlt : k < n
    · obtain ⟨x, hx⟩ : ∃ x, l[k]? = some x := ⟨l[k]'(by rw [← HN.out]; exact hlt), by simp [show k < l.length by rw [← HN.out]; exact hlt]⟩
      obtain ⟨A', c', b, off, cs, he, hb, _, hcs, hcell⟩ := elem_cells7 (HVR.out wr hkr) rfl hx
      simp only [Value.slice.injEq, true_and] at he
      obtain ⟨rfl, rfl⟩ := he
      subst hb
      obtain ⟨vc, rfl, hvc, hok1, hok2, hok3, hok4⟩ := tdeed_cells hcs
      obtain ⟨Av, cv, rfl⟩ := hvc.shape
      have hsz : Rep.tdeed.size = 5 := rfl
      rw [hsz] at hcell
      have hdok : deedOk x = true := List.all_eq_true.1 HALL.out x (List.mem_of_getElem? hx)
      have hch : ∀ y ∈ x.v, y.value.changes.length ≤ 4294967296 := fun y hy => by
        simp only [deedOk, votesOk, Bool.and_eq_true, List.all_eq_true, decide_eq_true_eq] at hdok
        have := hdok.2 y hy; omega
      have hxl : x.v.length ≤ 1000000 := by simp only [deedOk, Bool.and_eq_true, decide_eq_true_eq] at hdok; omega
      have hinv := pS_inv fr l HALL.out k (by rw [← HN.out]; omega)
      have hinv1 := pS_inv fr l HALL.out (k + 1) (by rw [← HN.out]; omega)
      have hn1 := pS_next fr hx
      have hn2 := pR_next fr hx
      have d0 := hcell 0 (.int .i64 x.do_) rfl
      rw [Nat.add_zero] at d0
      have d1 := hcell 1 (.int .i64 x.id) rfl
      have d2 := hcell 2 (.int .i64 x.base) rfl
      have d3 := hcell 3 (.int .i64 x.slot) rfl
      have d4 := hcell 4 (.slice Av x.v.length cv) rfl
      obtain ⟨nv, hnv⟩ : ∃ nv, nv = x.v.length := ⟨_, rfl⟩
      rw [← hnv] at d4
      have HX := hid hx; have HVC := hid hvc; have HO := hid (And.intro hok2 (And.intro hok3 hok4)); have HCH := hid hch; have HXL := hid hxl; have HINV := hid hinv; have HINV1 := hid hinv1; have HN1 := hid hn1; have HN2 := hid hn2; have HNV := hid hnv
      have HTW1 := hid htw; have HKR := hid hkr
      clear hcell hcs hx hvc hok1 hok2 hok3 hok4 hdok hch hxl hinv hinv1 hn1 hn2 hsz hnv htw hkr
      go_upto_region 14 with fail
      have hgd0 := heap_alloc_new wr (.cells (deedCs x (.slice Av nv cv)).toArray 30)
      have ka : Keep (fun _ => False) wr (wr.alloc (.cells (deedCs x (.slice Av nv cv)).toArray 30)) := (Keep.refl _ wr).alloc _
      have hsa : (wr.alloc (.cells (deedCs x (.slice Av nv cv)).toArray 30)).heap.size = wr.heap.size + 1 := by simp
      change Code.wp _ _ _ _ (wr.alloc (.cells (deedCs x (.slice Av nv cv)).toArray 30))
      generalize wr.alloc (.cells (deedCs x (.slice Av nv cv)).toArray 30) = wa at *
      obtain ⟨gd, hgd⟩ : ∃ gd, gd = wr.heap.size := ⟨_, rfl⟩
      rw [← hgd] at hgd0 hsa ⊢
      have hBw : w0.heap.size ≤ wa.heap.size := by have := HKR.out.size; have := ka.size; omega
      have htwa : Two w0.heap.size (fun q => q = gd) wa g g2 (pS fr (l.take k)) (pR fr (l.take k)) := (HTW1.out.x (Y := fun q => q = gd) (fun q hq => .inr (by omega))).keep ka
      have hka : Keep (fun q => w0.heap.size ≤ q) w0 wa := HKR.out.trans ka (fun _ _ f => f.elim)
      have hva : Sl .vote wa (fun b => b < w.heap.size) (.slice Av x.v.length cv) x.v := HVC.out.keep ka (fun _ _ => id)
      have HGD := hid hgd; have HSA := hid hsa; have HTWA := hid htwa; have HKA := hid hka; have HVA := hid hva; have HBW := hid hBw; have HD0 := hid hgd0
      clear d0 d1 d2 d3 d4 hgd hsa ka htwa hka hva hBw
      have q0 := cell_at hgd0 0 (.int .i64 x.do_) rfl
      have q1 := cell_at hgd0 1 (.int .i64 x.id) rfl
      have q2 := cell_at hgd0 2 (.int .i64 x.base) rfl
      have q3 := cell_at hgd0 3 (.int .i64 x.slot) rfl
      have q4 := cell_at hgd0 4 (.slice Av nv cv) rfl
      have HXB := hid (show ∀ q, q = gd → q < wa.heap.size from fun q e => by have := HSA.out; omega)
      have HWB := hid (show w.heap.size ≤ w0.heap.size from K0.out.size)
      go_upto_if 47 with fail
      go_cut [11, 12, 13] from 47 to 79 (fun s11 _ _ wx => s11 = .bool true ∧ Chk fr w0.heap.size w0 wx g g2 gd (k + 1) x (.slice Av nv cv) (pS fr (l.take (k + 1))) (pR fr (l.take (k + 1))))
      case first =>
        by_cases hdo : x.do_ ≤ 3
        · have hdd : decide (x.do_ ≤ 3) = true := by simpa using hdo
          have HE := hid (show pStep x (pS fr (l.take k)) = promS (pS fr (l.take k)) x.id x.base x.v ∧ pStepR x (pR fr (l.take k)) = rpromS (pR fr (l.take k)) x.id x.base x.v by rw [pStep, pStepR, hdd]; exact ⟨rfl, rfl⟩)
          clear hdd
          go_wp2_with fail
          have hc := promT_calls HTWA.out HXB.out HBW.out x.id x.base HVA.out (fun q hq => by have := HWB.out; omega) HCH.out
          rw [← HNV.out] at hc
          refine hc.mono ?_
          rintro e wb ⟨rfl, htb, kb⟩
          clear hc
          have hdb := kb.heap HD0.out (fun q => q.2 rfl)
          have HTB := hid htb; have HKB := hid (HKA.out.trans kb (fun _ _ q => q.1)); have HDB := hid hdb
          have HVB := hid (HVA.out.keep kb (fun q hq e => by have := HWB.out; have := e.1; omega))
          have HSB := hid kb.size
          rw [HINV.out.rel.promB x.id]
          clear htb kb q0 q1 q2 q3 q4
          have r1 := cell_at hdb 1 (.int .i64 x.id) rfl
          have r2 := cell_at hdb 2 (.int .i64 x.base) rfl
          have r4 := cell_at hdb 4 (.slice Av nv cv) rfl
          clear hdb
          go_wp2_with fail
          have hc := rpromT_calls HTB.out (fun q e => by have := HXB.out q e; have := HSB.out; omega) (by have := HBW.out; have := HSB.out; omega) (by have := HINV.out.lp; omega) x.id x.base HO.out.1 HO.out.2.1 HVB.out (fun q hq => by have := HWB.out; omega) HXL.out HCH.out
          rw [← HNV.out] at hc
          refine hc.mono ?_
          rintro e wc0 ⟨rfl, htc, kc⟩
          clear hc
          have HCK := hid (show Chk fr w0.heap.size w0 wc0 g g2 gd (k + 1) x (.slice Av nv cv) (pS fr (l.take (k + 1))) (pR fr (l.take (k + 1))) from ⟨by rw [HN1.out, HN2.out, HE.out.1, HE.out.2]; exact htc, HINV1.out, kc.heap HDB.out (fun q => q.2 rfl), HKB.out.trans kc (fun _ _ q => q.1), by have := HBW.out; have := HSB.out; have := kc.size; omega⟩)
          clear htc kc
          generalize rpromB (pR fr (l.take k)) x.id = pb
          go_wp2_with fail
          go_meet
          exact ⟨by simp, HCK.out⟩
        · have hdd : decide (x.do_ ≤ 3) = false := by simpa using hdo
          have HE := hid (show pStep x (pS fr (l.take k)) = voteS (pS fr (l.take k)) x.slot x.id ∧ pStepR x (pR fr (l.take k)) = rvoteS (pR fr (l.take k)) x.slot x.id by rw [pStep, pStepR, hdd]; exact ⟨rfl, rfl⟩)
          clear hdd
          go_wp2_with fail
          refine (voteT_calls HTWA.out HXB.out HBW.out x.slot x.id HO.out.2.2 HINV.out.inv (by omega)).mono ?_
          rintro e wb ⟨rfl, htb, kb⟩
          have hdb := kb.heap HD0.out (fun q => q.2 rfl)
          have HTB := hid htb; have HKB := hid (HKA.out.trans kb (fun _ _ q => q.1)); have HDB := hid hdb
          have HSB := hid kb.size
          rw [HINV.out.rel.voteB x.slot x.id]
          clear htb kb q0 q1 q2 q3 q4
          have r1 := cell_at hdb 1 (.int .i64 x.id) rfl
          have r3 := cell_at hdb 3 (.int .i64 x.slot) rfl
          clear hdb
          go_wp2_with fail
          refine (rvoteT_calls HTB.out (fun q e => by have := HXB.out q e; have := HSB.out; omega) (by have := HBW.out; have := HSB.out; omega) (by have := HINV.out.lc; omega) x.slot x.id HO.out.2.2 HO.out.1).mono ?_
          rintro e wc0 ⟨rfl, htc, kc⟩
          have HCK := hid (show Chk fr w0.heap.size w0 wc0 g g2 gd (k + 1) x (.slice Av nv cv) (pS fr (l.take (k + 1))) (pR fr (l.take (k + 1))) from ⟨by rw [HN1.out, HN2.out, HE.out.1, HE.out.2]; exact htc, HINV1.out, kc.heap HDB.out (fun q => q.2 rfl), HKB.out.trans kc (fun _ _ q => q.1), by have := HBW.out; have := HSB.out; have := kc.size; omega⟩)
          clear htc kc
          generalize rvoteB (pR fr (l.take k)) x.slot x.id = pb
          go_wp2_with fail
          go_meet
          exact ⟨by simp, HCK.out⟩
      case rest =>
        obtain ⟨rfl, hck⟩ := hcut
        clear q0 q1 q2 q3 q4 hgd0
        have HCK := hid hck
        have hbd := hck.deed
        clear hck
        have q3 := cell_at hbd 3 (.int .i64 x.slot) rfl
        generalize hgs : pS fr (l.take (k + 1)) = s at *
        generalize hgr : pR fr (l.take (k + 1)) = r at *
        have HGS := hid hgs; have HGR := hid hgr
        clear hgs hgr
        go_wp2_with fail
        refine (valN_calls HCK.out.two.talN x.slot HO.out.2.2.wf).mono ?_
        rintro e w5 ⟨⟨A9, c9, rfl, hs9, hl9, k5⟩, _⟩
        have hrel := HCK.out.inv.rel
        have hval := hrel.val x.slot
        have hvR : valR s x.slot = ((rvalR r x.slot).getD votZ).value := by rw [valR, hval]
        have hsome : (look s.best x.slot).isSome = (rvalR r x.slot).isSome := by rw [hval]
        rw [hsome, hvR]
        rw [hvR] at hs9 hl9
        obtain ⟨iv, hiv⟩ : ∃ iv, iv = (rvalR r x.slot).isSome := ⟨_, rfl⟩
        obtain ⟨rq, hrq⟩ : ∃ rq, rq = ((rvalR r x.slot).getD votZ).value := ⟨_, rfl⟩
        rw [← hiv, ← hrq]
        rw [← hrq] at hs9 hl9
        obtain ⟨nq, hnq⟩ : ∃ nq, nq = rq.changes.length := ⟨_, rfl⟩
        rw [← hnq] at hs9 hl9 ⊢
        have HNQ := hid hnq; have HIV := hid hiv; have HRQ := hid hrq; have HS9 := hid hs9; have K5 := hid k5
        have hbd5 := k5.heap hbd id
        have HT5 := hid (HCK.out.two.keep k5)
        clear hs9 k5 hrel hval hvR hsome hiv hrq hnq q3 hbd
        go_upto_region 20 with (first
          | (refine wpl_allocB (ty := 34) rfl rfl (z := .agg (reqCs reqZ' (.slice none 0 0)).toArray) (by kernel_rfl) ?_; intro ga w6 hga hba k6 s6; have HGA := hid hga; have HSA6 := hid s6; have K6 := hid k6; clear hga s6 k6)
          | (refine wpl_storeB (v := .agg (reqCs rq (.slice A9 nq c9)).toArray) rfl rfl rfl rfl hba (by kernel_rfl) (by simp [reqCs, Value.cells]) (by simp [reqCs, Value.oneCell', Value.cells]) ?_; intro w7 hba7 k7 s7; have HSA7 := hid s7; have K57 := hid (K6.out.trans k7 (fun q hq e => by have := HGA.out; omega)); clear s7 k7; replace hba7 : w7.heap[ga]? = some (.cells (reqCs rq (.slice A9 nq c9)).toArray 34) := hba7))
        have hbd7 := K57.out.heap hbd5 id
        have q3 := cell_at hbd7 3 (.int .i64 x.slot) rfl
        have HT7 := hid (HT5.out.keep K57.out)
        have HBD7 := hid hbd7; have HBA7 := hid hba7
        clear hbd5 hbd7 hba7 hba
        obtain ⟨FR, AP, AC, cP, cC, hrv, hFR⟩ := HT7.out.ref
        have hrvc := rval_calls hrv hFR x.slot HCK.out.inv.rel.ch
        clear hrv hFR
        go_wp2_with fail
        refine Calls.mono hrvc ?_
        rintro e w8 ⟨A10, c10, rfl, hs10, k8⟩
        rw [← HIV.out, ← HRQ.out, ← HNQ.out]
        rw [← HRQ.out, ← HNQ.out] at hs10
        have HS10 := hid hs10; have K8 := hid k8
        clear hs10 k8 hrvc q3
        have hbd8 := K8.out.heap HBD7.out id
        have hba8 := K8.out.heap HBA7.out id
        go_upto_region 21 with (first
          | (refine wpl_allocB (ty := 34) rfl rfl (z := .agg (reqCs reqZ' (.slice none 0 0)).toArray) (by kernel_rfl) ?_; intro gb w9 hgb hbb0 k9 s9; have HGB := hid hgb; have K9 := hid k9; clear hgb s9 k9)
          | (refine wpl_storeB (v := .agg (reqCs rq (.slice A10 nq c10)).toArray) rfl rfl rfl rfl hbb0 (by kernel_rfl) (by simp [reqCs, Value.cells]) (by simp [reqCs, Value.oneCell', Value.cells]) ?_; intro w10 hbb k10 s10; have K810 := hid (K9.out.trans k10 (fun q hq e => by have := HGB.out; omega)); clear s10 k10; replace hbb : w10.heap[gb]? = some (.cells (reqCs rq (.slice A10 nq c10)).toArray 34) := hbb))
        have hbd := K810.out.heap hbd8 id
        have hba := K810.out.heap hba8 id
        clear hbd8 hba8 hbb0
        have k510 : Keep (fun _ => False) w5 w10 := (K57.out.trans K8.out (fun _ _ f => f)).trans K810.out (fun _ _ f => f)
        have htw : Two w0.heap.size (fun q => q = gd) w10 g g2 s r := HT5.out.keep k510
        have htal := htw.talN
        obtain ⟨FR, AP, AC, cP, cC, hrv, hFR⟩ := htw.ref
        have hrel := HCK.out.inv.rel
        have hsl9 := HS9.out.keep k510 (fun _ _ => id)
        have hsl10 := HS10.out.keep K810.out (fun _ _ => id)
        have hkall : Keep (fun q => w0.heap.size ≤ q) w0 w10 := (HCK.out.kp.trans K5.out (fun _ _ f => f.elim)).trans k510 (fun _ _ f => f.elim)
        have HC := hid (fun w' (hk : Keep (fun _ => False) w10 w') => (⟨hk.cell (cell_at hba 0 _ rfl) id, hk.cell (cell_at hba 1 _ rfl) id, hk.cell (cell_at hba 2 _ rfl) id, hk.cell (cell_at hba 3 _ rfl) id, hk.cell (cell_at hba 4 _ rfl) id, hk.cell (cell_at hba 5 _ rfl) id, hk.cell (cell_at hba 6 _ rfl) id, hk.cell (cell_at hba 7 _ rfl) id, hk.cell (cell_at hba 8 _ rfl) id, hk.cell (cell_at hba 9 _ rfl) id, hk.cell (cell_at hba 10 _ rfl) id, hk.cell (cell_at hbb 0 _ rfl) id, hk.cell (cell_at hbb 1 _ rfl) id, hk.cell (cell_at hbb 2 _ rfl) id, hk.cell (cell_at hbb 3 _ rfl) id, hk.cell (cell_at hbb 4 _ rfl) id, hk.cell (cell_at hbb 5 _ rfl) id, hk.cell (cell_at hbb 6 _ rfl) id, hk.cell (cell_at hbb 7 _ rfl) id, hk.cell (cell_at hbb 8 _ rfl) id, hk.cell (cell_at hbb 9 _ rfl) id, hk.cell (cell_at hbb 10 _ rfl) id, hk.cell (cell_at hbd 3 _ rfl) id⟩ : w'.cell? ⟨ga, 0, none⟩ = some (.int .i64 rq.kind) ∧ w'.cell? ⟨ga, 1, none⟩ = some (.string rq.name) ∧ w'.cell? ⟨ga, 2, none⟩ = some (.int .i64 rq.session) ∧ w'.cell? ⟨ga, 3, none⟩ = some (.int .i64 rq.seq) ∧ w'.cell? ⟨ga, 4, none⟩ = some (.int .i64 rq.base) ∧ w'.cell? ⟨ga, 5, none⟩ = some (.string rq.ref) ∧ w'.cell? ⟨ga, 6, none⟩ = some (.slice A9 nq c9) ∧ w'.cell? ⟨ga, 7, none⟩ = some (.string rq.path) ∧ w'.cell? ⟨ga, 8, none⟩ = some (.int .i64 rq.from') ∧ w'.cell? ⟨ga, 9, none⟩ = some (.int .i64 rq.many) ∧ w'.cell? ⟨ga, 10, none⟩ = some (.int .i64 rq.member) ∧ w'.cell? ⟨gb, 0, none⟩ = some (.int .i64 rq.kind) ∧ w'.cell? ⟨gb, 1, none⟩ = some (.string rq.name) ∧ w'.cell? ⟨gb, 2, none⟩ = some (.int .i64 rq.session) ∧ w'.cell? ⟨gb, 3, none⟩ = some (.int .i64 rq.seq) ∧ w'.cell? ⟨gb, 4, none⟩ = some (.int .i64 rq.base) ∧ w'.cell? ⟨gb, 5, none⟩ = some (.string rq.ref) ∧ w'.cell? ⟨gb, 6, none⟩ = some (.slice A10 nq c10) ∧ w'.cell? ⟨gb, 7, none⟩ = some (.string rq.path) ∧ w'.cell? ⟨gb, 8, none⟩ = some (.int .i64 rq.from') ∧ w'.cell? ⟨gb, 9, none⟩ = some (.int .i64 rq.many) ∧ w'.cell? ⟨gb, 10, none⟩ = some (.int .i64 rq.member) ∧ w'.cell? ⟨gd, 3, none⟩ = some (.int .i64 x.slot)))
        have SM : ∀ w', Keep (fun _ => False) w10 w' → Calls Try.prog 15 #[reqV rq (.slice A9 nq c9), reqV rq (.slice A10 nq c10)] w' fun e w'' => e = .returned (.bool true) ∧ Keep (fun _ => False) w10 w'' := fun w' hk => by
          have h9 := hsl9.keep hk (fun _ _ => id)
          have h10 := hsl10.keep hk (fun _ _ => id)
          refine (same9_calls (r := rq) (s := rq) h9 h10).mono ?_
          rintro e w'' ⟨he, hk'⟩
          exact ⟨by rw [he, decide_eq_true rfl], hk.trans hk' (fun _ _ f => f)⟩
        have hlp : s.pr.length ≤ 1000000 := by have := HCK.out.inv.inv.pr; omega
        have hlP : r.P.length ≤ 100000 := by have := HCK.out.inv.lp; omega
        have hlC : r.C.length ≤ 100000 := by have := HCK.out.inv.lc; omega
        have PX : ∀ w', Keep (fun _ => False) w10 w' → Calls Try.prog 20 #[.pointer (some ⟨g, 0, none⟩)] w' fun e w'' => ∃ A c, e = .returned (.slice A (keysS s.pr).length c) ∧ Row (NewIn w' w'') w'' (.slice A (keysS s.pr).length c) (keysS s.pr).length 1 ((keysS s.pr).map I64) ∧ Keep (fun _ => False) w' w'' ∧ Keep (fun _ => False) w10 w'' := fun w' hk => by
          refine (promisedN_calls (htal.keep hk) hlp).mono ?_
          rintro e w'' ⟨u, rfl, hr, _, hk'⟩
          obtain ⟨A, c, rfl⟩ := hr.shape
          exact ⟨A, c, rfl, hr, hk', hk.trans hk' (fun _ _ f => f)⟩
        have PY : ∀ w', Keep (fun _ => False) w10 w' → Calls Try.prog 28 #[.pointer (some ⟨g2, 0, none⟩)] w' fun e w'' => ∃ A c, e = .returned (.slice A (keysS s.pr).length c) ∧ Row (NewIn w' w'') w'' (.slice A (keysS s.pr).length c) (keysS s.pr).length 1 ((keysS s.pr).map I64) ∧ Keep (fun _ => False) w' w'' ∧ Keep (fun _ => False) w10 w'' := fun w' hk => by
          refine (rpromised_calls (hrv.keep hk (fun _ _ => id) id) hlP).mono ?_
          rintro e w'' ⟨u, rfl, hg⟩
          rw [← hrel.promised] at hg
          have hr := hg.row
          obtain ⟨A, c, rfl⟩ := hr.shape
          exact ⟨A, c, rfl, hr, hg.kp, hk.trans hg.kp (fun _ _ f => f)⟩
        have VX : ∀ w', Keep (fun _ => False) w10 w' → Calls Try.prog 29 #[.pointer (some ⟨g, 0, none⟩), .int .i64 x.slot] w' fun e w'' => ∃ A c, e = .returned (.slice A (votersR s x.slot).length c) ∧ Row (NewIn w' w'') w'' (.slice A (votersR s x.slot).length c) (votersR s x.slot).length 1 ((votersR s x.slot).map I64) ∧ Keep (fun _ => False) w' w'' ∧ Keep (fun _ => False) w10 w'' := fun w' hk => by
          refine (votersN_calls (htal.keep hk) x.slot HO.out.2.2).mono ?_
          rintro e w'' ⟨u, rfl, hr, _, hk'⟩
          obtain ⟨A, c, rfl⟩ := hr.shape
          exact ⟨A, c, rfl, hr, hk', hk.trans hk' (fun _ _ f => f)⟩
        have VY : ∀ w', Keep (fun _ => False) w10 w' → Calls Try.prog 30 #[.pointer (some ⟨g2, 0, none⟩), .int .i64 x.slot] w' fun e w'' => ∃ A c, e = .returned (.slice A (votersR s x.slot).length c) ∧ Row (NewIn w' w'') w'' (.slice A (votersR s x.slot).length c) (votersR s x.slot).length 1 ((votersR s x.slot).map I64) ∧ Keep (fun _ => False) w' w'' ∧ Keep (fun _ => False) w10 w'' := fun w' hk => by
          refine (rvoters_calls (hrv.keep hk (fun _ _ => id) id) hlC x.slot).mono ?_
          rintro e w'' ⟨u, rfl, hg⟩
          rw [← hrel.voters] at hg
          have hr := hg.row
          obtain ⟨A, c, rfl⟩ := hr.shape
          exact ⟨A, c, rfl, hr, hg.kp, hk.trans hg.kp (fun _ _ f => f)⟩
        have FX : ∀ w', Keep (fun _ => False) w10 w' → Calls Try.prog 19 #[.pointer (some ⟨g, 0, none⟩), .int .i64 x.slot] w' fun e w'' => ∃ A c, e = .returned (.slice A (byR s true x.slot).length c) ∧ Row (NewIn w' w'') w'' (.slice A (byR s true x.slot).length c) (byR s true x.slot).length 1 ((byR s true x.slot).map I64) ∧ Keep (fun _ => False) w' w'' ∧ Keep (fun _ => False) w10 w'' := fun w' hk => by
          refine (furtherN_calls (htal.keep hk) hlp x.slot).mono ?_
          rintro e w'' ⟨u, rfl, hr, _, hk'⟩
          obtain ⟨A, c, rfl⟩ := hr.shape
          exact ⟨A, c, rfl, hr, hk', hk.trans hk' (fun _ _ f => f)⟩
        have FY : ∀ w', Keep (fun _ => False) w10 w' → Calls Try.prog 32 #[.pointer (some ⟨g2, 0, none⟩), .int .i64 x.slot] w' fun e w'' => ∃ A c, e = .returned (.slice A (byR s true x.slot).length c) ∧ Row (NewIn w' w'') w'' (.slice A (byR s true x.slot).length c) (byR s true x.slot).length 1 ((byR s true x.slot).map I64) ∧ Keep (fun _ => False) w' w'' ∧ Keep (fun _ => False) w10 w'' := fun w' hk => by
          refine (rfurther_calls (hrv.keep hk (fun _ _ => id) id) hlP x.slot).mono ?_
          rintro e w'' ⟨u, rfl, hg⟩
          rw [← hrel.by_] at hg
          have hr := hg.row
          obtain ⟨A, c, rfl⟩ := hr.shape
          exact ⟨A, c, rfl, hr, hg.kp, hk.trans hg.kp (fun _ _ f => f)⟩
        have BX : ∀ w', Keep (fun _ => False) w10 w' → Calls Try.prog 17 #[.pointer (some ⟨g, 0, none⟩)] w' fun e w'' => e = .returned (.int .i64 (baseR s)) ∧ Keep (fun _ => False) w10 w'' := fun w' hk => by
          refine (baseN_calls (htal.keep hk) hlp).mono ?_
          rintro e w'' ⟨he, _, hk'⟩
          exact ⟨he, hk.trans hk' (fun _ _ f => f)⟩
        have BY : ∀ w', Keep (fun _ => False) w10 w' → Calls Try.prog 31 #[.pointer (some ⟨g2, 0, none⟩)] w' fun e w'' => e = .returned (.int .i64 (baseR s)) ∧ Keep (fun _ => False) w10 w'' := fun w' hk => by
          refine (rbase_calls (hrv.keep hk (fun _ _ => id) id)).mono ?_
          rintro e w'' ⟨he, rfl⟩
          exact ⟨by rw [he, hrel.base], hk⟩
        have TX : ∀ w', Keep (fun _ => False) w10 w' → Calls Try.prog 16 #[.pointer (some ⟨g, 0, none⟩)] w' fun e w'' => e = .returned (.int .i64 s.top) ∧ Keep (fun _ => False) w10 w'' := fun w' hk => by
          refine (topN_calls (htal.keep hk)).mono ?_
          rintro e w'' ⟨he, rfl⟩
          exact ⟨he, hk⟩
        have TY : ∀ w', Keep (fun _ => False) w10 w' → Calls Try.prog 33 #[.pointer (some ⟨g2, 0, none⟩)] w' fun e w'' => e = .returned (.int .i64 s.top) ∧ Keep (fun _ => False) w10 w'' := fun w' hk => by
          refine (rtop_calls (hrv.keep hk (fun _ _ => id) id)).mono ?_
          rintro e w'' ⟨he, rfl⟩
          exact ⟨by rw [he, hrel.top], hk⟩
        have hmr : ∀ w', Keep (fun _ => False) w10 w' → Row (fun q => F q ∧ q < w.heap.size) w' (.slice A0 m c0) M.length 1 (M.map I64) := fun w' hk => HMR.out w' (hkall.trans hk (fun _ _ f => f.elim))
        have hml : M.length ≤ 1000000 := by have := HMM.out; omega
        have RX : ∀ w', Keep (fun _ => False) w10 w' → Calls Try.prog 23 #[.pointer (some ⟨g, 0, none⟩), .int .i64 x.slot, .slice A0 m c0] w' fun e w'' => e = .returned (.bool (readyB s x.slot M)) ∧ Keep (fun _ => False) w10 w'' := fun w' hk => by
          refine (readyN_calls (htal.keep hk) hlp x.slot (hmr w' hk) hml).mono ?_
          rintro e w'' ⟨he, _, hk'⟩
          exact ⟨he, hk.trans hk' (fun _ _ f => f)⟩
        have RY : ∀ w', Keep (fun _ => False) w10 w' → Calls Try.prog 34 #[.pointer (some ⟨g2, 0, none⟩), .int .i64 x.slot, .slice A0 m c0] w' fun e w'' => e = .returned (.bool (readyB s x.slot M)) ∧ Keep (fun _ => False) w10 w'' := fun w' hk => by
          refine (rready_calls (hrv.keep hk (fun _ _ => id) id) hlP x.slot (hmr w' hk) hml).mono ?_
          rintro e w'' ⟨he, hk'⟩
          exact ⟨by rw [he, rreadyB, ← hrel.by_, readyB], hk.trans hk' (fun _ _ f => f)⟩
        have WX : ∀ w', Keep (fun _ => False) w10 w' → Calls Try.prog 35 #[.pointer (some ⟨g, 0, none⟩), .int .i64 x.slot, .slice A0 m c0] w' fun e w'' => e = .returned (.bool (mostB M (votersR s x.slot))) ∧ Keep (fun _ => False) w10 w'' := fun w' hk => by
          refine (wonN_calls (htal.keep hk) x.slot HO.out.2.2 (hmr w' hk) hml).mono ?_
          rintro e w'' ⟨he, _, hk'⟩
          exact ⟨he, hk.trans hk' (fun _ _ f => f)⟩
        have WY : ∀ w', Keep (fun _ => False) w10 w' → Calls Try.prog 36 #[.pointer (some ⟨g2, 0, none⟩), .int .i64 x.slot, .slice A0 m c0] w' fun e w'' => e = .returned (.bool (mostB M (votersR s x.slot))) ∧ Keep (fun _ => False) w10 w'' := fun w' hk => by
          refine (rwon_calls (hrv.keep hk (fun _ _ => id) id) hlC x.slot (hmr w' hk) hml).mono ?_
          rintro e w'' ⟨he, hk'⟩
          exact ⟨by rw [he, rwonB, ← hrel.voters], hk.trans hk' (fun _ _ f => f)⟩
        have SI : ∀ w' a1 a2 (L : List Int) F1 F2, Keep (fun _ => False) w10 w' → Row F1 w' a1 L.length 1 (L.map I64) → Row F2 w' a2 L.length 1 (L.map I64) → Calls Try.prog 18 #[a1, a2] w' fun e w'' => e = .returned (.bool true) ∧ Keep (fun _ => False) w10 w'' := fun w' a1 a2 L F1 F2 hk r1 r2 => (sameInts_calls r1 r2).mono (fun e w'' ⟨h1, z, h2⟩ => ⟨by rw [h1, decide_eq_true rfl], by rw [h2]; exact hk.drewN z⟩)
        have kd : Keep (fun _ => False) w10 w10.drew := (Keep.refl (fun _ => False) w10).drew
        have HEND := hid (fun w' (hk : Keep (fun _ => False) w10 w') => (⟨k + 1, by omega, by simp, by rw [HGS.out, HGR.out]; exact (htw.keep hk).x (fun _ f => f.elim), hkall.trans hk (fun _ _ f => f.elim)⟩ : ∃ k' : Nat, k' ≤ n ∧ (Value.int .i64 ((k : Int) + 1)) = .int .i64 k' ∧ Two w0.heap.size (fun _ => False) w' g g2 (pS fr (l.take k')) (pR fr (l.take k')) ∧ Keep (fun q => w0.heap.size ≤ q) w0 w'))
        generalize hgL1 : keysS s.pr = L1 at *
        generalize hgL2 : votersR s x.slot = L2 at *
        generalize hgL3 : byR s true x.slot = L3 at *
        generalize hgbs : baseR s = bs at *
        generalize hgtp : s.top = tp at *
        generalize hgrd : readyB s x.slot M = rd at *
        generalize hgwn : mostB M L2 = wn at *
        have HCC := HC.out
        clear htw htal hrv hFR hrel hsl9 hsl10 hkall hlp hlP hlC hmr hml k510 hbd hba hbb hgL1 hgL2 hgL3 hgbs hgtp hgrd hgwn hl9 kd HC
        refine tchk (slot := x.slot) (rq := rq) (by kernel_rfl) HCC SM PX PY VX VY FX FY BX BY TX TY RX RY WX WY SI ?_
        clear HCC SM PX PY VX VY FX FY BX BY TX TY RX RY WX WY SI
        intro w11 k11
        intros
        go_wp2_with fail
        exact ⟨HEND.out _ k11, by simp [intOf]; omega⟩
    · have HKR := hid hkr
      clear htw hkr
      go_wp2_with fail
      go_ret
      have hs := K0.out.size
      exact ⟨rfl, ((K0.out.mono (T := fun q => w0.heap.size ≤ q) (fun _ _ f => f.elim)).trans HKR.out (fun _ _ q => q)).below (Nat.le_refl _) (fun b hb q => by have q : w0.heap.size ≤ b := q; omega)⟩
end
end Go.Proofs.Ythlgnilgjeebaaa
