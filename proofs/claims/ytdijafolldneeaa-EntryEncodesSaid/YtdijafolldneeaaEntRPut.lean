/- wapentakeref9: the reference's writer of a request. -/
import Derived.Test.YtdijafolldneeaaEntRef
import Derived.Test.YtdijafolldneeaaEntW
import Derived.Test.YtdijafolldneeaaMw
namespace Go.Proofs.Ytdijafolldneeaa
open Go.RowKit
section
variable {F G : Nat → Prop} {w : World} {g gw : Nat} {r : Req}
theorem mtext_good {t : ByteArray} (l : List UInt8) (h : t.size ≤ 255) : wText ⟨l, 0⟩ t.data.toList = ⟨l ++ encText t, 0⟩ := by
  have := eWord_good l h
  rwa [eWord, if_neg (by omega)] at this
theorem encC_len9 {c : Change} (h : mayC c) : (encC c).length ≤ 270 := by
  have h1 := eChange_len (s := ⟨[], 0⟩) (c := c)
  rw [eChange_good [] h] at h1
  simpa using h1
theorem flat_len9 (l : List Change) (h : ∀ c ∈ l, mayC c) : (l.flatMap encC).length ≤ l.length * 270 := by
  induction l with
  | nil => simp
  | cons c l ih =>
    rw [List.flatMap_cons, List.length_append, List.length_cons, Nat.succ_mul]
    have := ih (fun x hx => h x (List.mem_cons_of_mem _ hx))
    have := encC_len9 (h c (List.mem_cons_self ..))
    omega
theorem encPart_len9 {p : EPart} (h : mayPart r p) : (encPart r p).length ≤ 17286 := by
  have h1 := ePart_len (r := r) (p := p) (s := ⟨[], 0⟩)
  rw [ePart_good [] h] at h1
  simpa using h1
set_option maxRecDepth 20000 in
set_option maxHeartbeats 4000000 in
theorem putCh9_calls {l0 : List UInt8} (h : MwAt F w g ⟨l0, 0⟩) {v : Value} {l : List Change} (hv : Sl .change w G v l) (hG : ∀ k, G k → ¬ F k ∧ k < w.heap.size) (hl : l0.length ≤ 3000000) (hm : mayL l) :
    Calls Try.prog 50 #[.pointer (some ⟨g, 0, none⟩), v] w (MwPost F w g ⟨l0 ++ encL l, 0⟩) := by
  obtain ⟨A, c, rfl⟩ := hv.shape
  obtain ⟨n, hn⟩ : ∃ n, n = l.length := ⟨_, rfl⟩
  have h64 : n ≤ 64 := by rw [hn]; exact hm.1
  rw [← hn] at hv ⊢
  have HE := hid (show l0 ++ encL l = l0 ++ encNum n ++ (l.take n).flatMap encC by rw [encL, hn, List.take_length]; simp)
  have hnc := mnum_calls h n (by simp only; omega)
  rw [wNum_good _ (show good (n : Int) from ⟨by omega, by omega⟩)] at hnc
  simp only [Int.toNat_natCast] at hnc
  have h6 := encNum_small (n := n) (by omega)
  have hb : (l0 ++ encNum n).length ≤ 3000006 := by simp only [List.length_append]; omega
  have HN := hid hn; have HV := hid hv; have HG := hid hG; have HM := hid hm; have HNC := hid hnc
  clear hv hn hG hm hnc h h6 hl
  go_enter Try.func50, Try.ntmps50
  go_wp2_with fail
  refine HNC.out.mono ?_
  rintro en w1 ⟨rfl, h1, k1⟩
  generalize l0 ++ encNum n = l1 at *
  have H1 := hid h1; have K1 := hid k1
  clear h1 k1
  go_wp2_with fail
  go_loopw [4] (fun i wr => ∃ k : Nat, k ≤ n ∧ i = .int .i64 k ∧ MwAt (Grow F w wr) wr g ⟨l1 ++ (l.take k).flatMap encC, 0⟩ ∧ Keep F w wr) (fun i _ => n - (intOf i).toNat)
  case atStart => exact ⟨0, Nat.zero_le _, rfl, by simpa using H1.out, K1.out⟩
  case round =>
    obtain ⟨k, hk, rfl, hW, hkp⟩ := hrel
    by_cases hlt : k < n
    · obtain ⟨x, hx⟩ : ∃ x, l[k]? = some x := ⟨l[k]'(by rw [← HN.out]; exact hlt), by simp [show k < l.length by rw [← HN.out]; exact hlt]⟩
      have hmx : mayC x := HM.out.2 x (List.mem_of_getElem? hx)
      have hvk := HV.out.keep hkp (fun q hq => (HG.out q hq).1)
      obtain ⟨b, off, rfl, hGb, d0, d1, d2⟩ := change_at hvk hx
      have htk : (l.take (k + 1)).flatMap encC = (l.take k).flatMap encC ++ encC x := by rw [List.take_add_one, hx, List.flatMap_append]; simp
      have hln := flat_len9 (l.take k) (fun c hc => HM.out.2 c (List.mem_of_mem_take hc))
      have hlk : (l.take k).length ≤ 64 := by rw [List.length_take]; omega
      have hln2 : (l1 ++ (l.take k).flatMap encC).length ≤ 3020000 := by simp only [List.length_append]; omega
      obtain ⟨lk, hlke⟩ : ∃ lk, lk = l1 ++ (l.take k).flatMap encC := ⟨_, rfl⟩
      rw [← hlke] at hW hln2
      have HLK := hid hlke; have HTK := hid htk; have HKP := hid hkp
      have hnF : ¬ Grow F w wr b := fun e => e.elim (HG.out b hGb).1 (fun e => by have := e.1; have := (HG.out b hGb).2; omega)
      have HNF := hid hnF
      have htc := mtext_calls hW x.path (by have := hmx.1; omega) (by simp only; omega)
      rw [mtext_good _ hmx.1] at htc
      have htl : (lk ++ encText x.path).length ≤ 3030000 := by
        have := eWord_len (s := ⟨lk, 0⟩) (t := x.path)
        rw [eWord_good _ hmx.1] at this
        simp only at this ⊢
        omega
      have HTC := hid htc
      have HMX := hid hmx
      clear hvk hx htk hW hkp hln hlk hlke hnF htc hmx
      go_wp2_with fail
      refine HTC.out.mono ?_
      rintro e w2 ⟨rfl, h2, k2⟩
      have e1 := k2.cell d1 HNF.out
      have e2 := k2.cell d2 HNF.out
      have hfc := mflag_calls h2 x.gone (by simp only; omega)
      have HFC := hid hfc
      have K2 := hid k2
      clear h2 k2 hfc d0 d1 d2
      go_wp2_with fail
      refine HFC.out.mono ?_
      rintro e w3 ⟨rfl, h3, k3⟩
      have hnF2 : ¬ Grow (Grow F w wr) wr w2 b := fun e => e.elim HNF.out (fun e => by have := e.1; have := HKP.out.size; have := (HG.out b hGb).2; omega)
      have f1 := k3.cell e1 hnF2
      have f2 := k3.cell e2 hnF2
      have K3 := hid (K2.out.then k3)
      have h3' := h3.mono (Grow.trans K2.out.size k3.size)
      clear h3 k3 e1 e2 hnF2
      cases hg : x.gone
      · rw [hg] at h3' f1
        have h3'' : MwAt (Grow (Grow F w wr) wr w3) w3 g ⟨lk ++ encText x.path ++ [0], 0⟩ := by simpa [wFlag] using h3'
        have hwc := mword_calls h3'' x.digest (by simp only [List.length_append] at htl ⊢; simp only [List.length_cons, List.length_nil]; omega)
        have HEX := hid (show lk ++ encText x.path ++ [0] ++ layBytes 8 x.digest = lk ++ encC x by simp [encC, hg])
        rw [show wWord ⟨lk ++ encText x.path ++ [0], 0⟩ x.digest = ⟨lk ++ encText x.path ++ [0] ++ layBytes 8 x.digest, 0⟩ by simp [wWord], HEX.out] at hwc
        have HWC := hid hwc
        clear h3' h3'' hwc hg
        go_wp2_with fail
        refine HWC.out.mono ?_
        rintro e w4 ⟨rfl, h4, k4⟩
        have K4 := hid (K3.out.then k4)
        have H4 := hid (h4.mono (Grow.trans K3.out.size k4.size))
        clear h4 k4 f1 f2
        go_wp2_with fail
        refine ⟨⟨k + 1, by omega, by simp, ?_, HKP.out.then K4.out⟩, by simp [intOf]; omega⟩
        rw [HTK.out, ← List.append_assoc, ← HLK.out]
        exact H4.out.mono (Grow.trans HKP.out.size K4.out.size)
      · rw [hg] at h3' f1
        have H3 := hid (show MwAt (Grow (Grow F w wr) wr w3) w3 g ⟨lk ++ encC x, 0⟩ by simpa [wFlag, encC, hg] using h3')
        clear h3' hg
        go_wp2_with fail
        refine ⟨⟨k + 1, by omega, by simp, ?_, HKP.out.then K3.out⟩, by simp [intOf]; omega⟩
        rw [HTK.out, ← List.append_assoc, ← HLK.out]
        exact H3.out.mono (Grow.trans HKP.out.size K3.out.size)
    · obtain rfl : k = n := by omega
      go_wp2_with fail
      go_end0
      rw [HE.out]
      exact ⟨rfl, hW, hkp⟩
set_option maxRecDepth 20000 in
set_option maxHeartbeats 4000000 in
theorem put9_0 {r : Req} {l : List UInt8} (h : MwAt F w gw ⟨l, 0⟩) (hF : ∀ k, F k → k < w.heap.size) {v : Value} (hv : Sl .change w G v r.changes) (hG : ∀ k, G k → ¬ F k ∧ k < w.heap.size) (hl : l.length ≤ 1000000) (hm : mayR r) (hkd : r.kind = 0) :
    Calls Try.prog 29 #[.pointer (some ⟨gw, 0, none⟩), .agg (reqCs r v).toArray] w (MwPost F w gw ⟨l ++ encR r, 0⟩) := by
  have HE := hid (show l ++ encR r = l ++ encNum 0 by simp [encR, hkd, partsOf])
  have HKD := hid hkd
  clear hkd
  obtain ⟨A, c, rfl⟩ := hv.shape
  obtain ⟨n, hn⟩ : ∃ n, n = r.changes.length := ⟨_, rfl⟩
  rw [← hn] at hv ⊢
  have HV := hid hv; have HG := hid hG; have HF := hid hF; have H := hid h; have HM := hid hm
  clear hv hG hF h hn hm
  go_enter Try.func29, Try.ntmps29
  go_wp2_with (first
    | (refine wpl_boxB (v := .agg (reqCs r (.slice A n c)).toArray) rfl rfl rfl ?_; intro g3 w1 hg1 hb1 k1 s1; have HG3 := hid hg1; have K1 := hid k1; have HB1 := hid hb1; clear hg1 k1 s1)
    | (refine wpl_loadA (ty := 29) (o := 0) (n := 11) rfl rfl rfl hb1 (by kernel_rfl) (by kernel_rfl) (reqCs r (.slice A n c)) rfl rfl ?_))
  refine (check9_calls (HV.out.keep K1.out (fun _ _ => id))).mono ?_
  rintro e w2 ⟨rfl, k2⟩
  have HB2 := hid (k2.heap HB1.out id)
  have K2 := hid (K1.out.trans k2 (fun _ _ f => f))
  clear k2 hb1
  rw [if_pos HM.out]
  have hnF : ¬ F g3 := fun e => by have := HF.out _ e; have := HG3.out; omega
  have HC := hid (fun y (hk : Keep F w2 y) => (⟨hk.cell (cell_at HB2.out 0 (.int .i64 0) (congrArg (fun x => some (Value.int .i64 x)) HKD.out)) hnF, hk.cell (cell_at HB2.out 1 (.string r.name) rfl) hnF, hk.cell (cell_at HB2.out 2 (.int .i64 r.session) rfl) hnF, hk.cell (cell_at HB2.out 3 (.int .i64 r.seq) rfl) hnF, hk.cell (cell_at HB2.out 4 (.int .i64 r.base) rfl) hnF, hk.cell (cell_at HB2.out 5 (.string r.ref) rfl) hnF, hk.cell (cell_at HB2.out 6 (.slice A n c) rfl) hnF, hk.cell (cell_at HB2.out 7 (.string r.path) rfl) hnF, hk.cell (cell_at HB2.out 8 (.int .i64 r.from') rfl) hnF, hk.cell (cell_at HB2.out 9 (.int .i64 r.many) rfl) hnF, hk.cell (cell_at HB2.out 10 (.int .i64 r.member) rfl) hnF⟩ : y.cell? ⟨g3, 0, none⟩ = some (.int .i64 0) ∧ y.cell? ⟨g3, 1, none⟩ = some (.string r.name) ∧ y.cell? ⟨g3, 2, none⟩ = some (.int .i64 r.session) ∧ y.cell? ⟨g3, 3, none⟩ = some (.int .i64 r.seq) ∧ y.cell? ⟨g3, 4, none⟩ = some (.int .i64 r.base) ∧ y.cell? ⟨g3, 5, none⟩ = some (.string r.ref) ∧ y.cell? ⟨g3, 6, none⟩ = some (.slice A n c) ∧ y.cell? ⟨g3, 7, none⟩ = some (.string r.path) ∧ y.cell? ⟨g3, 8, none⟩ = some (.int .i64 r.from') ∧ y.cell? ⟨g3, 9, none⟩ = some (.int .i64 r.many) ∧ y.cell? ⟨g3, 10, none⟩ = some (.int .i64 r.member)))
  have h2 := (H.out.keep K2.out (fun _ _ => id)).same
  have K22 := hid (Keep.refl F w2)
  obtain ⟨c0, c1, c2, c3, c4, c5, c6, c7, c8, c9, c10⟩ := HC.out _ K22.out
  have hc := mnum_calls h2 0 (by simp only; omega)
  rw [wNum_good _ (show good 0 from ⟨by omega, by omega⟩)] at hc
  have hln0 : (l ++ encNum 0).length ≤ 1000006 := by have := encNum_small (n := 0) (by omega); simp only [List.length_append]; omega
  rw [show (0 : Int).toNat = 0 from rfl] at hc
  obtain ⟨l0, hl0⟩ : ∃ x, x = l ++ encNum 0 := ⟨_, rfl⟩
  rw [← hl0] at hc hln0
  have HL0 := hid hl0; have HCC := hid hc
  clear h2 hc hl0 hnF
  go_wp2_with fail
  refine HCC.out.mono ?_
  rintro e w3 ⟨rfl, h3, k3⟩
  have K3 := hid (K22.out.then k3)
  have H3 := hid (h3.mono (Grow.trans K22.out.size k3.size))
  clear h3 k3 c0 c1 c2 c3 c4 c5 c6 c7 c8 c9 c10
  obtain ⟨c0, c1, c2, c3, c4, c5, c6, c7, c8, c9, c10⟩ := HC.out _ K3.out
  go_wp2_with fail
  go_end0
  rw [HE.out, ← HL0.out]
  exact ⟨rfl, H3.out.mono (fun q hq => hq.imp id (fun ⟨a, b⟩ => ⟨Nat.le_trans K2.out.size a, b⟩)), (K2.out.mono (fun _ _ f => f.elim)).trans K3.out (fun _ _ q => q)⟩
set_option maxRecDepth 20000 in
set_option maxHeartbeats 4000000 in
theorem put9_1 {r : Req} {l : List UInt8} (h : MwAt F w gw ⟨l, 0⟩) (hF : ∀ k, F k → k < w.heap.size) {v : Value} (hv : Sl .change w G v r.changes) (hG : ∀ k, G k → ¬ F k ∧ k < w.heap.size) (hl : l.length ≤ 1000000) (hm : mayR r) (hkd : r.kind = 1) :
    Calls Try.prog 29 #[.pointer (some ⟨gw, 0, none⟩), .agg (reqCs r v).toArray] w (MwPost F w gw ⟨l ++ encR r, 0⟩) := by
  have HE := hid (show l ++ encR r = l ++ encNum 1 ++ encPart r .name by simp [encR, hkd, partsOf])
  have HKD := hid hkd
  clear hkd
  obtain ⟨A, c, rfl⟩ := hv.shape
  obtain ⟨n, hn⟩ : ∃ n, n = r.changes.length := ⟨_, rfl⟩
  rw [← hn] at hv ⊢
  have HV := hid hv; have HG := hid hG; have HF := hid hF; have H := hid h; have HM := hid hm
  clear hv hG hF h hn hm
  go_enter Try.func29, Try.ntmps29
  go_wp2_with (first
    | (refine wpl_boxB (v := .agg (reqCs r (.slice A n c)).toArray) rfl rfl rfl ?_; intro g3 w1 hg1 hb1 k1 s1; have HG3 := hid hg1; have K1 := hid k1; have HB1 := hid hb1; clear hg1 k1 s1)
    | (refine wpl_loadA (ty := 29) (o := 0) (n := 11) rfl rfl rfl hb1 (by kernel_rfl) (by kernel_rfl) (reqCs r (.slice A n c)) rfl rfl ?_))
  refine (check9_calls (HV.out.keep K1.out (fun _ _ => id))).mono ?_
  rintro e w2 ⟨rfl, k2⟩
  have HB2 := hid (k2.heap HB1.out id)
  have K2 := hid (K1.out.trans k2 (fun _ _ f => f))
  clear k2 hb1
  rw [if_pos HM.out]
  have hnF : ¬ F g3 := fun e => by have := HF.out _ e; have := HG3.out; omega
  have HC := hid (fun y (hk : Keep F w2 y) => (⟨hk.cell (cell_at HB2.out 0 (.int .i64 1) (congrArg (fun x => some (Value.int .i64 x)) HKD.out)) hnF, hk.cell (cell_at HB2.out 1 (.string r.name) rfl) hnF, hk.cell (cell_at HB2.out 2 (.int .i64 r.session) rfl) hnF, hk.cell (cell_at HB2.out 3 (.int .i64 r.seq) rfl) hnF, hk.cell (cell_at HB2.out 4 (.int .i64 r.base) rfl) hnF, hk.cell (cell_at HB2.out 5 (.string r.ref) rfl) hnF, hk.cell (cell_at HB2.out 6 (.slice A n c) rfl) hnF, hk.cell (cell_at HB2.out 7 (.string r.path) rfl) hnF, hk.cell (cell_at HB2.out 8 (.int .i64 r.from') rfl) hnF, hk.cell (cell_at HB2.out 9 (.int .i64 r.many) rfl) hnF, hk.cell (cell_at HB2.out 10 (.int .i64 r.member) rfl) hnF⟩ : y.cell? ⟨g3, 0, none⟩ = some (.int .i64 1) ∧ y.cell? ⟨g3, 1, none⟩ = some (.string r.name) ∧ y.cell? ⟨g3, 2, none⟩ = some (.int .i64 r.session) ∧ y.cell? ⟨g3, 3, none⟩ = some (.int .i64 r.seq) ∧ y.cell? ⟨g3, 4, none⟩ = some (.int .i64 r.base) ∧ y.cell? ⟨g3, 5, none⟩ = some (.string r.ref) ∧ y.cell? ⟨g3, 6, none⟩ = some (.slice A n c) ∧ y.cell? ⟨g3, 7, none⟩ = some (.string r.path) ∧ y.cell? ⟨g3, 8, none⟩ = some (.int .i64 r.from') ∧ y.cell? ⟨g3, 9, none⟩ = some (.int .i64 r.many) ∧ y.cell? ⟨g3, 10, none⟩ = some (.int .i64 r.member)))
  have h2 := (H.out.keep K2.out (fun _ _ => id)).same
  have K22 := hid (Keep.refl F w2)
  obtain ⟨c0, c1, c2, c3, c4, c5, c6, c7, c8, c9, c10⟩ := HC.out _ K22.out
  have hc := mnum_calls h2 1 (by simp only; omega)
  rw [wNum_good _ (show good 1 from ⟨by omega, by omega⟩)] at hc
  have hln0 : (l ++ encNum 1).length ≤ 1000006 := by have := encNum_small (n := 1) (by omega); simp only [List.length_append]; omega
  rw [show (1 : Int).toNat = 1 from rfl] at hc
  obtain ⟨l0, hl0⟩ : ∃ x, x = l ++ encNum 1 := ⟨_, rfl⟩
  rw [← hl0] at hc hln0
  have HL0 := hid hl0; have HCC := hid hc
  clear h2 hc hl0 hnF
  go_wp2_with fail
  refine HCC.out.mono ?_
  rintro e w3 ⟨rfl, h3, k3⟩
  have K3 := hid (K22.out.then k3)
  have H3 := hid (h3.mono (Grow.trans K22.out.size k3.size))
  clear h3 k3 c0 c1 c2 c3 c4 c5 c6 c7 c8 c9 c10
  obtain ⟨c0, c1, c2, c3, c4, c5, c6, c7, c8, c9, c10⟩ := HC.out _ K3.out
  have hmp := may_all HM.out .name
  have hln1 : (l0 ++ encPart r .name).length ≤ 1017292 := by have := encPart_len9 hmp; simp only [List.length_append]; omega
  have hc := mtext_calls H3.out r.name (by have : r.name.size ≤ 255 := hmp; omega) (by simp only; omega)
  rw [mtext_good _ (show r.name.size ≤ 255 from hmp)] at hc
  obtain ⟨l1, hl1⟩ : ∃ x, x = l0 ++ encPart r .name := ⟨_, rfl⟩
  rw [show l0 ++ encText r.name = l1 from hl1.symm] at hc
  rw [← hl1] at hln1
  have HL1 := hid hl1; have HCC := hid hc
  clear hc hl1 hmp
  go_wp2_with fail
  refine HCC.out.mono ?_
  rintro e w4 ⟨rfl, h4, k4⟩
  have K4 := hid (K3.out.then k4)
  have H4 := hid (h4.mono (Grow.trans K3.out.size k4.size))
  clear h4 k4 c0 c1 c2 c3 c4 c5 c6 c7 c8 c9 c10 HCC
  obtain ⟨c0, c1, c2, c3, c4, c5, c6, c7, c8, c9, c10⟩ := HC.out _ K4.out
  go_wp2_with fail
  go_end0
  rw [HE.out, ← HL0.out, ← HL1.out]
  exact ⟨rfl, H4.out.mono (fun q hq => hq.imp id (fun ⟨a, b⟩ => ⟨Nat.le_trans K2.out.size a, b⟩)), (K2.out.mono (fun _ _ f => f.elim)).trans K4.out (fun _ _ q => q)⟩
set_option maxRecDepth 20000 in
set_option maxHeartbeats 4000000 in
theorem put9_2 {r : Req} {l : List UInt8} (h : MwAt F w gw ⟨l, 0⟩) (hF : ∀ k, F k → k < w.heap.size) {v : Value} (hv : Sl .change w G v r.changes) (hG : ∀ k, G k → ¬ F k ∧ k < w.heap.size) (hl : l.length ≤ 1000000) (hm : mayR r) (hkd : r.kind = 2) :
    Calls Try.prog 29 #[.pointer (some ⟨gw, 0, none⟩), .agg (reqCs r v).toArray] w (MwPost F w gw ⟨l ++ encR r, 0⟩) := by
  have HE := hid (show l ++ encR r = l ++ encNum 2 ++ encPart r .session ++ encPart r .seq ++ encPart r .base ++ encPart r .ref ++ encPart r .changes by simp [encR, hkd, partsOf])
  have HKD := hid hkd
  clear hkd
  obtain ⟨A, c, rfl⟩ := hv.shape
  obtain ⟨n, hn⟩ : ∃ n, n = r.changes.length := ⟨_, rfl⟩
  rw [← hn] at hv ⊢
  have HV := hid hv; have HG := hid hG; have HF := hid hF; have H := hid h; have HM := hid hm
  clear hv hG hF h hn hm
  go_enter Try.func29, Try.ntmps29
  go_wp2_with (first
    | (refine wpl_boxB (v := .agg (reqCs r (.slice A n c)).toArray) rfl rfl rfl ?_; intro g3 w1 hg1 hb1 k1 s1; have HG3 := hid hg1; have K1 := hid k1; have HB1 := hid hb1; clear hg1 k1 s1)
    | (refine wpl_loadA (ty := 29) (o := 0) (n := 11) rfl rfl rfl hb1 (by kernel_rfl) (by kernel_rfl) (reqCs r (.slice A n c)) rfl rfl ?_))
  refine (check9_calls (HV.out.keep K1.out (fun _ _ => id))).mono ?_
  rintro e w2 ⟨rfl, k2⟩
  have HB2 := hid (k2.heap HB1.out id)
  have K2 := hid (K1.out.trans k2 (fun _ _ f => f))
  clear k2 hb1
  rw [if_pos HM.out]
  have hnF : ¬ F g3 := fun e => by have := HF.out _ e; have := HG3.out; omega
  have HC := hid (fun y (hk : Keep F w2 y) => (⟨hk.cell (cell_at HB2.out 0 (.int .i64 2) (congrArg (fun x => some (Value.int .i64 x)) HKD.out)) hnF, hk.cell (cell_at HB2.out 1 (.string r.name) rfl) hnF, hk.cell (cell_at HB2.out 2 (.int .i64 r.session) rfl) hnF, hk.cell (cell_at HB2.out 3 (.int .i64 r.seq) rfl) hnF, hk.cell (cell_at HB2.out 4 (.int .i64 r.base) rfl) hnF, hk.cell (cell_at HB2.out 5 (.string r.ref) rfl) hnF, hk.cell (cell_at HB2.out 6 (.slice A n c) rfl) hnF, hk.cell (cell_at HB2.out 7 (.string r.path) rfl) hnF, hk.cell (cell_at HB2.out 8 (.int .i64 r.from') rfl) hnF, hk.cell (cell_at HB2.out 9 (.int .i64 r.many) rfl) hnF, hk.cell (cell_at HB2.out 10 (.int .i64 r.member) rfl) hnF⟩ : y.cell? ⟨g3, 0, none⟩ = some (.int .i64 2) ∧ y.cell? ⟨g3, 1, none⟩ = some (.string r.name) ∧ y.cell? ⟨g3, 2, none⟩ = some (.int .i64 r.session) ∧ y.cell? ⟨g3, 3, none⟩ = some (.int .i64 r.seq) ∧ y.cell? ⟨g3, 4, none⟩ = some (.int .i64 r.base) ∧ y.cell? ⟨g3, 5, none⟩ = some (.string r.ref) ∧ y.cell? ⟨g3, 6, none⟩ = some (.slice A n c) ∧ y.cell? ⟨g3, 7, none⟩ = some (.string r.path) ∧ y.cell? ⟨g3, 8, none⟩ = some (.int .i64 r.from') ∧ y.cell? ⟨g3, 9, none⟩ = some (.int .i64 r.many) ∧ y.cell? ⟨g3, 10, none⟩ = some (.int .i64 r.member)))
  have h2 := (H.out.keep K2.out (fun _ _ => id)).same
  have K22 := hid (Keep.refl F w2)
  obtain ⟨c0, c1, c2, c3, c4, c5, c6, c7, c8, c9, c10⟩ := HC.out _ K22.out
  have hc := mnum_calls h2 2 (by simp only; omega)
  rw [wNum_good _ (show good 2 from ⟨by omega, by omega⟩)] at hc
  have hln0 : (l ++ encNum 2).length ≤ 1000006 := by have := encNum_small (n := 2) (by omega); simp only [List.length_append]; omega
  rw [show (2 : Int).toNat = 2 from rfl] at hc
  obtain ⟨l0, hl0⟩ : ∃ x, x = l ++ encNum 2 := ⟨_, rfl⟩
  rw [← hl0] at hc hln0
  have HL0 := hid hl0; have HCC := hid hc
  clear h2 hc hl0 hnF
  go_wp2_with fail
  refine HCC.out.mono ?_
  rintro e w3 ⟨rfl, h3, k3⟩
  have K3 := hid (K22.out.then k3)
  have H3 := hid (h3.mono (Grow.trans K22.out.size k3.size))
  clear h3 k3 c0 c1 c2 c3 c4 c5 c6 c7 c8 c9 c10
  obtain ⟨c0, c1, c2, c3, c4, c5, c6, c7, c8, c9, c10⟩ := HC.out _ K3.out
  have hmp := may_all HM.out .session
  have hln1 : (l0 ++ encPart r .session).length ≤ 1017292 := by have := encPart_len9 hmp; simp only [List.length_append]; omega
  have hc := mnum_calls H3.out r.session (by simp only; omega)
  rw [wNum_good _ (show good r.session from hmp)] at hc
  obtain ⟨l1, hl1⟩ : ∃ x, x = l0 ++ encPart r .session := ⟨_, rfl⟩
  rw [show l0 ++ encNum r.session.toNat = l1 from hl1.symm] at hc
  rw [← hl1] at hln1
  have HL1 := hid hl1; have HCC := hid hc
  clear hc hl1 hmp
  go_wp2_with fail
  refine HCC.out.mono ?_
  rintro e w4 ⟨rfl, h4, k4⟩
  have K4 := hid (K3.out.then k4)
  have H4 := hid (h4.mono (Grow.trans K3.out.size k4.size))
  clear h4 k4 c0 c1 c2 c3 c4 c5 c6 c7 c8 c9 c10 HCC
  obtain ⟨c0, c1, c2, c3, c4, c5, c6, c7, c8, c9, c10⟩ := HC.out _ K4.out
  have hmp := may_all HM.out .seq
  have hln2 : (l1 ++ encPart r .seq).length ≤ 1034578 := by have := encPart_len9 hmp; simp only [List.length_append]; omega
  have hc := mnum_calls H4.out r.seq (by simp only; omega)
  rw [wNum_good _ (show good r.seq from hmp)] at hc
  obtain ⟨l2, hl2⟩ : ∃ x, x = l1 ++ encPart r .seq := ⟨_, rfl⟩
  rw [show l1 ++ encNum r.seq.toNat = l2 from hl2.symm] at hc
  rw [← hl2] at hln2
  have HL2 := hid hl2; have HCC := hid hc
  clear hc hl2 hmp
  go_wp2_with fail
  refine HCC.out.mono ?_
  rintro e w5 ⟨rfl, h5, k5⟩
  have K5 := hid (K4.out.then k5)
  have H5 := hid (h5.mono (Grow.trans K4.out.size k5.size))
  clear h5 k5 c0 c1 c2 c3 c4 c5 c6 c7 c8 c9 c10 HCC
  obtain ⟨c0, c1, c2, c3, c4, c5, c6, c7, c8, c9, c10⟩ := HC.out _ K5.out
  have hmp := may_all HM.out .base
  have hln3 : (l2 ++ encPart r .base).length ≤ 1051864 := by have := encPart_len9 hmp; simp only [List.length_append]; omega
  have hc := mnum_calls H5.out r.base (by simp only; omega)
  rw [wNum_good _ (show good r.base from hmp)] at hc
  obtain ⟨l3, hl3⟩ : ∃ x, x = l2 ++ encPart r .base := ⟨_, rfl⟩
  rw [show l2 ++ encNum r.base.toNat = l3 from hl3.symm] at hc
  rw [← hl3] at hln3
  have HL3 := hid hl3; have HCC := hid hc
  clear hc hl3 hmp
  go_wp2_with fail
  refine HCC.out.mono ?_
  rintro e w6 ⟨rfl, h6, k6⟩
  have K6 := hid (K5.out.then k6)
  have H6 := hid (h6.mono (Grow.trans K5.out.size k6.size))
  clear h6 k6 c0 c1 c2 c3 c4 c5 c6 c7 c8 c9 c10 HCC
  obtain ⟨c0, c1, c2, c3, c4, c5, c6, c7, c8, c9, c10⟩ := HC.out _ K6.out
  have hmp := may_all HM.out .ref
  have hln4 : (l3 ++ encPart r .ref).length ≤ 1069150 := by have := encPart_len9 hmp; simp only [List.length_append]; omega
  have hc := mtext_calls H6.out r.ref (by have : r.ref.size ≤ 255 := hmp; omega) (by simp only; omega)
  rw [mtext_good _ (show r.ref.size ≤ 255 from hmp)] at hc
  obtain ⟨l4, hl4⟩ : ∃ x, x = l3 ++ encPart r .ref := ⟨_, rfl⟩
  rw [show l3 ++ encText r.ref = l4 from hl4.symm] at hc
  rw [← hl4] at hln4
  have HL4 := hid hl4; have HCC := hid hc
  clear hc hl4 hmp
  go_wp2_with fail
  refine HCC.out.mono ?_
  rintro e w7 ⟨rfl, h7, k7⟩
  have K7 := hid (K6.out.then k7)
  have H7 := hid (h7.mono (Grow.trans K6.out.size k7.size))
  clear h7 k7 c0 c1 c2 c3 c4 c5 c6 c7 c8 c9 c10 HCC
  obtain ⟨c0, c1, c2, c3, c4, c5, c6, c7, c8, c9, c10⟩ := HC.out _ K7.out
  have hmp := may_all HM.out .changes
  have hln5 : (l4 ++ encPart r .changes).length ≤ 1086436 := by have := encPart_len9 hmp; simp only [List.length_append]; omega
  have hc := putCh9_calls H7.out ((HV.out.keep K2.out (fun _ _ => id)).keep K7.out (fun q hq => (HG.out q hq).1)) (fun q hq => ⟨fun e => e.elim (HG.out q hq).1 (fun e => by have := e.1; have := K2.out.size; have := (HG.out q hq).2; omega), by have := K2.out.size; have := K7.out.size; have := (HG.out q hq).2; omega⟩) (by omega) hmp
  obtain ⟨l5, hl5⟩ : ∃ x, x = l4 ++ encPart r .changes := ⟨_, rfl⟩
  rw [show l4 ++ encL r.changes = l5 from hl5.symm] at hc
  rw [← hl5] at hln5
  have HL5 := hid hl5; have HCC := hid hc
  clear hc hl5 hmp
  go_wp2_with fail
  refine HCC.out.mono ?_
  rintro e w8 ⟨rfl, h8, k8⟩
  have K8 := hid (K7.out.then k8)
  have H8 := hid (h8.mono (Grow.trans K7.out.size k8.size))
  clear h8 k8 c0 c1 c2 c3 c4 c5 c6 c7 c8 c9 c10 HCC
  obtain ⟨c0, c1, c2, c3, c4, c5, c6, c7, c8, c9, c10⟩ := HC.out _ K8.out
  go_wp2_with fail
  go_end0
  rw [HE.out, ← HL0.out, ← HL1.out, ← HL2.out, ← HL3.out, ← HL4.out, ← HL5.out]
  exact ⟨rfl, H8.out.mono (fun q hq => hq.imp id (fun ⟨a, b⟩ => ⟨Nat.le_trans K2.out.size a, b⟩)), (K2.out.mono (fun _ _ f => f.elim)).trans K8.out (fun _ _ q => q)⟩
set_option maxRecDepth 20000 in
set_option maxHeartbeats 4000000 in
theorem put9_3 {r : Req} {l : List UInt8} (h : MwAt F w gw ⟨l, 0⟩) (hF : ∀ k, F k → k < w.heap.size) {v : Value} (hv : Sl .change w G v r.changes) (hG : ∀ k, G k → ¬ F k ∧ k < w.heap.size) (hl : l.length ≤ 1000000) (hm : mayR r) (hkd : r.kind = 3) :
    Calls Try.prog 29 #[.pointer (some ⟨gw, 0, none⟩), .agg (reqCs r v).toArray] w (MwPost F w gw ⟨l ++ encR r, 0⟩) := by
  have HE := hid (show l ++ encR r = l ++ encNum 3 ++ encPart r .session ++ encPart r .seq by simp [encR, hkd, partsOf])
  have HKD := hid hkd
  clear hkd
  obtain ⟨A, c, rfl⟩ := hv.shape
  obtain ⟨n, hn⟩ : ∃ n, n = r.changes.length := ⟨_, rfl⟩
  rw [← hn] at hv ⊢
  have HV := hid hv; have HG := hid hG; have HF := hid hF; have H := hid h; have HM := hid hm
  clear hv hG hF h hn hm
  go_enter Try.func29, Try.ntmps29
  go_wp2_with (first
    | (refine wpl_boxB (v := .agg (reqCs r (.slice A n c)).toArray) rfl rfl rfl ?_; intro g3 w1 hg1 hb1 k1 s1; have HG3 := hid hg1; have K1 := hid k1; have HB1 := hid hb1; clear hg1 k1 s1)
    | (refine wpl_loadA (ty := 29) (o := 0) (n := 11) rfl rfl rfl hb1 (by kernel_rfl) (by kernel_rfl) (reqCs r (.slice A n c)) rfl rfl ?_))
  refine (check9_calls (HV.out.keep K1.out (fun _ _ => id))).mono ?_
  rintro e w2 ⟨rfl, k2⟩
  have HB2 := hid (k2.heap HB1.out id)
  have K2 := hid (K1.out.trans k2 (fun _ _ f => f))
  clear k2 hb1
  rw [if_pos HM.out]
  have hnF : ¬ F g3 := fun e => by have := HF.out _ e; have := HG3.out; omega
  have HC := hid (fun y (hk : Keep F w2 y) => (⟨hk.cell (cell_at HB2.out 0 (.int .i64 3) (congrArg (fun x => some (Value.int .i64 x)) HKD.out)) hnF, hk.cell (cell_at HB2.out 1 (.string r.name) rfl) hnF, hk.cell (cell_at HB2.out 2 (.int .i64 r.session) rfl) hnF, hk.cell (cell_at HB2.out 3 (.int .i64 r.seq) rfl) hnF, hk.cell (cell_at HB2.out 4 (.int .i64 r.base) rfl) hnF, hk.cell (cell_at HB2.out 5 (.string r.ref) rfl) hnF, hk.cell (cell_at HB2.out 6 (.slice A n c) rfl) hnF, hk.cell (cell_at HB2.out 7 (.string r.path) rfl) hnF, hk.cell (cell_at HB2.out 8 (.int .i64 r.from') rfl) hnF, hk.cell (cell_at HB2.out 9 (.int .i64 r.many) rfl) hnF, hk.cell (cell_at HB2.out 10 (.int .i64 r.member) rfl) hnF⟩ : y.cell? ⟨g3, 0, none⟩ = some (.int .i64 3) ∧ y.cell? ⟨g3, 1, none⟩ = some (.string r.name) ∧ y.cell? ⟨g3, 2, none⟩ = some (.int .i64 r.session) ∧ y.cell? ⟨g3, 3, none⟩ = some (.int .i64 r.seq) ∧ y.cell? ⟨g3, 4, none⟩ = some (.int .i64 r.base) ∧ y.cell? ⟨g3, 5, none⟩ = some (.string r.ref) ∧ y.cell? ⟨g3, 6, none⟩ = some (.slice A n c) ∧ y.cell? ⟨g3, 7, none⟩ = some (.string r.path) ∧ y.cell? ⟨g3, 8, none⟩ = some (.int .i64 r.from') ∧ y.cell? ⟨g3, 9, none⟩ = some (.int .i64 r.many) ∧ y.cell? ⟨g3, 10, none⟩ = some (.int .i64 r.member)))
  have h2 := (H.out.keep K2.out (fun _ _ => id)).same
  have K22 := hid (Keep.refl F w2)
  obtain ⟨c0, c1, c2, c3, c4, c5, c6, c7, c8, c9, c10⟩ := HC.out _ K22.out
  have hc := mnum_calls h2 3 (by simp only; omega)
  rw [wNum_good _ (show good 3 from ⟨by omega, by omega⟩)] at hc
  have hln0 : (l ++ encNum 3).length ≤ 1000006 := by have := encNum_small (n := 3) (by omega); simp only [List.length_append]; omega
  rw [show (3 : Int).toNat = 3 from rfl] at hc
  obtain ⟨l0, hl0⟩ : ∃ x, x = l ++ encNum 3 := ⟨_, rfl⟩
  rw [← hl0] at hc hln0
  have HL0 := hid hl0; have HCC := hid hc
  clear h2 hc hl0 hnF
  go_wp2_with fail
  refine HCC.out.mono ?_
  rintro e w3 ⟨rfl, h3, k3⟩
  have K3 := hid (K22.out.then k3)
  have H3 := hid (h3.mono (Grow.trans K22.out.size k3.size))
  clear h3 k3 c0 c1 c2 c3 c4 c5 c6 c7 c8 c9 c10
  obtain ⟨c0, c1, c2, c3, c4, c5, c6, c7, c8, c9, c10⟩ := HC.out _ K3.out
  have hmp := may_all HM.out .session
  have hln1 : (l0 ++ encPart r .session).length ≤ 1017292 := by have := encPart_len9 hmp; simp only [List.length_append]; omega
  have hc := mnum_calls H3.out r.session (by simp only; omega)
  rw [wNum_good _ (show good r.session from hmp)] at hc
  obtain ⟨l1, hl1⟩ : ∃ x, x = l0 ++ encPart r .session := ⟨_, rfl⟩
  rw [show l0 ++ encNum r.session.toNat = l1 from hl1.symm] at hc
  rw [← hl1] at hln1
  have HL1 := hid hl1; have HCC := hid hc
  clear hc hl1 hmp
  go_wp2_with fail
  refine HCC.out.mono ?_
  rintro e w4 ⟨rfl, h4, k4⟩
  have K4 := hid (K3.out.then k4)
  have H4 := hid (h4.mono (Grow.trans K3.out.size k4.size))
  clear h4 k4 c0 c1 c2 c3 c4 c5 c6 c7 c8 c9 c10 HCC
  obtain ⟨c0, c1, c2, c3, c4, c5, c6, c7, c8, c9, c10⟩ := HC.out _ K4.out
  have hmp := may_all HM.out .seq
  have hln2 : (l1 ++ encPart r .seq).length ≤ 1034578 := by have := encPart_len9 hmp; simp only [List.length_append]; omega
  have hc := mnum_calls H4.out r.seq (by simp only; omega)
  rw [wNum_good _ (show good r.seq from hmp)] at hc
  obtain ⟨l2, hl2⟩ : ∃ x, x = l1 ++ encPart r .seq := ⟨_, rfl⟩
  rw [show l1 ++ encNum r.seq.toNat = l2 from hl2.symm] at hc
  rw [← hl2] at hln2
  have HL2 := hid hl2; have HCC := hid hc
  clear hc hl2 hmp
  go_wp2_with fail
  refine HCC.out.mono ?_
  rintro e w5 ⟨rfl, h5, k5⟩
  have K5 := hid (K4.out.then k5)
  have H5 := hid (h5.mono (Grow.trans K4.out.size k5.size))
  clear h5 k5 c0 c1 c2 c3 c4 c5 c6 c7 c8 c9 c10 HCC
  obtain ⟨c0, c1, c2, c3, c4, c5, c6, c7, c8, c9, c10⟩ := HC.out _ K5.out
  go_wp2_with fail
  go_end0
  rw [HE.out, ← HL0.out, ← HL1.out, ← HL2.out]
  exact ⟨rfl, H5.out.mono (fun q hq => hq.imp id (fun ⟨a, b⟩ => ⟨Nat.le_trans K2.out.size a, b⟩)), (K2.out.mono (fun _ _ f => f.elim)).trans K5.out (fun _ _ q => q)⟩
set_option maxRecDepth 20000 in
set_option maxHeartbeats 4000000 in
theorem put9_4 {r : Req} {l : List UInt8} (h : MwAt F w gw ⟨l, 0⟩) (hF : ∀ k, F k → k < w.heap.size) {v : Value} (hv : Sl .change w G v r.changes) (hG : ∀ k, G k → ¬ F k ∧ k < w.heap.size) (hl : l.length ≤ 1000000) (hm : mayR r) (hkd : r.kind = 4) :
    Calls Try.prog 29 #[.pointer (some ⟨gw, 0, none⟩), .agg (reqCs r v).toArray] w (MwPost F w gw ⟨l ++ encR r, 0⟩) := by
  have HE := hid (show l ++ encR r = l ++ encNum 4 ++ encPart r .session ++ encPart r .seq ++ encPart r .path by simp [encR, hkd, partsOf])
  have HKD := hid hkd
  clear hkd
  obtain ⟨A, c, rfl⟩ := hv.shape
  obtain ⟨n, hn⟩ : ∃ n, n = r.changes.length := ⟨_, rfl⟩
  rw [← hn] at hv ⊢
  have HV := hid hv; have HG := hid hG; have HF := hid hF; have H := hid h; have HM := hid hm
  clear hv hG hF h hn hm
  go_enter Try.func29, Try.ntmps29
  go_wp2_with (first
    | (refine wpl_boxB (v := .agg (reqCs r (.slice A n c)).toArray) rfl rfl rfl ?_; intro g3 w1 hg1 hb1 k1 s1; have HG3 := hid hg1; have K1 := hid k1; have HB1 := hid hb1; clear hg1 k1 s1)
    | (refine wpl_loadA (ty := 29) (o := 0) (n := 11) rfl rfl rfl hb1 (by kernel_rfl) (by kernel_rfl) (reqCs r (.slice A n c)) rfl rfl ?_))
  refine (check9_calls (HV.out.keep K1.out (fun _ _ => id))).mono ?_
  rintro e w2 ⟨rfl, k2⟩
  have HB2 := hid (k2.heap HB1.out id)
  have K2 := hid (K1.out.trans k2 (fun _ _ f => f))
  clear k2 hb1
  rw [if_pos HM.out]
  have hnF : ¬ F g3 := fun e => by have := HF.out _ e; have := HG3.out; omega
  have HC := hid (fun y (hk : Keep F w2 y) => (⟨hk.cell (cell_at HB2.out 0 (.int .i64 4) (congrArg (fun x => some (Value.int .i64 x)) HKD.out)) hnF, hk.cell (cell_at HB2.out 1 (.string r.name) rfl) hnF, hk.cell (cell_at HB2.out 2 (.int .i64 r.session) rfl) hnF, hk.cell (cell_at HB2.out 3 (.int .i64 r.seq) rfl) hnF, hk.cell (cell_at HB2.out 4 (.int .i64 r.base) rfl) hnF, hk.cell (cell_at HB2.out 5 (.string r.ref) rfl) hnF, hk.cell (cell_at HB2.out 6 (.slice A n c) rfl) hnF, hk.cell (cell_at HB2.out 7 (.string r.path) rfl) hnF, hk.cell (cell_at HB2.out 8 (.int .i64 r.from') rfl) hnF, hk.cell (cell_at HB2.out 9 (.int .i64 r.many) rfl) hnF, hk.cell (cell_at HB2.out 10 (.int .i64 r.member) rfl) hnF⟩ : y.cell? ⟨g3, 0, none⟩ = some (.int .i64 4) ∧ y.cell? ⟨g3, 1, none⟩ = some (.string r.name) ∧ y.cell? ⟨g3, 2, none⟩ = some (.int .i64 r.session) ∧ y.cell? ⟨g3, 3, none⟩ = some (.int .i64 r.seq) ∧ y.cell? ⟨g3, 4, none⟩ = some (.int .i64 r.base) ∧ y.cell? ⟨g3, 5, none⟩ = some (.string r.ref) ∧ y.cell? ⟨g3, 6, none⟩ = some (.slice A n c) ∧ y.cell? ⟨g3, 7, none⟩ = some (.string r.path) ∧ y.cell? ⟨g3, 8, none⟩ = some (.int .i64 r.from') ∧ y.cell? ⟨g3, 9, none⟩ = some (.int .i64 r.many) ∧ y.cell? ⟨g3, 10, none⟩ = some (.int .i64 r.member)))
  have h2 := (H.out.keep K2.out (fun _ _ => id)).same
  have K22 := hid (Keep.refl F w2)
  obtain ⟨c0, c1, c2, c3, c4, c5, c6, c7, c8, c9, c10⟩ := HC.out _ K22.out
  have hc := mnum_calls h2 4 (by simp only; omega)
  rw [wNum_good _ (show good 4 from ⟨by omega, by omega⟩)] at hc
  have hln0 : (l ++ encNum 4).length ≤ 1000006 := by have := encNum_small (n := 4) (by omega); simp only [List.length_append]; omega
  rw [show (4 : Int).toNat = 4 from rfl] at hc
  obtain ⟨l0, hl0⟩ : ∃ x, x = l ++ encNum 4 := ⟨_, rfl⟩
  rw [← hl0] at hc hln0
  have HL0 := hid hl0; have HCC := hid hc
  clear h2 hc hl0 hnF
  go_wp2_with fail
  refine HCC.out.mono ?_
  rintro e w3 ⟨rfl, h3, k3⟩
  have K3 := hid (K22.out.then k3)
  have H3 := hid (h3.mono (Grow.trans K22.out.size k3.size))
  clear h3 k3 c0 c1 c2 c3 c4 c5 c6 c7 c8 c9 c10
  obtain ⟨c0, c1, c2, c3, c4, c5, c6, c7, c8, c9, c10⟩ := HC.out _ K3.out
  have hmp := may_all HM.out .session
  have hln1 : (l0 ++ encPart r .session).length ≤ 1017292 := by have := encPart_len9 hmp; simp only [List.length_append]; omega
  have hc := mnum_calls H3.out r.session (by simp only; omega)
  rw [wNum_good _ (show good r.session from hmp)] at hc
  obtain ⟨l1, hl1⟩ : ∃ x, x = l0 ++ encPart r .session := ⟨_, rfl⟩
  rw [show l0 ++ encNum r.session.toNat = l1 from hl1.symm] at hc
  rw [← hl1] at hln1
  have HL1 := hid hl1; have HCC := hid hc
  clear hc hl1 hmp
  go_wp2_with fail
  refine HCC.out.mono ?_
  rintro e w4 ⟨rfl, h4, k4⟩
  have K4 := hid (K3.out.then k4)
  have H4 := hid (h4.mono (Grow.trans K3.out.size k4.size))
  clear h4 k4 c0 c1 c2 c3 c4 c5 c6 c7 c8 c9 c10 HCC
  obtain ⟨c0, c1, c2, c3, c4, c5, c6, c7, c8, c9, c10⟩ := HC.out _ K4.out
  have hmp := may_all HM.out .seq
  have hln2 : (l1 ++ encPart r .seq).length ≤ 1034578 := by have := encPart_len9 hmp; simp only [List.length_append]; omega
  have hc := mnum_calls H4.out r.seq (by simp only; omega)
  rw [wNum_good _ (show good r.seq from hmp)] at hc
  obtain ⟨l2, hl2⟩ : ∃ x, x = l1 ++ encPart r .seq := ⟨_, rfl⟩
  rw [show l1 ++ encNum r.seq.toNat = l2 from hl2.symm] at hc
  rw [← hl2] at hln2
  have HL2 := hid hl2; have HCC := hid hc
  clear hc hl2 hmp
  go_wp2_with fail
  refine HCC.out.mono ?_
  rintro e w5 ⟨rfl, h5, k5⟩
  have K5 := hid (K4.out.then k5)
  have H5 := hid (h5.mono (Grow.trans K4.out.size k5.size))
  clear h5 k5 c0 c1 c2 c3 c4 c5 c6 c7 c8 c9 c10 HCC
  obtain ⟨c0, c1, c2, c3, c4, c5, c6, c7, c8, c9, c10⟩ := HC.out _ K5.out
  have hmp := may_all HM.out .path
  have hln3 : (l2 ++ encPart r .path).length ≤ 1051864 := by have := encPart_len9 hmp; simp only [List.length_append]; omega
  have hc := mtext_calls H5.out r.path (by have : r.path.size ≤ 255 := hmp; omega) (by simp only; omega)
  rw [mtext_good _ (show r.path.size ≤ 255 from hmp)] at hc
  obtain ⟨l3, hl3⟩ : ∃ x, x = l2 ++ encPart r .path := ⟨_, rfl⟩
  rw [show l2 ++ encText r.path = l3 from hl3.symm] at hc
  rw [← hl3] at hln3
  have HL3 := hid hl3; have HCC := hid hc
  clear hc hl3 hmp
  go_wp2_with fail
  refine HCC.out.mono ?_
  rintro e w6 ⟨rfl, h6, k6⟩
  have K6 := hid (K5.out.then k6)
  have H6 := hid (h6.mono (Grow.trans K5.out.size k6.size))
  clear h6 k6 c0 c1 c2 c3 c4 c5 c6 c7 c8 c9 c10 HCC
  obtain ⟨c0, c1, c2, c3, c4, c5, c6, c7, c8, c9, c10⟩ := HC.out _ K6.out
  go_wp2_with fail
  go_end0
  rw [HE.out, ← HL0.out, ← HL1.out, ← HL2.out, ← HL3.out]
  exact ⟨rfl, H6.out.mono (fun q hq => hq.imp id (fun ⟨a, b⟩ => ⟨Nat.le_trans K2.out.size a, b⟩)), (K2.out.mono (fun _ _ f => f.elim)).trans K6.out (fun _ _ q => q)⟩
set_option maxRecDepth 20000 in
set_option maxHeartbeats 4000000 in
theorem put9_5 {r : Req} {l : List UInt8} (h : MwAt F w gw ⟨l, 0⟩) (hF : ∀ k, F k → k < w.heap.size) {v : Value} (hv : Sl .change w G v r.changes) (hG : ∀ k, G k → ¬ F k ∧ k < w.heap.size) (hl : l.length ≤ 1000000) (hm : mayR r) (hkd : r.kind = 5) :
    Calls Try.prog 29 #[.pointer (some ⟨gw, 0, none⟩), .agg (reqCs r v).toArray] w (MwPost F w gw ⟨l ++ encR r, 0⟩) := by
  have HE := hid (show l ++ encR r = l ++ encNum 5 ++ encPart r .session ++ encPart r .seq ++ encPart r .from' ++ encPart r .many by simp [encR, hkd, partsOf])
  have HKD := hid hkd
  clear hkd
  obtain ⟨A, c, rfl⟩ := hv.shape
  obtain ⟨n, hn⟩ : ∃ n, n = r.changes.length := ⟨_, rfl⟩
  rw [← hn] at hv ⊢
  have HV := hid hv; have HG := hid hG; have HF := hid hF; have H := hid h; have HM := hid hm
  clear hv hG hF h hn hm
  go_enter Try.func29, Try.ntmps29
  go_wp2_with (first
    | (refine wpl_boxB (v := .agg (reqCs r (.slice A n c)).toArray) rfl rfl rfl ?_; intro g3 w1 hg1 hb1 k1 s1; have HG3 := hid hg1; have K1 := hid k1; have HB1 := hid hb1; clear hg1 k1 s1)
    | (refine wpl_loadA (ty := 29) (o := 0) (n := 11) rfl rfl rfl hb1 (by kernel_rfl) (by kernel_rfl) (reqCs r (.slice A n c)) rfl rfl ?_))
  refine (check9_calls (HV.out.keep K1.out (fun _ _ => id))).mono ?_
  rintro e w2 ⟨rfl, k2⟩
  have HB2 := hid (k2.heap HB1.out id)
  have K2 := hid (K1.out.trans k2 (fun _ _ f => f))
  clear k2 hb1
  rw [if_pos HM.out]
  have hnF : ¬ F g3 := fun e => by have := HF.out _ e; have := HG3.out; omega
  have HC := hid (fun y (hk : Keep F w2 y) => (⟨hk.cell (cell_at HB2.out 0 (.int .i64 5) (congrArg (fun x => some (Value.int .i64 x)) HKD.out)) hnF, hk.cell (cell_at HB2.out 1 (.string r.name) rfl) hnF, hk.cell (cell_at HB2.out 2 (.int .i64 r.session) rfl) hnF, hk.cell (cell_at HB2.out 3 (.int .i64 r.seq) rfl) hnF, hk.cell (cell_at HB2.out 4 (.int .i64 r.base) rfl) hnF, hk.cell (cell_at HB2.out 5 (.string r.ref) rfl) hnF, hk.cell (cell_at HB2.out 6 (.slice A n c) rfl) hnF, hk.cell (cell_at HB2.out 7 (.string r.path) rfl) hnF, hk.cell (cell_at HB2.out 8 (.int .i64 r.from') rfl) hnF, hk.cell (cell_at HB2.out 9 (.int .i64 r.many) rfl) hnF, hk.cell (cell_at HB2.out 10 (.int .i64 r.member) rfl) hnF⟩ : y.cell? ⟨g3, 0, none⟩ = some (.int .i64 5) ∧ y.cell? ⟨g3, 1, none⟩ = some (.string r.name) ∧ y.cell? ⟨g3, 2, none⟩ = some (.int .i64 r.session) ∧ y.cell? ⟨g3, 3, none⟩ = some (.int .i64 r.seq) ∧ y.cell? ⟨g3, 4, none⟩ = some (.int .i64 r.base) ∧ y.cell? ⟨g3, 5, none⟩ = some (.string r.ref) ∧ y.cell? ⟨g3, 6, none⟩ = some (.slice A n c) ∧ y.cell? ⟨g3, 7, none⟩ = some (.string r.path) ∧ y.cell? ⟨g3, 8, none⟩ = some (.int .i64 r.from') ∧ y.cell? ⟨g3, 9, none⟩ = some (.int .i64 r.many) ∧ y.cell? ⟨g3, 10, none⟩ = some (.int .i64 r.member)))
  have h2 := (H.out.keep K2.out (fun _ _ => id)).same
  have K22 := hid (Keep.refl F w2)
  obtain ⟨c0, c1, c2, c3, c4, c5, c6, c7, c8, c9, c10⟩ := HC.out _ K22.out
  have hc := mnum_calls h2 5 (by simp only; omega)
  rw [wNum_good _ (show good 5 from ⟨by omega, by omega⟩)] at hc
  have hln0 : (l ++ encNum 5).length ≤ 1000006 := by have := encNum_small (n := 5) (by omega); simp only [List.length_append]; omega
  rw [show (5 : Int).toNat = 5 from rfl] at hc
  obtain ⟨l0, hl0⟩ : ∃ x, x = l ++ encNum 5 := ⟨_, rfl⟩
  rw [← hl0] at hc hln0
  have HL0 := hid hl0; have HCC := hid hc
  clear h2 hc hl0 hnF
  go_wp2_with fail
  refine HCC.out.mono ?_
  rintro e w3 ⟨rfl, h3, k3⟩
  have K3 := hid (K22.out.then k3)
  have H3 := hid (h3.mono (Grow.trans K22.out.size k3.size))
  clear h3 k3 c0 c1 c2 c3 c4 c5 c6 c7 c8 c9 c10
  obtain ⟨c0, c1, c2, c3, c4, c5, c6, c7, c8, c9, c10⟩ := HC.out _ K3.out
  have hmp := may_all HM.out .session
  have hln1 : (l0 ++ encPart r .session).length ≤ 1017292 := by have := encPart_len9 hmp; simp only [List.length_append]; omega
  have hc := mnum_calls H3.out r.session (by simp only; omega)
  rw [wNum_good _ (show good r.session from hmp)] at hc
  obtain ⟨l1, hl1⟩ : ∃ x, x = l0 ++ encPart r .session := ⟨_, rfl⟩
  rw [show l0 ++ encNum r.session.toNat = l1 from hl1.symm] at hc
  rw [← hl1] at hln1
  have HL1 := hid hl1; have HCC := hid hc
  clear hc hl1 hmp
  go_wp2_with fail
  refine HCC.out.mono ?_
  rintro e w4 ⟨rfl, h4, k4⟩
  have K4 := hid (K3.out.then k4)
  have H4 := hid (h4.mono (Grow.trans K3.out.size k4.size))
  clear h4 k4 c0 c1 c2 c3 c4 c5 c6 c7 c8 c9 c10 HCC
  obtain ⟨c0, c1, c2, c3, c4, c5, c6, c7, c8, c9, c10⟩ := HC.out _ K4.out
  have hmp := may_all HM.out .seq
  have hln2 : (l1 ++ encPart r .seq).length ≤ 1034578 := by have := encPart_len9 hmp; simp only [List.length_append]; omega
  have hc := mnum_calls H4.out r.seq (by simp only; omega)
  rw [wNum_good _ (show good r.seq from hmp)] at hc
  obtain ⟨l2, hl2⟩ : ∃ x, x = l1 ++ encPart r .seq := ⟨_, rfl⟩
  rw [show l1 ++ encNum r.seq.toNat = l2 from hl2.symm] at hc
  rw [← hl2] at hln2
  have HL2 := hid hl2; have HCC := hid hc
  clear hc hl2 hmp
  go_wp2_with fail
  refine HCC.out.mono ?_
  rintro e w5 ⟨rfl, h5, k5⟩
  have K5 := hid (K4.out.then k5)
  have H5 := hid (h5.mono (Grow.trans K4.out.size k5.size))
  clear h5 k5 c0 c1 c2 c3 c4 c5 c6 c7 c8 c9 c10 HCC
  obtain ⟨c0, c1, c2, c3, c4, c5, c6, c7, c8, c9, c10⟩ := HC.out _ K5.out
  have hmp := may_all HM.out .from'
  have hln3 : (l2 ++ encPart r .from').length ≤ 1051864 := by have := encPart_len9 hmp; simp only [List.length_append]; omega
  have hc := mnum_calls H5.out r.from' (by simp only; omega)
  rw [wNum_good _ (show good r.from' from hmp)] at hc
  obtain ⟨l3, hl3⟩ : ∃ x, x = l2 ++ encPart r .from' := ⟨_, rfl⟩
  rw [show l2 ++ encNum r.from'.toNat = l3 from hl3.symm] at hc
  rw [← hl3] at hln3
  have HL3 := hid hl3; have HCC := hid hc
  clear hc hl3 hmp
  go_wp2_with fail
  refine HCC.out.mono ?_
  rintro e w6 ⟨rfl, h6, k6⟩
  have K6 := hid (K5.out.then k6)
  have H6 := hid (h6.mono (Grow.trans K5.out.size k6.size))
  clear h6 k6 c0 c1 c2 c3 c4 c5 c6 c7 c8 c9 c10 HCC
  obtain ⟨c0, c1, c2, c3, c4, c5, c6, c7, c8, c9, c10⟩ := HC.out _ K6.out
  have hmp := may_all HM.out .many
  have hln4 : (l3 ++ encPart r .many).length ≤ 1069150 := by have := encPart_len9 hmp; simp only [List.length_append]; omega
  have hc := mnum_calls H6.out r.many (by simp only; omega)
  rw [wNum_good _ (show good r.many from hmp)] at hc
  obtain ⟨l4, hl4⟩ : ∃ x, x = l3 ++ encPart r .many := ⟨_, rfl⟩
  rw [show l3 ++ encNum r.many.toNat = l4 from hl4.symm] at hc
  rw [← hl4] at hln4
  have HL4 := hid hl4; have HCC := hid hc
  clear hc hl4 hmp
  go_wp2_with fail
  refine HCC.out.mono ?_
  rintro e w7 ⟨rfl, h7, k7⟩
  have K7 := hid (K6.out.then k7)
  have H7 := hid (h7.mono (Grow.trans K6.out.size k7.size))
  clear h7 k7 c0 c1 c2 c3 c4 c5 c6 c7 c8 c9 c10 HCC
  obtain ⟨c0, c1, c2, c3, c4, c5, c6, c7, c8, c9, c10⟩ := HC.out _ K7.out
  go_wp2_with fail
  go_end0
  rw [HE.out, ← HL0.out, ← HL1.out, ← HL2.out, ← HL3.out, ← HL4.out]
  exact ⟨rfl, H7.out.mono (fun q hq => hq.imp id (fun ⟨a, b⟩ => ⟨Nat.le_trans K2.out.size a, b⟩)), (K2.out.mono (fun _ _ f => f.elim)).trans K7.out (fun _ _ q => q)⟩
set_option maxRecDepth 20000 in
set_option maxHeartbeats 4000000 in
theorem put9_6 {r : Req} {l : List UInt8} (h : MwAt F w gw ⟨l, 0⟩) (hF : ∀ k, F k → k < w.heap.size) {v : Value} (hv : Sl .change w G v r.changes) (hG : ∀ k, G k → ¬ F k ∧ k < w.heap.size) (hl : l.length ≤ 1000000) (hm : mayR r) (hkd : r.kind = 6) :
    Calls Try.prog 29 #[.pointer (some ⟨gw, 0, none⟩), .agg (reqCs r v).toArray] w (MwPost F w gw ⟨l ++ encR r, 0⟩) := by
  have HE := hid (show l ++ encR r = l ++ encNum 6 ++ encPart r .session ++ encPart r .seq ++ encPart r .member by simp [encR, hkd, partsOf])
  have HKD := hid hkd
  clear hkd
  obtain ⟨A, c, rfl⟩ := hv.shape
  obtain ⟨n, hn⟩ : ∃ n, n = r.changes.length := ⟨_, rfl⟩
  rw [← hn] at hv ⊢
  have HV := hid hv; have HG := hid hG; have HF := hid hF; have H := hid h; have HM := hid hm
  clear hv hG hF h hn hm
  go_enter Try.func29, Try.ntmps29
  go_wp2_with (first
    | (refine wpl_boxB (v := .agg (reqCs r (.slice A n c)).toArray) rfl rfl rfl ?_; intro g3 w1 hg1 hb1 k1 s1; have HG3 := hid hg1; have K1 := hid k1; have HB1 := hid hb1; clear hg1 k1 s1)
    | (refine wpl_loadA (ty := 29) (o := 0) (n := 11) rfl rfl rfl hb1 (by kernel_rfl) (by kernel_rfl) (reqCs r (.slice A n c)) rfl rfl ?_))
  refine (check9_calls (HV.out.keep K1.out (fun _ _ => id))).mono ?_
  rintro e w2 ⟨rfl, k2⟩
  have HB2 := hid (k2.heap HB1.out id)
  have K2 := hid (K1.out.trans k2 (fun _ _ f => f))
  clear k2 hb1
  rw [if_pos HM.out]
  have hnF : ¬ F g3 := fun e => by have := HF.out _ e; have := HG3.out; omega
  have HC := hid (fun y (hk : Keep F w2 y) => (⟨hk.cell (cell_at HB2.out 0 (.int .i64 6) (congrArg (fun x => some (Value.int .i64 x)) HKD.out)) hnF, hk.cell (cell_at HB2.out 1 (.string r.name) rfl) hnF, hk.cell (cell_at HB2.out 2 (.int .i64 r.session) rfl) hnF, hk.cell (cell_at HB2.out 3 (.int .i64 r.seq) rfl) hnF, hk.cell (cell_at HB2.out 4 (.int .i64 r.base) rfl) hnF, hk.cell (cell_at HB2.out 5 (.string r.ref) rfl) hnF, hk.cell (cell_at HB2.out 6 (.slice A n c) rfl) hnF, hk.cell (cell_at HB2.out 7 (.string r.path) rfl) hnF, hk.cell (cell_at HB2.out 8 (.int .i64 r.from') rfl) hnF, hk.cell (cell_at HB2.out 9 (.int .i64 r.many) rfl) hnF, hk.cell (cell_at HB2.out 10 (.int .i64 r.member) rfl) hnF⟩ : y.cell? ⟨g3, 0, none⟩ = some (.int .i64 6) ∧ y.cell? ⟨g3, 1, none⟩ = some (.string r.name) ∧ y.cell? ⟨g3, 2, none⟩ = some (.int .i64 r.session) ∧ y.cell? ⟨g3, 3, none⟩ = some (.int .i64 r.seq) ∧ y.cell? ⟨g3, 4, none⟩ = some (.int .i64 r.base) ∧ y.cell? ⟨g3, 5, none⟩ = some (.string r.ref) ∧ y.cell? ⟨g3, 6, none⟩ = some (.slice A n c) ∧ y.cell? ⟨g3, 7, none⟩ = some (.string r.path) ∧ y.cell? ⟨g3, 8, none⟩ = some (.int .i64 r.from') ∧ y.cell? ⟨g3, 9, none⟩ = some (.int .i64 r.many) ∧ y.cell? ⟨g3, 10, none⟩ = some (.int .i64 r.member)))
  have h2 := (H.out.keep K2.out (fun _ _ => id)).same
  have K22 := hid (Keep.refl F w2)
  obtain ⟨c0, c1, c2, c3, c4, c5, c6, c7, c8, c9, c10⟩ := HC.out _ K22.out
  have hc := mnum_calls h2 6 (by simp only; omega)
  rw [wNum_good _ (show good 6 from ⟨by omega, by omega⟩)] at hc
  have hln0 : (l ++ encNum 6).length ≤ 1000006 := by have := encNum_small (n := 6) (by omega); simp only [List.length_append]; omega
  rw [show (6 : Int).toNat = 6 from rfl] at hc
  obtain ⟨l0, hl0⟩ : ∃ x, x = l ++ encNum 6 := ⟨_, rfl⟩
  rw [← hl0] at hc hln0
  have HL0 := hid hl0; have HCC := hid hc
  clear h2 hc hl0 hnF
  go_wp2_with fail
  refine HCC.out.mono ?_
  rintro e w3 ⟨rfl, h3, k3⟩
  have K3 := hid (K22.out.then k3)
  have H3 := hid (h3.mono (Grow.trans K22.out.size k3.size))
  clear h3 k3 c0 c1 c2 c3 c4 c5 c6 c7 c8 c9 c10
  obtain ⟨c0, c1, c2, c3, c4, c5, c6, c7, c8, c9, c10⟩ := HC.out _ K3.out
  have hmp := may_all HM.out .session
  have hln1 : (l0 ++ encPart r .session).length ≤ 1017292 := by have := encPart_len9 hmp; simp only [List.length_append]; omega
  have hc := mnum_calls H3.out r.session (by simp only; omega)
  rw [wNum_good _ (show good r.session from hmp)] at hc
  obtain ⟨l1, hl1⟩ : ∃ x, x = l0 ++ encPart r .session := ⟨_, rfl⟩
  rw [show l0 ++ encNum r.session.toNat = l1 from hl1.symm] at hc
  rw [← hl1] at hln1
  have HL1 := hid hl1; have HCC := hid hc
  clear hc hl1 hmp
  go_wp2_with fail
  refine HCC.out.mono ?_
  rintro e w4 ⟨rfl, h4, k4⟩
  have K4 := hid (K3.out.then k4)
  have H4 := hid (h4.mono (Grow.trans K3.out.size k4.size))
  clear h4 k4 c0 c1 c2 c3 c4 c5 c6 c7 c8 c9 c10 HCC
  obtain ⟨c0, c1, c2, c3, c4, c5, c6, c7, c8, c9, c10⟩ := HC.out _ K4.out
  have hmp := may_all HM.out .seq
  have hln2 : (l1 ++ encPart r .seq).length ≤ 1034578 := by have := encPart_len9 hmp; simp only [List.length_append]; omega
  have hc := mnum_calls H4.out r.seq (by simp only; omega)
  rw [wNum_good _ (show good r.seq from hmp)] at hc
  obtain ⟨l2, hl2⟩ : ∃ x, x = l1 ++ encPart r .seq := ⟨_, rfl⟩
  rw [show l1 ++ encNum r.seq.toNat = l2 from hl2.symm] at hc
  rw [← hl2] at hln2
  have HL2 := hid hl2; have HCC := hid hc
  clear hc hl2 hmp
  go_wp2_with fail
  refine HCC.out.mono ?_
  rintro e w5 ⟨rfl, h5, k5⟩
  have K5 := hid (K4.out.then k5)
  have H5 := hid (h5.mono (Grow.trans K4.out.size k5.size))
  clear h5 k5 c0 c1 c2 c3 c4 c5 c6 c7 c8 c9 c10 HCC
  obtain ⟨c0, c1, c2, c3, c4, c5, c6, c7, c8, c9, c10⟩ := HC.out _ K5.out
  have hmp := may_all HM.out .member
  have hln3 : (l2 ++ encPart r .member).length ≤ 1051864 := by have := encPart_len9 hmp; simp only [List.length_append]; omega
  have hc := mnum_calls H5.out r.member (by simp only; omega)
  rw [wNum_good _ (show good r.member from hmp)] at hc
  obtain ⟨l3, hl3⟩ : ∃ x, x = l2 ++ encPart r .member := ⟨_, rfl⟩
  rw [show l2 ++ encNum r.member.toNat = l3 from hl3.symm] at hc
  rw [← hl3] at hln3
  have HL3 := hid hl3; have HCC := hid hc
  clear hc hl3 hmp
  go_wp2_with fail
  refine HCC.out.mono ?_
  rintro e w6 ⟨rfl, h6, k6⟩
  have K6 := hid (K5.out.then k6)
  have H6 := hid (h6.mono (Grow.trans K5.out.size k6.size))
  clear h6 k6 c0 c1 c2 c3 c4 c5 c6 c7 c8 c9 c10 HCC
  obtain ⟨c0, c1, c2, c3, c4, c5, c6, c7, c8, c9, c10⟩ := HC.out _ K6.out
  go_wp2_with fail
  go_end0
  rw [HE.out, ← HL0.out, ← HL1.out, ← HL2.out, ← HL3.out]
  exact ⟨rfl, H6.out.mono (fun q hq => hq.imp id (fun ⟨a, b⟩ => ⟨Nat.le_trans K2.out.size a, b⟩)), (K2.out.mono (fun _ _ f => f.elim)).trans K6.out (fun _ _ q => q)⟩
set_option maxRecDepth 20000 in
set_option maxHeartbeats 4000000 in
theorem put9_7 {r : Req} {l : List UInt8} (h : MwAt F w gw ⟨l, 0⟩) (hF : ∀ k, F k → k < w.heap.size) {v : Value} (hv : Sl .change w G v r.changes) (hG : ∀ k, G k → ¬ F k ∧ k < w.heap.size) (hl : l.length ≤ 1000000) (hm : mayR r) (hkd : r.kind = 7) :
    Calls Try.prog 29 #[.pointer (some ⟨gw, 0, none⟩), .agg (reqCs r v).toArray] w (MwPost F w gw ⟨l ++ encR r, 0⟩) := by
  have HE := hid (show l ++ encR r = l ++ encNum 7 ++ encPart r .session ++ encPart r .seq ++ encPart r .member by simp [encR, hkd, partsOf])
  have HKD := hid hkd
  clear hkd
  obtain ⟨A, c, rfl⟩ := hv.shape
  obtain ⟨n, hn⟩ : ∃ n, n = r.changes.length := ⟨_, rfl⟩
  rw [← hn] at hv ⊢
  have HV := hid hv; have HG := hid hG; have HF := hid hF; have H := hid h; have HM := hid hm
  clear hv hG hF h hn hm
  go_enter Try.func29, Try.ntmps29
  go_wp2_with (first
    | (refine wpl_boxB (v := .agg (reqCs r (.slice A n c)).toArray) rfl rfl rfl ?_; intro g3 w1 hg1 hb1 k1 s1; have HG3 := hid hg1; have K1 := hid k1; have HB1 := hid hb1; clear hg1 k1 s1)
    | (refine wpl_loadA (ty := 29) (o := 0) (n := 11) rfl rfl rfl hb1 (by kernel_rfl) (by kernel_rfl) (reqCs r (.slice A n c)) rfl rfl ?_))
  refine (check9_calls (HV.out.keep K1.out (fun _ _ => id))).mono ?_
  rintro e w2 ⟨rfl, k2⟩
  have HB2 := hid (k2.heap HB1.out id)
  have K2 := hid (K1.out.trans k2 (fun _ _ f => f))
  clear k2 hb1
  rw [if_pos HM.out]
  have hnF : ¬ F g3 := fun e => by have := HF.out _ e; have := HG3.out; omega
  have HC := hid (fun y (hk : Keep F w2 y) => (⟨hk.cell (cell_at HB2.out 0 (.int .i64 7) (congrArg (fun x => some (Value.int .i64 x)) HKD.out)) hnF, hk.cell (cell_at HB2.out 1 (.string r.name) rfl) hnF, hk.cell (cell_at HB2.out 2 (.int .i64 r.session) rfl) hnF, hk.cell (cell_at HB2.out 3 (.int .i64 r.seq) rfl) hnF, hk.cell (cell_at HB2.out 4 (.int .i64 r.base) rfl) hnF, hk.cell (cell_at HB2.out 5 (.string r.ref) rfl) hnF, hk.cell (cell_at HB2.out 6 (.slice A n c) rfl) hnF, hk.cell (cell_at HB2.out 7 (.string r.path) rfl) hnF, hk.cell (cell_at HB2.out 8 (.int .i64 r.from') rfl) hnF, hk.cell (cell_at HB2.out 9 (.int .i64 r.many) rfl) hnF, hk.cell (cell_at HB2.out 10 (.int .i64 r.member) rfl) hnF⟩ : y.cell? ⟨g3, 0, none⟩ = some (.int .i64 7) ∧ y.cell? ⟨g3, 1, none⟩ = some (.string r.name) ∧ y.cell? ⟨g3, 2, none⟩ = some (.int .i64 r.session) ∧ y.cell? ⟨g3, 3, none⟩ = some (.int .i64 r.seq) ∧ y.cell? ⟨g3, 4, none⟩ = some (.int .i64 r.base) ∧ y.cell? ⟨g3, 5, none⟩ = some (.string r.ref) ∧ y.cell? ⟨g3, 6, none⟩ = some (.slice A n c) ∧ y.cell? ⟨g3, 7, none⟩ = some (.string r.path) ∧ y.cell? ⟨g3, 8, none⟩ = some (.int .i64 r.from') ∧ y.cell? ⟨g3, 9, none⟩ = some (.int .i64 r.many) ∧ y.cell? ⟨g3, 10, none⟩ = some (.int .i64 r.member)))
  have h2 := (H.out.keep K2.out (fun _ _ => id)).same
  have K22 := hid (Keep.refl F w2)
  obtain ⟨c0, c1, c2, c3, c4, c5, c6, c7, c8, c9, c10⟩ := HC.out _ K22.out
  have hc := mnum_calls h2 7 (by simp only; omega)
  rw [wNum_good _ (show good 7 from ⟨by omega, by omega⟩)] at hc
  have hln0 : (l ++ encNum 7).length ≤ 1000006 := by have := encNum_small (n := 7) (by omega); simp only [List.length_append]; omega
  rw [show (7 : Int).toNat = 7 from rfl] at hc
  obtain ⟨l0, hl0⟩ : ∃ x, x = l ++ encNum 7 := ⟨_, rfl⟩
  rw [← hl0] at hc hln0
  have HL0 := hid hl0; have HCC := hid hc
  clear h2 hc hl0 hnF
  go_wp2_with fail
  refine HCC.out.mono ?_
  rintro e w3 ⟨rfl, h3, k3⟩
  have K3 := hid (K22.out.then k3)
  have H3 := hid (h3.mono (Grow.trans K22.out.size k3.size))
  clear h3 k3 c0 c1 c2 c3 c4 c5 c6 c7 c8 c9 c10
  obtain ⟨c0, c1, c2, c3, c4, c5, c6, c7, c8, c9, c10⟩ := HC.out _ K3.out
  have hmp := may_all HM.out .session
  have hln1 : (l0 ++ encPart r .session).length ≤ 1017292 := by have := encPart_len9 hmp; simp only [List.length_append]; omega
  have hc := mnum_calls H3.out r.session (by simp only; omega)
  rw [wNum_good _ (show good r.session from hmp)] at hc
  obtain ⟨l1, hl1⟩ : ∃ x, x = l0 ++ encPart r .session := ⟨_, rfl⟩
  rw [show l0 ++ encNum r.session.toNat = l1 from hl1.symm] at hc
  rw [← hl1] at hln1
  have HL1 := hid hl1; have HCC := hid hc
  clear hc hl1 hmp
  go_wp2_with fail
  refine HCC.out.mono ?_
  rintro e w4 ⟨rfl, h4, k4⟩
  have K4 := hid (K3.out.then k4)
  have H4 := hid (h4.mono (Grow.trans K3.out.size k4.size))
  clear h4 k4 c0 c1 c2 c3 c4 c5 c6 c7 c8 c9 c10 HCC
  obtain ⟨c0, c1, c2, c3, c4, c5, c6, c7, c8, c9, c10⟩ := HC.out _ K4.out
  have hmp := may_all HM.out .seq
  have hln2 : (l1 ++ encPart r .seq).length ≤ 1034578 := by have := encPart_len9 hmp; simp only [List.length_append]; omega
  have hc := mnum_calls H4.out r.seq (by simp only; omega)
  rw [wNum_good _ (show good r.seq from hmp)] at hc
  obtain ⟨l2, hl2⟩ : ∃ x, x = l1 ++ encPart r .seq := ⟨_, rfl⟩
  rw [show l1 ++ encNum r.seq.toNat = l2 from hl2.symm] at hc
  rw [← hl2] at hln2
  have HL2 := hid hl2; have HCC := hid hc
  clear hc hl2 hmp
  go_wp2_with fail
  refine HCC.out.mono ?_
  rintro e w5 ⟨rfl, h5, k5⟩
  have K5 := hid (K4.out.then k5)
  have H5 := hid (h5.mono (Grow.trans K4.out.size k5.size))
  clear h5 k5 c0 c1 c2 c3 c4 c5 c6 c7 c8 c9 c10 HCC
  obtain ⟨c0, c1, c2, c3, c4, c5, c6, c7, c8, c9, c10⟩ := HC.out _ K5.out
  have hmp := may_all HM.out .member
  have hln3 : (l2 ++ encPart r .member).length ≤ 1051864 := by have := encPart_len9 hmp; simp only [List.length_append]; omega
  have hc := mnum_calls H5.out r.member (by simp only; omega)
  rw [wNum_good _ (show good r.member from hmp)] at hc
  obtain ⟨l3, hl3⟩ : ∃ x, x = l2 ++ encPart r .member := ⟨_, rfl⟩
  rw [show l2 ++ encNum r.member.toNat = l3 from hl3.symm] at hc
  rw [← hl3] at hln3
  have HL3 := hid hl3; have HCC := hid hc
  clear hc hl3 hmp
  go_wp2_with fail
  refine HCC.out.mono ?_
  rintro e w6 ⟨rfl, h6, k6⟩
  have K6 := hid (K5.out.then k6)
  have H6 := hid (h6.mono (Grow.trans K5.out.size k6.size))
  clear h6 k6 c0 c1 c2 c3 c4 c5 c6 c7 c8 c9 c10 HCC
  obtain ⟨c0, c1, c2, c3, c4, c5, c6, c7, c8, c9, c10⟩ := HC.out _ K6.out
  go_wp2_with fail
  go_end0
  rw [HE.out, ← HL0.out, ← HL1.out, ← HL2.out, ← HL3.out]
  exact ⟨rfl, H6.out.mono (fun q hq => hq.imp id (fun ⟨a, b⟩ => ⟨Nat.le_trans K2.out.size a, b⟩)), (K2.out.mono (fun _ _ f => f.elim)).trans K6.out (fun _ _ q => q)⟩
set_option maxRecDepth 20000 in
set_option maxHeartbeats 4000000 in
theorem put9_bad {r : Req} {l : List UInt8} (h : MwAt F w gw ⟨l, 0⟩) (hF : ∀ k, F k → k < w.heap.size) {v : Value} (hv : Sl .change w G v r.changes) (hG : ∀ k, G k → ¬ F k ∧ k < w.heap.size) (_hl : l.length ≤ 1000000) (hm : ¬ mayR r) :
    Calls Try.prog 29 #[.pointer (some ⟨gw, 0, none⟩), .agg (reqCs r v).toArray] w (MwPost F w gw (wRefuse ⟨l, 0⟩)) := by
  obtain ⟨A, c, rfl⟩ := hv.shape
  obtain ⟨n, hn⟩ : ∃ n, n = r.changes.length := ⟨_, rfl⟩
  rw [← hn] at hv ⊢
  have HV := hid hv; have HG := hid hG; have HF := hid hF; have H := hid h; have HM := hid hm
  clear hv hG hF h hn hm
  go_enter Try.func29, Try.ntmps29
  go_wp2_with (first
    | (refine wpl_boxB (v := .agg (reqCs r (.slice A n c)).toArray) rfl rfl rfl ?_; intro g3 w1 hg1 hb1 k1 s1; have HG3 := hid hg1; have K1 := hid k1; have HB1 := hid hb1; clear hg1 k1 s1)
    | (refine wpl_loadA (ty := 29) (o := 0) (n := 11) rfl rfl rfl hb1 (by kernel_rfl) (by kernel_rfl) (reqCs r (.slice A n c)) rfl rfl ?_))
  refine (check9_calls (HV.out.keep K1.out (fun _ _ => id))).mono ?_
  rintro e w2 ⟨rfl, k2⟩
  have HB2 := hid (k2.heap HB1.out id)
  have K2 := hid (K1.out.trans k2 (fun _ _ f => f))
  clear k2 hb1
  rw [if_neg HM.out]
  have hc := mrefuse_calls (H.out.keep K2.out (fun _ _ => id))
  have HCC := hid hc
  clear hc
  go_wp2_with fail
  refine HCC.out.mono ?_
  rintro e w3 ⟨rfl, h3, k3⟩
  go_wp2_with fail
  go_end0
  exact ⟨rfl, h3.mono (fun q hq => hq.imp id (fun ⟨a, b⟩ => ⟨Nat.le_trans K2.out.size a, b⟩)), (K2.out.mono (fun _ _ f => f.elim)).trans k3 (fun _ _ q => q)⟩
def put9S (l : List UInt8) (r : Req) : WS := if mayR r then ⟨l ++ encR r, 0⟩ else wRefuse ⟨l, 0⟩
theorem put9_calls {r : Req} {l : List UInt8} (h : MwAt F w gw ⟨l, 0⟩) (hF : ∀ k, F k → k < w.heap.size) {v : Value} (hv : Sl .change w G v r.changes) (hG : ∀ k, G k → ¬ F k ∧ k < w.heap.size) (hl : l.length ≤ 1000000) :
    Calls Try.prog 29 #[.pointer (some ⟨gw, 0, none⟩), .agg (reqCs r v).toArray] w (MwPost F w gw (put9S l r)) := by
  unfold put9S
  by_cases hm : mayR r
  · rw [if_pos hm]
    have hk := hm.1
    have : r.kind = 0 ∨ r.kind = 1 ∨ r.kind = 2 ∨ r.kind = 3 ∨ r.kind = 4 ∨ r.kind = 5 ∨ r.kind = 6 ∨ r.kind = 7 := by omega
    rcases this with e | e | e | e | e | e | e | e
    · exact put9_0 h hF hv hG hl hm e
    · exact put9_1 h hF hv hG hl hm e
    · exact put9_2 h hF hv hG hl hm e
    · exact put9_3 h hF hv hG hl hm e
    · exact put9_4 h hF hv hG hl hm e
    · exact put9_5 h hF hv hG hl hm e
    · exact put9_6 h hF hv hG hl hm e
    · exact put9_7 h hF hv hG hl hm e
  · rw [if_neg hm]
    exact put9_bad h hF hv hG hl hm
end
end Go.Proofs.Ytdijafolldneeaa
