/- entry.Put: a request is written. -/
import Derived.Test.YtnekfonnceknoaaEntPut
import Derived.Test.YtnekfonnceknoaaEntOnly
namespace Go.Proofs.Ytnekfonnceknoaa
open Go.RowKit
section
variable {F G : Nat → Prop} {w : World} {gw gx : Nat} {s : WS} {r : Req} {v u : Value} {x : Verdict}
theorem part_calls (p : EPart) (hx : w.heap[gx]? = some (XObj gw r v x u)) (h : WrAt F w gw s) (hgx : ¬ F gx) (hl : s.b.length ≤ 30000000000000) (hv : Sl .change w G v r.changes) (hG : ∀ k, G k → ¬ F k ∧ k < w.heap.size) (hF : ∀ k, F k → k < w.heap.size) :
    Calls Try.prog (partF p) #[.pointer (some ⟨gx, 0, none⟩)] w (WrPost F w gw (ePart r p s)) := by
  cases p
  · exact part_name hx h hgx hl
  · exact part_session hx h hgx hl
  · exact part_seq hx h hgx hl
  · exact part_base hx h hgx hl
  · exact part_ref hx h hgx hl
  · exact part_changes hx h hgx hl hv hG hF
  · exact part_path hx h hgx hl
  · exact part_from hx h hgx hl
  · exact part_many hx h hgx hl
  · exact part_member hx h hgx hl
theorem parts_len (r : Req) (l : List EPart) (s : WS) : (l.foldl (fun s p => ePart r p s) s).b.length ≤ s.b.length + l.length * 17286 := by
  induction l generalizing s with
  | nil => simp
  | cons c l ih =>
    rw [List.foldl_cons, List.length_cons, Nat.succ_mul]
    have := ih (ePart r c s)
    have := ePart_len (r := r) (p := c) (s := s)
    omega
theorem partsOf_len (k : Int) : (partsOf k).length ≤ 5 := by
  unfold partsOf
  repeat (first | (split; · simp) | simp)
def vdZ : Verdict := ⟨0, 0, 0, ByteArray.empty, 0, [], 0⟩
set_option maxRecDepth 20000 in
set_option maxHeartbeats 8000000 in
/-- A request is written. -/
theorem put_calls (h : WrAt F w gw s) (hF : ∀ k, F k → k < w.heap.size) (hv : Sl .change w G v r.changes) (hG : ∀ k, G k → ¬ F k ∧ k < w.heap.size) (hl : s.b.length ≤ 20000000000000) :
    Calls Try.prog 49 #[.pointer (some ⟨gw, 0, none⟩), .agg (reqCs r v).toArray] w (WrPost F w gw (ePut s r)) := by
  obtain ⟨A, c, rfl⟩ := hv.shape
  obtain ⟨nc, hnc⟩ : ∃ nc, nc = r.changes.length := ⟨_, rfl⟩
  rw [← hnc] at hv ⊢
  have HV := hid hv; have HG := hid hG; have HF := hid hF; have HW := hid h
  clear hv hG hF h hnc
  have hq11 : (reqCs r (.slice A nc c)).length = 11 := rfl
  go_enter Try.func49, Try.ntmps49
  go_wp2_with (first
    | (refine wpl_boxB (v := .agg (reqCs r (.slice A nc c)).toArray) rfl rfl rfl ?_; intro g3 w1 hg1 hb1 k1 s1; have HG3 := hid hg1; have K1 := hid k1; have HB1 := hid hb1; clear hg1 k1 s1)
    | (refine wpl_loadA (ty := 29) (o := 0) (n := 11) rfl rfl rfl hb1 (by kernel_rfl) (by kernel_rfl) (reqCs r (.slice A nc c)) rfl rfl ?_)
    | (refine wpl_build rfl rfl (.pointer (some ⟨gw, 0, none⟩) :: (reqCs r (.slice A nc c) ++ verdictCs vdZ (.slice none 0 0))).toArray (by kernel_rfl) ?_)
    | (have _f := HB1; refine wpl_boxB (v := .agg (.pointer (some ⟨gw, 0, none⟩) :: (reqCs r (.slice A nc c) ++ verdictCs vdZ (.slice none 0 0))).toArray) rfl rfl rfl ?_; intro gx w2 hgx hb2 k2 s2; have HGX := hid hgx; have K2 := hid k2; have HB2 := hid hb2; have hb12 := k2.heap HB1.out id; have c0 := cell_at hb12 0 (.int .i64 r.kind) rfl; have HB12 := hid hb12; clear hgx k2 s2 hb2 hb12 hb1 _f))
  refine (parts_calls r.kind).mono ?_
  rintro e w3 ⟨A3, c3, n3, hn3, rfl, hrow3, k3⟩
  obtain ⟨ok, hok⟩ : ∃ ok, ok = decide (0 ≤ r.kind ∧ r.kind < 8) := ⟨_, rfl⟩
  rw [← hok]
  have K03 := hid ((K1.out.trans K2.out (fun _ _ f => f)).trans k3 (fun _ _ f => f))
  have HB3 := hid (k3.heap HB12.out id)
  have HX3 := hid (k3.heap HB2.out id)
  have HROW := hid hrow3; have HOK := hid hok; have HN3 := hid hn3
  have HV3 := hid (HV.out.keep K03.out (fun _ _ => id)); have HW3 := hid (HW.out.keep K03.out (fun _ _ => id))
  have hn5 : n3 ≤ 5 := by rw [hn3]; exact partsOf_len _
  clear hrow3 k3 hok hn3 c0 HB12 HB2
  cases ok
  · have hput := hid (show ePut s r = wRefuse s by rw [ePut, if_neg (fun h => by have := of_decide_eq_false HOK.out.symm; exact this h.1)])
    have hrf := fun z => refuse_calls (HW3.out.keep ((Keep.refl (fun _ => False) w3).drewN z) (fun _ _ => id))
    go_wp2_with fail
    go_quiet (fail)
    go_wp2_with fail
    refine (hrf _).mono ?_
    rintro e w5 ⟨rfl, h5, k5⟩
    go_wp2_with fail
    go_end0
    rw [hput.out]
    have hz := K03.out.size
    exact ⟨rfl, h5.mono (fun q hq => hq.imp id (fun ⟨a, b⟩ => ⟨Nat.le_trans hz a, b⟩)), ((K03.out.drewN _).mono (fun _ _ f => f.elim)).trans k5 (fun _ _ q => q)⟩
  · have hkd : 0 ≤ r.kind ∧ r.kind < 8 := of_decide_eq_true HOK.out.symm
    have OC : ∀ y, Keep (fun _ => False) w3 y → Calls Try.prog 65 #[reqV r (.slice A nc c)] y fun e w' => ∃ A' n' c', e = .returned (.agg (reqCs (onlyR r) (.slice A' n' c')).toArray) ∧ Sl .change w' G (.slice A' n' c') (onlyR r).changes ∧ Keep (fun _ => False) w3 w' := fun y hk => by
      refine (only_calls (F := G) r (v := .slice A nc c) (HV3.out.keep hk (fun _ _ => id))).mono ?_
      rintro e w' ⟨v', rfl, hs, hk2⟩
      obtain ⟨A', c', rfl⟩ := hs.shape
      exact ⟨A', _, c', rfl, hs, hk.trans hk2 (fun _ _ q => q)⟩
    have SC : ∀ y A' n' c', Keep (fun _ => False) w3 y → Sl .change y G (.slice A' n' c') (onlyR r).changes → Calls Try.prog 64 #[reqV r (.slice A nc c), .agg (reqCs (onlyR r) (.slice A' n' c')).toArray] y fun e w' => e = .returned (.bool (decide (r = onlyR r))) ∧ Keep (fun _ => False) w3 w' := fun y A' n' c' hk hs =>
      (sameR_calls (r := r) (s := onlyR r) (HV3.out.keep hk (fun _ _ => id)) hs).mono (fun _ _ ⟨h1, h2⟩ => ⟨h1, hk.trans h2 (fun _ _ q => q)⟩)
    have HC := hid (fun y (hk : Keep (fun _ => False) w3 y) => (⟨hk.cell (cell_at HB3.out 0 (.int .i64 r.kind) rfl) id, hk.cell (cell_at HB3.out 1 (.string r.name) rfl) id, hk.cell (cell_at HB3.out 2 (.int .i64 r.session) rfl) id, hk.cell (cell_at HB3.out 3 (.int .i64 r.seq) rfl) id, hk.cell (cell_at HB3.out 4 (.int .i64 r.base) rfl) id, hk.cell (cell_at HB3.out 5 (.string r.ref) rfl) id, hk.cell (cell_at HB3.out 6 (.slice A nc c) rfl) id, hk.cell (cell_at HB3.out 7 (.string r.path) rfl) id, hk.cell (cell_at HB3.out 8 (.int .i64 r.from') rfl) id, hk.cell (cell_at HB3.out 9 (.int .i64 r.many) rfl) id, hk.cell (cell_at HB3.out 10 (.int .i64 r.member) rfl) id⟩ : y.cell? ⟨g3, 0, none⟩ = some (.int .i64 r.kind) ∧ y.cell? ⟨g3, 1, none⟩ = some (.string r.name) ∧ y.cell? ⟨g3, 2, none⟩ = some (.int .i64 r.session) ∧ y.cell? ⟨g3, 3, none⟩ = some (.int .i64 r.seq) ∧ y.cell? ⟨g3, 4, none⟩ = some (.int .i64 r.base) ∧ y.cell? ⟨g3, 5, none⟩ = some (.string r.ref) ∧ y.cell? ⟨g3, 6, none⟩ = some (.slice A nc c) ∧ y.cell? ⟨g3, 7, none⟩ = some (.string r.path) ∧ y.cell? ⟨g3, 8, none⟩ = some (.int .i64 r.from') ∧ y.cell? ⟨g3, 9, none⟩ = some (.int .i64 r.many) ∧ y.cell? ⟨g3, 10, none⟩ = some (.int .i64 r.member)))
    have kd : Keep (fun _ => False) w3 w3.drew := (Keep.refl _ w3).drew
    go_wp2_with fail
    go_region_held3 (fun y => y.cell? ⟨g3, 0, none⟩ = some (.int .i64 r.kind) ∧ y.cell? ⟨g3, 1, none⟩ = some (.string r.name) ∧ y.cell? ⟨g3, 2, none⟩ = some (.int .i64 r.session) ∧ y.cell? ⟨g3, 3, none⟩ = some (.int .i64 r.seq) ∧ y.cell? ⟨g3, 4, none⟩ = some (.int .i64 r.base) ∧ y.cell? ⟨g3, 5, none⟩ = some (.string r.ref) ∧ y.cell? ⟨g3, 6, none⟩ = some (.slice A nc c) ∧ y.cell? ⟨g3, 7, none⟩ = some (.string r.path) ∧ y.cell? ⟨g3, 8, none⟩ = some (.int .i64 r.from') ∧ y.cell? ⟨g3, 9, none⟩ = some (.int .i64 r.many) ∧ y.cell? ⟨g3, 10, none⟩ = some (.int .i64 r.member)) (exact HC.out _ (by assumption)) (first
      | (go_at_call 65; with_reducible refine (OC _ (by assumption)).mono ?_; rintro e w4 ⟨A4, n4, c4, rfl, hs4, k4⟩)
      | (go_at_call 64; with_reducible refine (SC _ _ _ _ (by assumption) (by assumption)).mono ?_; rintro e w5 ⟨rfl, k5⟩))
    clear OC SC HC kd
    have hz5 := k5.size
    have hz3 := K03.out.size
    by_cases hro : r = onlyR r
    · have hput := hid (show ePut s r = (partsOf r.kind).foldl (fun s p => ePart r p s) (wNum s r.kind) by rw [ePut, if_pos ⟨hkd, hro⟩])
      have hb : decide (r = onlyR r) = true := decide_eq_true hro
      rw [hb]
      clear hb hro hs4
      have c0 := k5.cell (cell_at HB3.out 0 (.int .i64 r.kind) rfl) id
      have hnc := num_calls (HW3.out.keep k5 (fun _ _ => id)) r.kind (by omega)
      have hnl := wNum_len (s := s) (n := r.kind)
      have HX5 := hid (k5.heap HX3.out id)
      have HV5 := hid (HV3.out.keep k5 (fun _ _ => id)); have HR5 := hid (HROW.out.keep k5 (fun _ _ => id)); have K5 := hid (K03.out.trans k5 (fun _ _ q => q))
      clear k4 k5
      go_wp2_with fail
      refine hnc.mono ?_
      rintro en w6 ⟨rfl, h6, k6⟩
      generalize wNum s r.kind = s1 at *
      have H6 := hid h6; have K6 := hid k6
      clear hnc h6 k6 c0
      go_wp2_with fail
      go_loopw [37] (fun i wr => ∃ j : Nat, j ≤ n3 ∧ i = .int .i64 j ∧ WrAt (Grow F w5 wr) wr gw (((partsOf r.kind).take j).foldl (fun s p => ePart r p s) s1) ∧ Keep F w5 wr) (fun i _ => n3 - (intOf i).toNat)
      case atStart => exact ⟨0, Nat.zero_le _, rfl, H6.out, K6.out⟩
      case round =>
        obtain ⟨j, hj, rfl, hW, hkp⟩ := hrel
        have hgx5 := lt_heap HX5.out
        have hxF : ¬ F gx := fun e => by have := HF.out _ e; have := HGX.out; have := K1.out.size; omega
        by_cases hlt : j < n3
        · obtain ⟨p, hp⟩ : ∃ p, (partsOf r.kind)[j]? = some p := ⟨(partsOf r.kind)[j]'(by rw [← HN3.out]; exact hlt), by simp [show j < (partsOf r.kind).length by rw [← HN3.out]; exact hlt]⟩
          obtain ⟨b, off, rfl, hbn, hcell⟩ := (HR5.out).at1 (j := j) (u := partV gx p) (by rw [List.getElem?_map, hp]; rfl)
          have d0 := hkp.cell hcell (fun e => by have := HF.out _ e; have := hbn.1; have := HGX.out; have := K1.out.size; have := K2.out.size; simp only at *; omega)
          have htk : ((partsOf r.kind).take (j + 1)).foldl (fun s p => ePart r p s) s1 = ePart r p (((partsOf r.kind).take j).foldl (fun s p => ePart r p s) s1) := by rw [List.take_add_one, hp, List.foldl_append]; rfl
          have hln := parts_len r ((partsOf r.kind).take j) s1
          have hlj : ((partsOf r.kind).take j).length ≤ 5 := by rw [List.length_take]; omega
          have hpc := part_calls (F := Grow F w5 wr) (G := G) (r := r) p (hkp.heap HX5.out hxF) hW (fun e => e.elim hxF (fun e => by have := e.1; omega)) (by omega) (HV5.out.keep hkp (fun q hq => (HG.out q hq).1))
            (fun q hq => ⟨fun e => e.elim (HG.out q hq).1 (fun e => by have := e.1; have := (HG.out q hq).2; omega), by have := (HG.out q hq).2; have := hkp.size; omega⟩) (Grow.lt (fun q hq => by have := HF.out q hq; omega) hkp.size)
          rw [← htk] at hpc
          have HPC := hid hpc; have HKP := hid hkp
          clear hW hkp hcell htk hln hlj hpc hp hxF hgx5
          cases p
          all_goals (
            simp only [partV, partF] at d0
            go_wp2_with fail
            refine HPC.out.mono ?_
            rintro en w9 hp9
            obtain ⟨rfl, h9, k9⟩ := WrPost.after HKP.out hp9
            clear hp9
            have H9 := hid h9; have K9 := hid k9
            clear h9 k9
            go_wp2_with fail
            exact ⟨⟨j + 1, by omega, by simp, H9.out, K9.out⟩, by simp [intOf]; omega⟩)
        · obtain rfl : j = n3 := by omega
          have H9 := hid hW; have K9 := hid hkp
          clear hW hkp
          go_wp2_with fail
          go_end0
          have h9 := H9.out
          rw [List.take_of_length_le (by rw [← HN3.out]; exact Nat.le_refl _)] at h9
          rw [hput.out]
          have hz := K5.out.size
          exact ⟨rfl, h9.mono (fun q hq => hq.imp id (fun ⟨a, b⟩ => ⟨by omega, b⟩)), (K5.out.mono (fun _ _ f => f.elim)).trans K9.out (fun _ _ q => q)⟩
    · have hput := hid (show ePut s r = wRefuse s by rw [ePut, if_neg (fun h => hro h.2)])
      have hb : decide (r = onlyR r) = false := decide_eq_false hro
      rw [hb]
      clear hb hro hs4
      have hrf := refuse_calls (HW3.out.keep k5 (fun _ _ => id))
      have K5 := hid (K03.out.trans k5 (fun _ _ q => q))
      clear k4 k5
      go_wp2_with fail
      refine hrf.mono ?_
      rintro e w6 ⟨rfl, h6, k6⟩
      go_wp2_with fail
      go_end0
      rw [hput.out]
      have hz := K5.out.size
      exact ⟨rfl, h6.mono (fun q hq => hq.imp id (fun ⟨a, b⟩ => ⟨by omega, b⟩)), (K5.out.mono (fun _ _ f => f.elim)).trans k6 (fun _ _ q => q)⟩
end
end Go.Proofs.Ytnekfonnceknoaa
