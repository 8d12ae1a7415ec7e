/- wapentakelaw16.TallyOrders. -/
import Derived.Test.YthlgnilgjeebaaaTalO1
import Derived.Test.YthlgnilgjeebaaaTalA
import Derived.Deep.RegionHeld3
namespace Go.Proofs.Ythlgnilgjeebaaa
open Go.RowKit Go.MapKept
theorem T_De : SlT Try.prog 22 30 (.agg #[.int .i64 0, .int .i64 0, .int .i64 0, .int .i64 0, .slice none 0 0]) 5 56 := SlT.mk' Try.underlying22 (by kernel_rfl) rfl (by decide)
theorem fill_vote (a b : Int) (r : Req) (v : Value) : List.foldl (fun (cs : Array Value) (x : Value × Nat) => cs.setIfInBounds (2 + x.snd) x.fst) #[.int .i64 a, .int .i64 b, .int .i64 0, .string { data := #[] }, .int .i64 0, .int .i64 0, .int .i64 0, .string { data := #[] }, .slice none 0 0, .string { data := #[] }, .int .i64 0, .int .i64 0, .int .i64 0] (reqCs r v).zipIdx = (voteCs ⟨a, b, r⟩ v).toArray := by kernel_rfl
attribute [local go_sem] fill_vote
theorem keep_take {l : List Vote} {k : Nat} {y : Vote} (h : l[k]? = some y) : (l.take (k + 1)).map keepV = (l.take k).map keepV ++ [keepV y] := by
  rw [List.take_add_one, h, List.map_append]; rfl
theorem hear_take {K : List TDeed} {k : Nat} {d : TDeed} (h : K[k]? = some d) : hS9 (K.take (k + 1)) = promS (hS9 (K.take k)) d.id d.base d.v := by
  rw [hS9, List.take_add_one, h, List.foldl_append]; rfl
theorem oStep_in {K : List TDeed} {d : TDeed} (h : d.id ∈ K.map (·.id)) : oStep K d = K := by rw [oStep, if_pos h]
theorem oStep_out {K : List TDeed} {d : TDeed} (h : d.id ∉ K.map (·.id)) : oStep K d = K ++ [keepD d] := by rw [oStep, if_neg h]
theorem keepV_ch (y : Vote) : (keepV y).value.changes.length ≤ 4294967296 := by simp [keepV]
theorem oK_ch (l : List TDeed) : chOk (oK l) := by
  intro d hd x hx
  have := (oK_inv l [] (by simp) (by simp)).2 d hd x hx
  rw [this]; simp
theorem hS9_len {K : List TDeed} (hc : chOk K) (hn : (K.map (·.id)).Nodup) : (hS9 K).pr.length ≤ K.length := by
  rw [(hS9_rel hc).pr, hR9_P hc hn, List.length_map, List.length_map]
  exact List.length_filter_le _ _
theorem hS9_lenR {K : List TDeed} (hc : chOk K) (hn : (K.map (·.id)).Nodup) : (hS9 K.reverse).pr.length ≤ K.length := by
  have := hS9_len (K := K.reverse) (fun d hd => hc d (by simpa using hd)) (by rw [List.map_reverse]; exact (List.reverse_perm _).symm.nodup hn)
  simpa using this
section
variable {w : World} {v1 : Value} {l : List TDeed}
set_option maxRecDepth 20000 in
set_option maxHeartbeats 16000000 in
theorem tallyOrders_row (hv : Sl .tdeed w (fun b => b < w.heap.size) v1 l) (slot : Int) (hslot : (Lit.int .i64 slot).wf = true) :
    Calls Try.prog 3 #[v1, .int .i64 slot] w fun e w' => e = .returned (.bool true) ∧ Below w.heap.size w w' := by
  obtain ⟨A1, c1, rfl⟩ := hv.shape
  have hmax1 := hv.cap
  have HV := hid hv
  obtain ⟨n, hn⟩ : ∃ n, n = l.length := ⟨_, rfl⟩
  rw [← hn] at hmax1 ⊢
  have HN := hid hn
  clear hv hn
  go_enter Try.func3, Try.ntmps3
  go_wp2_with fail
  refine (awake16_calls w).mono ?_
  rintro e w0 ⟨rfl, k0⟩
  have K0 := hid k0
  clear k0
  go_wp2_with fail
  have hroom := room16_calls (HV.out.keep K0.out (fun _ _ => id))
  rw [← HN.out] at hroom
  refine hroom.mono ?_
  rintro e w' ⟨rfl, rfl⟩
  clear hroom
  cases hrm : roomT l
  case false =>
    clear hrm
    go_wp2_with fail
    go_ret
    exact ⟨rfl, K0.out.below (Nat.le_refl _) (fun _ _ f => f)⟩
  have hn100 : n ≤ 100 := by
    simp only [roomT, Bool.and_eq_true, decide_eq_true_eq] at hrm
    have := HN.out; omega
  have HALL := hid (show l.all deedOk = true by
    simp only [roomT, Bool.and_eq_true] at hrm
    exact hrm.2)
  clear hrm
  go_wp2_with fail
  refine (tnew_calls 9 0).mono ?_
  rintro e w1 ⟨ga, rfl, ht1, k1⟩
  have HT1 := hid ht1; have K1 := hid k1
  clear ht1 k1
  go_wp2_with fail
  refine (tnew_calls 9 0).mono ?_
  rintro e w2 ⟨gb, rfl, ht2, k2⟩
  have hpair : Pair2 w0.heap.size (fun _ => False) w2 ga gb (hS9 []) (hS9 []) := by
    have hs1 := K1.out.size
    have hs2 := k2.size
    refine ⟨NewIn w0 w1, NewIn w1 w2, HT1.out.keep k2 (fun _ _ => id), ht2, fun k q => ?_, fun k q d => by have := q.2; have := d.1; omega⟩
    rcases q with ⟨q1, q2⟩ | ⟨q1, q2⟩
    · exact ⟨q1, by omega, id⟩
    · exact ⟨by omega, q2, id⟩
  have K02 := hid (K1.out.trans k2 (fun _ _ f => f)); have HP := hid hpair
  clear ht2 k2 hpair
  have HVR := hid (show ∀ W, Keep (fun q => w2.heap.size ≤ q) w2 W → Sl .tdeed W (fun b => b < w.heap.size) (.slice A1 l.length c1) l from fun W hW => ((HV.out.keep K0.out (fun _ _ => id)).keep K02.out (fun _ _ => id)).keep hW (fun b hb q => by have := K0.out.size; have := K02.out.size; omega))
  go_wp2_with fail
  go_loopw [7, 8, 9] (fun u v i wr => ∃ (k m : Nat) (cs : List Value), k ≤ n ∧ m ≤ k ∧ i = .int .i64 k ∧ OKe w2.heap.size wr u v m m ((oK (l.take k)).map (·.id)) (oK (l.take k)) cs ∧ Keep (fun q => w2.heap.size ≤ q) w2 wr) (fun _ _ i _ => n - (intOf i).toNat)
  case atStart => exact ⟨0, 0, [], Nat.zero_le _, Nat.le_refl _, rfl, OKe.nil, Keep.refl _ _⟩
  case round =>
    obtain ⟨k, m, cs, hk, hmk, rfl, hok, hkr⟩ := hrel
    by_cases hlt : k < n
    · obtain ⟨x, hx⟩ : ∃ x, l[k]? = some x := ⟨l[k]'(by rw [← HN.out]; exact hlt), by simp [show k < l.length by rw [← HN.out]; exact hlt]⟩
      obtain ⟨A', c', b, off, csx, he, hb, _, hcs, hcell⟩ := elem_cells7 (HVR.out wr hkr) rfl hx
      simp only [Value.slice.injEq, true_and] at he
      obtain ⟨rfl, rfl⟩ := he
      subst hb
      obtain ⟨vc, rfl, hvc, _, hok2, hok3, _⟩ := tdeed_cells hcs
      obtain ⟨Av, cv, rfl⟩ := hvc.shape
      have hsz : Rep.tdeed.size = 5 := rfl
      rw [hsz] at hcell
      have hnext := oK_next hx
      have d0 := hcell 0 (.int .i64 x.do_) rfl
      rw [Nat.add_zero] at d0
      have d1 := hcell 1 (.int .i64 x.id) rfl
      have d2 := hcell 2 (.int .i64 x.base) rfl
      have d3 := hcell 3 (.int .i64 x.slot) rfl
      have d4 := hcell 4 (.slice Av x.v.length cv) rfl
      have hnvm := hvc.cap
      obtain ⟨nv, hnv⟩ : ∃ nv, nv = x.v.length := ⟨_, rfl⟩
      have hnv50 : x.v.length ≤ 50 := by
        have := List.all_eq_true.1 HALL.out x (List.mem_of_getElem? hx)
        simp only [deedOk, Bool.and_eq_true, decide_eq_true_eq] at this
        exact this.1
      rw [← hnv] at d4 hnvm hnv50
      obtain ⟨A7, c7, rfl⟩ := own_slice hok.ou
      obtain ⟨A8, c8, rfl⟩ := own_slice hok.ok
      obtain ⟨K, hK⟩ : ∃ K, K = oK (l.take k) := ⟨_, rfl⟩
      rw [← hK] at hok hnext
      have HX := hid hx; have HVC := hid hvc; have HO := hid (And.intro hok2 hok3); have HNX := hid hnext; have HNV := hid hnv; have HOK := hid hok; have HKR := hid hkr
      clear hcell hcs hx hvc hok2 hok3 hsz hnv hnext hkr hok hK
      go_upto_region 15 with fail
      have hgd0 := heap_alloc_new wr (.cells (deedCs x (.slice Av nv cv)).toArray 30)
      have ka : Keep (fun _ => False) wr (wr.alloc (.cells (deedCs x (.slice Av nv cv)).toArray 30)) := (Keep.refl _ wr).alloc _
      have hsa : (wr.alloc (.cells (deedCs x (.slice Av nv cv)).toArray 30)).heap.size = wr.heap.size + 1 := by simp
      change Code.wp _ _ _ _ (wr.alloc (.cells (deedCs x (.slice Av nv cv)).toArray 30))
      generalize wr.alloc (.cells (deedCs x (.slice Av nv cv)).toArray 30) = wa at *
      obtain ⟨gd, hgd⟩ : ∃ gd, gd = wr.heap.size := ⟨_, rfl⟩
      rw [← hgd] at hgd0 hsa ⊢
      have hoka := HOK.out.keep ka (fun _ _ _ => id)
      have hka : Keep (fun q => w2.heap.size ≤ q) w2 wa := HKR.out.trans ka (fun _ _ f => f.elim)
      have HVA := hid (HVC.out.keep ka (fun _ _ => id))
      have HGD := hid hgd; have HSA := hid hsa; have HKA := hid hka; have HD0 := hid hgd0; have HOA := hid hoka; have KA := hid ka
      have hrow := hoka.row
      have HB2 := hid (show w2.heap.size ≤ wa.heap.size from hka.size)
      clear d0 d1 d2 d3 d4 hgd hsa ka hka hoka
      have q1 := cell_at hgd0 1 (.int .i64 x.id) rfl
      have q2 := cell_at hgd0 2 (.int .i64 x.base) rfl
      have q4 := cell_at hgd0 4 (.slice Av nv cv) rfl
      have hhas := has_calls hrow x.id
      clear hrow hgd0
      go_wp2_with fail
      refine hhas.mono ?_
      rintro e w' ⟨rfl, rfl⟩
      clear hhas
      by_cases hin : x.id ∈ K.map (·.id)
      · rw [decide_eq_true hin]
        have hst := oStep_in hin
        have HFIN := hid (show OKe w2.heap.size wa (.slice A7 m c7) (.slice A8 m c8) m m ((oK (l.take (k + 1))).map (·.id)) (oK (l.take (k + 1))) cs from by rw [HNX.out, hst]; exact HOA.out)
        clear hst hin
        go_wp2_with fail
        exact ⟨⟨k + 1, m, cs, by omega, by omega, by simp, HFIN.out, HKA.out⟩, by simp [intOf]; omega⟩
      · rw [decide_eq_false hin]
        have HST := hid (oStep_out hin)
        have ho7 := HOA.out.ou
        clear hin
        go_wp2_with (at_builtin; refine stopHere ?_)
        refine goOn (wpl_app (v := .slice A7 m c7) rfl rfl TI rfl (ownsAlloc ho7 _) rfl (Row.one wa _ _) (by simp [Value.oneCell']) (by omega) (by omega) ?_)
        intro A6 c6 w6 ho6 hk6 hn6
        obtain ⟨hok6, k6⟩ := HOA.out.id HB2.out ((Keep.refl (fun _ => False) wa).alloc _) ho6 hk6 hn6
        have hd6 : w6.heap[gd]? = some (.cells (deedCs x (.slice Av nv cv)).toArray 30) := (((Keep.refl (fun _ => False) wa).alloc _).mono (T := fun q => some q = (Value.slice A7 m c7).ownBlock) (fun _ _ f => f.elim)).trans hk6 (fun _ _ q => q) |>.heap HD0.out (fun q => by have := own_lt' HOK.out.ou gd q.symm; have := HGD.out; omega)
        have HOK6 := hid hok6; have K26 := hid (HKA.out.trans k6 (fun _ _ q => q)); have HD6 := hid hd6
        have HV6 := hid (HVA.out.keep k6 (fun q hq e => by have := K0.out.size; have := K02.out.size; omega))
        have HS6 := hid k6.size
        clear ho6 hk6 hn6 hok6 k6 ho7 q1 q2 q4
        have q1 := cell_at hd6 1 (.int .i64 x.id) rfl
        have q2 := cell_at hd6 2 (.int .i64 x.base) rfl
        have q4 := cell_at hd6 4 (.slice Av nv cv) rfl
        clear hd6
        go_wp2_with fail
        go_loopw [11, 12] (fun u i wi => ∃ (j : Nat) (ys : List Value), j ≤ nv ∧ i = .int .i64 j ∧ GrownP .vote 36 w6.heap.size wi u j ((x.v.take j).map keepV) ys ∧ Keep (fun q => w6.heap.size ≤ q) w6 wi) (fun _ i _ => nv - (intOf i).toNat)
        case atStart => exact ⟨0, [], Nat.zero_le _, rfl, GrownP.nil, Keep.refl _ _⟩
        case round =>
          clear q1 q2 q4
          obtain ⟨j, ys, hj, rfl, hgr, hki⟩ := hrel
          have hgd6 : gd < w6.heap.size := lt_heap HD6.out
          have HDI := hid (hki.heap HD6.out (fun q => by have q : w6.heap.size ≤ gd := q; omega))
          have q4 := cell_at HDI.out 4 (.slice Av nv cv) rfl
          obtain ⟨A11, c11, rfl⟩ := own_slice hgr.1
          have HVI := hid (HV6.out.keep hki (fun q hq e => by have := K0.out.size; have := K02.out.size; have := K26.out.size; omega))
          have HGR := hid hgr; have HKI := hid hki; have HGD6 := hid hgd6
          clear hgr hki hgd6
          by_cases hjt : j < nv
          · obtain ⟨y, hy⟩ : ∃ y, x.v[j]? = some y := ⟨x.v[j]'(by rw [← HNV.out]; exact hjt), by simp [show j < x.v.length by rw [← HNV.out]; exact hjt]⟩
            have hvi := HVI.out
            obtain ⟨A2', c2', b2, off2, cs2, he2, hb2, hb2l, hcs2, hcell2⟩ := elem_cells7 hvi rfl hy
            rw [← HNV.out] at he2
            simp only [Value.slice.injEq, true_and] at he2
            obtain ⟨rfl, rfl⟩ := he2
            subst hb2
            obtain ⟨v2, rfl, _, hyok⟩ := vote_cells hcs2
            have hsz2 : Rep.vote.size = 13 := rfl
            rw [hsz2] at hcell2
            have e0 := hcell2 0 (.int .i64 y.slot) rfl
            have e1 := hcell2 1 (.int .i64 y.ballot) rfl
            rw [Nat.add_zero] at e0
            have HY := hid hy; have HYO := hid hyok
            have S0 := hid (show ∀ z, Keep (fun _ => False) wr z → (z.cell? ⟨gd, 4, none⟩ = some (.slice (some ⟨b2, off2, none⟩) nv cv) ∧ z.cell? ⟨b2, off2 + j * 13, none⟩ = some (.int .i64 y.slot) ∧ z.cell? ⟨b2, off2 + j * 13 + 1, none⟩ = some (.int .i64 y.ballot)) from fun z hz => ⟨hz.cell q4 id, hz.cell e0 id, hz.cell e1 id⟩)
            have ho11 := HGR.out.1
            have OW := hid (show ∀ z, Keep (fun _ => False) wr z → z.ownsRow 0 36 13 (.slice A11 j c11) j ys from fun z hz => hz.owns ho11 (fun _ _ => id))
            have S1 := hid (show ∀ z z', Keep (fun _ => False) wr z → Keep (fun q => some q = (Value.slice A11 j c11).ownBlock) z z' → (z'.cell? ⟨gd, 4, none⟩ = some (.slice (some ⟨b2, off2, none⟩) nv cv) ∧ z'.cell? ⟨b2, off2 + j * 13, none⟩ = some (.int .i64 y.slot) ∧ z'.cell? ⟨b2, off2 + j * 13 + 1, none⟩ = some (.int .i64 y.ballot)) from fun z z' hz hz' => by
              have h11 : ∀ q, some q = (Value.slice A11 j c11).ownBlock → w6.heap.size ≤ q := fun q hq => HGR.out.2.2.2 q hq.symm
              have hg6 := HGD6.out
              have h06 : w.heap.size ≤ w6.heap.size := by have := K0.out.size; have := K02.out.size; have := K26.out.size; omega
              obtain ⟨a1, a2, a3⟩ := S0.out z hz
              exact ⟨hz'.cell a1 (fun q => absurd (h11 _ q) (by show ¬ _ ≤ gd; omega)), hz'.cell a2 (fun q => absurd (h11 _ q) (by show ¬ _ ≤ b2; omega)), hz'.cell a3 (fun q => absurd (h11 _ q) (by show ¬ _ ≤ b2; omega))⟩)
            have XC : ∀ z, Keep (fun _ => False) wr z → Calls Try.prog 12 #[.int .i64 y.ballot] z fun e w' => e = .returned (.agg #[.int .i64 3, .string ByteArray.empty, .int .i64 y.ballot, .int .i64 1, .int .i64 0, .string ByteArray.empty, .slice none 0 0, .string ByteArray.empty, .int .i64 0, .int .i64 0, .int .i64 0]) ∧ Keep (fun _ => False) wr w' := fun z hz =>
              (x_calls y.ballot).mono fun _ _ ⟨h1, h2⟩ => ⟨h1, hz.trans h2 (fun _ _ q => q)⟩
            have FIN := hid (show ∀ w4 o w7 A9 c9, Keep (fun _ => False) wr w4 → w7.ownsRow 0 36 13 (.slice A9 (j + 1) c9) (j + 1) (ys ++ voteCs (keepV y) (.slice none 0 0)) → Keep (fun q => some q = (Value.slice A11 j c11).ownBlock) (w4.alloc o) w7 → SameOrNew (w4.alloc o) (.slice A11 j c11) (.slice A9 (j + 1) c9) →
                GrownP .vote 36 w6.heap.size w7 (.slice A9 (j + 1) c9) (j + 1) ((x.v.take (j + 1)).map keepV) (ys ++ voteCs (keepV y) (.slice none 0 0)) ∧ Keep (fun q => w6.heap.size ≤ q) w6 w7 from fun w4 o w7 A9 c9 k4 ho9 hk9 hn9 => by
              have hyo := HYO.out
              have hd : Rep.vote.cells w4 (fun b => wr.heap.size ≤ b ∧ b < w4.heap.size) (keepV y) (voteCs (keepV y) (.slice none 0 0)) := vote_mk nilSl (vX_ok hyo.slot hyo.ballot hyo.ballot)
              obtain ⟨r1, r2⟩ := HGR.out.more HKI.out.size k4 hd ((Keep.refl (fun _ => False) w4).alloc o) ho9 hk9 hn9
              rw [keep_take HY.out]
              exact ⟨r1, HKI.out.trans r2 (fun q hq e => HGR.out.2.2.2 q e.symm)⟩)
            have kd : Keep (fun _ => False) wr wr.drew := (Keep.refl _ wr).drew
            clear hvi hcs2 hcell2 hsz2 hy hyok e0 e1 ho11
            go_wp2_with fail
            go_region_held3 (fun z => z.cell? ⟨gd, 4, none⟩ = some (.slice (some ⟨b2, off2, none⟩) nv cv) ∧ z.cell? ⟨b2, off2 + j * 13, none⟩ = some (.int .i64 y.slot) ∧ z.cell? ⟨b2, off2 + j * 13 + 1, none⟩ = some (.int .i64 y.ballot)) (first | exact S0.out _ (by assumption) | exact S0.out _ (Keep.alloc (by assumption) _) | assumption) (first
              | (go_at_call 12; with_reducible refine (XC _ (by assumption)).mono ?_; rintro e w4 ⟨rfl, k4⟩)
              | (refine step_app (v := .slice A11 j c11) (by rfl) (by rfl) T_V (by rfl) (ownsAlloc (OW.out _ k4) _) (by rfl) (row_n w4 (voteCs (keepV y) (.slice none 0 0)) _) (by simp [voteCs, reqCs, Value.oneCell']) (by omega) (by omega) ?_; intro A9 c9 w7 ho9 hk9 hn9; have hs7 := S1.out _ _ (Keep.alloc k4 _) hk9))
            obtain ⟨r1, r2⟩ := FIN.out w4 _ w7 A9 c9 k4 ho9 hk9 hn9
            have R1 := hid r1; have R2 := hid r2
            clear r1 r2 ho9 hk9 hn9 hs7 k4 kd XC q4
            go_wp2_with fail
            exact ⟨⟨j + 1, _, by omega, by simp, R1.out, R2.out⟩, by simp [intOf]; omega⟩
          · obtain rfl : j = nv := by omega
            have q1 := cell_at HDI.out 1 (.int .i64 x.id) rfl
            have q2 := cell_at HDI.out 2 (.int .i64 x.base) rfl
            have hall : (x.v.take j).map keepV = (keepD x).v := by rw [List.take_of_length_le (by rw [HNV.out]; exact Nat.le_refl _)]; rfl
            have hsl := HGR.out.sl
            rw [hall] at hsl
            have HSL := hid hsl
            have ho8 := HOK6.out.ok
            have OW := hid (show ∀ z, Keep (fun _ => False) wr z → z.ownsRow 0 30 5 (.slice A8 m c8) m cs from fun z hz => hz.owns (HKI.out.owns ho8 (fun b hb q => by have := own_lt' ho8 b hb; omega)) (fun _ _ => id))
            clear hsl hall ho8
            go_wp2_with (at_builtin; refine stopHere ?_)
            refine goOn (wpl_app (v := .slice A8 m c8) (m := 1) (news := deedCs (keepD x) (.slice A11 j c11)) rfl rfl T_De rfl (OW.out _ ((Keep.refl (fun _ => False) wr).alloc _)) rfl (row_n wr (deedCs (keepD x) (.slice A11 j c11)) _) (by simp [deedCs, Value.oneCell']) (by omega) (by omega) ?_)
            intro A9 c9 w9 ho9 hk9 hn9
            have hfin := HOK6.out.deed K26.out.size HKI.out (tdeed_mk HSL.out (show okI 0 from ⟨by decide, by decide⟩) HO.out.1 HO.out.2 (show okI 0 from ⟨by decide, by decide⟩)) ((Keep.refl (fun _ => False) wr).alloc _) ho9 hk9 hn9
            obtain ⟨r1, r2⟩ := hfin
            have R1 := hid (show OKe w2.heap.size w9 (.slice A6 (m + 1) c6) (.slice A9 (m + 1) c9) (m + 1) (m + 1) ((oK (l.take (k + 1))).map (·.id)) (oK (l.take (k + 1))) (cs ++ deedCs (keepD x) (.slice A11 j c11)) from by rw [HNX.out, HST.out, List.map_append]; exact r1)
            have R2 := hid (K26.out.trans r2 (fun q _ e => e))
            clear r1 r2 ho9 hk9 hn9 q1 q2 q4
            go_wp2_with fail
            exact ⟨⟨k + 1, m + 1, _, by omega, by omega, by simp, R1.out, R2.out⟩, by simp [intOf]; omega⟩
    · obtain rfl : k = n := by omega
      have hall : l.take k = l := List.take_of_length_le (by rw [HN.out]; exact Nat.le_refl _)
      rw [hall] at hok
      obtain ⟨hnd, hvb⟩ := oK_inv l [] (by simp) (by simp)
      have hsame := orders_same (oK_ch l) hnd hvb slot
      have hch := oK_ch l
      obtain ⟨A7, c7, rfl⟩ := own_slice hok.ou
      obtain ⟨A8, c8, rfl⟩ := own_slice hok.ok
      obtain ⟨K, hK⟩ : ∃ K, K = oK l := ⟨_, rfl⟩
      rw [← hK] at hok hsame hch
      have HND := hid (show (K.map (·.id)).Nodup by rw [hK]; exact hnd)
      have hlen := hok.lk
      have hsl := hok.sl
      have hpx := HP.out.x hkr (Y := fun q => w2.heap.size ≤ q ∧ q < wr.heap.size) (fun _ q => q.1)
      obtain ⟨C, hC⟩ : ∃ C, C = wr.heap.size := ⟨_, rfl⟩
      rw [← hC] at hsl hpx
      have HKS := hid (show ∀ W, Keep (fun q => w0.heap.size ≤ q ∧ ¬ (w2.heap.size ≤ q ∧ q < C)) wr W → Sl .tdeed W (fun q => w2.heap.size ≤ q ∧ q < C) (.slice A8 m c8) K from fun W hW => hsl.keep hW (fun b hb q => q.2 hb))
      have HSAME := hid hsame; have HCH := hid hch; have HLEN := hid hlen; have HPX := hid hpx; have HKR := hid hkr; have HC := hid hC
      have hm100 : m ≤ 100 := by omega
      clear hsame hch hlen hsl hpx hok hkr hC hK hnd hvb hall
      go_wp2_with fail
      go_loopw [13] (fun i wq => ∃ k : Nat, k ≤ m ∧ i = .int .i64 k ∧ Pair2 w0.heap.size (fun q => w2.heap.size ≤ q ∧ q < C) wq ga gb (hS9 (K.take k)) (hS9 (K.reverse.take k)) ∧ Keep (fun q => w0.heap.size ≤ q ∧ ¬ (w2.heap.size ≤ q ∧ q < C)) wr wq) (fun i _ => m - (intOf i).toNat)
      case atStart => exact ⟨0, Nat.zero_le _, rfl, HPX.out, Keep.refl _ _⟩
      case round =>
        obtain ⟨j, hj, rfl, hp, hkq⟩ := hrel
        by_cases hjt : j < m
        · obtain ⟨x, hx⟩ : ∃ x, K[j]? = some x := ⟨K[j]'(by rw [HLEN.out]; exact hjt), by simp [show j < K.length by rw [HLEN.out]; exact hjt]⟩
          obtain ⟨e, he⟩ : ∃ e, e = m - 1 - j := ⟨_, rfl⟩
          have hem : e < m := by omega
          obtain ⟨y, hy⟩ : ∃ y, K[e]? = some y := ⟨K[e]'(by rw [HLEN.out]; exact hem), by simp [show e < K.length by rw [HLEN.out]; exact hem]⟩
          have hyr : K.reverse[j]? = some y := by rw [List.getElem?_reverse (by rw [HLEN.out]; exact hjt), HLEN.out, ← he]; exact hy
          have hXC : ∀ q, (w2.heap.size ≤ q ∧ q < C) → q < wr.heap.size := fun q hq => by have := hkq.size; have := HC.out; omega
          have hB0 : w0.heap.size ≤ wr.heap.size := by have := hkq.size; have := HKR.out.size; have := K02.out.size; omega
          have hsx := HKS.out wr hkq
          obtain ⟨A', c', b, off, cs1, he1, hb1, hbX, hcs1, hcell⟩ := elem_cells7 hsx HLEN.out.symm hx
          simp only [Value.slice.injEq, true_and] at he1
          obtain ⟨rfl, rfl⟩ := he1
          subst hb1
          obtain ⟨vc, rfl, hvc, _, hok2, hok3, _⟩ := tdeed_cells hcs1
          obtain ⟨Av, cv, rfl⟩ := hvc.shape
          have hsz : Rep.tdeed.size = 5 := rfl
          rw [hsz] at hcell
          have d1 := hcell 1 (.int .i64 x.id) rfl
          have d2 := hcell 2 (.int .i64 x.base) rfl
          have d4 := hcell 4 (.slice Av x.v.length cv) rfl
          have hbX' : w2.heap.size ≤ b ∧ b < C := hbX
          have S0 := hid (show ∀ z, Keep (fun q => w0.heap.size ≤ q ∧ ¬ (w2.heap.size ≤ q ∧ q < C)) wr z → (z.cell? ⟨b, off + j * 5 + 1, none⟩ = some (.int .i64 x.id) ∧ z.cell? ⟨b, off + j * 5 + 2, none⟩ = some (.int .i64 x.base) ∧ z.cell? ⟨b, off + j * 5 + 4, none⟩ = some (.slice Av x.v.length cv)) from fun z hz => ⟨hz.cell d1 (fun q => q.2 hbX'), hz.cell d2 (fun q => q.2 hbX'), hz.cell d4 (fun q => q.2 hbX')⟩)
          have hxm := List.mem_of_getElem? hx
          have hym := List.mem_of_getElem? hy
          have hn1 := hear_take hx
          have hn2 := hear_take hyr
          have PA : ∀ z, Keep (fun _ => False) wr z → Calls Try.prog 13 #[.pointer (some ⟨ga, 0, none⟩), .int .i64 x.id, .int .i64 x.base, .slice Av x.v.length cv] z fun e w' => ∃ pb, e = .returned (.bool pb) ∧ Pair2 w0.heap.size (fun q => w2.heap.size ≤ q ∧ q < C) w' ga gb (hS9 (K.take (j + 1))) (hS9 (K.reverse.take j)) ∧ Keep (fun q => w0.heap.size ≤ q ∧ ¬ (w2.heap.size ≤ q ∧ q < C)) wr w' := fun z hz => by
            have hs := hz.size
            refine ((hp.keep hz (fun _ _ _ _ f => f)).prom (fun q hq => by have := hXC q hq; omega) (by omega) x.id x.base (hvc.keep hz (fun _ _ f => f)) (fun q hq => ⟨.inr hq, by have := hXC q hq; omega⟩) (HCH.out x hxm)).mono ?_
            rintro e w' ⟨h1, h2, h3⟩
            exact ⟨_, h1, by rw [hn1]; exact h2, (hz.mono (fun _ _ f => f.elim)).trans h3 (fun _ _ q => q)⟩
          obtain ⟨nx, hnx⟩ : ∃ nx, nx = x.v.length := ⟨_, rfl⟩
          rw [← hnx] at PA S0 d4
          have kd : Keep (fun _ => False) wr wr.drew := (Keep.refl _ wr).drew
          have kdX : Keep (fun q => w0.heap.size ≤ q ∧ ¬ (w2.heap.size ≤ q ∧ q < C)) wr wr.drew := (Keep.refl _ wr).drew
          have HX := hid hx; have HY := hid hy; have HE := hid he; have HN2 := hid hn2; have HKQ := hid hkq; have HYM := hid hym
          have hjm : (j : Int) < (m : Int) := by omega
          have hj0 : (0 : Int) ≤ (j : Int) := by omega
          clear hcell hcs1 hx hy hyr he hn1 hn2 hvc hsz hnx hkq hp hsx hok2 hok3 hxm hym d1 d2 d4
          go_wp2_with fail
          go_region_held3 (fun z => z.cell? ⟨b, off + j * 5 + 1, none⟩ = some (.int .i64 x.id) ∧ z.cell? ⟨b, off + j * 5 + 2, none⟩ = some (.int .i64 x.base) ∧ z.cell? ⟨b, off + j * 5 + 4, none⟩ = some (.slice Av nx cv)) (exact S0.out _ (by assumption)) (first
            | (go_at_call 13; with_reducible refine (PA _ (by assumption)).mono ?_; rintro e4 w4 ⟨pb, rfl, hp4, k4⟩))
          have hk4 := HKQ.out.trans k4 (fun _ _ q => q)
          have hs4 := k4.size
          have hsy := HKS.out w4 hk4
          have HY' := HY.out
          obtain ⟨A'', c'', b3, off3, cs3, he3, hb3, _, hcs3, hcell3⟩ := elem_cells7 hsy HLEN.out.symm HY'
          simp only [Value.slice.injEq, true_and] at he3
          obtain ⟨rfl, rfl⟩ := he3
          simp only [Option.some.injEq, Addr.mk.injEq, and_true] at hb3
          obtain ⟨rfl, rfl⟩ := hb3
          obtain ⟨vc3, rfl, hvc3, _, _, _, _⟩ := tdeed_cells hcs3
          obtain ⟨Av3, cv3, rfl⟩ := hvc3.shape
          have hsz : Rep.tdeed.size = 5 := rfl
          rw [hsz] at hcell3
          have d0 := hcell3 0 (.int .i64 y.do_) rfl
          rw [Nat.add_zero] at d0
          have d1 := hcell3 1 (.int .i64 y.id) rfl
          have d2 := hcell3 2 (.int .i64 y.base) rfl
          have d3 := hcell3 3 (.int .i64 y.slot) rfl
          have d4 := hcell3 4 (.slice Av3 y.v.length cv3) rfl
          obtain ⟨ny, hny⟩ : ∃ ny, ny = y.v.length := ⟨_, rfl⟩
          rw [← hny] at d4
          have HNY := hid hny; have HV3 := hid hvc3; have HP4 := hid hp4; have HK4 := hid hk4; have HS4 := hid hs4
          have hie : (m : Int) - 1 - (j : Int) = (e : Int) := by have := HE.out; omega
          clear hcell3 hcs3 hsz hny hvc3 hp4 hk4 hs4 hsy HY' kd kdX S0 PA k4
          go_upto_region 28 with fail
          have hgd0 := heap_alloc_new w4 (.cells (deedCs y (.slice Av3 ny cv3)).toArray 30)
          have ka : Keep (fun _ => False) w4 (w4.alloc (.cells (deedCs y (.slice Av3 ny cv3)).toArray 30)) := (Keep.refl _ w4).alloc _
          change Code.wp _ _ _ _ (w4.alloc (.cells (deedCs y (.slice Av3 ny cv3)).toArray 30))
          generalize w4.alloc (.cells (deedCs y (.slice Av3 ny cv3)).toArray 30) = w5 at *
          have hs5 := ka.size
          have hs4 := HS4.out
          have PB := (HP4.out.keep ka (fun _ _ _ _ f => f)).swap.prom (fun q hq => by have := hXC q hq; omega) (by omega) y.id y.base (HV3.out.keep ka (fun _ _ f => f)) (fun q hq => ⟨.inr hq, by have := hXC q hq; omega⟩) (HCH.out y HYM.out)
          rw [← HNY.out] at PB
          have KA := hid ka
          obtain ⟨gd, hgd⟩ : ∃ gd, gd = w4.heap.size := ⟨_, rfl⟩
          rw [← hgd] at hgd0 ⊢
          have q1 := cell_at hgd0 1 (.int .i64 y.id) rfl
          have q2 := cell_at hgd0 2 (.int .i64 y.base) rfl
          have q4 := cell_at hgd0 4 (.slice Av3 ny cv3) rfl
          clear d0 d1 d2 d3 d4 hgd0 ka hs5 hs4 hgd hie
          go_wp2_with fail
          refine PB.mono ?_
          rintro e6 w6 ⟨rfl, hp6, k6⟩
          have HP6 := hid (show Pair2 w0.heap.size (fun q => w2.heap.size ≤ q ∧ q < C) w6 ga gb (hS9 (K.take (j + 1))) (hS9 (K.reverse.take (j + 1))) from by rw [HN2.out]; exact hp6.swap)
          have HK6 := hid ((HK4.out.trans KA.out (fun _ _ f => f.elim)).trans k6 (fun _ _ q => q))
          generalize promB (hS9 (K.reverse.take j)) y.id = pb2
          clear hp6 k6 PB q1 q2 q4
          go_wp2_with fail
          exact ⟨⟨j + 1, by omega, by simp, HP6.out, HK6.out⟩, by simp [intOf]; omega⟩
        · obtain rfl : j = m := by omega
          have e1 : K.take j = K := List.take_of_length_le (by rw [HLEN.out]; exact Nat.le_refl _)
          have e2 : K.reverse.take j = K.reverse := List.take_of_length_le (by rw [List.length_reverse, HLEN.out]; exact Nat.le_refl _)
          rw [e1, e2] at hp
          have hta := hp.talN
          have htb := hp.swap.talN
          have hla : (hS9 K).pr.length ≤ 1000000 := by have := hS9_len HCH.out HND.out; have := HLEN.out; omega
          have hlb : (hS9 K.reverse).pr.length ≤ 1000000 := by have := hS9_lenR HCH.out HND.out; have := HLEN.out; omega
          have hkk : Keep (fun q => w0.heap.size ≤ q) w wr := (((K0.out.trans K02.out (fun _ _ f => f)).mono (fun _ _ f => f.elim)).trans HKR.out (fun b hb q => by have := K02.out.size; omega)).trans hkq (fun _ _ q => q.1)
          obtain ⟨sa, hsa⟩ : ∃ sa, sa = hS9 K := ⟨_, rfl⟩
          obtain ⟨sb, hsb⟩ : ∃ sb, sb = hS9 K.reverse := ⟨_, rfl⟩
          have hsame := HSAME.out
          rw [← hsa] at hta hla hsame
          rw [← hsb] at htb hlb hsame
          have HTA := hid hta; have HTB := hid htb; have HLA := hid hla; have HLB := hid hlb; have HSM := hid hsame; have HKK := hid hkk
          clear hp hkq e1 e2 hta htb hla hlb hsame hkk hsa hsb
          go_wp2_with fail
          refine (valN_calls HTA.out slot hslot).mono ?_
          rintro e5 w5 ⟨⟨A9, c9, rfl, hs9, hl9, k5⟩, _⟩
          obtain ⟨iv, hiv⟩ : ∃ iv, iv = (look sa.best slot).isSome := ⟨_, rfl⟩
          obtain ⟨rq, hrq⟩ : ∃ rq, rq = valR sa slot := ⟨_, rfl⟩
          have hiv2 := HSM.out.some
          have hrq2 := HSM.out.val
          rw [← hiv] at hiv2 ⊢
          rw [← hrq] at hrq2 hs9 ⊢
          obtain ⟨nq, hnq⟩ : ∃ nq, nq = rq.changes.length := ⟨_, rfl⟩
          rw [← hnq] at hs9 ⊢
          have HNQ := hid hnq; have HIV := hid hiv2; have HRQ := hid hrq2; have HS9 := hid hs9; have K5 := hid k5
          have HT5 := hid (HTB.out.keep k5)
          clear hs9 k5 hiv hrq hnq hiv2 hrq2 hl9
          go_upto_region 30 with (first
            | (refine wpl_allocB (ty := 34) rfl rfl (z := .agg (reqCs reqZ' (.slice none 0 0)).toArray) (by kernel_rfl) ?_; intro gp w6 hga hba k6 s6; have HGA := hid hga; have HSA6 := hid s6; have K6 := hid k6; clear hga s6 k6)
            | (refine wpl_storeB (v := .agg (reqCs rq (.slice A9 nq c9)).toArray) rfl rfl rfl rfl hba (by kernel_rfl) (by simp [reqCs, Value.cells]) (by simp [reqCs, Value.oneCell', Value.cells]) ?_; intro w7 hba7 k7 s7; have HSA7 := hid s7; have K57 := hid (K6.out.trans k7 (fun q hq e => by have := HGA.out; omega)); clear s7 k7; replace hba7 : w7.heap[gp]? = some (.cells (reqCs rq (.slice A9 nq c9)).toArray 34) := hba7))
          have HBA7 := hid hba7
          clear hba7 hba
          go_wp2_with fail
          refine (valN_calls (HT5.out.keep K57.out) slot hslot).mono ?_
          rintro e8 w8 ⟨⟨A10, c10, rfl, hs10, hl10, k8⟩, _⟩
          rw [← HIV.out, ← HRQ.out, ← HNQ.out]
          rw [← HRQ.out, ← HNQ.out] at hs10
          have HS10 := hid hs10; have K8 := hid k8
          have hba8 := k8.heap HBA7.out id
          clear hs10 k8 hl10
          go_upto_region 31 with (first
            | (refine wpl_allocB (ty := 34) rfl rfl (z := .agg (reqCs reqZ' (.slice none 0 0)).toArray) (by kernel_rfl) ?_; intro gq w9 hgb hbb0 k9 s9; have HGB := hid hgb; have K9 := hid k9; clear hgb s9 k9)
            | (refine wpl_storeB (v := .agg (reqCs rq (.slice A10 nq c10)).toArray) rfl rfl rfl rfl hbb0 (by kernel_rfl) (by simp [reqCs, Value.cells]) (by simp [reqCs, Value.oneCell', Value.cells]) ?_; intro w10 hbb k10 s10; have K810 := hid (K9.out.trans k10 (fun q hq e => by have := HGB.out; omega)); clear s10 k10; replace hbb : w10.heap[gq]? = some (.cells (reqCs rq (.slice A10 nq c10)).toArray 34) := hbb))
          have hba := K810.out.heap hba8 id
          have k510 : Keep (fun _ => False) w5 w10 := (K57.out.trans K8.out (fun _ _ f => f)).trans K810.out (fun _ _ f => f)
          have K10 := hid (K5.out.trans k510 (fun _ _ f => f))
          have HSL9 := hid (HS9.out.keep k510 (fun _ _ => id))
          have HSL10 := hid (HS10.out.keep K810.out (fun _ _ => id))
          clear hba8 hbb0 k510
          have hivv : (iv == iv) = true := by simp
          go_wp2_with (first
            | (refine wpl_loadG (ty := 34) (o := 0) (n := 11) rfl rfl rfl hba (by kernel_rfl) (by kernel_rfl) (reqCs rq (.slice A9 nq c9)) rfl rfl ?_)
            | (refine wpl_loadG (ty := 34) (o := 0) (n := 11) rfl rfl rfl hbb (by kernel_rfl) (by kernel_rfl) (reqCs rq (.slice A10 nq c10)) rfl rfl ?_))
          refine (same9_calls (r := rq) (s := rq) HSL9.out HSL10.out).mono ?_
          rintro e11 w11 ⟨rfl, k11⟩
          rw [decide_eq_true rfl]
          have K11 := hid (K10.out.trans k11 (fun _ _ f => f))
          clear k11 hba hbb hivv
          go_wp2_with fail
          refine (topN_calls (HTA.out.keep K11.out)).mono ?_
          rintro e12 w12 ⟨rfl, rfl⟩
          rw [HSM.out.top]
          go_wp2_with fail
          refine (topN_calls (HTB.out.keep K11.out)).mono ?_
          rintro e12 w12 ⟨rfl, rfl⟩
          generalize sb.top = tp
          have htt : (tp == tp) = true := by simp
          go_wp2_with fail
          refine (baseN_calls (HTA.out.keep K11.out) HLA.out).mono ?_
          rintro e12 w12 ⟨rfl, _, k12⟩
          rw [HSM.out.base]
          have K12 := hid (K11.out.trans k12 (fun _ _ f => f))
          clear k12
          go_wp2_with fail
          refine (baseN_calls (HTB.out.keep K12.out) HLB.out).mono ?_
          rintro e13 w13 ⟨rfl, _, k13⟩
          have K13 := hid (K12.out.trans k13 (fun _ _ f => f))
          generalize baseR sb = bs
          have hbsb : (bs == bs) = true := by simp
          clear k13
          go_wp2_with fail
          refine (furtherN_calls (HTA.out.keep K13.out) HLA.out slot).mono ?_
          rintro e14 w14 ⟨u14', rfl, hr14, _, k14⟩
          rw [HSM.out.further] at hr14
          have HR14 := hid hr14; have K14 := hid (K13.out.trans k14 (fun _ _ f => f))
          clear hr14 k14
          go_wp2_with fail
          refine (furtherN_calls (HTB.out.keep K14.out) HLB.out slot).mono ?_
          rintro e15 w15 ⟨u15', rfl, hr15, _, k15⟩
          have HR14' := hid (HR14.out.keep k15 (fun _ _ => id)); have HR15 := hid hr15; have K15 := hid (K14.out.trans k15 (fun _ _ f => f))
          clear hr15 k15
          go_wp2_with fail
          refine (sameInts_calls HR14'.out HR15.out).mono ?_
          rintro e16 w16 ⟨rfl, z16, rfl⟩
          rw [decide_eq_true rfl]
          have K16 := hid (K15.out.drewN z16)
          go_wp2_with fail
          refine (promisedN_calls (HTA.out.keep K16.out) HLA.out).mono ?_
          rintro e17 w17 ⟨u17', rfl, hr17, _, k17⟩
          rw [HSM.out.promised] at hr17
          have HR17 := hid hr17; have K17 := hid (K16.out.trans k17 (fun _ _ f => f))
          clear hr17 k17
          go_wp2_with fail
          refine (promisedN_calls (HTB.out.keep K17.out) HLB.out).mono ?_
          rintro e18 w18 ⟨u18', rfl, hr18, _, k18⟩
          have HR17' := hid (HR17.out.keep k18 (fun _ _ => id)); have HR18 := hid hr18; have K18 := hid (K17.out.trans k18 (fun _ _ f => f))
          clear hr18 k18
          go_wp2_with fail
          refine (sameInts_calls HR17'.out HR18.out).mono ?_
          rintro e19 w19 ⟨rfl, z19, rfl⟩
          rw [decide_eq_true rfl]
          have K19 := hid (K18.out.drewN z19)
          go_wp2_with fail
          go_ret
          have hs := K0.out.size
          exact ⟨rfl, (HKK.out.trans K19.out (fun _ _ f => f.elim)).below (Nat.le_refl _) (fun b hb q => by have q : w0.heap.size ≤ b := q; omega)⟩
end
end Go.Proofs.Ythlgnilgjeebaaa
