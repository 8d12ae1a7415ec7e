/- wapentakeref15.Ledger: Learn. -/
import Derived.Test.YtiomeoihekifeaaR15
import Derived.Test.YtiomeoihekifeaaSlc
import Derived.Test.YtiomeoihekifeaaSame9
namespace Go.Proofs.Ytiomeoihekifeaa
open Go.RowKit Go.ChangeShapes Go.WideShapes Go.ChangeAt
theorem T_L : SlT Try.prog 47 92 (.agg (lrnCs 0 reqZ' (.slice none 0 0)).toArray) 12 136 := SlT.mk' Try.underlying47 (by kernel_rfl) rfl (by decide)
/-- What is learned, kept in order. -/
def insR (l : List (Int × Req)) (k : Int) (r : Req) : List (Int × Req) := l.takeWhile (fun p => decide (p.1 < k)) ++ (k, r) :: l.dropWhile (fun p => decide (p.1 < k))
def rlearnS (s : LS) (k : Int) (r : Req) : Int × LS :=
  if k < 0 then (1, s) else if k < s.base then (11, s) else match look s.l k with
    | some o => (if o = r then 9 else 10, s)
    | none => if k < s.next then (11, s) else (0, ⟨s.base, s.next, insR s.l k r⟩)
theorem while_at {l : List (Int × Req)} {k : Int} {j : Nat} (h : ∀ i p, i < j → l[i]? = some p → p.1 < k) (hj : j ≤ l.length) (he : ∀ p, l[j]? = some p → ¬ p.1 < k) :
    l.takeWhile (fun p => decide (p.1 < k)) = l.take j ∧ l.dropWhile (fun p => decide (p.1 < k)) = l.drop j := by
  induction l generalizing j with
  | nil => obtain rfl : j = 0 := by simpa using hj
           simp
  | cons q l ih =>
    cases j with
    | zero =>
      have := he q rfl
      simp [this]
    | succ j =>
      have h1 := h 0 q (by omega) rfl
      obtain ⟨e1, e2⟩ := ih (j := j) (fun i p hi hp => h (i + 1) p (by omega) (by simpa using hp)) (by simpa using hj) (fun p hp => he p (by simpa using hp))
      simp [h1, e1, e2]
theorem lrn_one {w : World} {F : Nat → Prop} (x : Int × Req) (d : List Value) (h : Rep.lrn.cells w F x d) : ∀ u ∈ d, u.oneCell' = true := by
  obtain ⟨v, rfl, _, hv, _⟩ := lrn_cells h
  obtain ⟨A, c, rfl⟩ := hv.shape
  simp [lrnCs, reqCs, Value.oneCell']
theorem fill_lrn (k : Int) (r : Req) (v : Value) : List.foldl (fun (cs : Array Value) (x : Value × Nat) => cs.setIfInBounds (1 + x.snd) x.fst) #[.int .i64 k, .int .i64 0, .string { data := #[] }, .int .i64 0, .int .i64 0, .int .i64 0, .string { data := #[] }, .slice none 0 0, .string { data := #[] }, .int .i64 0, .int .i64 0, .int .i64 0] (reqCs r v).zipIdx = (lrnCs k r v).toArray := by kernel_rfl
section
variable {F S : Nat → Prop} {w w' : World} {g : Nat} {s : LS}
def RLearnPost (F : Nat → Prop) (w : World) (g : Nat) (s : LS) (k : Int) (r : Req) (e : Ending) (w' : World) : Prop :=
  e = .returned (.int .i64 (rlearnS s k r).1) ∧ RAt (Grow F w w') w' g (rlearnS s k r).2 ∧ Keep (fun q => q = g) w w'
theorem RAt.mono {G : Nat → Prop} (h : RAt F w g s) (hFG : ∀ k, F k → G k) : RAt G w g s := by
  obtain ⟨v, h1, h2, h3, h4⟩ := h
  exact ⟨v, h1, h2.mono (fun k q => ⟨hFG k q.1, q.2⟩), hFG _ h3, h4⟩
theorem rlearn_same {k : Int} {r : Req} {n : Int} (h : rlearnS s k r = (n, s)) (hk : Keep (fun _ => False) w w') (hl : RAt F w g s) : RLearnPost F w g s k r (.returned (.int .i64 n)) w' := by
  refine ⟨by rw [h], ?_, hk.mono (fun _ _ q => q.elim)⟩
  rw [h]
  exact (hl.keep hk (fun _ _ => id)).mono (fun _ => .inl)
theorem rlearn_fin {w8 w10 w11 w12 w13 w14 : World} {A A10 A11 A13 A14 : Option Addr} {cl c10 c11 c13 c14 n nc j : Nat} {k : Int} {r : Req} {cs : List Value} (hgF : F g) (hF : ∀ k, F k → k < w.heap.size) (hn : n = s.l.length) (hch : ∀ p ∈ s.l, p.2.changes.length ≤ 4294967296)
    (hk : okI k) (hrok : r.Ok) (hl : nc ≤ 4294967296) (hnc : nc = r.changes.length) (hR : rlearnS s k r = (0, ⟨s.base, s.next, insR s.l k r⟩)) (k08 : Keep (fun _ => False) w w8)
    (hwh : s.l.takeWhile (fun p => decide (p.1 < k)) = s.l.take j ∧ s.l.dropWhile (fun p => decide (p.1 < k)) = s.l.drop j) (hj : j ≤ n) (hpa : Parts .lrn w8 (fun k => F k ∧ k ≠ g) cs s.l) (hcs : cs.length = n * 12)
    (k10 : Keep (fun _ => False) w8 w10) (ho10 : w10.ownsRow 0 92 12 (.slice A10 j c10) j (cs.take (j * 12))) (hn10 : ∀ b, (Value.slice A10 j c10).ownBlock = some b → w8.heap.size ≤ b)
    (hoc : OwnC w10 w11 A11 nc c11 r.changes) (k11 : Keep (fun _ => False) w10 w11) (k12 : Keep (fun _ => False) w11 w12) (k13 : Keep (fun k => some k = (Value.slice A10 j c10).ownBlock) w12 w13)
    (hn13 : ∀ b, (Value.slice A13 (j + 1) c13).ownBlock = some b → w8.heap.size ≤ b ∧ ¬ (w10.heap.size ≤ b ∧ b < w11.heap.size)) (k1314 : Keep (fun k => some k = (Value.slice A13 (j + 1) c13).ownBlock) w13 w14)
    (ho14 : w14.ownsRow 0 92 12 (.slice A14 (j + 1 + (n - j)) c14) (j + 1 + (n - j)) (cs.take (j * 12) ++ lrnCs k r (.slice A11 nc c11) ++ cs.drop (j * 12)))
    (hn14 : ∀ b, (Value.slice A14 (j + 1 + (n - j)) c14).ownBlock = some b → w8.heap.size ≤ b) (hg14 : w14.heap[g]? = some (RObj s (.slice A n cl))) (k14 : Keep (fun _ => False) w8 w14) :
    RLearnPost F w g s k r (.returned (.int .i64 0)) (w14.setCell ⟨g, 2, none⟩ (.slice A14 (j + 1 + (n - j)) c14)) := by
  have ks : Keep (fun q => q = g) w14 (w14.setCell ⟨g, 2, none⟩ (.slice A14 (j + 1 + (n - j)) c14)) := (Keep.refl _ w14).setCell _ _ (fun _ => rfl)
  have hgn : (w14.setCell ⟨g, 2, none⟩ (.slice A14 (j + 1 + (n - j)) c14)).heap[g]? = some (RObj ⟨s.base, s.next, insR s.l k r⟩ (.slice A14 (j + 1 + (n - j)) c14)) := by rw [heap_set hg14]; rfl
  generalize w14.setCell ⟨g, 2, none⟩ (.slice A14 (j + 1 + (n - j)) c14) = wf at *
  have kall : Keep (fun q => q = g) w8 wf := (k14.mono (fun _ _ h => h.elim)).trans ks (fun _ _ h => h)
  have e8 := k08.size
  have e14 := kall.size
  have e10 := k10.size
  have e11 := k11.size
  have e12 := k12.size
  have e13 := k13.size
  have e15 := k1314.size
  have e16 := ks.size
  have hgl := hF g hgF
  refine ⟨by rw [hR], ?_, ((k08.mono (fun _ _ h => h.elim)).trans kall (fun _ _ h => h))⟩
  rw [hR]
  have hpf : Parts .lrn wf (fun q => Grow F w wf q ∧ q ≠ g) cs s.l := (hpa.keep kall (fun q hq e => hq.2 e)).mono (fun q hq => ⟨.inl hq.1, hq.2⟩)
  have h10 : ∀ b, (Value.slice A10 j c10).ownBlock = some b → b < w10.heap.size := fun b hb => own_lt' ho10 b hb
  have hkx : Keep (fun q => q = g ∨ some q = (Value.slice A10 j c10).ownBlock ∨ some q = (Value.slice A13 (j + 1) c13).ownBlock) w11 wf :=
    (((k12.mono (fun _ _ h => h.elim)).trans k13 (fun b hb e => .inr (.inl e))).trans k1314 (fun b hb e => .inr (.inr e))).trans ks (fun b hb e => .inl e)
  have hsl1 : Sl .change wf (fun q => Grow F w wf q ∧ q ≠ g) (.slice A11 nc c11) r.changes := (hoc.1.keep hkx (fun q hq e => by
    have h1 := hq.1
    have h2 := hq.2
    rcases e with e | e | e
    · omega
    · have := h10 q e.symm; omega
    · have := (hn13 q e.symm).2; omega)).mono (fun q hq => ⟨.inr ⟨by have := hq.1; omega, by have := hq.2; omega⟩, by have := hq.1; omega⟩)
  have hx1 : Parts .lrn wf (fun q => Grow F w wf q ∧ q ≠ g) (lrnCs k r (.slice A11 nc c11)) [(k, r)] := Parts.one (lrn_mk (p := (k, r)) hsl1 hk hrok)
  have hsz : Rep.lrn.size = 12 := rfl
  have hlt : (s.l.take j).length = j := by rw [List.length_take]; omega
  have hall : Parts .lrn wf (fun q => Grow F w wf q ∧ q ≠ g) (cs.take (j * 12) ++ lrnCs k r (.slice A11 nc c11) ++ cs.drop (j * 12)) (insR s.l k r) := by
    rw [insR, hwh.1, hwh.2, show s.l.take j ++ (k, r) :: s.l.drop j = s.l.take j ++ [(k, r)] ++ s.l.drop j by simp]
    refine Parts.app (Parts.app (hpf.take j) ?_ hx1) ?_ (hpf.drop j)
    · rw [hlt, hsz, List.length_take, hcs, Nat.min_eq_left (Nat.mul_le_mul_right _ hj)]
    · rw [List.length_append, List.length_append, hlt, hsz, List.length_take, hcs, Nat.min_eq_left (Nat.mul_le_mul_right _ hj)]
      simp [lrnCs, reqCs]; omega
  have hlen : (insR s.l k r).length = j + 1 + (n - j) := by
    rw [insR, hwh.1, hwh.2, List.length_append, hlt, List.length_cons, List.length_drop]; omega
  have hrow := (Row.ofOwn ho14).keep ks (fun b hb e => by have e : b = g := e; have := hn14 b hb.symm; omega)
  have hnb : ∀ b, some b = (Value.slice A14 (j + 1 + (n - j)) c14).ownBlock → Grow F w wf b ∧ b ≠ g := fun b hb => by
    have h1 := hn14 b hb.symm
    have h2 := own_lt' ho14 b hb.symm
    exact ⟨.inr ⟨by omega, by omega⟩, by omega⟩
  refine ⟨_, hgn, ?_, .inl hgF, fun p hp => ?_⟩
  · refine Parts.sl hall (F := fun q => Grow F w wf q ∧ q ≠ g) ?_ (fun _ h => h)
    rw [hlen]
    exact hrow.mono hnb
  · rw [insR, hwh.1, hwh.2] at hp
    rcases List.mem_append.1 hp with q | q
    · exact hch p (List.mem_of_mem_take q)
    · rcases List.mem_cons.1 q with q | q
      · subst q; simp only; omega
      · exact hch p (List.mem_of_mem_drop q)
set_option maxRecDepth 20000 in
set_option maxHeartbeats 8000000 in
theorem rlearn_calls {G : Nat → Prop} (h : RAt F w g s) (hF : ∀ k, F k → k < w.heap.size) (k : Int) (hk : okI k) {r : Req} {v : Value} (hv : Sl .change w G v r.changes) (hrok : r.Ok) (hl : r.changes.length ≤ 4294967296) (hsl : s.l.length ≤ 100000) :
    Calls Try.prog 24 #[.pointer (some ⟨g, 0, none⟩), .int .i64 k, reqV r v] w (RLearnPost F w g s k r) := by
  obtain ⟨A, c, rfl⟩ := hv.shape
  have H := hid h
  have HV := hid hv; have HF := hid hF
  obtain ⟨vl, hg, hsl0, hgF, hch⟩ := h
  obtain ⟨Al, cl, rfl⟩ := hsl0.shape
  obtain ⟨n, hn⟩ : ∃ n, n = s.l.length := ⟨_, rfl⟩
  rw [← hn] at hg hsl hsl0
  have HN := hid hn; have HG := hid hg; have HS := hid hsl0; have HCH := hid hch
  obtain ⟨nc, hnc⟩ : ∃ nc, nc = r.changes.length := ⟨_, rfl⟩
  rw [← hnc] at HV hl ⊢
  have HNC := hid hnc
  have hglt := hF g hgF
  clear hv hF hg hsl0 hch hn hnc
  have CG := fun (w' : World) (hk : Keep (fun _ => False) w w') => hk.heap HG.out id
  by_cases k0 : k < 0
  · have HP := hid (show rlearnS s k r = (1, s) by rw [rlearnS, if_pos k0])
    go_enter Try.func24, Try.ntmps24
    go_wp2_with (first
      | (refine wpl_boxB (v := reqV r (.slice A nc c)) rfl rfl rfl ?_; intro g5 w5 hg5 hb5 k5 s5; have K5 := hid k5; clear hg5 k5))
    go_ret
    exact rlearn_same HP.out K5.out H.out
  by_cases kb : k < s.base
  · have HP := hid (show rlearnS s k r = (11, s) by rw [rlearnS, if_neg k0, if_pos kb])
    go_enter Try.func24, Try.ntmps24
    go_wp2_with (first
      | (refine wpl_boxB (v := reqV r (.slice A nc c)) rfl rfl rfl ?_; intro g5 w5 hg5 hb5 k5 s5; have K5 := hid k5; have c1 := cell_at (CG _ k5) 1 (.int .i64 s.base) rfl; clear hg5 k5))
    go_ret
    exact rlearn_same HP.out K5.out H.out
  have HKB := hid (And.intro k0 kb)
  go_enter Try.func24, Try.ntmps24
  go_wp2_with (first
    | (refine wpl_boxB (v := reqV r (.slice A nc c)) rfl rfl rfl ?_; intro g5 w5 hg5 hb5 k5 s5; have K5 := hid k5; have HG5 := hid hg5; have c1 := cell_at (CG _ k5) 1 (.int .i64 s.base) rfl; clear hg5 k5))
  have HB5 := hid hb5
  clear hb5
  refine (rget_calls (H.out.keep K5.out (fun _ _ => id)) k).mono ?_
  rintro e w6 ⟨v6, rfl, hs6, k6⟩
  have HRL : ∀ o, look s.l k = some o → rlearnS s k r = (if o = r then 9 else 10, s) := fun o ho => by rw [rlearnS, if_neg (by have := HKB.out; omega), if_neg (by have := HKB.out; omega), ho]
  have HRN : look s.l k = none → rlearnS s k r = if k < s.next then (11, s) else (0, ⟨s.base, s.next, insR s.l k r⟩) := fun ho => by rw [rlearnS, if_neg (by have := HKB.out; omega), if_neg (by have := HKB.out; omega), ho]
  generalize look s.l k = o at *
  have K6 := hid (K5.out.trans k6 (fun _ _ q => q))
  have hb6 := k6.heap HB5.out id
  have HB6 := hid hb6
  have hs56 := k6.size
  have CG6 := CG _ K6.out
  have c2 := cell_at CG6 0 (.int .i64 s.next) rfl
  clear hb6 k6 c1 CG6
  cases o with
  | some o =>
    have hRL := HRL o rfl
    clear HRL HRN
    simp only [Option.getD_some, Option.isSome_some] at hs6 ⊢
    obtain ⟨A6, c6, rfl⟩ := hs6.shape
    obtain ⟨n6, hn6⟩ : ∃ n6, n6 = o.changes.length := ⟨_, rfl⟩
    rw [← hn6] at hs6 ⊢
    have HS6 := hid hs6; have HN6 := hid hn6
    have hb6 := HB6.out
    clear hs6 hn6
    go_wp2_with (first
      | (refine wpl_allocB (z := .agg (reqCs reqZ' (.slice none 0 0)).toArray) rfl rfl (by kernel_rfl) ?_; intro g7 w7 hg7 hb7 k7 s7; have HG7 := hid hg7; have K7 := hid k7; clear hg7; have hb6' := k7.heap hb6 id; clear k7)
      | (refine wpl_storeB (v := .agg (reqCs o (.slice A6 n6 c6)).toArray) rfl rfl rfl rfl hb7 (by kernel_rfl) (Nat.le_refl 11) (by simp [Value.oneCell', reqCs, Value.cells]) ?_; intro w8 hb8 k8 s8; have K8 := hid k8; have hb68 := k8.heap hb6' (fun e => by have := lt_heap hb6; have := HG7.out; omega); clear k8)
      | (refine wpl_loadG (ty := 30) rfl rfl rfl hb8 (by kernel_rfl) (by kernel_rfl) (reqCs o (.slice A6 n6 c6)) rfl rfl ?_)
      | (refine wpl_loadG (ty := 30) rfl rfl rfl hb68 (by kernel_rfl) (by kernel_rfl) (reqCs r (.slice A nc c)) rfl rfl ?_))
    have k68 : Keep (fun _ => False) w6 w8 := K7.out.trans K8.out (fun b hb e => by have := HG7.out; omega)
    have K68 := hid k68
    refine (same9_calls (r := o) (s := r) (HS6.out.keep k68 (fun _ _ => id)) (HV.out.keep (K6.out.trans k68 (fun _ _ q => q)) (fun _ _ => id))).mono ?_
    rintro e w9 ⟨rfl, k9⟩
    have K9 := hid (K6.out.trans (K68.out.trans k9 (fun _ _ q => q)) (fun _ _ q => q))
    clear k9 k68 hb7 hb8 hb68 hb6'
    by_cases hor : o = r
    · rw [if_pos hor] at hRL
      rw [decide_eq_true hor]
      clear hor
      go_wp2_with fail
      go_ret
      exact rlearn_same hRL K9.out H.out
    · rw [if_neg hor] at hRL
      rw [decide_eq_false hor]
      clear hor
      go_wp2_with fail
      go_ret
      exact rlearn_same hRL K9.out H.out
  | none =>
    have hRN := HRN rfl
    clear HRL HRN
    simp only [Option.getD_none, Option.isSome_none] at hs6 ⊢
    obtain ⟨A6, c6, rfl⟩ := hs6.shape
    have hb6 := HB6.out
    clear hs6
    by_cases kn : k < s.next
    · rw [if_pos kn] at hRN
      go_wp2_with (first
        | (refine wpl_allocB (z := .agg (reqCs reqZ' (.slice none 0 0)).toArray) rfl rfl (by kernel_rfl) ?_; intro g7 w7 hg7 hb7 k7 s7; have HG7 := hid hg7; have K7 := hid k7; clear hg7; have hb6' := k7.heap hb6 id; have c27 := k7.cell c2 id; clear k7)
        | (refine wpl_storeB (v := .agg (reqCs reqZero (.slice A6 reqZero.changes.length c6)).toArray) rfl rfl rfl rfl hb7 (by kernel_rfl) (Nat.le_refl 11) (by simp [Value.oneCell', reqCs, Value.cells]) ?_; intro w8 hb8 k8 s8; have K8 := hid k8; have c28 := k8.cell c27 (fun e => by have e : g = g7 := e; have := HG7.out; have := K6.out.size; omega); clear k8))
      have k68 : Keep (fun _ => False) w6 w8 := K7.out.trans K8.out (fun b hb e => by have := HG7.out; omega)
      go_ret
      exact rlearn_same hRN (K6.out.trans k68 (fun _ _ q => q)) H.out
    rw [if_neg kn] at hRN
    have HRN := hid hRN
    clear hRN
    go_wp2_with (first
      | (refine wpl_allocB (z := .agg (reqCs reqZ' (.slice none 0 0)).toArray) rfl rfl (by kernel_rfl) ?_; intro g7 w7 hg7 hb7 k7 s7; have HG7 := hid hg7; have K7 := hid k7; clear hg7; have hb6' := k7.heap hb6 id; have c27 := k7.cell c2 id; clear k7)
      | (refine wpl_storeB (v := .agg (reqCs reqZero (.slice A6 reqZero.changes.length c6)).toArray) rfl rfl rfl rfl hb7 (by kernel_rfl) (Nat.le_refl 11) (by simp [Value.oneCell', reqCs, Value.cells]) ?_; intro w8 hb8 k8 s8; have K8 := hid k8; have c28 := k8.cell c27 (fun e => by have e : g = g7 := e; have := HG7.out; have := K6.out.size; omega); have hb68 := k8.heap hb6' (fun e => by have := lt_heap hb6; have := HG7.out; omega); clear k8))
    have k68 : Keep (fun _ => False) w6 w8 := K7.out.trans K8.out (fun b hb e => by have := HG7.out; omega)
    have K08 := hid (K6.out.trans k68 (fun _ _ q => q))
    have HB8 := hid hb68
    have cl8 := cell_at (CG _ K08.out) 2 (.slice Al n cl) rfl
    have H8 := hid (HS.out.keep K08.out (fun _ _ => id))
    clear hb6 hb6' hb7 hb8 hb68 c2 c27 c28 k68 CG s7 s8
    have hng : g < w8.heap.size := by have := K08.out.size; omega
    go_loopw [9] (fun i wr => ∃ j : Nat, j ≤ n ∧ i = .int .i64 j ∧ (∀ i p, i < j → s.l[i]? = some p → p.1 < k) ∧ w8 = wr) (fun i _ => n - (intOf i).toNat)
    case atStart => exact ⟨0, Nat.zero_le _, rfl, fun _ _ h => by omega, rfl⟩
    case round =>
      obtain ⟨j, hj, rfl, hall, rfl⟩ := hrel
      have HALL := hid hall
      clear hall
      by_cases hlt : j < n
      · obtain ⟨x, hx⟩ : ∃ x, s.l[j]? = some x := ⟨s.l[j]'(by rw [← HN.out]; exact hlt), by simp [show j < s.l.length by rw [← HN.out]; exact hlt]⟩
        obtain ⟨A', c', b, off, cs, he, rfl, hcs, hcell⟩ := elem_cells7 H8.out HN.out hx
        simp only [Value.slice.injEq, true_and] at he
        obtain ⟨rfl, rfl⟩ := he
        obtain ⟨vc, rfl, hok, hvc, _⟩ := lrn_cells hcs
        have hsz : Rep.lrn.size = 12 := rfl
        rw [hsz] at hcell
        have d0 : w8.cell? ⟨b, off + j * 12, none⟩ = some (.int .i64 x.1) := hcell 0 _ rfl
        have HX := hid hx
        clear hcs hcell hsz hvc hok hx
        by_cases hk2 : x.1 < k
        · have HALL2 := hid (fun i p (hi : i < j + 1) (hp : s.l[i]? = some p) => (show p.1 < k from by
            by_cases h : i < j
            · exact HALL.out i p h hp
            · obtain rfl : i = j := by omega
              rw [HX.out] at hp
              obtain rfl := Option.some.inj hp
              exact hk2))
          go_wp2_with fail
          exact ⟨⟨j + 1, by omega, by simp, HALL2.out, trivial⟩, by simp [intOf]; omega⟩
        · have HWH := hid (while_at HALL.out (by rw [← HN.out]; omega) (fun p hp => by rw [HX.out] at hp; obtain rfl := Option.some.inj hp; exact hk2))
          have HJ := hid hj
          have K0 := hid ((K08.out.mono (T := fun q => q = g) (fun _ _ h => h.elim)))
          obtain ⟨cs, hrow, hparts⟩ := H8.out.parts
          have h1c := row_one (r := Rep.lrn) (by decide) lrn_one (by have := hrow; obtain ⟨_, _, _, q, _⟩ := this; exact q) hparts
          rw [← HN.out] at hrow
          have hsz : Rep.lrn.size = 12 := rfl
          rw [hsz] at hrow
          have hcap := hrow.cap
          have hjc : j ≤ cl := by omega
          have HROW := hid hrow; have HPA := hid hparts; have H1C := hid h1c
          have hb8 := HB8.out
          have cl8a := fun o => cell_at (heap_alloc (K08.out.heap HG.out id) o) 2 (.slice _ n cl) rfl
          clear hrow hparts h1c hsz hcap
          go_wp2_with (first
            | (refine wpl_sliceHi (size := 12) (n := n) (c := cl) (j := j) rfl rfl (by kernel_rfl) (by kernel_rfl) rfl rfl hjc ?_)
            | (at_builtin; refine stopHere ?_))
          have ka : Keep (fun _ => False) w8 (w8.alloc (.cells #[] 92)) := (Keep.refl _ w8).alloc _
          refine goOn (wpl_app (v := .slice (some ⟨w8.heap.size, 0, none⟩) 0 0) rfl rfl T_L rfl (owns_emp w8 92 12) rfl ((HROW.out.keep ka (fun _ _ => id)).takeN HJ.out) (fun u hu => H1C.out u (List.mem_of_mem_take hu)) (by omega) (by omega) ?_)
          intro A10 c10 w10 ho10 hk10 hn10
          clear cl8a
          simp only [Nat.zero_add, List.nil_append] at ho10 hk10 hn10 ⊢
          have k10 := keep_emp2 hk10
          have hb10 := k10.heap hb8 id
          have HO10 := hid ho10; have K10 := hid k10
          have hn10' : ∀ b, (Value.slice A10 j c10).ownBlock = some b → w8.heap.size ≤ b := fun b hb => by
            rcases hn10 b hb with q | q
            · simp only [Value.ownBlock, Option.some.injEq] at q; omega
            · have q : w8.heap.size + 1 ≤ b := by simpa using q
              omega
          have HN10 := hid hn10'
          clear ho10 hk10 hn10 k10 ka hn10' hb8
          go_wp2_with (first
            | (refine wpl_loadG (ty := 30) rfl rfl rfl hb10 (by kernel_rfl) (by kernel_rfl) (reqCs r (.slice A nc c)) rfl rfl ?_))
          have hcp := copyReq_calls (w := w10) (r := r) ((HV.out.keep K08.out (fun _ _ => id)).keep K10.out (fun _ _ => id)) (by rw [← HNC.out]; exact hl)
          rw [← HNC.out] at hcp
          refine hcp.mono ?_
          rintro e w11 ⟨A11, c11, rfl, hoc, k11⟩
          have HOC := hid hoc; have K11 := hid k11
          clear hcp hoc k11 hb10
          have hq11 : (reqCs r (.slice A11 nc c11)).length = 11 := rfl
          go_wp2_with (first
            | (guard_target =~ Go.wpList _ _ _ (Go.Oper.mk _ (Go.Op.buildSlice _ _ _) _ _ _ _ :: _) _ _; refine stopHere ?_))
          simp only [fill_lrn]
          refine goOn ?_
          go_wp2_with (first
            | (refine wpl_sliceOne (v := .agg (lrnCs k r (.slice A11 nc c11)).toArray) (z := .agg (lrnCs 0 reqZ' (.slice none 0 0)).toArray) rfl rfl Try.underlying47 (n := 12) (by kernel_rfl) (by decide) (by decide) rfl (by simp [Value.cells, lrnCs, reqCs]) ?_; intro g12 w12 hg12 hb12 k12 s12; have HG12 := hid hg12; have HB12 := hid hb12; have K12 := hid k12; clear hg12 hb12 k12 s12)
            | (at_builtin; refine stopHere ?_))
          have hrow1 : Row (fun q => q = g12) w12 (.slice (some ⟨g12, 0, none⟩) 1 1) 1 12 (lrnCs k r (.slice A11 nc c11)) := ⟨_, _, rfl, rfl, Nat.le_refl _, by decide, .inr ⟨g12, 0, rfl, rfl, lt_heap HB12.out, fun j u hu => cell_at HB12.out _ u (by rw [Nat.zero_add]; show (lrnCs k r _).toArray[j]? = _; simpa using hu)⟩⟩
          refine goOn (wpl_app (v := .slice A10 j c10) rfl rfl T_L rfl (K12.out.owns (K11.out.owns HO10.out (fun _ _ => id)) (fun _ _ => id)) rfl hrow1 (by simp [lrnCs, reqCs, Value.oneCell']) (by omega) (by omega) ?_)
          intro A13 c13 w13 ho13 hk13 hn13
          have K13 := hid hk13; have HO13 := hid ho13
          have hn13' : ∀ b, (Value.slice A13 (j + 1) c13).ownBlock = some b → w8.heap.size ≤ b := fun b hb => by
            rcases hn13 b hb with q | q
            · exact HN10.out b q
            · have := K10.out.size; have := K11.out.size; have := K12.out.size; omega
          have HN13 := hid hn13'
          have k813 : Keep (fun _ => False) w8 w13 := ((K10.out.trans K11.out (fun _ _ h => h)).trans K12.out (fun _ _ h => h)).trans K13.out (fun b hb e => by have := HN10.out b e.symm; omega)
          have K813 := hid k813
          have cl13 := k813.cell cl8 id
          have hf13 : w13.frozen? ⟨g, 2, none⟩ = false := free_at (k813.heap (K08.out.heap HG.out id) id) 2
          have HD13 := hid (fun b (hb : (Value.slice A13 (j + 1) c13).ownBlock = some b) => (show w8.heap.size ≤ b ∧ ¬ (w10.heap.size ≤ b ∧ b < w11.heap.size) from ⟨HN13.out b hb, by
            rcases hn13 b hb with q | q
            · have := own_lt' HO10.out b q; omega
            · have := K12.out.size; omega⟩))
          clear ho13 hk13 hn13 hn13' k813 cl8 hrow1
          have hjn := HJ.out
          go_wp2_with (first
            | (refine wpl_sliceLoR (size := 12) (n := n) (c := cl) (j := j) rfl rfl (by kernel_rfl) (by kernel_rfl) rfl rfl (HROW.out.keep K813.out (fun _ _ => id)) hjn ?_; intro A15 c15 hr15)
            | (at_builtin; refine stopHere ?_))
          refine goOn (wpl_app (v := .slice A13 (j + 1) c13) rfl rfl T_L rfl HO13.out rfl hr15 (fun u hu => H1C.out u (List.mem_of_mem_drop hu)) (by omega) (by omega) ?_)
          intro A14 c14 w14 ho14 hk14 hn14
          have hn14' : ∀ b, (Value.slice A14 (j + 1 + (n - j)) c14).ownBlock = some b → w8.heap.size ≤ b := fun b hb => by
            rcases hn14 b hb with q | q
            · exact HN13.out b q
            · have := K813.out.size; omega
          have k14 : Keep (fun _ => False) w8 w14 := K813.out.trans hk14 (fun b hb e => by have := HN13.out b e.symm; omega)
          have hg14 := k14.heap (K08.out.heap HG.out id) id
          have hf14 := free_at hg14 2
          have cl14 := cell_at hg14 2 (.slice _ n cl) rfl
          have HO14 := hid ho14; have HN14 := hid hn14'; have K14 := hid k14; have HG14 := hid hg14
          have K1314 := hid hk14
          clear ho14 hk14 hn14 hn14' k14 hg14 cl13 hf13
          go_wp2_with fail
          go_ret
          exact rlearn_fin hgF HF.out HN.out HCH.out hk hrok hl HNC.out HRN.out K08.out HWH.out HJ.out HPA.out (by obtain ⟨_, _, _, q, _⟩ := HROW.out; exact q) K10.out HO10.out HN10.out HOC.out K11.out K12.out K13.out HD13.out K1314.out HO14.out HN14.out HG14.out K14.out
      · have HWH := hid (while_at HALL.out (by rw [← HN.out]; omega) (fun p hp => by have := (List.getElem?_eq_some_iff.1 hp).1; have := HN.out; omega))
        have HJ := hid hj
        have K0 := hid ((K08.out.mono (T := fun q => q = g) (fun _ _ h => h.elim)))
        obtain ⟨cs, hrow, hparts⟩ := H8.out.parts
        have h1c := row_one (r := Rep.lrn) (by decide) lrn_one (by have := hrow; obtain ⟨_, _, _, q, _⟩ := this; exact q) hparts
        rw [← HN.out] at hrow
        have hsz : Rep.lrn.size = 12 := rfl
        rw [hsz] at hrow
        have hcap := hrow.cap
        have hjc : j ≤ cl := by omega
        have HROW := hid hrow; have HPA := hid hparts; have H1C := hid h1c
        have hb8 := HB8.out
        have cl8a := fun o => cell_at (heap_alloc (K08.out.heap HG.out id) o) 2 (.slice _ n cl) rfl
        clear hrow hparts h1c hsz hcap
        go_wp2_with (first
          | (refine wpl_sliceHi (size := 12) (n := n) (c := cl) (j := j) rfl rfl (by kernel_rfl) (by kernel_rfl) rfl rfl hjc ?_)
          | (at_builtin; refine stopHere ?_))
        have ka : Keep (fun _ => False) w8 (w8.alloc (.cells #[] 92)) := (Keep.refl _ w8).alloc _
        refine goOn (wpl_app (v := .slice (some ⟨w8.heap.size, 0, none⟩) 0 0) rfl rfl T_L rfl (owns_emp w8 92 12) rfl ((HROW.out.keep ka (fun _ _ => id)).takeN HJ.out) (fun u hu => H1C.out u (List.mem_of_mem_take hu)) (by omega) (by omega) ?_)
        intro A10 c10 w10 ho10 hk10 hn10
        clear cl8a
        simp only [Nat.zero_add, List.nil_append] at ho10 hk10 hn10 ⊢
        have k10 := keep_emp2 hk10
        have hb10 := k10.heap hb8 id
        have HO10 := hid ho10; have K10 := hid k10
        have hn10' : ∀ b, (Value.slice A10 j c10).ownBlock = some b → w8.heap.size ≤ b := fun b hb => by
          rcases hn10 b hb with q | q
          · simp only [Value.ownBlock, Option.some.injEq] at q; omega
          · have q : w8.heap.size + 1 ≤ b := by simpa using q
            omega
        have HN10 := hid hn10'
        clear ho10 hk10 hn10 k10 ka hn10' hb8
        go_wp2_with (first
          | (refine wpl_loadG (ty := 30) rfl rfl rfl hb10 (by kernel_rfl) (by kernel_rfl) (reqCs r (.slice A nc c)) rfl rfl ?_))
        have hcp := copyReq_calls (w := w10) (r := r) ((HV.out.keep K08.out (fun _ _ => id)).keep K10.out (fun _ _ => id)) (by rw [← HNC.out]; exact hl)
        rw [← HNC.out] at hcp
        refine hcp.mono ?_
        rintro e w11 ⟨A11, c11, rfl, hoc, k11⟩
        have HOC := hid hoc; have K11 := hid k11
        clear hcp hoc k11 hb10
        have hq11 : (reqCs r (.slice A11 nc c11)).length = 11 := rfl
        go_wp2_with (first
          | (guard_target =~ Go.wpList _ _ _ (Go.Oper.mk _ (Go.Op.buildSlice _ _ _) _ _ _ _ :: _) _ _; refine stopHere ?_))
        simp only [fill_lrn]
        refine goOn ?_
        go_wp2_with (first
          | (refine wpl_sliceOne (v := .agg (lrnCs k r (.slice A11 nc c11)).toArray) (z := .agg (lrnCs 0 reqZ' (.slice none 0 0)).toArray) rfl rfl Try.underlying47 (n := 12) (by kernel_rfl) (by decide) (by decide) rfl (by simp [Value.cells, lrnCs, reqCs]) ?_; intro g12 w12 hg12 hb12 k12 s12; have HG12 := hid hg12; have HB12 := hid hb12; have K12 := hid k12; clear hg12 hb12 k12 s12)
          | (at_builtin; refine stopHere ?_))
        have hrow1 : Row (fun q => q = g12) w12 (.slice (some ⟨g12, 0, none⟩) 1 1) 1 12 (lrnCs k r (.slice A11 nc c11)) := ⟨_, _, rfl, rfl, Nat.le_refl _, by decide, .inr ⟨g12, 0, rfl, rfl, lt_heap HB12.out, fun j u hu => cell_at HB12.out _ u (by rw [Nat.zero_add]; show (lrnCs k r _).toArray[j]? = _; simpa using hu)⟩⟩
        refine goOn (wpl_app (v := .slice A10 j c10) rfl rfl T_L rfl (K12.out.owns (K11.out.owns HO10.out (fun _ _ => id)) (fun _ _ => id)) rfl hrow1 (by simp [lrnCs, reqCs, Value.oneCell']) (by omega) (by omega) ?_)
        intro A13 c13 w13 ho13 hk13 hn13
        have K13 := hid hk13; have HO13 := hid ho13
        have hn13' : ∀ b, (Value.slice A13 (j + 1) c13).ownBlock = some b → w8.heap.size ≤ b := fun b hb => by
          rcases hn13 b hb with q | q
          · exact HN10.out b q
          · have := K10.out.size; have := K11.out.size; have := K12.out.size; omega
        have HN13 := hid hn13'
        have k813 : Keep (fun _ => False) w8 w13 := ((K10.out.trans K11.out (fun _ _ h => h)).trans K12.out (fun _ _ h => h)).trans K13.out (fun b hb e => by have := HN10.out b e.symm; omega)
        have K813 := hid k813
        have cl13 := k813.cell cl8 id
        have hf13 : w13.frozen? ⟨g, 2, none⟩ = false := free_at (k813.heap (K08.out.heap HG.out id) id) 2
        have HD13 := hid (fun b (hb : (Value.slice A13 (j + 1) c13).ownBlock = some b) => (show w8.heap.size ≤ b ∧ ¬ (w10.heap.size ≤ b ∧ b < w11.heap.size) from ⟨HN13.out b hb, by
          rcases hn13 b hb with q | q
          · have := own_lt' HO10.out b q; omega
          · have := K12.out.size; omega⟩))
        clear ho13 hk13 hn13 hn13' k813 cl8 hrow1
        have hjn := HJ.out
        go_wp2_with (first
          | (refine wpl_sliceLoR (size := 12) (n := n) (c := cl) (j := j) rfl rfl (by kernel_rfl) (by kernel_rfl) rfl rfl (HROW.out.keep K813.out (fun _ _ => id)) hjn ?_; intro A15 c15 hr15)
          | (at_builtin; refine stopHere ?_))
        refine goOn (wpl_app (v := .slice A13 (j + 1) c13) rfl rfl T_L rfl HO13.out rfl hr15 (fun u hu => H1C.out u (List.mem_of_mem_drop hu)) (by omega) (by omega) ?_)
        intro A14 c14 w14 ho14 hk14 hn14
        have hn14' : ∀ b, (Value.slice A14 (j + 1 + (n - j)) c14).ownBlock = some b → w8.heap.size ≤ b := fun b hb => by
          rcases hn14 b hb with q | q
          · exact HN13.out b q
          · have := K813.out.size; omega
        have k14 : Keep (fun _ => False) w8 w14 := K813.out.trans hk14 (fun b hb e => by have := HN13.out b e.symm; omega)
        have hg14 := k14.heap (K08.out.heap HG.out id) id
        have hf14 := free_at hg14 2
        have cl14 := cell_at hg14 2 (.slice _ n cl) rfl
        have HO14 := hid ho14; have HN14 := hid hn14'; have K14 := hid k14; have HG14 := hid hg14
        have K1314 := hid hk14
        clear ho14 hk14 hn14 hn14' k14 hg14 cl13 hf13
        go_wp2_with fail
        go_ret
        exact rlearn_fin hgF HF.out HN.out HCH.out hk hrok hl HNC.out HRN.out K08.out HWH.out HJ.out HPA.out (by obtain ⟨_, _, _, q, _⟩ := HROW.out; exact q) K10.out HO10.out HN10.out HOC.out K11.out K12.out K13.out HD13.out K1314.out HO14.out HN14.out HG14.out K14.out
end
end Go.Proofs.Ytiomeoihekifeaa
