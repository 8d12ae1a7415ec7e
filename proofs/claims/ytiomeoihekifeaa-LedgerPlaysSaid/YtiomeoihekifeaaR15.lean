/- wapentakeref15.Ledger: how it lies; NewLedger, Get, Step. -/
import Derived.Test.YtiomeoihekifeaaCopyR
import Derived.Test.YtiomeoihekifeaaLed
import Derived.Test.YtiomeoihekifeaaRoom17
namespace Go.Proofs.Ytiomeoihekifeaa
open Go.RowKit Go.ChangeShapes Go.WideShapes Go.ChangeAt
def Rep.lrn : Rep (Int × Req) := Rep.pair .int .req
abbrev lrnCs (k : Int) (r : Req) (v : Value) : List Value := .int .i64 k :: reqCs r v
theorem lrn_cells {w : World} {F : Nat → Prop} {p : Int × Req} {cs : List Value} (h : Rep.lrn.cells w F p cs) : ∃ v, cs = lrnCs p.1 p.2 v ∧ okI p.1 ∧ Sl .change w F v p.2.changes ∧ p.2.Ok := by
  obtain ⟨a, b, rfl, ⟨h1, h2⟩, h5⟩ := h
  have h1 : a = [.int .i64 p.1] := h1
  subst h1
  obtain ⟨v, rfl, h6, h7⟩ := req_cells h5
  exact ⟨v, rfl, h2, h6, h7⟩
theorem lrn_mk {w : World} {F : Nat → Prop} {p : Int × Req} {v : Value} (hv : Sl .change w F v p.2.changes) (hk : okI p.1) (h : p.2.Ok) : Rep.lrn.cells w F p (lrnCs p.1 p.2 v) :=
  ⟨_, _, rfl, ⟨rfl, hk⟩, req_mk hv h⟩
abbrev RObj (s : LS) (v : Value) : Obj := .cells #[.int .i64 s.next, .int .i64 s.base, v] 49
def RAt (F : Nat → Prop) (w : World) (g : Nat) (s : LS) : Prop := ∃ v, w.heap[g]? = some (RObj s v) ∧ Sl .lrn w (fun k => F k ∧ k ≠ g) v s.l ∧ F g ∧ ∀ p ∈ s.l, p.2.changes.length ≤ 4294967296
section
variable {F S : Nat → Prop} {w w' : World} {g : Nat} {s : LS}
theorem RAt.keep (h : RAt F w g s) (hk : Keep S w w') (hd : ∀ k, F k → ¬ S k) : RAt F w' g s := by
  obtain ⟨v, h1, h2, h3, h4⟩ := h
  exact ⟨v, hk.heap h1 (hd g h3), h2.keep hk (fun k q => hd k q.1), h3, h4⟩
theorem rnew_calls (next : Int) (hn : 0 ≤ next) :
    Calls Try.prog 23 #[.int .i64 next] w fun e w' => e = .returned (.pointer (some ⟨w.heap.size, 0, none⟩)) ∧ RAt (NewIn w w') w' w.heap.size ⟨next, next, []⟩ ∧ Keep (fun _ => False) w w' := by
  have hmax : max next 0 = next := by omega
  go_enter Try.func23, Try.ntmps23
  go_wp2_with fail
  go_ret
  exact ⟨rfl, ⟨_, heap_alloc_new w _, ⟨none, 0, rfl, Nat.le_refl _, Nat.zero_le _, .inl rfl⟩, ⟨by omega, by simp⟩, by simp⟩, (Keep.refl _ w).alloc _⟩
theorem look_none_of {l : List (Int × Req)} {k : Int} {n : Nat} (hn : n = l.length) (h : ∀ j p, j < n → l[j]? = some p → p.1 ≠ k) : look l k = none := by
  rw [look_none]
  intro p hp
  obtain ⟨j, hj⟩ := List.getElem?_of_mem hp
  exact h j p (by rw [hn]; exact (List.getElem?_eq_some_iff.1 hj).1) hj
theorem look_some_of {l : List (Int × Req)} {k : Int} {j : Nat} {p : Int × Req} (hj : l[j]? = some p) (hp : p.1 = k) (h : ∀ i q, i < j → l[i]? = some q → q.1 ≠ k) : look l k = some p.2 := by
  induction l generalizing j with
  | nil => simp at hj
  | cons q l ih =>
    rw [look_cons]
    cases j with
    | zero => simp only [List.getElem?_cons_zero, Option.some.injEq] at hj; subst hj; rw [if_pos hp]
    | succ j =>
      rw [if_neg (h 0 q (by omega) rfl)]
      exact ih (by simpa using hj) (fun i q' hi hq => h (i + 1) q' (by omega) (by simpa using hq))
set_option maxRecDepth 20000 in
set_option maxHeartbeats 4000000 in
theorem rget_calls (h : RAt F w g s) (k : Int) : Calls Try.prog 30 #[.pointer (some ⟨g, 0, none⟩), .int .i64 k] w (GetPost w s k) := by
  obtain ⟨v, hg, hv, hgF, hch⟩ := h
  have hmax : s.l.length ≤ 9223372036854775807 := by obtain ⟨_, _, _, q1, q2, _⟩ := hv; unfold maxLen at q2; omega
  obtain ⟨A, c, rfl⟩ := hv.shape
  obtain ⟨n, hn⟩ : ∃ n, n = s.l.length := ⟨_, rfl⟩
  rw [← hn] at hg hv hmax
  have HN := hid hn; have HV := hid hv; have HG := hid hg; have HCH := hid hch
  clear hn hv hg hch
  go_enter Try.func30, Try.ntmps30
  go_wp2_with (first
    | (refine wpl_allocB (z := .agg (reqCs reqZ' (.slice none 0 0)).toArray) rfl rfl (by kernel_rfl) ?_; intro g2 w2 hg2 hb2 k2 s2; have HG2 := hid hg2; have K2 := hid k2; clear hg2 k2))
  have c2 := cell_at (K2.out.heap HG.out id) 2 (.slice A n c) rfl
  have HB2 := hid hb2
  clear hb2
  go_loopw [6] (fun i wr => ∃ j : Nat, j ≤ n ∧ i = .int .i64 j ∧ (∀ i p, i < j → s.l[i]? = some p → p.1 ≠ k) ∧ w2 = wr) (fun i _ => n - (intOf i).toNat)
  case atStart => exact ⟨0, Nat.zero_le _, rfl, fun _ _ h => by omega, rfl⟩
  case round =>
    obtain ⟨j, hj, rfl, hall, rfl⟩ := hrel
    have HALL := hid hall
    clear hall
    by_cases hlt : j < n
    · obtain ⟨x, hx⟩ : ∃ x, s.l[j]? = some x := ⟨s.l[j]'(by rw [← HN.out]; exact hlt), by simp [show j < s.l.length by rw [← HN.out]; exact hlt]⟩
      have hvk := HV.out.keep K2.out (fun _ _ => id)
      obtain ⟨A', c', b, off, cs, he, rfl, hcs, hcell⟩ := elem_cells7 hvk HN.out hx
      simp only [Value.slice.injEq, true_and] at he
      obtain ⟨rfl, rfl⟩ := he
      obtain ⟨vc, rfl, hok, hvc, hrok⟩ := lrn_cells hcs
      obtain ⟨Ac, cc, rfl⟩ := hvc.shape
      have hsz : Rep.lrn.size = 12 := rfl
      rw [hsz] at hcell
      have d0 : w2.cell? ⟨b, off + j * 12, none⟩ = some (.int .i64 x.1) := hcell 0 _ rfl
      have hr : w2.rangeAt b (off + j * 12 + 1) (reqCs x.2 (.slice Ac x.2.changes.length cc)) := fun i u hu => by
        have := hcell (i + 1) u (by simpa using hu)
        rwa [← Nat.add_assoc, Nat.add_right_comm] at this
      obtain ⟨dM, hu, hd⟩ : ∃ d, Try.prog.underlying 30 = some d ∧ d.isRow = true := ⟨_, Try.underlying30, rfl⟩
      have hi : (Try.prog.info? 30).map (·.size) = some 11 := by kernel_rfl
      have hcp := copyReq_calls (r := x.2) hvc (by have := HCH.out x (List.mem_of_getElem? hx); omega)
      have HX := hid hx; have HR := hid hr; have HU := hid hu; have HD := hid hd; have HI := hid hi; have HCP := hid hcp
      clear hvk hcs hcell hsz hr hu hd hi hcp hvc hrok hok hx
      by_cases hk : x.1 = k
      · have hb : (x.1 == k) = true := by simp [hk]
        have HK := hid hk
        clear hk
        go_wp2_with (first
          | (refine wpList_load_mid rfl _ _ rfl b (off + j * 12 + 1) rfl (reqCs x.2 (.slice Ac x.2.changes.length cc)) dM HR.out HU.out HD.out HI.out ?_))
        refine HCP.out.mono ?_
        rintro e w3 ⟨A5, c5, rfl, hoc, k3⟩
        have hb3 := k3.heap HB2.out id
        have HOC := hid hoc; have K3 := hid k3
        clear hoc k3
        go_wp2_with (first
          | (refine wpl_storeB (v := .agg (reqCs x.2 (.slice A5 x.2.changes.length c5)).toArray) rfl rfl rfl rfl hb3 HI.out (Nat.le_refl 11) (by simp [Value.oneCell', reqCs, Value.cells]) ?_; intro w4 hb4 k4 s4; have K4 := hid k4; clear k4))
        refine bodyPost_ret (res_cell_tmp (g := g2) (cs := (reqCs x.2 (.slice A5 x.2.changes.length c5)).toArray) Try.results30 _ rfl rfl hb4 (by kernel_rfl) (by kernel_rfl)) rfl ?_
        have hlk := look_some_of HX.out HK.out HALL.out
        have e1 := HG2.out
        have e2 := K2.out.size
        have e3 := K3.out.size
        have e4 := K4.out.size
        refine ⟨_, by rw [hlk]; rfl, ?_, ((K2.out.trans K3.out (fun _ _ h => h)).mono (T := fun q => q = g2) (fun _ _ h => h.elim)).trans K4.out (fun _ _ h => h) |>.mono (fun b hb h => by omega)⟩
        rw [hlk]
        have := HOC.out.1.keep K4.out (fun q hq e => by have := hq.1; have := lt_heap HB2.out; omega)
        exact this.mono (fun q hq => ⟨by have := hq.1; omega, by have := hq.2; omega⟩)
      · have hb : (x.1 == k) = false := by simp [hk]
        have HALL2 := hid (fun i p (hi : i < j + 1) (hp : s.l[i]? = some p) => (show p.1 ≠ k from by
          by_cases h : i < j
          · exact HALL.out i p h hp
          · obtain rfl : i = j := by omega
            rw [HX.out] at hp
            obtain rfl := Option.some.inj hp
            exact hk))
        clear hk
        go_wp2_with fail
        exact ⟨⟨j + 1, by omega, by simp, HALL2.out, trivial⟩, by simp [intOf]; omega⟩
    · obtain rfl : j = n := by omega
      have hb2 := HB2.out
      go_wp2_with (first
        | (refine wpl_storeB (v := .agg (reqCs reqZ' (.slice none 0 0)).toArray) rfl rfl rfl rfl hb2 (by kernel_rfl) (Nat.le_refl 11) (by simp [Value.oneCell', reqCs, Value.cells]) ?_; intro w4 hb4 k4 s4; have K4 := hid k4; clear k4))
      refine bodyPost_ret (res_cell_tmp (g := g2) (cs := (reqCs reqZ' (.slice none 0 0)).toArray) Try.results30 _ rfl rfl hb4 (by kernel_rfl) (by kernel_rfl)) rfl ?_
      have hlk := look_none_of HN.out HALL.out
      have e1 := HG2.out
      refine ⟨.slice none 0 0, by rw [hlk]; rfl, by rw [hlk]; exact ⟨none, 0, rfl, Nat.le_refl _, Nat.zero_le _, .inl rfl⟩, ((K2.out.mono (T := fun q => q = g2) (fun _ _ h => h.elim)).trans K4.out (fun _ _ h => h)).mono (fun b hb h => by omega)⟩
end
end Go.Proofs.Ytiomeoihekifeaa
