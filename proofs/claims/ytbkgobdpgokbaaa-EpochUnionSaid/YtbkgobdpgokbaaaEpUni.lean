/- epoch.Union. -/
import Derived.Test.YtbkgobdpgokbaaaEpIter
import Derived.Test.YtbkgobdpgokbaaaEpRef
import Derived.Test.YtbkgobdpgokbaaaMostZ
namespace Go.Proofs.Ytbkgobdpgokbaaa
open Go.RowKit Go.Shelf
attribute [local go_sem] Oper.semAt_some
def unL (L : List Ep) : List Int := L.flatMap (·.2)
theorem unL_app (L : List Ep) (x : Ep) : unL (L ++ [x]) = unL L ++ x.2 := by simp [unL]
/-- What Union has gathered. -/
def GotU (B lb : Nat) (pre : List Ep) (W : World) : Prop :=
  ∃ v, W.heap[lb]? = some (.cells #[v] 22) ∧ W.ownsRow 0 3 1 v (unL pre).length ((unL pre).map I64) ∧ ∀ b, v.ownBlock = some b → B ≤ b ∧ b ≠ lb
theorem GotU.step {S : Nat → Prop} {B lb : Nat} {pre : List Ep} {A A' : World} (h : GotU B lb pre A) (hk : Keep S A A') (hlb : ¬ S lb) (hcell : ∀ k, S k → ¬ isC A k) : GotU B lb pre A' := by
  obtain ⟨v, h1, q1, q3⟩ := h
  exact ⟨v, hk.heap h1 hlb, hk.owns q1 (fun k hk' s => hcell k s (own_isC q1 k hk')), q3⟩
theorem holds_own {w : World} {g c : Nat} {l : List Int} (h : w.ownsRow 0 3 1 (.slice (some ⟨g, 0, none⟩) l.length c) l.length (l.map I64)) : Go.Sort.Holds I64 w g 0 l.toArray ∧ l.length ≤ c ∧ c ≤ maxLen := by
  obtain ⟨hlen, ⟨h0, h1⟩ | ⟨g', cap, cur, he, hg, hb, hn, hcm, hcs, htk⟩⟩ := h
  · cases h0
  · simp only [Value.slice.injEq, Option.some.injEq, Addr.mk.injEq, and_true, true_and] at he
    obtain ⟨rfl, rfl⟩ := he
    refine ⟨fun j hj => ?_, hn, hcm⟩
    have hj' : j < l.length := by simpa using hj
    refine ⟨cell_at hb _ _ ?_, by simpa using free_at hb (0 + j)⟩
    have e1 : (cur.toList.take (l.length * 1))[j]? = (l.map I64)[j]? := by rw [htk]
    rw [List.getElem?_take, if_pos (by omega)] at e1
    rw [Nat.zero_add, ← Array.getElem?_toList, e1]
    simp [hj', getElem!_pos]
set_option maxRecDepth 100000 in
set_option maxHeartbeats 2000000 in
theorem union_in {F : Nat → Prop} {w : World} {g : Nat} {al : Int} {L : List Ep} (h : EpAt F w g al L) (hF : ∀ k, F k → k < w.heap.size) (hl : L.length ≤ 50000) :
    Calls Try.prog 28 #[.pointer (some ⟨g, 0, none⟩)] w fun e w' => ∃ A c, e = .returned (.slice A (setM (unL L)).length c) ∧ Row (fun k => w.heap.size ≤ k ∧ k < w'.heap.size) w' (.slice A (setM (unL L)).length c) (setM (unL L)).length 1 ((setM (unL L)).map I64) ∧ Keep (fun _ => False) w w' := by
  have H := hid h
  have HF := hid hF
  refine (callsIn_wide (n := 9)).1 ?_
  refine callsIn_of_wp_marks Try.func28 rfl trivial ?_ rfl
  simp only [Try.ntmps28, List.size_toArray, List.length_cons, List.length_nil, Nat.reduceAdd, Nat.reduceSub, Array.replicate_succ, Array.replicate_zero, List.push_toArray, List.append_toArray, List.nil_append, List.cons_append]
  clear h hF
  gi_wp2_with fail
  refine ⟨trivial, (callsIn_wide.2 (epochsF_calls _ g)).mono ?_⟩
  rintro e w' ⟨rfl, rfl⟩
  gi_wp2_with fail
  have kW : Keep (fun _ => False) w ((w.alloc (.cells #[.slice none 0 0] 22)).alloc (.cells #[.pointer (some ⟨g, 0, none⟩)] 26)) := ((Keep.refl _ w).alloc _).alloc _
  have hlb0 : ((w.alloc (.cells #[.slice none 0 0] 22)).alloc (.cells #[.pointer (some ⟨g, 0, none⟩)] 26)).heap[w.heap.size]? = some (.cells #[.slice none 0 0] 22) := heap_alloc (heap_alloc_new w _) _
  have hbx0 : ((w.alloc (.cells #[.slice none 0 0] 22)).alloc (.cells #[.pointer (some ⟨g, 0, none⟩)] 26)).cell? ⟨w.heap.size + 1, 0, none⟩ = some (.pointer (some ⟨g, 0, none⟩)) := by
    simp
  generalize (w.alloc (.cells #[.slice none 0 0] 22)).alloc (.cells #[.pointer (some ⟨g, 0, none⟩)] 26) = W0 at *
  have hl0 := lt_heap hlb0
  have hsl0 := kW.size
  have hrb : ∀ k, rowblk w.heap.size W0 k → k < W0.heap.size := fun k ⟨n, c, hc⟩ => by
    rw [cell_at hlb0 0 (.slice none 0 0) rfl] at hc; simp at hc
  have hFW : ∀ k, F k → k < W0.heap.size := fun k hk => by have := HF.out k hk; omega
  have hseq := epochs1_seq (n := 8) (B := w.heap.size) (H.out.keepF kW) hFW (by omega) hbx0 hl0 hrb hsl0
  refine wp_rangeMem (gf := 51) (lb := #[.pointer (some ⟨w.heap.size + 1, 0, none⟩)]) rfl (by omega) rfl trivial (enters_of Try.func51 (by kernel_rfl) rfl) hseq
    (fun h1 h2 => h1.trans h2) (fun W l o o' hl' ho hc => KpB.put o' (by omega)) (fun p x v W ⟨vm, hv, _⟩ => by rw [hv]; rfl) (fun s A A' row hs hg hr => hs)
    (fun pre W => GotU w.heap.size w.heap.size pre W ∧ Keep (fun k => w.heap.size ≤ k) w W ∧ pre.length ≤ L.length ∧ (unL pre).length ≤ 15 * pre.length) ?own ?start
    (fun pre x a' W => ∃ d vm, a' = { tmps := #[.pointer (some ⟨g, 0, none⟩), undef, .slice none 0 0, .pointer (some ⟨w.heap.size, 0, none⟩), .pointer (some ⟨d, 0, none⟩), .pointer (some ⟨g, 0, none⟩), .func (.func 51) #[] #[.pointer (some ⟨w.heap.size + 1, 0, none⟩)], .agg #[.int .i64 x.1, vm], undef, undef, undef, undef, undef, undef, undef, undef], defers := [] } ∧ W.heap[d]? = some (.cells #[.int .i64 x.1, vm] 42) ∧ w.heap.size ≤ d ∧ d ≠ w.heap.size ∧ ¬ rowblk w.heap.size W d ∧ EpT w.heap.size w.heap.size L pre x #[.agg #[.int .i64 x.1, vm]] W ∧ GotU w.heap.size w.heap.size pre W ∧ Keep (fun k => w.heap.size ≤ k) w W ∧ (unL pre).length ≤ 15 * pre.length) ?own2 ?assign ?body ?done
  case own =>
    rintro s A A' row ⟨h1, h2, h3⟩ hg hr
    have hk := keep_of_grown hg
    have hc : ∀ k, some k = row → ¬ isC A k := fun k e => by obtain ⟨_, o, ho, hcc⟩ := hr k e.symm; exact not_isC ho hcc
    exact ⟨h1.step hk (fun e => by have := (hr _ e.symm).1; omega) hc, h2.trans hk (fun b hb e => by have := (hr b e.symm).1; omega), h3⟩
  case start => exact ⟨⟨_, hlb0, World.ownsRow_nil _ _ _ _, fun b hb => by simp [Value.ownBlock] at hb⟩, kW.mono (fun _ _ f => f.elim), Nat.zero_le _, Nat.zero_le _⟩
  case own2 =>
    rintro pre x a' s A A' row ⟨d, vm, h1, h2, h3, h4, h5, h6, h7, h8, h9⟩ hg hr
    have hk := keep_of_grown hg
    have hc : ∀ k, some k = row → ¬ isC A k := fun k e => by obtain ⟨_, o, ho, hcc⟩ := hr k e.symm; exact not_isC ho hcc
    have hnl : ¬ some w.heap.size = row := fun e => by have := (hr _ e.symm).1; omega
    have hlA : w.heap.size < A.heap.size := by obtain ⟨v, q, _⟩ := h7; exact lt_heap q
    exact ⟨d, vm, h1, hk.heap h2 (fun e => hc d e ⟨_, _, _, h2⟩), h3, h4, fun hq => h5 (rowblk_same (hk.block _ hlA hnl) d hq), h6.step hk hnl hc hlA, h7.step hk hnl hc, h8.trans hk (fun b hb e => by have := (hr b e.symm).1; omega), h9⟩
  case assign =>
    rintro l pre x v W K ⟨hgot, hkw, hlen, hlen2⟩ ht hK
    have ht0 := ht
    obtain ⟨vm, rfl, hx, hrow, ho1, ho2⟩ := ht
    obtain ⟨Am, cm, rfl⟩ := hrow.shape
    have hlA : w.heap.size < W.heap.size := by obtain ⟨v, q, _⟩ := hgot; exact lt_heap q
    have kal : Keep (fun _ => False) W (W.alloc (.cells #[.int .i64 x.1, .slice Am x.2.length cm] 42)) := (Keep.refl _ W).alloc _
    have HKK := hid (hK _ _ (keepsFrom_of kal (fun _ f => f.elim)) (KpB.ofF kal hlA) ⟨W.heap.size, .slice Am x.2.length cm, rfl, heap_alloc_new W _, by omega, by omega, fun hq => by
      have := rowblk_same (kal.block _ hlA id) _ hq
      obtain ⟨v, q1, q2, _⟩ := hgot
      obtain ⟨n, c, hc⟩ := this
      rw [cell_at q1 0 v rfl] at hc
      have hv : v = .slice (some ⟨W.heap.size, 0, none⟩) n c := by simpa using hc
      have := own_lt' q2 W.heap.size (by rw [hv]; rfl)
      omega, ht0.step kal id (fun _ f => f.elim) hlA, hgot.step kal id (fun _ f => f.elim), hkw.alloc _, hlen2⟩)
    clear hK ht0 hgot hkw hrow
    gi_wp2
    exact HKK.out
  case body =>
    rintro l pre x a' W hl' hr ⟨d, vm, rfl, hd, hdB, hdl, hdr, ht, hgot, hkw, hpl⟩
    obtain ⟨v, hlb, ho, hblk⟩ := hgot
    obtain ⟨vm', hv', hx, hrow, o1, o2⟩ := ht
    have hvm : vm = vm' := by simpa using hv'
    subst hvm
    have hlen : pre.length < L.length := (List.getElem?_eq_some_iff.1 hx).1
    have hx15 : x.2.length ≤ 15 := (H.out.ok.2.2.2 x (List.mem_of_getElem? hx)).1.2.1
    have hrb0 : ∀ b, v.ownBlock = some b → rowblk w.heap.size W b := fun b hb => by
      obtain ⟨_, ⟨e1, _⟩ | ⟨g, c, cur, e1, _⟩⟩ := ho
      · rw [e1] at hb; simp [Value.ownBlock] at hb
      · rw [e1] at hb hlb
        simp only [Value.ownBlock, Option.some.injEq] at hb
        subst hb
        exact ⟨_, _, cell_at hlb 0 _ rfl⟩
    obtain ⟨A0, c0, rfl⟩ := own_slice ho
    obtain ⟨Am, cm, rfl⟩ := hrow.shape
    obtain ⟨N, hN⟩ : ∃ N, N = (unL pre).length := ⟨_, rfl⟩
    rw [← hN] at ho hlb hblk hpl hrb0
    have cl := cell_at hlb 0 (.slice A0 N c0) rfl
    have cd1 := cell_at hd 1 (.slice Am x.2.length cm) rfl
    have HO := hid ho; have HBLK := hid hblk; have HX := hid hx; have HROW := hid hrow; have HKW := hid hkw; have HLB := hid hlb; have HRB := hid hrb0; have HNN := hid hN
    clear hv' ho hblk hx hrow o1 o2 hkw hd hdr hr hlb hrb0 hseq kW hlb0 hbx0 hrb hFW hN
    gi_wp2_with (gi_at_builtin; refine stopHere ?_)
    refine goOn (wplIn_app (v := .slice A0 N c0) (m := x.2.length) rfl rfl SLI7 rfl HO.out rfl HROW.out (ints_one _) (by omega) (by omega) ?_)
    intro A c w6 ho6 hk6 hn6
    have hnl : ¬ some w.heap.size = (Value.slice A0 N c0).ownBlock := fun e => (HBLK.out _ e.symm).2 rfl
    have h6 := hk6.heap HLB.out hnl
    have cl6 := cell_at h6 0 (.slice A0 N c0) rfl
    have fl6 := free_at h6 0
    have HO6 := hid ho6; have HK6 := hid hk6; have HN6 := hid hn6; have H6 := hid h6
    clear ho6 hk6 hn6 h6 cl
    gi_wp2
    have hlW := lt_heap HLB.out
    have hkA : Keep (fun k => k = w.heap.size ∨ some k = (Value.slice A0 N c0).ownBlock) W (w6.setCell ⟨w.heap.size, 0, none⟩ (.slice A (N + x.2.length) c)) :=
      (HK6.out.mono (fun _ _ e => .inr e)).setCell _ _ (fun _ => .inl rfl)
    have hnew : (w6.setCell ⟨w.heap.size, 0, none⟩ (.slice A (N + x.2.length) c)).heap[w.heap.size]? = some (.cells #[.slice A (N + x.2.length) c] 22) := by rw [heap_set H6.out 0]; rfl
    have hrb6 : ∀ b, rowblk w.heap.size (w6.setCell ⟨w.heap.size, 0, none⟩ (.slice A (N + x.2.length) c)) b → rowblk w.heap.size W b ∨ W.heap.size ≤ b := fun b ⟨n', c', hc'⟩ => by
      rw [cell_at hnew 0 (.slice A (N + x.2.length) c) rfl] at hc'
      have : (Value.slice A (N + x.2.length) c).ownBlock = some b := by
        simp only [Option.some.injEq, Value.slice.injEq] at hc'
        rw [hc'.1]; rfl
      exact (HN6.out b this).imp (HRB.out b) id
    have hul : (unL (pre ++ [x])).length = N + x.2.length := by rw [unL_app, List.length_append, ← HNN.out]
    refine ⟨keepsFrom_of hkA (fun k hk _ => hk.elim (fun e => by rw [e]; exact ⟨_, _, _, HLB.out⟩) (fun e => own_isC HO.out k e.symm)), ⟨hkA.mono (fun k _ e => e.elim .inl (fun e => .inr (.inr (HRB.out k e.symm)))), hrb6⟩, ⟨⟨_, hnew, ?_, ?_⟩, ?_, by simp; omega, by rw [hul]; simp; omega⟩⟩
    · have := ((Keep.refl (fun k => k = w.heap.size) w6).setCell ⟨w.heap.size, 0, none⟩ (.slice A (N + x.2.length) c) (fun _ => rfl)).owns HO6.out (fun k hk e => (HN6.out k hk).elim (fun q => (HBLK.out k q).2 e) (fun q => by omega))
      rw [hul, unL_app, List.map_append]
      exact this
    · intro b hb
      exact (HN6.out b hb).elim (fun q => HBLK.out b q) (fun q => ⟨by omega, by omega⟩)
    · exact HKW.out.trans hkA (fun b hb e => e.elim (fun e => by omega) (fun e => (HBLK.out b e.symm).1))
  case done =>
    rintro D xs W hD rfl ⟨⟨v, hlb, ho, hblk⟩, hkw, _, hul⟩ hK
    have hpos : 0 < (unL xs).length := by
      obtain ⟨x, hx⟩ : ∃ x, x ∈ xs := ⟨lastE xs, List.mem_of_getElem? (lastE_mem H.out.ok.2.2.1)⟩
      have h1 := (H.out.ok.2.2.2 x hx).1.1
      obtain ⟨y, hy⟩ : ∃ y, y ∈ x.2 := ⟨x.2[0], List.getElem_mem _⟩
      exact List.length_pos_of_mem (List.mem_flatMap.2 ⟨x, hx, hy⟩)
    obtain ⟨gv, cv, rfl⟩ : ∃ g cap, v = .slice (some ⟨g, 0, none⟩) (unL xs).length cap := by
      obtain ⟨_, ⟨h2, h3⟩ | ⟨g, c, cur, he, _⟩⟩ := ho
      · rw [h3] at hpos; simp at hpos
      · exact ⟨g, c, he⟩
    obtain ⟨hh, hc1, hc2⟩ := holds_own ho
    have hgl := own_lt' ho gv rfl
    have hgb := hblk gv rfl
    have hsort := sort_calls (c := cv) hh hgl (by omega)
    have cl := cell_at hlb 0 (.slice (some ⟨gv, 0, none⟩) (unL xs).length cv) rfl
    have HKW := hid hkw; have HHK := hid hK; have HLB := hid hlb; have HO := hid ho
    clear hh ho hblk hkw hseq kW hlb0 hbx0 hrb hFW hlb
    gi_wp2_with fail
    refine ⟨trivial, (callsIn_wide.2 hsort).mono ?_⟩
    rintro e w2 ⟨rfl, hh2, k2⟩
    have hsl : ((unL xs).mergeSort leI).length = (unL xs).length := List.length_mergeSort _
    have hcomp := compact_calls (c := cv) hh2 (Nat.lt_of_lt_of_le hgl k2.size) (by rw [hsl]; omega) (by rw [hsl]; exact hc1) hc2
    rw [hsl] at hcomp
    have hgne : ¬ w.heap.size = gv := fun e => hgb.2 e.symm
    have cl2 := cell_at (k2.heap HLB.out hgne) 0 (.slice (some ⟨gv, 0, none⟩) (unL xs).length cv) rfl
    have HK2 := hid k2
    clear hsort hh2 k2 hsl cl
    gi_wp2_with fail
    refine ⟨trivial, (callsIn_wide.2 hcomp).mono ?_⟩
    rintro e w3 ⟨v3, rfl, hr, k3⟩
    obtain ⟨A3, c3, rfl⟩ := hr.shape
    have hDg : ¬ D = gv := fun e => not_isC HHK.out rfl (by rw [e]; exact own_isC HO.out gv rfl)
    have hK3 := k3.heap (HK2.out.heap HHK.out hDg) hDg
    have K3 := hid (HK2.out.trans k3 (fun _ _ h => h))
    have HR := hid hr
    clear hcomp k3 hr cl2
    gi_wp2
    refine ⟨by simp, .inl ⟨_, _, rfl, run_takeDeferred hK3, ?_⟩⟩
    have hkp := keep_of_grown (grownBy_putObj' w3 D (.deferred none))
    have hs3 := K3.out.size
    refine ⟨.slice A3 _ c3, by simp [results, Try.results28, go_sem]; rfl, A3, c3, rfl, (HR.out.keep hkp (fun k hk e => hDg (by rw [← Option.some.inj e]; exact hk))).mono (fun k hk => ⟨by omega, by have := hkp.size; omega⟩), (HKW.out.trans ((Keep.mono (T := fun k => w.heap.size ≤ k) K3.out (fun k _ e => by omega)).trans hkp (S := fun k => w.heap.size ≤ k) (fun b hb e => by have := Option.some.inj e; omega)) (fun b hb e => by omega)).mono (fun k hk e => by omega)⟩
end Go.Proofs.Ytbkgobdpgokbaaa
