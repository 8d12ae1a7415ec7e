/- The ledger: Known. -/
import Derived.Test.YtiomeoihekifeaaSlots
namespace Go.Proofs.Ytiomeoihekifeaa
open Go.RowKit Go.Shelf
attribute [local go_sem] Oper.semAt_some
theorem SLI : SlT Try.prog 22 3 (.int .i64 0) 1 8 := SlT.mk' Try.underlying22 (by kernel_rfl) rfl (by decide)
/-- What Known has gathered. -/
def GotI (B lb : Nat) (pre : List Int) (W : World) : Prop :=
  ∃ v, W.heap[lb]? = some (.cells #[v] 22) ∧ W.ownsRow 0 3 1 v pre.length (pre.map Go.encZ) ∧ ∀ b, v.ownBlock = some b → B ≤ b ∧ b ≠ lb
theorem GotI.step {S : Nat → Prop} {B lb : Nat} {pre : List Int} {A A' : World} (h : GotI B lb pre A) (hk : Keep S A A') (hlb : ¬ S lb) (hcell : ∀ k, S k → ¬ isC A k) : GotI B lb pre A' := by
  obtain ⟨v, h1, q1, q3⟩ := h
  exact ⟨v, hk.heap h1 hlb, hk.owns q1 (fun k hk' s => hcell k s (own_isC q1 k hk')), q3⟩
theorem own_rowblk {W : World} {lb n : Nat} {v : Value} {xs : List Value} {t : TypeId} (hlb : W.heap[lb]? = some (.cells #[v] t)) (ho : W.ownsRow 0 3 1 v n xs) (b : Nat) (hb : v.ownBlock = some b) : rowblk lb W b := by
  obtain ⟨_, ⟨e1, _⟩ | ⟨g, c, cur, e1, _⟩⟩ := ho
  · rw [e1] at hb; simp [Value.ownBlock] at hb
  · rw [e1] at hb hlb
    simp only [Value.ownBlock, Option.some.injEq] at hb
    subst hb
    exact ⟨_, _, cell_at hlb 0 _ rfl⟩
set_option maxRecDepth 100000 in
set_option maxHeartbeats 2000000 in
theorem known_calls {F : Nat → Prop} {w : World} {g : Nat} {s : LS} (h : LedAt F w g s) (hl : s.l.length ≤ 100000) :
    Calls Try.prog 21 #[.pointer (some ⟨g, 0, none⟩)] w fun e w' => ∃ v, e = .returned v ∧ Row (fun b => w.heap.size ≤ b ∧ b < w'.heap.size) w' v (keysS s.l).length 1 ((keysS s.l).map Go.encZ) ∧ Keep (fun _ => False) w w' := by
  have H := hid h
  have hr := ready_calls h
  generalize hL : keysS s.l = L
  have HL := hid hL
  clear hL
  refine (callsIn_wide (n := 9)).1 ?_
  refine callsIn_of_wp_marks Try.func21 rfl trivial ?_ rfl
  simp only [Try.ntmps21, List.size_toArray, List.length_cons, List.length_nil, Nat.reduceAdd, Nat.reduceSub, Array.replicate_succ, Array.replicate_zero, List.push_toArray, List.append_toArray, List.nil_append, List.cons_append]
  clear h
  gi_wp2_with fail
  refine ⟨trivial, (callsIn_wide.2 hr).mono ?_⟩
  rintro e w' ⟨rfl, rfl⟩
  clear hr
  gi_wp2_with fail
  refine ⟨trivial, (callsIn_wide.2 (slotsF_calls _ g)).mono ?_⟩
  rintro e w' ⟨rfl, rfl⟩
  gi_wp2_with fail
  have kW : Keep (fun _ => False) w ((w.alloc (.cells #[.slice none 0 0] 22)).alloc (.cells #[.pointer (some ⟨g, 0, none⟩)] 24)) := ((Keep.refl _ w).alloc _).alloc _
  have hlb0 : ((w.alloc (.cells #[.slice none 0 0] 22)).alloc (.cells #[.pointer (some ⟨g, 0, none⟩)] 24)).heap[w.heap.size]? = some (.cells #[.slice none 0 0] 22) := heap_alloc (heap_alloc_new w _) _
  have hbx0 : ((w.alloc (.cells #[.slice none 0 0] 22)).alloc (.cells #[.pointer (some ⟨g, 0, none⟩)] 24)).cell? ⟨w.heap.size + 1, 0, none⟩ = some (.pointer (some ⟨g, 0, none⟩)) := by
    simp
  generalize (w.alloc (.cells #[.slice none 0 0] 22)).alloc (.cells #[.pointer (some ⟨g, 0, none⟩)] 24) = W0 at *
  have hl0 := lt_heap hlb0
  have hsl0 := kW.size
  have hrb : ∀ k, rowblk w.heap.size W0 k → k < W0.heap.size := fun k ⟨n, c, hc⟩ => by
    rw [cell_at hlb0 0 (.slice none 0 0) rfl] at hc; simp at hc
  have hseq := slots_seq (n := 8) (H.out.keep kW (fun _ _ => id)) hl hbx0 hl0 hrb
  have hlen : L.length ≤ 100000 := by rw [← HL.out, keysS_length]; exact hl
  rw [HL.out] at hseq
  refine wp_rangeMem (gf := 68) (lb := #[.pointer (some ⟨w.heap.size + 1, 0, none⟩)]) rfl (by omega) rfl trivial (enters_of Try.func68 (by kernel_rfl) rfl) hseq
    (fun h1 h2 => h1.trans h2) (fun W l o o' hl' ho hc => KpB.put o' (by omega)) (fun p x v W ⟨hv, _⟩ => by rw [hv]; rfl) (fun s A A' row hs hg hr => hs)
    (fun pre W => GotI w.heap.size w.heap.size pre W ∧ Keep (fun k => w.heap.size ≤ k) w W ∧ pre.length ≤ L.length) ?own ?start
    (fun pre x a' W => a' = { tmps := #[.pointer (some ⟨g, 0, none⟩), undef, .slice none 0 0, .pointer (some ⟨w.heap.size, 0, none⟩), .int .i64 x, .pointer (some ⟨g, 0, none⟩), .bool true, .bool false, .pointer (some ⟨g, 0, none⟩), .func (.func 68) #[] #[.pointer (some ⟨w.heap.size + 1, 0, none⟩)], .int .i64 x, undef, undef, undef, undef, undef], defers := [] } ∧ L[pre.length]? = some x ∧ GotI w.heap.size w.heap.size pre W ∧ Keep (fun k => w.heap.size ≤ k) w W) ?own2 ?assign ?body ?done
  case own =>
    rintro s A A' row ⟨h1, h2, h3⟩ hg hr
    have hk := keep_of_grown hg
    have hc : ∀ k, some k = row → ¬ isC A k := fun k e => by obtain ⟨_, o, ho, hcc⟩ := hr k e.symm; exact not_isC ho hcc
    exact ⟨h1.step hk (fun e => by have := (hr _ e.symm).1; omega) hc, h2.trans hk (fun b hb e => by have := (hr b e.symm).1; omega), h3⟩
  case start => exact ⟨⟨_, hlb0, World.ownsRow_nil _ _ _ _, fun b hb => by simp [Value.ownBlock] at hb⟩, kW.mono (fun _ _ f => f.elim), Nat.zero_le _⟩
  case own2 =>
    rintro pre x a' s A A' row ⟨h1, h2, h7, h8⟩ hg hr
    have hk := keep_of_grown hg
    have hc : ∀ k, some k = row → ¬ isC A k := fun k e => by obtain ⟨_, o, ho, hcc⟩ := hr k e.symm; exact not_isC ho hcc
    exact ⟨h1, h2, h7.step hk (fun e => by have := (hr _ e.symm).1; omega) hc, h8.trans hk (fun b hb e => by have := (hr b e.symm).1; omega)⟩
  case assign =>
    rintro l pre x v W K ⟨hgot, hkw, hle⟩ ⟨rfl, hx⟩ hK
    have hlA : w.heap.size < W.heap.size := by obtain ⟨v, q, _⟩ := hgot; exact lt_heap q
    have HKK := hid (hK _ _ (keepsFrom_of (Keep.refl (fun _ => False) W) (fun _ f => f.elim)) (KpB.ofF (Keep.refl _ W) hlA) ⟨rfl, hx, hgot, hkw⟩)
    clear hK hgot hkw
    gi_wp2
    exact HKK.out
  case body =>
    rintro l pre x a' W hl' hr ⟨rfl, hx, hgot, hkw⟩
    obtain ⟨v, hlb, ho, hblk⟩ := hgot
    have hlt : pre.length < L.length := (List.getElem?_eq_some_iff.1 hx).1
    have hrb0 := own_rowblk hlb ho
    obtain ⟨A0, c0, rfl⟩ := own_slice ho
    have cl := cell_at hlb 0 (.slice A0 pre.length c0) rfl
    have HO := hid ho; have HBLK := hid hblk; have HKW := hid hkw; have HLB := hid hlb; have HRB := hid hrb0
    clear ho hblk hkw hr hlb hrb0 hseq kW hlb0 hbx0 hrb
    gi_wp2_with (gi_at_builtin; refine stopHere ?_)
    refine goOn (wplIn_app (v := .slice A0 pre.length c0) rfl rfl SLI rfl (ownsAlloc HO.out _) rfl (Row.one W _ _) (by simp [Value.oneCell']) (by omega) (by omega) ?_)
    intro A c w6 ho6 hk6 hn6
    have kal : Keep (fun _ => False) W (W.alloc (.cells #[.int .i64 x] 3)) := (Keep.refl _ W).alloc _
    have hnl : ¬ some w.heap.size = (Value.slice A0 pre.length c0).ownBlock := fun e => (HBLK.out _ e.symm).2 rfl
    have h6 := hk6.heap (kal.heap HLB.out id) hnl
    have cl6 := cell_at h6 0 (.slice A0 pre.length c0) rfl
    have fl6 := free_at h6 0
    have HO6 := hid ho6; have HK6 := hid hk6; have HN6 := hid hn6; have H6 := hid h6
    clear ho6 hk6 hn6 h6 cl
    gi_wp2
    have hlW := lt_heap HLB.out
    have hkA : Keep (fun k => k = w.heap.size ∨ some k = (Value.slice A0 pre.length c0).ownBlock) W (w6.setCell ⟨w.heap.size, 0, none⟩ (.slice A (pre.length + 1) c)) :=
      ((kal.mono (fun _ _ f => f.elim)).trans HK6.out (fun b hb e => .inr e)).setCell _ _ (fun _ => .inl rfl)
    have hnew : (w6.setCell ⟨w.heap.size, 0, none⟩ (.slice A (pre.length + 1) c)).heap[w.heap.size]? = some (.cells #[.slice A (pre.length + 1) c] 22) := by rw [heap_set H6.out 0]; rfl
    have hown6 : ∀ b, (Value.slice A (pre.length + 1) c).ownBlock = some b → (Value.slice A0 pre.length c0).ownBlock = some b ∨ W.heap.size ≤ b := fun b hb => (HN6.out b hb).imp id (fun q => by simp at q; omega)
    have hrb6 : ∀ b, rowblk w.heap.size (w6.setCell ⟨w.heap.size, 0, none⟩ (.slice A (pre.length + 1) c)) b → rowblk w.heap.size W b ∨ W.heap.size ≤ b := fun b ⟨n', c', hc'⟩ => by
      rw [cell_at hnew 0 (.slice A (pre.length + 1) c) rfl] at hc'
      have : (Value.slice A (pre.length + 1) c).ownBlock = some b := by
        simp only [Option.some.injEq, Value.slice.injEq] at hc'
        rw [hc'.1]; rfl
      exact (hown6 b this).imp (HRB.out b) id
    refine ⟨keepsFrom_of hkA (fun k hk _ => hk.elim (fun e => by rw [e]; exact ⟨_, _, _, HLB.out⟩) (fun e => own_isC HO.out k e.symm)), ⟨hkA.mono (fun k _ e => e.elim .inl (fun e => .inr (.inr (HRB.out k e.symm)))), hrb6⟩, ⟨⟨_, hnew, ?_, ?_⟩, ?_, by simp; omega⟩⟩
    · have := ((Keep.refl (fun k => k = w.heap.size) w6).setCell ⟨w.heap.size, 0, none⟩ (.slice A (pre.length + 1) c) (fun _ => rfl)).owns HO6.out (fun k hk e => (hown6 k hk).elim (fun q => (HBLK.out k q).2 e) (fun q => by omega))
      simpa using this
    · intro b hb
      exact (hown6 b hb).elim (fun q => HBLK.out b q) (fun q => ⟨by omega, by omega⟩)
    · exact HKW.out.trans hkA (fun b hb e => e.elim (fun e => by omega) (fun e => (HBLK.out b e.symm).1))
  case done =>
    rintro D xs W hD rfl ⟨⟨v, hlb, ho, hblk⟩, hkw, _⟩ hK
    obtain ⟨A0, c0, rfl⟩ := own_slice ho
    have cl := cell_at hlb 0 (.slice A0 xs.length c0) rfl
    have HO := hid ho; have HBLK := hid hblk; have HKW := hid hkw
    clear ho hblk hkw hseq kW hlb0 hbx0 hrb hlb
    gi_wp2
    refine ⟨by simp, .inl ⟨_, _, rfl, run_takeDeferred hK, ?_⟩⟩
    have hkp := keep_of_grown (grownBy_putObj' W D (.deferred none))
    have hnc := not_isC hK rfl
    have hown := hkp.owns HO.out (fun k hk e => hnc (by rw [← Option.some.inj e]; exact own_isC HO.out k hk))
    refine ⟨.slice A0 xs.length c0, by simp [results, Try.results21, go_sem], .slice A0 xs.length c0, rfl, (Row.ofOwn hown).mono (fun b hb => ⟨(HBLK.out b hb.symm).1, (own_isC hown b hb.symm).lt⟩), (HKW.out.trans hkp (S := fun k => w.heap.size ≤ k) (fun b hb e => by have := Option.some.inj e; omega)).mono (fun k hk e => by omega)⟩
end Go.Proofs.Ytiomeoihekifeaa
