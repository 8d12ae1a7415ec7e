/- epoch.epochs: its iterator; List. -/
import Derived.Test.YtbkgobdpgokbaaaEpCh2
import Derived.Test.YtbkgobdpgokbaaaRangeM
import Derived.Test.YtbkgobdpgokbaaaAppIn
import Derived.Shelf.Abstract
import Derived.OwnWalkIn
import Derived.TacticsInMore
import Derived.LoopNIn
import Derived.LoopIn
namespace Go.Proofs.Ytbkgobdpgokbaaa
open Go.RowKit Go.Shelf
attribute [local go_sem] Oper.semAt_some
/-- The block of the slice that the box lb holds. -/
def rowblk (lb : Nat) (W : World) (k : Nat) : Prop := ∃ n c, W.cell? ⟨lb, 0, none⟩ = some (.slice (some ⟨k, 0, none⟩) n c)
/-- A round writes its box, the row that the box holds, and new blocks. -/
def KpB (lb l : Nat) (W W' : World) : Prop := Keep (fun k => k = lb ∨ k = l ∨ rowblk lb W k) W W' ∧ ∀ k, rowblk lb W' k → rowblk lb W k ∨ W.heap.size ≤ k
theorem KpB.refl (lb l : Nat) (W : World) : KpB lb l W W := ⟨Keep.refl _ _, fun _ h => .inl h⟩
theorem KpB.trans {lb l : Nat} {A B C : World} (h1 : KpB lb l A B) (h2 : KpB lb l B C) : KpB lb l A C := by
  refine ⟨h1.1.trans h2.1 (fun b hb h => ?_), fun k hk => ?_⟩
  · rcases h with h | h | h
    · exact .inl h
    · exact .inr (.inl h)
    · rcases h1.2 b h with q | q
      · exact .inr (.inr q)
      · omega
  · rcases h2.2 k hk with q | q
    · exact h1.2 k q
    · right; have := h1.1.size; omega
theorem rowblk_same {lb : Nat} {A B : World} (h : B.heap[lb]? = A.heap[lb]?) (k : Nat) (hk : rowblk lb B k) : rowblk lb A k := by
  obtain ⟨n, c, hc⟩ := hk
  exact ⟨n, c, by rw [← hc]; exact (World.cell?_of_block h).symm⟩
theorem KpB.ofF {lb l : Nat} {A B : World} (h : Keep (fun _ => False) A B) (hlb : lb < A.heap.size) : KpB lb l A B :=
  ⟨h.mono (fun _ _ f => f.elim), fun k hk => .inl (rowblk_same (h.block lb hlb id) k hk)⟩
theorem KpB.put {lb l : Nat} {A : World} (o' : Obj) (hlb : lb ≠ l) : KpB lb l A (A.putObj l o') := by
  have hg := grownBy_putObj' A l o'
  exact ⟨⟨hg.os, hg.tape, hg.output, hg.size, fun k hk hn => hg.block k hk (fun e => hn (.inr (.inl (Option.some.inj e))))⟩, fun k hk => .inl (rowblk_same (World.putObj_heap_other hlb) k hk)⟩
def isC (W : World) (b : Nat) : Prop := ∃ c e fz, W.heap[b]? = some (.cells c e fz)
theorem isC.lt {W : World} {b : Nat} (h : isC W b) : b < W.heap.size := by obtain ⟨c, e, fz, h⟩ := h; exact lt_heap h
theorem isC.same {W W' : World} {b : Nat} (h : isC W b) (hs : W'.heap[b]? = W.heap[b]?) : isC W' b := by obtain ⟨c, e, fz, h⟩ := h; exact ⟨c, e, fz, hs.trans h⟩
theorem isC_cell {W : World} {a : Addr} {v : Value} (_ha : a.spot = none) (h : W.cell? a = some v) : isC W a.block := by
  cases hq : W.heap[a.block]? with
  | none => simp [World.cell?, hq] at h
  | some o =>
    cases o with
    | cells c e fz => exact ⟨c, e, fz, hq⟩
    | _ => simp [World.cell?, hq] at h
/-- Memory that a round leaves alone. -/
def MemB (B lb : Nat) (W : World) (b : Nat) : Prop := B ≤ b ∧ b ≠ lb ∧ ¬ rowblk lb W b ∧ isC W b
theorem Row.inC {F : Nat → Prop} {w : World} {v : Value} {n size : Nat} {cs : List Value} (h : Row F w v n size cs) (h0 : 0 < n) (hs : 0 < size) : Row (fun b => F b ∧ isC w b) w v n size cs := by
  obtain ⟨A, c, rfl, hl, hn, hc, h | ⟨b, off, rfl, hF, hb, hcell⟩⟩ := h
  · omega
  · refine ⟨_, c, rfl, hl, hn, hc, .inr ⟨b, off, rfl, ⟨hF, ?_⟩, hb, hcell⟩⟩
    have hpos : 0 < cs.length := by rw [hl]; exact Nat.mul_pos h0 hs
    obtain ⟨u, hu⟩ : ∃ u, cs[0]? = some u := ⟨cs[0], by simp [hpos]⟩
    exact isC_cell rfl (hcell 0 u hu)
/-- What a round is told of an epoch that it is handed. -/
def EpT (B lb : Nat) (L : List Ep) (pre : List Ep) (x : Ep) (v : Array Value) (W : World) : Prop :=
  ∃ vm, v = #[.agg #[.int .i64 x.1, vm]] ∧ L[pre.length]? = some x ∧ Row (MemB B lb W) W vm x.2.length 1 (x.2.map I64) ∧ okI x.1 ∧ ∀ y ∈ x.2, okI y
set_option maxRecDepth 100000 in
set_option maxHeartbeats 2000000 in
theorem epochs1_seq {F : Nat → Prop} {w : World} {g bx lb n B : Nat} {al : Int} {L : List Ep} (h : EpAt F w g al L) (hF : ∀ k, F k → k < w.heap.size) (hl : L.length ≤ 100000) (hbx : w.cell? ⟨bx, 0, none⟩ = some (.pointer (some ⟨g, 0, none⟩))) (hlb : lb < w.heap.size) (hrb : ∀ k, rowblk lb w k → k < w.heap.size) (hB : B ≤ w.heap.size) :
    SeqMem Fence.wide n Try.prog 51 #[.pointer (some ⟨bx, 0, none⟩)] (KpB lb) (EpT B lb L) (fun xs _ => xs = L) w := fun l J W hW hlW hJ hY h0 => by
  have H := hid (h.keepF hW)
  have h0F : ∀ k, F k → k < W.heap.size := fun k hk => by have := hF k hk; have := hW.size; omega
  have hb1 := hW.cell hbx id
  have hmade := emade_calls H.out
  have hok := h.ok
  have hpos : ∀ x ∈ L, 0 < x.2.length := fun x hx => (hok.2.2.2 x hx).1.1
  obtain ⟨v, hg, hs⟩ := H.out.val
  have hown := ownE hs (fun k hk => h0F k hk) (fun x hx => ⟨(hok.2.2.2 x hx).1.1, by have := (hok.2.2.2 x hx).1.2.1; omega⟩) (by omega)
  obtain ⟨A, c, rfl⟩ := hs.shape
  have c1 := cell_at hg 1 (.slice A L.length c) rfl
  refine callsIn_of_wp Try.func51 rfl trivial ?_ rfl
  simp only [Try.ntmps51, List.size_toArray, List.length_cons, List.length_nil, Nat.reduceAdd, Nat.reduceSub, Array.replicate_succ, Array.replicate_zero, List.push_toArray, List.append_toArray, List.nil_append, List.cons_append]
  gi_wp2_with fail
  refine ⟨trivial, (fun h => by cases h), (callsIn_wide.2 hmade).mono ?_⟩
  rintro e w' ⟨rfl, rfl⟩
  gi_wp2_with fail
  refine ⟨trivial, (fun h => by cases h), (callsIn_wide.2 hown).mono ?_⟩
  rintro e w2 ⟨v2, rfl, ho2, k2⟩
  obtain ⟨A2, c2, rfl⟩ := ho2.sl.shape
  have HO2 := hid ho2; have HK2 := hid k2; have HJ := hid hJ; have HY := hid hY
  have hj2 : J [] w2 := hJ [] W w2 none h0 ⟨k2.os, k2.tape, k2.output, k2.size, fun k hk _ => k2.block k hk id⟩ (fun r e => by cases e)
  obtain ⟨n0, hn0⟩ : ∃ n0, n0 = L.length := ⟨_, rfl⟩
  rw [← hn0] at hl HO2 ⊢
  have HN := hid hn0
  clear hown hmade hs hg c1 hok ho2 k2 hJ hY h0 hn0 hb1
  gi_wp2_with fail
  have hWs := hW.size
  have hcl : ∀ W', Keep (fun _ => False) w W' → ∀ k, rowblk lb W' k → rowblk lb w k := fun W' hk k ⟨n, c, hc⟩ => ⟨n, c, by rw [← hc]; exact (World.cell?_of_block (w := w) (w' := W') (hk.block lb hlb id)).symm⟩
  have hno : ∀ b, W.heap.size ≤ b → ¬ (b = lb ∨ b = l ∨ rowblk lb w2 b) := fun b hb h => by
    rcases h with h | h | h
    · omega
    · omega
    · have := hrb b (hcl w2 (hW.trans HK2.out (fun _ _ h => h)) b h); omega
  have HNO := hid hno
  have hls2 : lb < w2.heap.size := by have := HK2.out.size; omega
  clear hno hcl hrb
  gi_loopw [14] (fun i wr => ∃ k : Nat, k ≤ n0 ∧ i = .int .i64 k ∧ J (L.take k) wr ∧ KpB lb l w2 wr) (fun i _ => n0 - (intOf i).toNat)
  case atStart => exact ⟨0, Nat.zero_le _, rfl, hj2, KpB.refl _ _ _⟩
  case round =>
    obtain ⟨k, hk, rfl, hj, hkp⟩ := hrel
    by_cases hlt : k < n0
    · obtain ⟨x, hx⟩ : ∃ x, L[k]? = some x := ⟨L[k]'(by rw [← HN.out]; exact hlt), by simp [show k < L.length by rw [← HN.out]; exact hlt]⟩
      have hsl := HO2.out.sl
      obtain ⟨b, off, vm, rfl, hbW, d0, d1, d2, q3, q4⟩ := hsl.elem hx
      have d0 := hkp.1.cell d0 (HNO.out b hbW)
      have d1 := hkp.1.cell d1 (HNO.out b hbW)
      have d3 := d2.keep hkp.1 (fun q hq => HNO.out q hq.1)
      obtain ⟨Am, cm, rfl⟩ := d2.shape
      have hws := hkp.1.size
      have hj' : J (L.take k) (wr.alloc (.cells #[.int .i64 x.1, .slice Am x.2.length cm] 42)) := HJ.out _ wr _ none hj (World.grownBy_alloc wr _ none) (fun r e => by cases e)
      have hlk : (L.take k).length = k := by rw [List.length_take, ← HN.out]; omega
      have kal : Keep (fun _ => False) wr (wr.alloc (.cells #[.int .i64 x.1, .slice Am x.2.length cm] 42)) := (Keep.refl _ wr).alloc _
      have hT : EpT B lb L (L.take k) x #[.agg #[.int .i64 x.1, .slice Am x.2.length cm]] (wr.alloc (.cells #[.int .i64 x.1, .slice Am x.2.length cm] 42)) := by
        refine ⟨_, rfl, by rw [hlk]; exact hx, ((d3.keep kal (fun _ _ => id)).inC (hpos x (List.mem_of_getElem? hx)) (by omega)).mono (fun q hqq => by
          obtain ⟨hq, hcc⟩ := hqq
          refine ⟨by have := hq.1; omega, by have := hq.1; omega, fun hr => ?_, hcc⟩
          have hr' := rowblk_same (kal.block lb (by omega) id) q hr
          rcases hkp.2 q hr' with z | z
          · exact HNO.out q hq.1 (.inr (.inr z))
          · have := hq.2.1; omega), q3, q4⟩
      obtain ⟨fn, tmps, assign, body, hy, hR⟩ := HY.out _ x _ _ hj' hT
      have HX := hid hx
      have HKP := hid hkp
      have HKA := hid kal
      obtain ⟨y, hyy⟩ : ∃ y, y = x.1 := ⟨_, rfl⟩
      obtain ⟨nm, hnm⟩ : ∃ nm, nm = x.2.length := ⟨_, rfl⟩
      rw [← hyy, ← hnm] at hy HKA hR
      rw [← hyy] at d0
      rw [← hnm] at d1
      clear hx hkp hj hj' hlk hT d2 d3 hsl q3 q4 kal hyy hnm
      gi_wp2
      refine ⟨(fun h => by cases h), hR.mono ?_⟩
      rintro e W3 ⟨rfl, hJ3, hk3⟩
      have HJ3 := hid hJ3; have HK3 := hid hk3
      clear hJ3 hk3
      gi_wp2
      refine ⟨⟨k + 1, by omega, by simp, by rw [take_succ_get HX.out]; exact HJ3.out, HKP.out.trans ((KpB.ofF HKA.out (by omega)).trans HK3.out)⟩, by simp [intOf]; omega⟩
    · obtain rfl : k = n0 := by omega
      have e1 : L.take k = L := List.take_of_length_le (by rw [← HN.out]; exact Nat.le_refl _)
      rw [e1] at hj
      gi_wp2
      go_end0
      exact ⟨⟨_, rfl⟩, L, rfl, hj⟩
set_option maxRecDepth 20000 in
theorem epochsF_calls (w : World) (g : Nat) : Calls Try.prog 40 #[.pointer (some ⟨g, 0, none⟩)] w fun e w' => e = .returned (.func (.func 51) #[] #[.pointer (some ⟨w.heap.size, 0, none⟩)]) ∧ w' = w.alloc (.cells #[.pointer (some ⟨g, 0, none⟩)] 26) := by
  go_enter Try.func40, Try.ntmps40
  go_wp2_with fail
  go_ret
  exact ⟨rfl, rfl⟩
/-- What List has gathered. -/
def GotL (B lb : Nat) (pre : List Ep) (W : World) : Prop :=
  ∃ v, W.heap[lb]? = some (.cells #[v] 33) ∧ EpOwn (fun b => B ≤ b ∧ b ≠ lb) (MemB B lb W) W v pre
theorem MemB.step {S : Nat → Prop} {B lb : Nat} {A A' : World} (hk : Keep S A A') (hlb : ¬ S lb) (hcell : ∀ k, S k → ¬ isC A k) (hlt : lb < A.heap.size) (k : Nat) (h : MemB B lb A k) : MemB B lb A' k :=
  ⟨h.1, h.2.1, fun hr => h.2.2.1 (rowblk_same (hk.block lb hlt hlb) k hr), h.2.2.2.same (hk.block k h.2.2.2.lt (fun s => hcell k s h.2.2.2))⟩
theorem own_isC {w : World} {e : TypeId} {size n : Nat} {v : Value} {xs : List Value} (h : w.ownsRow 0 e size v n xs) (b : Nat) (hb : v.ownBlock = some b) : isC w b := by
  obtain ⟨_, ⟨h1, _⟩ | ⟨g, c, cur, rfl, _, hg, _⟩⟩ := h
  · subst h1; simp [Value.ownBlock] at hb
  · simp only [Value.ownBlock, Option.some.injEq] at hb
    subst hb
    exact ⟨_, _, _, hg⟩
theorem GotL.step {S : Nat → Prop} {B lb : Nat} {pre : List Ep} {A A' : World} (h : GotL B lb pre A) (hk : Keep S A A') (hlb : ¬ S lb) (hcell : ∀ k, S k → ¬ isC A k) : GotL B lb pre A' := by
  obtain ⟨v, h1, cs, q1, q2, q3⟩ := h
  have hlt := lt_heap h1
  refine ⟨v, hk.heap h1 hlb, cs, hk.owns q1 (fun k hk' s => hcell k s (own_isC q1 k hk')), (q2.keep hk (fun k hm s => hcell k s hm.2.2.2)).mono (fun k hm => MemB.step hk hlb hcell hlt k hm), fun b hb => ⟨(q3 b hb).1, fun hm => ?_⟩⟩
  exact hm.2.2.1 (by
    obtain ⟨_, ⟨e1, _⟩ | ⟨g, c, cur, e1, _⟩⟩ := q1
    · rw [e1] at hb; simp [Value.ownBlock] at hb
    · rw [e1] at hb h1
      simp only [Value.ownBlock, Option.some.injEq] at hb
      subst hb
      exact ⟨_, _, cell_at (hk.heap h1 hlb) 0 _ rfl⟩)
theorem EpT.step {S : Nat → Prop} {B lb : Nat} {L pre : List Ep} {x : Ep} {v : Array Value} {A A' : World} (h : EpT B lb L pre x v A) (hk : Keep S A A') (hlb : ¬ S lb) (hcell : ∀ k, S k → ¬ isC A k) (hlt : lb < A.heap.size) : EpT B lb L pre x v A' := by
  obtain ⟨vm, h1, h2, h3, h4⟩ := h
  exact ⟨vm, h1, h2, (h3.keep hk (fun k hm s => hcell k s hm.2.2.2)).mono (fun k hm => MemB.step hk hlb hcell hlt k hm), h4⟩
theorem keepsFrom_of {S : Nat → Prop} {B : Nat} {W W' : World} (hk : Keep S W W') (h : ∀ k, S k → B ≤ k → isC W k) : KeepsFrom B W W' :=
  ⟨hk.size, fun k o hB ho hc => hk.heap ho (fun s => by
    obtain ⟨c, e, fz, hh⟩ := h k s hB
    rw [ho] at hh
    cases hh
    simp [Obj.isCells] at hc)⟩
theorem keep_of_grown {A A' : World} {row : Option Nat} (hg : A.grownBy A' row) : Keep (fun k => some k = row) A A' := ⟨hg.os, hg.tape, hg.output, hg.size, fun k hk hn => hg.block k hk hn⟩
theorem not_isC {A : World} {k : Nat} {o : Obj} (h : A.heap[k]? = some o) (hc : o.isCells = false) : ¬ isC A k := fun ⟨c, e, fz, hh⟩ => by
  rw [h] at hh; cases hh; simp [Obj.isCells] at hc
set_option maxRecDepth 100000 in
set_option maxHeartbeats 2000000 in
theorem list_in {F : Nat → Prop} {w : World} {g : Nat} {al : Int} {L : List Ep} (h : EpAt F w g al L) (hF : ∀ k, F k → k < w.heap.size) (hl : L.length ≤ 100000) :
    Calls Try.prog 15 #[.pointer (some ⟨g, 0, none⟩)] w fun e w' => ∃ v', e = .returned v' ∧ EpOwn (fun b => w.heap.size ≤ b) (fun b => w.heap.size ≤ b ∧ b < w'.heap.size ∧ some b ≠ v'.ownBlock) w' v' L ∧ Keep (fun _ => False) w w' := by
  have H := hid h
  have HF := hid hF
  refine (callsIn_wide (n := 9)).1 ?_
  refine callsIn_of_wp_marks Try.func15 rfl trivial ?_ rfl
  simp only [Try.ntmps15, List.size_toArray, List.length_cons, List.length_nil, Nat.reduceAdd, Nat.reduceSub, Array.replicate_succ, Array.replicate_zero, List.push_toArray, List.append_toArray, List.nil_append, List.cons_append]
  clear h hF
  gi_wp2_with fail
  refine ⟨trivial, (callsIn_wide.2 (epochsF_calls _ g)).mono ?_⟩
  rintro e w' ⟨rfl, rfl⟩
  gi_wp2_with fail
  have kW : Keep (fun _ => False) w ((w.alloc (.cells #[.slice none 0 0] 33)).alloc (.cells #[.pointer (some ⟨g, 0, none⟩)] 26)) := ((Keep.refl _ w).alloc _).alloc _
  have hlb0 : ((w.alloc (.cells #[.slice none 0 0] 33)).alloc (.cells #[.pointer (some ⟨g, 0, none⟩)] 26)).heap[w.heap.size]? = some (.cells #[.slice none 0 0] 33) := heap_alloc (heap_alloc_new w _) _
  have hbx0 : ((w.alloc (.cells #[.slice none 0 0] 33)).alloc (.cells #[.pointer (some ⟨g, 0, none⟩)] 26)).cell? ⟨w.heap.size + 1, 0, none⟩ = some (.pointer (some ⟨g, 0, none⟩)) := by
    simp
  generalize (w.alloc (.cells #[.slice none 0 0] 33)).alloc (.cells #[.pointer (some ⟨g, 0, none⟩)] 26) = W0 at *
  have hl0 := lt_heap hlb0
  have hsl0 := kW.size
  have hrb : ∀ k, rowblk w.heap.size W0 k → k < W0.heap.size := fun k ⟨n, c, hc⟩ => by
    rw [cell_at hlb0 0 (.slice none 0 0) rfl] at hc; simp at hc
  have hFW : ∀ k, F k → k < W0.heap.size := fun k hk => by have := HF.out k hk; omega
  have hseq := epochs1_seq (n := 8) (B := w.heap.size) (H.out.keepF kW) hFW hl hbx0 hl0 hrb hsl0
  refine wp_rangeMem (gf := 51) (lb := #[.pointer (some ⟨w.heap.size + 1, 0, none⟩)]) rfl (by omega) rfl trivial (enters_of Try.func51 (by kernel_rfl) rfl) hseq
    (fun h1 h2 => h1.trans h2) (fun W l o o' hl' ho hc => KpB.put o' (by omega)) (fun p x v W ⟨vm, hv, _⟩ => by rw [hv]; rfl) (fun s A A' row hs hg hr => hs)
    (fun pre W => GotL w.heap.size w.heap.size pre W ∧ Keep (fun k => w.heap.size ≤ k) w W ∧ pre.length ≤ L.length) ?own ?start
    (fun pre x a' W => ∃ d vm, a' = { tmps := #[.pointer (some ⟨g, 0, none⟩), undef, .slice none 0 0, .pointer (some ⟨w.heap.size, 0, none⟩), .pointer (some ⟨d, 0, none⟩), .pointer (some ⟨g, 0, none⟩), .func (.func 51) #[] #[.pointer (some ⟨w.heap.size + 1, 0, none⟩)], .agg #[.int .i64 x.1, vm], undef, undef, undef, undef, undef], defers := [] } ∧ W.heap[d]? = some (.cells #[.int .i64 x.1, vm] 42) ∧ w.heap.size ≤ d ∧ d ≠ w.heap.size ∧ ¬ rowblk w.heap.size W d ∧ EpT w.heap.size w.heap.size L pre x #[.agg #[.int .i64 x.1, vm]] W ∧ GotL w.heap.size w.heap.size pre W ∧ Keep (fun k => w.heap.size ≤ k) w W) ?own2 ?assign ?body ?done
  case own =>
    rintro s A A' row ⟨h1, h2, h3⟩ hg hr
    have hk := keep_of_grown hg
    have hc : ∀ k, some k = row → ¬ isC A k := fun k e => by obtain ⟨_, o, ho, hcc⟩ := hr k e.symm; exact not_isC ho hcc
    exact ⟨h1.step hk (fun e => by have := (hr _ e.symm).1; omega) hc, h2.trans hk (fun b hb e => by have := (hr b e.symm).1; omega), h3⟩
  case start => exact ⟨⟨_, hlb0, [], World.ownsRow_nil _ _ _ _, rfl, fun b hb => by simp [Value.ownBlock] at hb⟩, kW.mono (fun _ _ f => f.elim), Nat.zero_le _⟩
  case own2 =>
    rintro pre x a' s A A' row ⟨d, vm, h1, h2, h3, h4, h5, h6, h7, h8⟩ hg hr
    have hk := keep_of_grown hg
    have hc : ∀ k, some k = row → ¬ isC A k := fun k e => by obtain ⟨_, o, ho, hcc⟩ := hr k e.symm; exact not_isC ho hcc
    have hnl : ¬ some w.heap.size = row := fun e => by have := (hr _ e.symm).1; omega
    have hlA : w.heap.size < A.heap.size := by obtain ⟨v, q, _⟩ := h7; exact lt_heap q
    exact ⟨d, vm, h1, hk.heap h2 (fun e => hc d e ⟨_, _, _, h2⟩), h3, h4, fun hq => h5 (rowblk_same (hk.block _ hlA hnl) d hq), h6.step hk hnl hc hlA, h7.step hk hnl hc, h8.trans hk (fun b hb e => by have := (hr b e.symm).1; omega)⟩
  case assign =>
    rintro l pre x v W K ⟨hgot, hkw, hlen⟩ ht hK
    have ht0 := ht
    obtain ⟨vm, rfl, hx, hrow, ho1, ho2⟩ := ht
    obtain ⟨Am, cm, rfl⟩ := hrow.shape
    have hlA : w.heap.size < W.heap.size := by obtain ⟨v, q, _⟩ := hgot; exact lt_heap q
    have kal : Keep (fun _ => False) W (W.alloc (.cells #[.int .i64 x.1, .slice Am x.2.length cm] 42)) := (Keep.refl _ W).alloc _
    have HKK := hid (hK _ _ (keepsFrom_of kal (fun _ f => f.elim)) (KpB.ofF kal hlA) ⟨W.heap.size, .slice Am x.2.length cm, rfl, heap_alloc_new W _, by omega, by omega, fun hq => by
      have := rowblk_same (kal.block _ hlA id) _ hq
      obtain ⟨v, q1, cs, q2, _⟩ := hgot
      obtain ⟨n, c, hc⟩ := this
      rw [cell_at q1 0 v rfl] at hc
      have hv : v = .slice (some ⟨W.heap.size, 0, none⟩) n c := by simpa using hc
      have := own_lt' q2 W.heap.size (by rw [hv]; rfl)
      omega, ht0.step kal id (fun _ f => f.elim) hlA, hgot.step kal id (fun _ f => f.elim), hkw.alloc _⟩)
    clear hK ht0 hgot hkw hrow
    gi_wp2
    exact HKK.out
  case body =>
    rintro l pre x a' W hl' hr ⟨d, vm, rfl, hd, hdB, hdl, hdr, ht, hgot, hkw⟩
    obtain ⟨v, hlb, cs, ho, hrw, hblk⟩ := hgot
    obtain ⟨vm', hv', hx, hrow, o1, o2⟩ := ht
    have hvm : vm = vm' := by simpa using hv'
    subst hvm
    have hlen : pre.length < L.length := (List.getElem?_eq_some_iff.1 hx).1
    have hrb0 : ∀ b, v.ownBlock = some b → rowblk w.heap.size W b := fun b hb => by
      obtain ⟨_, ⟨e1, _⟩ | ⟨g, c, cur, e1, _⟩⟩ := ho
      · rw [e1] at hb; simp [Value.ownBlock] at hb
      · rw [e1] at hb hlb
        simp only [Value.ownBlock, Option.some.injEq] at hb
        subst hb
        exact ⟨_, _, cell_at hlb 0 _ rfl⟩
    obtain ⟨A0, c0, rfl⟩ := own_slice ho
    obtain ⟨Am, cm, rfl⟩ := hrow.shape
    have cl := cell_at hlb 0 (.slice A0 pre.length c0) rfl
    have cd0 := cell_at hd 0 (.int .i64 x.1) rfl
    have cd1 := cell_at hd 1 (.slice Am x.2.length cm) rfl
    have HO := hid ho; have HRW := hid hrw; have HBLK := hid hblk; have HX := hid hx; have HROW := hid hrow; have HO1 := hid o1; have HO2 := hid o2; have HKW := hid hkw; have HLB := hid hlb; have HRB := hid hrb0
    clear hv' ho hrw hblk hx hrow o1 o2 hkw hd hdr hr hlb hrb0 hseq kW hlb0 hbx0 hrb hFW
    gi_wp2_with (gi_at_builtin; refine stopHere ?_)
    refine goOn (wplIn_app (v := .slice A0 pre.length c0) rfl rfl SLE rfl (ownsAlloc HO.out _) rfl (row_one2 W _ _ _) (by simp [Value.oneCell']) (by omega) (by omega) ?_)
    intro A c w6 ho6 hk6 hn6
    have kal : Keep (fun _ => False) W (W.alloc (.cells #[.int .i64 x.1, .slice Am x.2.length cm] 42)) := (Keep.refl _ W).alloc _
    have hnl : ¬ some w.heap.size = (Value.slice A0 pre.length c0).ownBlock := fun e => (HBLK.out _ e.symm).1.2 rfl
    have h6 := hk6.heap (kal.heap HLB.out id) hnl
    have cl6 := cell_at h6 0 (.slice A0 pre.length c0) rfl
    have fl6 := free_at h6 0
    have HO6 := hid ho6; have HK6 := hid hk6; have HN6 := hid hn6; have H6 := hid h6
    clear ho6 hk6 hn6 h6 cl
    gi_wp2
    have hlW := lt_heap HLB.out
    have hkA : Keep (fun k => k = w.heap.size ∨ some k = (Value.slice A0 pre.length c0).ownBlock) W (w6.setCell ⟨w.heap.size, 0, none⟩ (.slice A (pre.length + 1) c)) :=
      ((kal.mono (fun _ _ f => f.elim)).trans HK6.out (fun b hb e => .inr e)).setCell _ _ (fun _ => .inl rfl)
    have hnew : (w6.setCell ⟨w.heap.size, 0, none⟩ (.slice A (pre.length + 1) c)).heap[w.heap.size]? = some (.cells #[.slice A (pre.length + 1) c] 33) := by rw [heap_set H6.out 0]; rfl
    have hown6 : ∀ b, (Value.slice A (pre.length + 1) c).ownBlock = some b → (Value.slice A0 pre.length c0).ownBlock = some b ∨ W.heap.size ≤ b := fun b hb => (HN6.out b hb).imp id (fun q => by simp at q; omega)
    have hrb6 : ∀ b, rowblk w.heap.size (w6.setCell ⟨w.heap.size, 0, none⟩ (.slice A (pre.length + 1) c)) b → rowblk w.heap.size W b ∨ W.heap.size ≤ b := fun b ⟨n', c', hc'⟩ => by
      rw [cell_at hnew 0 (.slice A (pre.length + 1) c) rfl] at hc'
      have : (Value.slice A (pre.length + 1) c).ownBlock = some b := by
        simp only [Option.some.injEq, Value.slice.injEq] at hc'
        rw [hc'.1]; rfl
      exact (hown6 b this).imp (HRB.out b) id
    have hmem : ∀ k, MemB w.heap.size w.heap.size W k → ¬ (k = w.heap.size ∨ some k = (Value.slice A0 pre.length c0).ownBlock) := fun k hm e => e.elim (fun e => hm.2.1 e) (fun e => hm.2.2.1 (HRB.out k e.symm))
    have hmem2 : ∀ k, MemB w.heap.size w.heap.size W k → MemB w.heap.size w.heap.size (w6.setCell ⟨w.heap.size, 0, none⟩ (.slice A (pre.length + 1) c)) k := fun k hm =>
      ⟨hm.1, hm.2.1, fun hq => (hrb6 k hq).elim hm.2.2.1 (fun q => by have := hm.2.2.2.lt; omega), hm.2.2.2.same (hkA.block k hm.2.2.2.lt (hmem k hm))⟩
    refine ⟨keepsFrom_of hkA (fun k hk _ => hk.elim (fun e => by rw [e]; exact ⟨_, _, _, HLB.out⟩) (fun e => own_isC HO.out k e.symm)), ⟨hkA.mono (fun k _ e => e.elim .inl (fun e => .inr (.inr (HRB.out k e.symm)))), hrb6⟩, ⟨⟨_, hnew, cs ++ [.int .i64 x.1, .slice Am x.2.length cm], ?_, ?_, ?_⟩, ?_, by simp; omega⟩⟩
    · have := ((Keep.refl (fun k => k = w.heap.size) w6).setCell ⟨w.heap.size, 0, none⟩ (.slice A (pre.length + 1) c) (fun _ => rfl)).owns HO6.out (fun k hk e => (hown6 k hk).elim (fun q => (HBLK.out k q).1.2 e) (fun q => by omega))
      simpa using this
    · exact ((HRW.out.keep hkA hmem).mono hmem2).app (EpRow.one ((HROW.out.keep hkA hmem).mono hmem2) HO1.out HO2.out)
    · intro b hb
      have hr : rowblk w.heap.size (w6.setCell ⟨w.heap.size, 0, none⟩ (.slice A (pre.length + 1) c)) b := by
        obtain ⟨_, ⟨e1, _⟩ | ⟨g, c', cur, e1, _⟩⟩ := HO6.out
        · rw [e1] at hb; simp [Value.ownBlock] at hb
        · rw [e1] at hb
          simp only [Value.ownBlock, Option.some.injEq] at hb
          subst hb
          simp only [Value.slice.injEq] at e1
          exact ⟨pre.length + 1, c, by rw [cell_at hnew 0 (.slice A (pre.length + 1) c) rfl, e1.1]⟩
      exact ⟨(hown6 b hb).elim (fun q => (HBLK.out b q).1) (fun q => ⟨by omega, by omega⟩), fun hm => hm.2.2.1 hr⟩
    · exact HKW.out.trans hkA (fun b hb e => e.elim (fun e => by omega) (fun e => (HBLK.out b e.symm).1.1))
  case done =>
    rintro D xs W hD rfl ⟨⟨v, hlb, cs, ho, hrw, hblk⟩, hkw, _⟩ hK
    have hrb0 : ∀ b, v.ownBlock = some b → rowblk w.heap.size W b := fun b hb => by
      obtain ⟨_, ⟨e1, _⟩ | ⟨g, c, cur, e1, _⟩⟩ := ho
      · rw [e1] at hb; simp [Value.ownBlock] at hb
      · rw [e1] at hb hlb
        simp only [Value.ownBlock, Option.some.injEq] at hb
        subst hb
        exact ⟨_, _, cell_at hlb 0 _ rfl⟩
    obtain ⟨A0, c0, rfl⟩ := own_slice ho
    have cl := cell_at hlb 0 (.slice A0 xs.length c0) rfl
    have HO := hid ho; have HRW := hid hrw; have HBLK := hid hblk; have HKW := hid hkw; have HRB := hid hrb0
    clear ho hrw hblk hkw hrb0 hseq kW hlb0 hbx0 hrb hFW hlb
    gi_wp2
    refine ⟨by simp, .inl ⟨_, _, rfl, run_takeDeferred hK, ?_⟩⟩
    have hkp := keep_of_grown (grownBy_putObj' W D (.deferred none))
    have hnc := not_isC hK rfl
    refine ⟨.slice A0 xs.length c0, by simp [results, Try.results15, go_sem], .slice A0 xs.length c0, rfl, ⟨cs, hkp.owns HO.out (fun k hk e => hnc (by rw [← Option.some.inj e]; exact own_isC HO.out k hk)), (HRW.out.keep hkp (fun k hm e => hnc (by rw [← Option.some.inj e]; exact hm.2.2.2))).mono (fun k hm => ⟨hm.1, Nat.lt_of_lt_of_le hm.2.2.2.lt hkp.size, fun e => hm.2.2.1 (HRB.out k e.symm)⟩), fun b hb => ⟨(HBLK.out b hb).1.1, fun q => q.2.2 hb.symm⟩⟩, (HKW.out.trans hkp (S := fun k => w.heap.size ≤ k) (fun b hb e => by have := Option.some.inj e; omega)).mono (fun k hk e => by omega)⟩
end Go.Proofs.Ytbkgobdpgokbaaa
