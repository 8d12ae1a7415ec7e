/- The ledger: slots, its iterator. -/
import Derived.Test.YtiomeoihekifeaaSortK
import Derived.Test.YtiomeoihekifeaaKpB
import Derived.Test.YtiomeoihekifeaaLed
namespace Go.Proofs.Ytiomeoihekifeaa
open Go.RowKit Go.Shelf
attribute [local go_sem] Oper.semAt_some
/-- What a round is told of the slot that it is handed. -/
def SlotT (L : List Int) (pre : List Int) (x : Int) (v : Array Value) (_ : World) : Prop := v = #[.int .i64 x] ∧ L[pre.length]? = some x
theorem took_get {α : Type} {L : List α} {k : Nat} {x : α} (h : L[k]? = some x) : L.take k ++ [x] = L.take (k + 1) := by
  rw [List.take_add_one, h]; rfl
theorem slot_elem {w : World} {B e n c k : Nat} {A : Option Addr} {L : List Int} {x : Int} (h : w.ownsRow B e 1 (.slice A n c) n (L.map Go.encZ)) (hk : L[k]? = some x) :
    ∃ b, A = some ⟨b, 0, none⟩ ∧ B ≤ b ∧ b < w.heap.size ∧ w.cell? ⟨b, k, none⟩ = some (.int .i64 x) := by
  obtain ⟨h1, ⟨e1, hz⟩ | ⟨gb, cap, cur, e1, hbase, hgb, r1, r2, r3, r4⟩⟩ := h
  · have hkl := (List.getElem?_eq_some_iff.1 hk).1
    simp at h1
    omega
  · simp only [Value.slice.injEq] at e1
    refine ⟨gb, e1.1, hbase, lt_heap hgb, ?_⟩
    have hkl := (List.getElem?_eq_some_iff.1 hk).1
    simp only [List.length_map, Nat.mul_one] at h1
    have h2 : (cur.toList.take (n * 1))[k]? = (L.map Go.encZ)[k]? := by rw [r4]
    rw [List.getElem?_take_of_lt (by omega), Array.getElem?_toList, List.getElem?_map, hk] at h2
    exact cell_at hgb k _ h2
theorem slotsF_calls (w : World) (g : Nat) : Calls Try.prog 51 #[.pointer (some ⟨g, 0, none⟩)] w fun e w' => e = .returned (.func (.func 68) #[] #[.pointer (some ⟨w.heap.size, 0, none⟩)]) ∧ w' = w.alloc (.cells #[.pointer (some ⟨g, 0, none⟩)] 24) := by
  go_enter Try.func51, Try.ntmps51
  go_wp2_with fail
  go_ret
  exact ⟨rfl, rfl⟩
set_option maxRecDepth 100000 in
set_option maxHeartbeats 2000000 in
theorem slots_seq {F : Nat → Prop} {w : World} {g bx lb n : Nat} {s : LS} (h : LedAt F w g s) (hl : s.l.length ≤ 100000) (hbx : w.cell? ⟨bx, 0, none⟩ = some (.pointer (some ⟨g, 0, none⟩))) (hlb : lb < w.heap.size) (hrb : ∀ k, rowblk lb w k → k < w.heap.size) :
    SeqMem Fence.wide n Try.prog 68 #[.pointer (some ⟨bx, 0, none⟩)] (KpB lb) (SlotT (keysS s.l)) (fun xs _ => xs = keysS s.l) w := fun l J W hW hlW hJ hY h0 => by
  have H := hid (h.keep hW (fun _ _ => id))
  have hb1 := hW.cell hbx id
  obtain ⟨m, hg, hm, _⟩ := H.out
  have c3 := cell_at hg 3 (.map (some m)) rfl
  have hkeys := keysF_calls (some m) W
  have kA : Keep (fun _ => False) W (W.alloc (.cells #[.map (some m)] 85)) := (Keep.refl _ W).alloc _
  have hsort := sortedF_calls (Bm := W.heap.size) (hm.keep kA id (ReqE.keep kA (fun _ _ => id))) (by omega) (cell_at (heap_alloc_new W _) 0 _ rfl)
  have hn0 := keysS_length s.l
  generalize keysS s.l = L at *
  generalize s.l.length = n0 at *
  have HN := hid hn0; have HSO := hid hsort; have HKY := hid hkeys; have HJ := hid hJ; have HY := hid hY; have H0 := hid h0
  clear hm hg hsort hkeys hn0 hJ hY h0
  refine callsIn_of_wp Try.func68 rfl trivial ?_ rfl
  simp only [Try.ntmps68, List.size_toArray, List.length_cons, List.length_nil, Nat.reduceAdd, Nat.reduceSub, Array.replicate_succ, Array.replicate_zero, List.push_toArray, List.append_toArray, List.nil_append, List.cons_append]
  gi_wp2_with fail
  refine ⟨trivial, (fun h => by cases h), (callsIn_wide.2 HKY.out).mono ?_⟩
  rintro e w' ⟨rfl, rfl⟩
  gi_wp2_with fail
  refine ⟨trivial, (fun h => by cases h), (callsIn_wide.2 HSO.out).mono ?_⟩
  rintro e w2 ⟨v2, rfl, ho2, hb2⟩
  obtain ⟨A2, c2, rfl⟩ := own_slice ho2
  have k2 : Keep (fun _ => False) W w2 := kA.trans ⟨hb2.os, hb2.tape, hb2.output, hb2.size, fun k hk _ => hb2.block k hk⟩ (fun _ _ f => f)
  have hWs := hW.size
  have hj2 : J [] w2 := HJ.out [] W w2 none H0.out ⟨k2.os, k2.tape, k2.output, k2.size, fun k hk _ => k2.block k hk id⟩ (fun r e => by cases e)
  have hcl : ∀ W', Keep (fun _ => False) w W' → ∀ k, rowblk lb W' k → rowblk lb w k := fun W' hk k ⟨n, c, hc⟩ => ⟨n, c, by rw [← hc]; exact (World.cell?_of_block (w := w) (w' := W') (hk.block lb hlb id)).symm⟩
  have hno : ∀ b, W.heap.size < b → ¬ (b = lb ∨ b = l ∨ rowblk lb w2 b) := fun b hb h => by
    rcases h with h | h | h
    · omega
    · omega
    · have := hrb b (hcl w2 (hW.trans k2 (fun _ _ h => h)) b h); omega
  have HNO := hid hno; have HO2 := hid ho2
  have hls2 : lb < w2.heap.size := by have := k2.size; omega
  clear hno hcl hrb ho2 k2 hb2 kA hb1 c3 h hbx
  gi_wp2_with fail
  gi_loopw [12] (fun i wr => ∃ k : Nat, k ≤ n0 ∧ i = .int .i64 k ∧ J (L.take k) wr ∧ KpB lb l w2 wr) (fun i _ => n0 - (intOf i).toNat)
  case atStart => exact ⟨0, Nat.zero_le _, rfl, hj2, KpB.refl _ _ _⟩
  case round =>
    obtain ⟨k, hk, rfl, hj, hkp⟩ := hrel
    by_cases hlt : k < n0
    · obtain ⟨x, hx⟩ : ∃ x, L[k]? = some x := ⟨L[k]'(by rw [HN.out]; exact hlt), by simp [show k < L.length by rw [HN.out]; exact hlt]⟩
      obtain ⟨b, rfl, hbW, hb2, d0⟩ := slot_elem HO2.out hx
      have d0 := hkp.1.cell d0 (HNO.out b (by simp at hbW; omega))
      have hlk : (L.take k).length = k := by rw [List.length_take, HN.out]; omega
      obtain ⟨fn, tmps, assign, body, hy, hR⟩ := HY.out _ x #[.int .i64 x] _ hj ⟨rfl, by rw [hlk]; exact hx⟩
      have HX := hid hx
      have HKP := hid hkp
      clear hx hkp hj hlk hbW hb2
      gi_wp2
      refine ⟨(fun h => by cases h), hR.mono ?_⟩
      rintro e W3 ⟨rfl, hJ3, hk3⟩
      have HJ3 := hid hJ3; have HK3 := hid hk3
      clear hJ3 hk3
      gi_wp2
      refine ⟨⟨k + 1, by omega, by simp, by rw [← took_get HX.out]; exact HJ3.out, HKP.out.trans HK3.out⟩, by simp [intOf]; omega⟩
    · obtain rfl : k = n0 := by omega
      have e1 : L.take k = L := List.take_of_length_le (by rw [HN.out]; exact Nat.le_refl _)
      rw [e1] at hj
      gi_wp2
      go_end0
      exact ⟨⟨_, rfl⟩, L, rfl, hj⟩
end Go.Proofs.Ytiomeoihekifeaa
