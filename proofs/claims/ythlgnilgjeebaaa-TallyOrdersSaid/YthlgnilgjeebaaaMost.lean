/- epoch.Most: how many of the members are among some. -/
import Derived.Test.YthlgnilgjeebaaaApp
import Derived.Test.YthlgnilgjeebaaaShelf
import Derived.Lib.RowBridge
import Derived.Test.YthlgnilgjeebaaaProg
namespace Go.Proofs.Ythlgnilgjeebaaa
open Go.RowKit
abbrev I64 (n : Int) : Value := .int .i64 n
abbrev leI : Int → Int → Bool := fun x y => decide (x ≤ y)
def quoN (M : List Int) : Nat := M.length / 2 + 1
/-- The members, in order, each once. -/
def setM (M : List Int) : List Int := Go.Lib.compact (M.mergeSort leI)
def cntM (M I : List Int) : Nat := (setM M).countP (fun x => I.contains x)
def mostB (M I : List Int) : Bool := decide (quoN M ≤ cntM M I)
theorem keep_putRow (w : World) (b off n : Nat) (d : Array Int) : Keep (fun k => k = b) w (Go.Sort.putRow I64 (Go.Sort.ahead w n) b off d) :=
  ⟨rfl, rfl, rfl, by simp [Go.Sort.putRow, Go.Sort.mapBlock, Go.Sort.ahead], fun i _ hi => by
    simp only [Go.Sort.putRow, Go.Sort.mapBlock, Go.Sort.ahead, Array.getElem?_modify]
    rw [if_neg (fun e => hi e.symm)]⟩
theorem keep_grow (w : World) (os : Array Obj) : Keep (fun _ => False) w (Go.Sort.grow w os) :=
  ⟨rfl, rfl, rfl, by simp [Go.Sort.grow], fun i hi _ => Go.Sort.heap_grow_old w os hi⟩
theorem Row.int' {F : Nat → Prop} {w : World} {v : Value} {l : List Int} (h : Row F w v l.length 1 (l.map I64)) :
    ∃ A c, v = .slice A l.length c ∧ (0 < l.length → ∃ b off, A = some ⟨b, off, none⟩ ∧ F b ∧ ∀ j, j < l.length → w.cell? ⟨b, off + j, none⟩ = some (.int .i64 (l.getD j 0))) := by
  obtain ⟨A, c, rfl, hl, hn, hc, rfl | ⟨b, off, rfl, hF, hb, hcell⟩⟩ := h
  · exact ⟨_, _, rfl, fun h => by omega⟩
  · exact ⟨_, _, rfl, fun _ => ⟨b, off, rfl, hF, fun j hj => hcell j _ (by simp [hj])⟩⟩
theorem compact_le (zs : List Int) : (Go.Lib.compact zs).length ≤ zs.length := Go.Lib.compact_length_le zs
section
variable {F : Nat → Prop} {w w' : World} {v vm vi : Value} {l M I : List Int}
theorem contains_calls (h : Row F w v l.length 1 (l.map I64)) (x : Int) : Calls Try.prog 68 #[v, .int .i64 x] w fun e w' => e = .returned (.bool (l.contains x)) ∧ w = w' := by
  have hmax : l.length ≤ 9223372036854775807 := by obtain ⟨_, _, _, _, h1, h2, _⟩ := h; unfold maxLen at h2; omega
  obtain ⟨A, c, rfl, hcell⟩ := h.int'
  rcases Nat.eq_zero_or_pos l.length with h0 | h0
  · rw [h0]
    obtain rfl := List.eq_nil_of_length_eq_zero h0
    exact (Go.Proofs.Try.slices_Contains_int_empty A c x w).mono fun e w' ⟨he, hw⟩ => ⟨he, hw.symm⟩
  · obtain ⟨b, off, rfl, hF, hc⟩ := hcell h0
    refine (Go.Proofs.Try.slices_Contains_int b off l.length c l x w (Nat.le_refl _) hmax hc).mono fun e w' ⟨he, hw⟩ => ⟨?_, hw.symm⟩
    rw [he, List.take_length]
/-- Clone, Sort, Compact in one: what is left of the members. -/
def ClonePost (w : World) (l : List Int) (e : Ending) (w' : World) : Prop := ∃ g c, e = .returned (.slice (some ⟨g, 0, none⟩) l.length c) ∧ l.length ≤ c ∧ c ≤ maxLen ∧ w.heap.size ≤ g ∧ g < w'.heap.size ∧ Go.Sort.Holds I64 w' g 0 l.toArray ∧ Keep (fun _ => False) w w'
theorem clone_calls (h : Row F w v l.length 1 (l.map I64)) (h0 : 0 < l.length) (hl : l.length ≤ 1000000) : Calls Try.prog 66 #[v] w (ClonePost w l) := by
  obtain ⟨A, c, rfl, hcell⟩ := h.int'
  obtain ⟨b, off, rfl, hF, hc⟩ := hcell h0
  refine (Go.Proofs.Try.slices_Clone_int b off l.length c l w (Nat.le_refl _) (by omega) hc).mono ?_
  rintro e w' ⟨v', rfl, hown, hne, hbel⟩
  rw [List.take_length] at hown
  obtain ⟨hlen, ⟨rfl, h1⟩ | ⟨g, cap, cur, rfl, hg, hb, hn, hcm, hcs, htk⟩⟩ := hown
  · exact absurd rfl hne
  · refine ⟨g, cap, rfl, hn, hcm, hg, lt_heap hb, fun j hj => ?_, ⟨hbel.os, hbel.tape, hbel.output, hbel.size, fun k hk _ => hbel.block k hk⟩⟩
    have hj' : j < l.length := by simpa using hj
    refine ⟨cell_at hb _ _ ?_, by simpa using free_at hb (0 + j)⟩
    have e1 : (cur.toList.take (l.length * 1))[j]? = (l.map I64)[j]? := by rw [htk]
    rw [List.getElem?_take, if_pos (by omega)] at e1
    rw [Nat.zero_add, ← Array.getElem?_toList, e1]
    simp [hj', getElem!_pos]
theorem sort_calls {g c : Nat} (h : Go.Sort.Holds I64 w g 0 l.toArray) (hg : g < w.heap.size) (hl : l.length ≤ 1000000) :
    Calls Try.prog 64 #[.slice (some ⟨g, 0, none⟩) l.length c] w fun e w' => e = .returned (.tuple #[]) ∧ Go.Sort.Holds I64 w' g 0 (l.mergeSort leI).toArray ∧ Keep (fun k => k = g) w w' := by
  refine (Go.Proofs.Try.slices_Sort_int g 0 c l w h hg (by omega)).mono ?_
  rintro e w' ⟨rfl, n, os, rfl⟩
  have hk := keep_putRow w g 0 n (l.mergeSort leI).toArray
  have hh : Go.Sort.Holds I64 (Go.Sort.ahead w n) g 0 l.toArray := h
  have hp := Go.Sort.holds_putRow I64 (Go.Sort.ahead w n) g 0 l.toArray (l.mergeSort leI).toArray hh (by simp)
  have kg := keep_grow (Go.Sort.putRow I64 (Go.Sort.ahead w n) g 0 (l.mergeSort leI).toArray) os
  refine ⟨rfl, fun j hj => ?_, hk.trans kg (fun _ _ f => f.elim)⟩
  obtain ⟨c1, c2⟩ := hp j hj
  refine ⟨kg.cell c1 id, ?_⟩
  rw [← c2]
  exact World.frozen?_of_block (kg.block g (by have := hk.size; omega) id)
theorem compact_calls {g c : Nat} (h : Go.Sort.Holds I64 w g 0 l.toArray) (hg : g < w.heap.size) (hl : l.length ≤ 1000000) (hc : l.length ≤ c) (hcm : c ≤ maxLen) :
    Calls Try.prog 67 #[.slice (some ⟨g, 0, none⟩) l.length c] w fun e w' => ∃ v', e = .returned v' ∧ Row (fun k => k = g) w' v' (Go.Lib.compact l).length 1 ((Go.Lib.compact l).map I64) ∧ Keep (fun k => k = g) w w' := by
  refine (Go.Proofs.Try.slices_Compact_int g 0 c l w h (by omega) hc).mono ?_
  rintro e w' ⟨rfl, n, rfl⟩
  have hk := keep_putRow w g 0 n (Go.Lib.compact l ++ List.replicate (l.length - (Go.Lib.compact l).length) 0).toArray
  have hle := compact_le l
  have hh : Go.Sort.Holds I64 (Go.Sort.ahead w n) g 0 l.toArray := h
  have hp := Go.Sort.holds_putRow I64 (Go.Sort.ahead w n) g 0 l.toArray (Go.Lib.compact l ++ List.replicate (l.length - (Go.Lib.compact l).length) 0).toArray hh (by simp; omega)
  refine ⟨_, rfl, ⟨_, _, rfl, by simp, by omega, hcm, .inr ⟨g, 0, rfl, rfl, Nat.lt_of_lt_of_le hg hk.size, fun j u hu => ?_⟩⟩, hk⟩
  have hj : j < (Go.Lib.compact l).length := by have := (List.getElem?_eq_some_iff.1 hu).1; simpa using this
  have := (hp j (by simp; omega)).1
  rw [this, ← hu]
  simp [hj, List.getElem?_append_left]
set_option maxRecDepth 20000 in
theorem quorum_calls (h : Row F w v l.length 1 (l.map I64)) (hl : l.length ≤ 1000000) : Calls Try.prog 69 #[v] w fun e w' => e = .returned (.int .i64 (quoN l)) ∧ w = w' := by
  obtain ⟨A, c, rfl⟩ := h.shape
  have e1 : wrap64 (wrap64 ((l.length : Int).tdiv 2) + 1) = quoN l := by unfold quoN; rw [Int.tdiv_eq_ediv_of_nonneg (by omega)]; unfold wrap64; omega
  have e2 : wrap64 ((l.length : Int).tdiv 2) = l.length / 2 := by rw [Int.tdiv_eq_ediv_of_nonneg (by omega)]; unfold wrap64; omega
  go_enter Try.func69, Try.ntmps69
  go_wp2_with fail
  go_ret
  refine ⟨congrArg (fun x => Ending.returned (.int .i64 x)) (a₂ := (quoN l : Int)) ?_, rfl⟩
  unfold quoN
  first | rfl | omega | (simp; done) | (rw [e2]; unfold wrap64; omega)
theorem countP_take {α : Type} (p : α → Bool) (l : List α) (k : Nat) (x : α) (h : l[k]? = some x) : (l.take (k + 1)).countP p = (l.take k).countP p + if p x then 1 else 0 := by
  rw [List.take_add_one, h, List.countP_append]
  by_cases hp : p x <;> simp [hp]
set_option maxRecDepth 20000 in
set_option maxHeartbeats 800000 in
theorem most_calls {G : Nat → Prop} (hM : Row F w vm M.length 1 (M.map I64)) (h0 : 0 < M.length) (hl : M.length ≤ 1000000) (hI : Row G w vi I.length 1 (I.map I64)) :
    Calls Try.prog 52 #[vm, vi] w fun e w' => e = .returned (.bool (mostB M I)) ∧ Keep (fun _ => False) w w' := by
  have hclone := clone_calls hM h0 hl
  have hsl : (M.mergeSort leI).length = M.length := List.length_mergeSort M
  have HSL := hid hsl
  have HM := hid hM
  have HI := hid hI
  clear hsl hM hI
  go_enter Try.func52, Try.ntmps52
  go_wp2_with fail
  refine hclone.mono ?_
  rintro e w1 ⟨g, c, rfl, hc, hcm, hg, hgl, hh, hk⟩
  have hsort := sort_calls (c := c) hh hgl hl
  have HH := hid hh
  have HK := hid hk
  have HG := hid hg
  clear hclone hh hk hg
  go_wp2_with fail
  refine hsort.mono ?_
  rintro e w2 ⟨rfl, hh2, hk2⟩
  have hgl2 : g < w2.heap.size := Nat.lt_of_lt_of_le hgl hk2.size
  have hcomp := compact_calls (c := c) hh2 hgl2 (by rw [HSL.out]; exact hl) (by rw [HSL.out]; exact hc) hcm
  rw [HSL.out] at hcomp
  have HK2 := hid hk2
  clear hsort hh2 hk2
  go_wp2_with fail
  refine hcomp.mono ?_
  rintro e w3 ⟨v3, rfl, hr, hk3⟩
  have hkk : Keep (fun _ => False) w w3 := (HK.out.trans (HK2.out.trans hk3 (fun _ _ h => h)) (fun b hb e => by subst e; exact absurd hb (by have := HG.out; omega)))
  obtain ⟨C, hC⟩ : ∃ C, C = Go.Lib.compact (M.mergeSort leI) := ⟨_, rfl⟩
  rw [← hC] at hr
  have hcl : C.length ≤ 1000000 := by rw [hC]; have := compact_le (M.mergeSort leI); have := HSL.out; omega
  have HC := hid hC
  have HKK := hid hkk
  have hcon := fun x => contains_calls (HI.out.keep hkk (fun _ _ => id)) x
  have hquo := quorum_calls (HM.out.keep hkk (fun _ _ => id)) hl
  clear hcomp hk3 hC hkk
  obtain ⟨A3, c3, rfl, hcell⟩ := hr.int'
  obtain ⟨len, hlen⟩ : ∃ len, len = C.length := ⟨_, rfl⟩
  rw [← hlen] at hcell hcl ⊢
  have HL := hid hlen
  have HCell := hid hcell
  clear hcell hlen hr
  go_wp2_with fail
  go_loop [6, 16] (fun n i => ∃ k : Nat, k ≤ len ∧ i = .int .i64 k ∧ n = .int .i64 ((C.take k).countP (fun x => I.contains x) : Nat)) (fun n i => len - (intOf i).toNat)
  case atStart => exact ⟨0, Nat.zero_le _, rfl, by simp⟩
  case round =>
    obtain ⟨k, hk, rfl, rfl⟩ := hrel
    by_cases hlt : k < len
    · obtain ⟨b, off, rfl, hbg, hcc⟩ := HCell.out (by omega)
      obtain rfl : b = g := hbg
      have hcell := hcc k hlt
      clear hcc
      have hcnt : (C.take k).countP (fun x => I.contains x) ≤ 1000000 := by
        have q1 := List.countP_le_length (p := fun x => I.contains x) (l := C.take k)
        have q2 := List.length_take_le k C
        omega
      have hxx : C[k]? = some (C.getD k 0) := by have := HL.out; simp [show k < C.length by omega]
      have hnx := countP_take (fun x => I.contains x) C k _ hxx
      have HNX := hid hnx
      clear hnx hxx
      obtain ⟨cnt, hct⟩ : ∃ cnt, cnt = (C.take k).countP (fun x => I.contains x) := ⟨_, rfl⟩
      rw [← hct] at hcnt ⊢
      have HCT := hid hct
      obtain ⟨x, hx⟩ : ∃ x, x = C.getD k 0 := ⟨_, rfl⟩
      rw [← hx] at hcell
      have HX := hid hx
      clear hct hx
      have hconx := hcon x
      cases hb : I.contains x
      · rw [hb] at hconx
        have HB := hid hb
        clear hb hcon hquo
        go_wp2_with fail
        refine hconx.mono ?_
        rintro e w' ⟨rfl, rfl⟩
        go_wp2_with fail
        refine ⟨⟨k + 1, by omega, by simp, ?_⟩, by simp [intOf]; omega⟩
        have := HNX.out
        rw [← HX.out, HB.out, ← HCT.out] at this
        simp only [this]; rfl
      · rw [hb] at hconx
        have HB := hid hb
        clear hb hcon hquo
        go_wp2_with fail
        refine hconx.mono ?_
        rintro e w' ⟨rfl, rfl⟩
        go_wp2_with fail
        refine ⟨⟨k + 1, by omega, by simp, ?_⟩, by simp [intOf]; omega⟩
        have := HNX.out
        rw [← HX.out, HB.out, ← HCT.out] at this
        simp only [this]; simp
    · obtain rfl : k = len := by omega
      have hcc : (C.take k).countP (fun x => I.contains x) = cntM M I := by
        rw [HL.out, List.take_length, HC.out]; rfl
      clear hcon
      go_wp2_with fail
      refine hquo.mono ?_
      rintro e w' ⟨rfl, rfl⟩
      go_wp2_with fail
      refine bodyPost_ret (v := .bool (decide (((quoN M : Nat) : Int) ≤ (((C.take k).countP (fun x => I.contains x) : Nat) : Int)))) (by simp [results, Try.results52, go_sem]) rfl ?_
      refine ⟨?_, HKK.out⟩
      rw [hcc]
      simp [mostB]
end
end Go.Proofs.Ythlgnilgjeebaaa
