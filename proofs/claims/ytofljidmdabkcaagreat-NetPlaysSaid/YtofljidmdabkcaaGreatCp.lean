/- Copies of slices of votes, of bytes, of commits. box: a message in memory of its own. A slice of structs in memory of its own whose lists are copied one by one. box: a message in memory of its own. A message that is small enough to be copied; net.own. -/
import Derived.Test.YtofljidmdabkcaaGreatMt
import Derived.Deep.RegionWith
import Derived.Deep.RegionHeld3
namespace Go.Proofs.YtofljidmdabkcaaGreat
open Go.RowKit
def reqZ' : Req := ⟨0, ByteArray.empty, 0, 0, 0, ByteArray.empty, [], ByteArray.empty, 0, 0, 0⟩
theorem T_V : SlT Tryz.prog 35 70 (.agg (voteCs ⟨0, 0, reqZ'⟩ (.slice none 0 0)).toArray) 13 144 := SlT.mk' Tryz.underlying35 (by kernel_rfl) rfl (by decide)
set_option maxRecDepth 20000 in
theorem clone_V {F : Nat → Prop} {w : World} {A : Option Addr} {n c : Nat} {cs : List Value} (hv : Row F w (.slice A n c) n 13 cs) (h1c : ∀ u ∈ cs, u.oneCell' = true) (hl : n ≤ 4294967296) :
    Calls Tryz.prog 37 #[.slice A n c] w fun e w' => ∃ A' c', e = .returned (.slice A' n c') ∧ w'.ownsRow 0 70 13 (.slice A' n c') n cs ∧ (∀ k, (Value.slice A' n c').ownBlock = some k → w.heap.size ≤ k) ∧ Keep (fun _ => False) w w' := by
  rcases A with _ | ⟨b, off, p⟩
  · have hnil := fun w => Lib.run_eql_slice_nil (P := Tryz.prog) w 35 70 none n c 0 0 Tryz.underlying35
    have hl0 : n = 0 := by
      obtain ⟨_, _, he, _, h, _, h0 | ⟨b, off, hA, _⟩⟩ := hv
      · simp only [Value.slice.injEq] at he; omega
      · simp only [Value.slice.injEq] at he; rw [← he.1] at hA; cases hA
    subst hl0
    have hcs : cs = [] := by obtain ⟨_, _, _, h, _⟩ := hv; exact List.eq_nil_of_length_eq_zero (by simpa using h)
    subst hcs
    clear hv h1c
    go_enter Tryz.func37, Tryz.ntmps37
    go_wp2_with fail
    refine bodyPost_ret (v := .slice none 0 0) (by simp [results, Tryz.results37, go_sem]) rfl ?_
    exact ⟨none, 0, rfl, World.ownsRow_nil _ 0 _ _, fun k hk => by simp [Value.ownBlock] at hk, Keep.refl _ _⟩
  · have hnil := fun w => Lib.run_eql_slice_nil (P := Tryz.prog) w 35 70 (some ⟨b, off, p⟩) n c 0 0 Tryz.underlying35
    have hown : (w.alloc (.cells #[] 70)).ownsRow 0 70 13 (.slice (some ⟨w.heap.size, 0, none⟩) 0 0) 0 [] := ⟨rfl, .inr ⟨w.heap.size, 0, #[], rfl, Nat.zero_le _, heap_alloc_new w _, Nat.le_refl _, Nat.zero_le _, rfl, rfl⟩⟩
    have hrow' : Row F (w.alloc (.cells #[] 70)) (.slice (some ⟨b, off, p⟩) n c) n 13 cs := hv.keep ((Keep.refl (fun _ => False) w).alloc _) (fun _ _ => id)
    clear hv
    go_enter Tryz.func37, Tryz.ntmps37
    go_wp2_with (at_builtin; refine stopHere ?_)
    refine goOn (wpl_app (v := .slice (some ⟨w.heap.size, 0, none⟩) 0 0) rfl rfl T_V rfl hown rfl hrow' h1c (by omega) (by omega) ?_)
    intro A1 c1 w1 ho1 hk1 hn1
    have hk : Keep (fun _ => False) w w1 := ((Keep.refl (fun _ => False) w).alloc _).trans hk1 (fun q hq e => by simp only [Value.ownBlock, Option.some.injEq] at e; omega)
    rw [Nat.zero_add, List.nil_append] at ho1
    rw [Nat.zero_add] at hn1
    go_wp2_with fail
    refine bodyPost_ret (v := .slice A1 n c1) (by simp [results, Tryz.results37, go_sem]) rfl ?_
    refine ⟨_, _, rfl, ho1, fun k hk => ?_, hk⟩
    rcases hn1 k hk with q | q
    · simp only [Value.ownBlock, Option.some.injEq] at q; omega
    · simp at q; omega

theorem T_B : SlT Tryz.prog 36 5 (.int .u8 0) 1 1 := SlT.mk' Tryz.underlying36 (by kernel_rfl) rfl (by decide)
set_option maxRecDepth 20000 in
theorem clone_B {F : Nat → Prop} {w : World} {A : Option Addr} {n c : Nat} {cs : List Value} (hv : Row F w (.slice A n c) n 1 cs) (h1c : ∀ u ∈ cs, u.oneCell' = true) (hl : n ≤ 4294967296) :
    Calls Tryz.prog 38 #[.slice A n c] w fun e w' => ∃ A' c', e = .returned (.slice A' n c') ∧ w'.ownsRow 0 5 1 (.slice A' n c') n cs ∧ (∀ k, (Value.slice A' n c').ownBlock = some k → w.heap.size ≤ k) ∧ Keep (fun _ => False) w w' := by
  rcases A with _ | ⟨b, off, p⟩
  · have hnil := fun w => Lib.run_eql_slice_nil (P := Tryz.prog) w 36 5 none n c 0 0 Tryz.underlying36
    have hl0 : n = 0 := by
      obtain ⟨_, _, he, _, h, _, h0 | ⟨b, off, hA, _⟩⟩ := hv
      · simp only [Value.slice.injEq] at he; omega
      · simp only [Value.slice.injEq] at he; rw [← he.1] at hA; cases hA
    subst hl0
    have hcs : cs = [] := by obtain ⟨_, _, _, h, _⟩ := hv; exact List.eq_nil_of_length_eq_zero (by simpa using h)
    subst hcs
    clear hv h1c
    go_enter Tryz.func38, Tryz.ntmps38
    go_wp2_with fail
    refine bodyPost_ret (v := .slice none 0 0) (by simp [results, Tryz.results38, go_sem]) rfl ?_
    exact ⟨none, 0, rfl, World.ownsRow_nil _ 0 _ _, fun k hk => by simp [Value.ownBlock] at hk, Keep.refl _ _⟩
  · have hnil := fun w => Lib.run_eql_slice_nil (P := Tryz.prog) w 36 5 (some ⟨b, off, p⟩) n c 0 0 Tryz.underlying36
    have hown : (w.alloc (.cells #[] 5)).ownsRow 0 5 1 (.slice (some ⟨w.heap.size, 0, none⟩) 0 0) 0 [] := ⟨rfl, .inr ⟨w.heap.size, 0, #[], rfl, Nat.zero_le _, heap_alloc_new w _, Nat.le_refl _, Nat.zero_le _, rfl, rfl⟩⟩
    have hrow' : Row F (w.alloc (.cells #[] 5)) (.slice (some ⟨b, off, p⟩) n c) n 1 cs := hv.keep ((Keep.refl (fun _ => False) w).alloc _) (fun _ _ => id)
    clear hv
    go_enter Tryz.func38, Tryz.ntmps38
    go_wp2_with (at_builtin; refine stopHere ?_)
    refine goOn (wpl_app (v := .slice (some ⟨w.heap.size, 0, none⟩) 0 0) rfl rfl T_B rfl hown rfl hrow' h1c (by omega) (by omega) ?_)
    intro A1 c1 w1 ho1 hk1 hn1
    have hk : Keep (fun _ => False) w w1 := ((Keep.refl (fun _ => False) w).alloc _).trans hk1 (fun q hq e => by simp only [Value.ownBlock, Option.some.injEq] at e; omega)
    rw [Nat.zero_add, List.nil_append] at ho1
    rw [Nat.zero_add] at hn1
    go_wp2_with fail
    refine bodyPost_ret (v := .slice A1 n c1) (by simp [results, Tryz.results38, go_sem]) rfl ?_
    refine ⟨_, _, rfl, ho1, fun k hk => ?_, hk⟩
    rcases hn1 k hk with q | q
    · simp only [Value.ownBlock, Option.some.injEq] at q; omega
    · simp at q; omega

theorem T_K : SlT Tryz.prog 38 81 (.agg (commitCs ⟨0, 0, ByteArray.empty, []⟩ (.slice none 0 0)).toArray) 4 56 := SlT.mk' Tryz.underlying38 (by kernel_rfl) rfl (by decide)
set_option maxRecDepth 20000 in
theorem clone_K {F : Nat → Prop} {w : World} {A : Option Addr} {n c : Nat} {cs : List Value} (hv : Row F w (.slice A n c) n 4 cs) (h1c : ∀ u ∈ cs, u.oneCell' = true) (hl : n ≤ 4294967296) :
    Calls Tryz.prog 39 #[.slice A n c] w fun e w' => ∃ A' c', e = .returned (.slice A' n c') ∧ w'.ownsRow 0 81 4 (.slice A' n c') n cs ∧ (∀ k, (Value.slice A' n c').ownBlock = some k → w.heap.size ≤ k) ∧ Keep (fun _ => False) w w' := by
  rcases A with _ | ⟨b, off, p⟩
  · have hnil := fun w => Lib.run_eql_slice_nil (P := Tryz.prog) w 38 81 none n c 0 0 Tryz.underlying38
    have hl0 : n = 0 := by
      obtain ⟨_, _, he, _, h, _, h0 | ⟨b, off, hA, _⟩⟩ := hv
      · simp only [Value.slice.injEq] at he; omega
      · simp only [Value.slice.injEq] at he; rw [← he.1] at hA; cases hA
    subst hl0
    have hcs : cs = [] := by obtain ⟨_, _, _, h, _⟩ := hv; exact List.eq_nil_of_length_eq_zero (by simpa using h)
    subst hcs
    clear hv h1c
    go_enter Tryz.func39, Tryz.ntmps39
    go_wp2_with fail
    refine bodyPost_ret (v := .slice none 0 0) (by simp [results, Tryz.results39, go_sem]) rfl ?_
    exact ⟨none, 0, rfl, World.ownsRow_nil _ 0 _ _, fun k hk => by simp [Value.ownBlock] at hk, Keep.refl _ _⟩
  · have hnil := fun w => Lib.run_eql_slice_nil (P := Tryz.prog) w 38 81 (some ⟨b, off, p⟩) n c 0 0 Tryz.underlying38
    have hown : (w.alloc (.cells #[] 81)).ownsRow 0 81 4 (.slice (some ⟨w.heap.size, 0, none⟩) 0 0) 0 [] := ⟨rfl, .inr ⟨w.heap.size, 0, #[], rfl, Nat.zero_le _, heap_alloc_new w _, Nat.le_refl _, Nat.zero_le _, rfl, rfl⟩⟩
    have hrow' : Row F (w.alloc (.cells #[] 81)) (.slice (some ⟨b, off, p⟩) n c) n 4 cs := hv.keep ((Keep.refl (fun _ => False) w).alloc _) (fun _ _ => id)
    clear hv
    go_enter Tryz.func39, Tryz.ntmps39
    go_wp2_with (at_builtin; refine stopHere ?_)
    refine goOn (wpl_app (v := .slice (some ⟨w.heap.size, 0, none⟩) 0 0) rfl rfl T_K rfl hown rfl hrow' h1c (by omega) (by omega) ?_)
    intro A1 c1 w1 ho1 hk1 hn1
    have hk : Keep (fun _ => False) w w1 := ((Keep.refl (fun _ => False) w).alloc _).trans hk1 (fun q hq e => by simp only [Value.ownBlock, Option.some.injEq] at e; omega)
    rw [Nat.zero_add, List.nil_append] at ho1
    rw [Nat.zero_add] at hn1
    go_wp2_with fail
    refine bodyPost_ret (v := .slice A1 n c1) (by simp [results, Tryz.results39, go_sem]) rfl ?_
    refine ⟨_, _, rfl, ho1, fun k hk => ?_, hk⟩
    rcases hn1 k hk with q | q
    · simp only [Value.ownBlock, Option.some.injEq] at q; omega
    · simp at q; omega
end Go.Proofs.YtofljidmdabkcaaGreat
namespace Go.Proofs.YtofljidmdabkcaaGreat
open Go.RowKit

section
variable {F : Nat → Prop} {w : World}
theorem cloneC_n {A : Option Addr} {n c : Nat} {l : List Change} (hn : l.length = n) (hv : Sl .change w F (.slice A n c) l) (hl : n ≤ 4294967296) :
    Calls Tryz.prog 40 #[.slice A n c] w fun e w' => ∃ A' c', e = .returned (.slice A' n c') ∧ Sl .change w' (NewIn w w') (.slice A' n c') l ∧ Keep (fun _ => False) w w' := by
  subst hn
  refine (cloneC_calls hv hl).mono ?_
  rintro e w' ⟨v, rfl, hs, hk⟩
  obtain ⟨A', c', rfl⟩ := hs.shape
  exact ⟨A', c', rfl, hs, hk⟩
set_option maxRecDepth 20000 in
theorem request_calls {r : Req} {v : Value} (hv : Sl .change w F v r.changes) (hl : r.changes.length ≤ 4294967296) :
    Calls Tryz.prog 36 #[.agg (reqCs r v).toArray] w fun e w' => ∃ v', e = .returned (.agg (reqCs r v').toArray) ∧ Sl .change w' (NewIn w w') v' r.changes ∧ Keep (fun _ => False) w w' := by
  obtain ⟨A, c, rfl⟩ := hv.shape
  have HV := hid hv
  clear hv
  generalize hn : r.changes.length = n at *
  have HN := hid hn
  clear hn
  go_enter Tryz.func36, Tryz.ntmps36
  go_wp2_with (first
    | (refine wpl_boxB (v := .agg (reqCs r (.slice A n c)).toArray) rfl rfl rfl ?_; intro g w1 hg hb1 k1 s1; have HG := hid hg; clear hg)
    | (refine wpl_allocB (z := .agg (reqCs reqZ' (.slice none 0 0)).toArray) rfl rfl (by kernel_rfl) ?_; intro g2 w2 hg2 hb2 k2 s2; have HG2 := hid hg2; clear hg2; have hb1 := k2.heap hb1 id)
    | (refine wpl_load1 rfl rfl rfl hb1 (by kernel_rfl) (v := .slice A n c) rfl ?_))
  have k02 := k1.trans k2 (fun _ _ q => q)
  refine (cloneC_n HN.out (HV.out.keep k02 (fun _ _ => id)) hl).mono ?_
  rintro e w3 ⟨A3, c3, rfl, hs3, k3⟩
  replace hb1 := k3.heap hb1 id
  replace hb2 := k3.heap hb2 id
  have HS := hid hs3
  clear hs3
  go_wp2_with (first
    | (refine wpl_loadA rfl rfl rfl hb1 (by kernel_rfl) (by kernel_rfl) (reqCs r (.slice A3 n c3)) rfl rfl ?_)
    | (refine wpl_storeB (v := .slice A3 n c3) rfl rfl rfl rfl hb1 (by kernel_rfl) (by simp [reqCs, Value.cells]) (by simp [Value.oneCell', Value.cells]) ?_; intro w4 hb4 k4 s4; replace hb1 := hb4; replace hb2 := k4.heap hb2 (fun e => by have := HG2.out; omega))
    | (refine wpl_storeB (v := .agg (reqCs r (.slice A3 n c3)).toArray) rfl rfl rfl rfl hb2 (by kernel_rfl) (by simp [reqCs, Value.cells]) (by simp [Value.oneCell', reqCs, Value.cells]) ?_; intro w5 hb5 k5 s5))
  refine bodyPost_ret (res_cell (g := g2) (cs := (reqCs r (.slice A3 n c3)).toArray) Tryz.results36 _ rfl hb5 (by kernel_rfl) (by kernel_rfl)) rfl ?_
  have e1 := HG.out
  have e2 := HG2.out
  have q3 := k3.size
  refine ⟨_, rfl, ((HS.out.keep k4 ?_).keep k5 ?_).mono ?_, ((k02.trans k3 (fun _ _ q => q)).trans k4 ?_).trans k5 ?_⟩
  · intro k hk e; have := hk.1; omega
  · intro k hk e; have := hk.1; omega
  · intro k hk; have h1 := hk.1; have h2 := hk.2; exact ⟨by omega, by omega⟩
  · intro b hb e; omega
  · intro b hb e; omega
end
end Go.Proofs.YtofljidmdabkcaaGreat
namespace Go.Proofs.YtofljidmdabkcaaGreat
open Go.RowKit

theorem heap_setCells {b : Nat} {e : TypeId} : ∀ (vs : List Value) (o : Nat) (C : Array Value) (w : World), w.heap[b]? = some (.cells C e) → o + vs.length ≤ C.size → (w.setCells b o vs).heap[b]? = some (.cells (spl C o vs) e)
  | [], o, C, w, h, _ => by
    simp only [World.setCells, spl, List.append_nil, List.length_nil, Nat.add_zero, List.take_append_drop, Array.toArray_toList]
    exact h
  | v :: r, o, C, w, h, hl => by
    simp only [List.length_cons] at hl
    have ho : o < C.size := by omega
    have := heap_setCells r (o + 1) (C.setIfInBounds o v) (w.setCell ⟨b, o, none⟩ v) (heap_set h o v) (by simp; omega)
    rw [World.setCells, this]
    congr 2
    simp only [spl, Array.toList_setIfInBounds]
    congr 1
    rw [List.take_add_one, List.take_set_of_le (Nat.le_refl _), List.drop_set_of_lt (by omega)]
    simp [ho, Nat.add_assoc, Nat.add_comm 1]
theorem keep_setCells (b : Nat) : ∀ (vs : List Value) (o : Nat) (w : World), Keep (fun k => k = b) w (w.setCells b o vs)
  | [], _, w => Keep.refl _ w
  | v :: r, o, w => by
    rw [World.setCells]
    exact ((Keep.refl (fun k => k = b) w).setCell ⟨b, o, none⟩ v (fun _ => rfl)).trans (keep_setCells b r (o + 1) _) (fun _ _ e => e)
theorem spl_get {C : Array Value} {o : Nat} {vs : List Value} (h : o + vs.length ≤ C.size) (j : Nat) : (spl C o vs)[j]? = if j < o then C[j]? else if j < o + vs.length then vs[j - o]? else C[j]? := by
  simp only [spl, List.getElem?_toArray, List.append_assoc]
  by_cases h1 : j < o
  · rw [if_pos h1, List.getElem?_append_left (by simp; omega), List.getElem?_take, if_pos h1]; simp
  · rw [if_neg h1, List.getElem?_append_right (by simp; omega)]
    have e1 : (List.take o C.toList).length = o := by simp; omega
    rw [e1]
    by_cases h2 : j < o + vs.length
    · rw [if_pos h2, List.getElem?_append_left (by omega)]
    · rw [if_neg h2, List.getElem?_append_right (by omega), List.getElem?_drop]
      rw [show o + vs.length + (j - o - vs.length) = j by omega]; simp

theorem run_stC {P : Program} {w : World} {b o : Nat} {C : Array Value} {e : TypeId} {vs : List Value} (hb : w.heap[b]? = some (.cells C e)) (h : o + vs.length ≤ C.size) (h1 : ∀ u ∈ vs, u.oneCell' = true) :
    (storeCells ⟨b, o, none⟩ vs).run P w = .ok () (w.setCells b o vs) := by
  have := run_storeCells_cells (P := P) b o vs 0 w (fun j hj => by rw [Nat.add_zero, cell_of_row w b _ C e (0, 0) hb]; simp; omega) (fun j hj => by simp [World.frozen?, hb]) h1
  simpa using this

/-- The struct's cells, out of its value and the list's; the list. -/
structure CopyK (α : Type) where
  r : Rep α
  cs : α → Value → List Value
  ch : α → List Change
  o : Nat
  n : Nat
  pos : 0 < r.size
  len : ∀ x v, (cs x v).length = r.size
  on : o + n ≤ r.size
  out : ∀ x v v' j, (j < o ∨ o + n ≤ j) → (cs x v)[j]? = (cs x v')[j]?
  read : ∀ {w : World} {F : Nat → Prop} {x d}, r.cells w F x d → ∃ v, d = cs x v ∧ Sl .change w F v (ch x)
  back : ∀ {w w' : World} {F G : Nat → Prop} {x d} {v : Value}, r.cells w F x d → Sl .change w' G v (ch x) → r.cells w' G x (cs x v)

section
variable {α : Type} (K : CopyK α) {et : TypeId}
/-- The lists of the first k elements lie in new memory, the others' where they lay (F). -/
def CopyAt (et : TypeId) (B : Nat) (F : Nat → Prop) (w0 : World) (u : Value) (l : List α) (k : Nat) (w : World) : Prop :=
  ∃ A c, u = .slice A l.length c ∧ l.length ≤ c ∧ c ≤ maxLen ∧ (c = 0 ∨ ∃ g cur, A = some ⟨g, 0, none⟩ ∧ B ≤ g ∧ w.heap[g]? = some (.cells cur et) ∧ cur.size = c * K.r.size ∧
    ∀ i x, l[i]? = some x → ∃ v, (∀ j y, (K.cs x v)[j]? = some y → cur[i * K.r.size + j]? = some y) ∧ (∃ cs, K.r.cells w0 F x cs) ∧ Sl .change w (fun q => if i < k then B ≤ q ∧ q < w.heap.size ∧ q ≠ g else F q) v (K.ch x))
variable {K} {B : Nat} {F S : Nat → Prop} {w0 w w' : World} {u : Value} {l : List α} {k : Nat}
theorem CopyAt.keep (h : CopyAt K et B F w0 u l k w) (hk : Keep S w w') (hB : ∀ q, B ≤ q → ¬ S q) (hF : ∀ q, F q → ¬ S q) : CopyAt K et B F w0 u l k w' := by
  obtain ⟨A, c, hu, hl, hc, h⟩ := h
  refine ⟨A, c, hu, hl, hc, h.imp id ?_⟩
  rintro ⟨g, cur, hA, hg, hb, hs, hel⟩
  have hsz := hk.size
  refine ⟨g, cur, hA, hg, hk.heap hb (hB g hg), hs, fun i x hx => ?_⟩
  obtain ⟨v, h1, h2, h3⟩ := hel i x hx
  refine ⟨v, h1, h2, (h3.keep hk ?_).mono ?_⟩
  · intro q hq
    split at hq
    · exact hB q hq.1
    · exact hF q hq
  · intro q hq
    by_cases hik : i < k
    · rw [if_pos hik] at hq ⊢; exact ⟨hq.1, by omega, hq.2.2⟩
    · rw [if_neg hik] at hq ⊢; exact hq
theorem CopyAt.start {cs : List Value} {n c : Nat} {A : Option Addr} (ho : w.ownsRow 0 et K.r.size (.slice A n c) n cs) (hn : l.length = n) (hB : ∀ q, (Value.slice A n c).ownBlock = some q → B ≤ q)
    (hp : ∀ i x, l[i]? = some x → K.r.cells w0 F x ((cs.drop (i * K.r.size)).take K.r.size)) (hk : Keep S w0 w) (hF : ∀ q, F q → ¬ S q) : CopyAt K et B F w0 (.slice A n c) l 0 w := by
  subst hn
  rcases ho.2 with ⟨h0, h1⟩ | ⟨g, cap, cur, hu, hbg, hb, hnc, hcm, hcs, ht⟩
  · simp only [Value.slice.injEq] at h0
    obtain ⟨rfl, h3, rfl⟩ := h0
    exact ⟨none, 0, rfl, by omega, Nat.zero_le _, .inl rfl⟩
  · simp only [Value.slice.injEq, true_and] at hu
    obtain ⟨rfl, rfl⟩ := hu
    refine ⟨_, c, rfl, hnc, hcm, .inr ⟨g, cur, rfl, hB g (by simp [Value.ownBlock]), hb, hcs, fun i x hx => ?_⟩⟩
    have hi := (List.getElem?_eq_some_iff.1 hx).1
    have h1 := hp i x hx
    obtain ⟨v, h2, h3⟩ := K.read h1
    refine ⟨v, fun j y hy => ?_, ⟨_, h1⟩, (h3.keep hk hF).mono (fun q hq => by simpa using hq)⟩
    have hj : j < K.r.size := by rw [← K.len x v]; exact (List.getElem?_eq_some_iff.1 hy).1
    rw [← h2, List.getElem?_take, if_pos hj, List.getElem?_drop, ← ht, List.getElem?_take] at hy
    split at hy
    · simpa using hy
    · cases hy
/-- The k-th element, before its turn. -/
theorem CopyAt.at (h : CopyAt K et B F w0 u l k w) {x : α} (hx : l[k]? = some x) : ∃ g cur c v, u = .slice (some ⟨g, 0, none⟩) l.length c ∧ B ≤ g ∧ w.heap[g]? = some (.cells cur et) ∧ (k + 1) * K.r.size ≤ cur.size ∧
    (∀ j y, (K.cs x v)[j]? = some y → w.cell? ⟨g, k * K.r.size + j, none⟩ = some y) ∧ Sl .change w F v (K.ch x) := by
  obtain ⟨A, c, hu, hl, hc, h⟩ := h
  have hi := (List.getElem?_eq_some_iff.1 hx).1
  obtain ⟨g, cur, rfl, hg, hb, hs, hel⟩ := h.resolve_left (by omega)
  obtain ⟨v, h1, h2, h3⟩ := hel k x hx
  refine ⟨g, cur, c, v, hu, hg, hb, by rw [hs]; exact Nat.mul_le_mul_right _ (by omega), fun j y hy => ?_, h3.mono (fun q hq => by simpa using hq)⟩
  rw [cell_of_row w g _ cur et (0, 0) hb]
  exact h1 j y hy
/-- Its list has been copied and laid in. -/
theorem CopyAt.step (h : CopyAt K et B F w0 u l k w) {x : α} (hx : l[k]? = some x) {w1 : World} {v1 : Value} (hk : Keep (fun _ => False) w w1) (hs1 : Sl .change w1 (NewIn w w1) v1 (K.ch x)) (hBw : B ≤ w.heap.size)
    (hF : ∀ q, F q → q < B) {g c : Nat} (hu : u = .slice (some ⟨g, 0, none⟩) l.length c) :
    CopyAt K et B F w0 u l (k + 1) (w1.setCells g (k * K.r.size + K.o) (((K.cs x v1).drop K.o).take K.n)) ∧ Keep (fun q => q = g) w (w1.setCells g (k * K.r.size + K.o) (((K.cs x v1).drop K.o).take K.n)) ∧ B ≤ g := by
  obtain ⟨A, c', hu', hl, hc, h⟩ := h
  rw [hu] at hu'
  simp only [Value.slice.injEq, true_and] at hu'
  obtain ⟨rfl, rfl⟩ := hu'
  have hi := (List.getElem?_eq_some_iff.1 hx).1
  obtain ⟨g', cur, hA, hg, hb, hs, hel⟩ := h.resolve_left (by omega)
  simp only [Option.some.injEq, Addr.mk.injEq, and_true] at hA
  subst hA
  have hon := K.on
  have hnl : (((K.cs x v1).drop K.o).take K.n).length = K.n := by rw [List.length_take, List.length_drop, K.len]; omega
  have hcl : (k + 1) * K.r.size ≤ cur.size := by rw [hs]; exact Nat.mul_le_mul_right _ (by omega)
  rw [Nat.succ_mul] at hcl
  have hfit : k * K.r.size + K.o + (((K.cs x v1).drop K.o).take K.n).length ≤ cur.size := by omega
  have hb1 := hk.heap hb id
  have hb2 := heap_setCells _ _ _ _ hb1 hfit
  have hk2 := keep_setCells g (((K.cs x v1).drop K.o).take K.n) (k * K.r.size + K.o) w1
  have hsz := hk2.size
  have hsz1 := hk.size
  have hgl : g < w.heap.size := lt_heap hb
  refine ⟨⟨_, c, hu, hl, hc, .inr ⟨g, _, rfl, hg, hb2, by rw [spl_size _ _ _ hfit, hs], fun i y hy => ?_⟩⟩, (hk.mono (fun _ _ q => q.elim)).trans hk2 (fun _ _ e => e), hg⟩
  obtain ⟨v, h1, h2, h3⟩ := hel i y hy
  by_cases hik : i = k
  · subst hik
    rw [hx, Option.some.injEq] at hy
    subst hy
    refine ⟨v1, fun j z hz => ?_, h2, (hs1.keep hk2 (fun q hq e => by have := hq.1; omega)).mono (fun q hq => ?_)⟩
    · have hj : j < K.r.size := by rw [← K.len x v1]; exact (List.getElem?_eq_some_iff.1 hz).1
      rw [spl_get hfit, hnl]
      by_cases ha : j < K.o
      · rw [if_pos (by omega)]
        exact h1 j z (by rw [K.out x v v1 j (.inl ha)]; exact hz)
      · rw [if_neg (by omega)]
        by_cases hb' : j < K.o + K.n
        · rw [if_pos (by omega), show i * K.r.size + j - (i * K.r.size + K.o) = j - K.o by omega, List.getElem?_take, if_pos (by omega), List.getElem?_drop, show K.o + (j - K.o) = j by omega]
          exact hz
        · rw [if_neg (by omega)]
          exact h1 j z (by rw [K.out x v v1 j (.inr (by omega))]; exact hz)
    · rw [if_pos (by omega)]
      exact ⟨by have := hq.1; omega, by have := hq.2; omega, by have := hq.1; omega⟩
  · refine ⟨v, fun j z hz => ?_, h2, ((h3.keep hk (fun _ _ q => q)).keep hk2 ?_).mono ?_⟩
    · have hj : j < K.r.size := by rw [← K.len y v]; exact (List.getElem?_eq_some_iff.1 hz).1
      rw [spl_get hfit, hnl]
      rcases Nat.lt_or_gt_of_ne hik with hlt | hgt
      · have : (i + 1) * K.r.size ≤ k * K.r.size := Nat.mul_le_mul_right _ (by omega)
        rw [Nat.succ_mul] at this
        rw [if_pos (by omega)]
        exact h1 j z hz
      · have : (k + 1) * K.r.size ≤ i * K.r.size := Nat.mul_le_mul_right _ (by omega)
        rw [Nat.succ_mul] at this
        rw [if_neg (by omega), if_neg (by omega)]
        exact h1 j z hz
    · intro q hq
      split at hq
      · exact hq.2.2
      · have := hF q hq; omega
    · intro q hq
      by_cases hlt : i < k
      · rw [if_pos hlt] at hq; rw [if_pos (by omega)]; exact ⟨hq.1, by omega, hq.2.2⟩
      · rw [if_neg hlt] at hq; rw [if_neg (by omega)]; exact hq
/-- All have been copied. -/
theorem CopyAt.done (h : CopyAt K et B F w0 u l k w) (hk : l.length ≤ k) : Sl K.r w (fun q => B ≤ q ∧ q < w.heap.size) u l := by
  obtain ⟨A, c, hu, hl, hc, h⟩ := h
  refine ⟨A, c, hu, hl, hc, h.imp id ?_⟩
  rintro ⟨g, cur, hA, hg, hb, hs, hel⟩
  refine ⟨g, 0, hA, ⟨hg, lt_heap hb⟩, lt_heap hb, fun i x hx => ?_⟩
  have hi := (List.getElem?_eq_some_iff.1 hx).1
  obtain ⟨v, h1, ⟨cs, h2⟩, h3⟩ := hel i x hx
  refine ⟨_, K.back h2 (h3.mono (fun q hq => ?_)), fun j y hy => ?_⟩
  · rw [if_pos (by omega)] at hq; exact ⟨hq.1, hq.2.1⟩
  · rw [Nat.zero_add, cell_of_row w g _ cur et (0, 0) hb]
    exact h1 j y hy
end
/-- Bytes in a row, as a slice. -/
theorem Sl.ofBytes {F : Nat → Prop} {w : World} {v : Value} {l : List UInt8} (h : Row F w v l.length 1 (l.map U8)) : Sl .u8 w F v l :=
  Sl.ofRow (r := .u8) h (fun i x hx => by
    have hi := (List.getElem?_eq_some_iff.1 hx).1
    show _ = [U8 x]
    rw [show i * Rep.u8.size = i from Nat.mul_one i, show Rep.u8.size = 1 from rfl, ← List.map_drop, List.drop_eq_getElem_cons hi]
    simp only [List.map_cons, List.take_succ_cons, List.take_zero]
    rw [List.getElem?_eq_getElem hi, Option.some.injEq] at hx
    rw [hx])
def voteK : CopyK Vote where
  r := .vote
  cs := voteCs
  ch x := x.value.changes
  o := 2
  n := 11
  pos := by decide
  len _ _ := rfl
  on := by decide
  out x v v' j h := by
    rcases h with h | h
    · match j, h with | 0, _ => rfl | 1, _ => rfl
    · rw [List.getElem?_eq_none (by simpa [voteCs, reqCs] using h), List.getElem?_eq_none (by simpa [voteCs, reqCs] using h)]
  read h := by obtain ⟨v, h1, h2, _⟩ := vote_cells h; exact ⟨v, h1, h2⟩
  back h hs := by obtain ⟨_, _, _, h3⟩ := vote_cells h; exact vote_mk hs h3
def commitK : CopyK Commit where
  r := .commit
  cs := commitCs
  ch x := x.changes
  o := 3
  n := 1
  pos := by decide
  len _ _ := rfl
  on := by decide
  out x v v' j h := by
    rcases h with h | h
    · match j, h with | 0, _ => rfl | 1, _ => rfl | 2, _ => rfl
    · rw [List.getElem?_eq_none (by simpa [commitCs] using h), List.getElem?_eq_none (by simpa [commitCs] using h)]
  read h := by obtain ⟨v, h1, h2, _⟩ := commit_cells h; exact ⟨v, h1, h2⟩
  back h hs := by obtain ⟨_, _, _, h3⟩ := commit_cells h; exact commit_mk hs h3
end Go.Proofs.YtofljidmdabkcaaGreat
namespace Go.Proofs.YtofljidmdabkcaaGreat
open Go.RowKit
def verdictZ : Verdict := ⟨0, 0, 0, ByteArray.empty, 0, [], 0⟩
def msgZ : Msg := ⟨0, 0, 0, 0, 0, 0, reqZ', [], [], 0, verdictZ⟩
def nilV : Value := .slice none 0 0
section
variable {F : Nat → Prop} {w : World}
theorem msgCs_len (m : Msg) (a b c d : Value) : (msgCs m a b c d).length = 27 := rfl
theorem one_msgCs (m : Msg) {A B C D : Option Addr} {a b c d a' b' c' d' : Nat} : ∀ u ∈ msgCs m (.slice A a a') (.slice B b b') (.slice C c c') (.slice D d d'), u.oneCell' = true := by
  simp [msgCs, reqCs, verdictCs, Value.oneCell']
set_option maxRecDepth 20000 in
set_option maxHeartbeats 800000 in
theorem ownM_calls {m : Msg} {vc vv vi vk : Value} (hc : Sl .change w F vc m.value.changes) (hv : Sl .vote w F vv m.votes) (hi : Sl .u8 w F vi m.image) (hk : Sl .commit w F vk m.verdict.commits)
    (hF : ∀ q, F q → q < w.heap.size) (hok : m.Ok) (h1 : m.value.changes.length ≤ 4294967296) (h2 : m.votes.length ≤ 4294967296) (h3 : m.image.length ≤ 4294967296) (h4 : m.verdict.commits.length ≤ 4294967296)
    (h5 : ∀ x ∈ m.votes, x.value.changes.length ≤ 4294967296) (h6 : ∀ x ∈ m.verdict.commits, x.changes.length ≤ 4294967296) :
    Calls Tryz.prog 22 #[.agg (msgCs m vc vv vi vk).toArray] w fun e w' => ∃ vs, e = .returned (.agg vs.toArray) ∧ Rep.msg.cells w' (NewIn w w') m vs ∧ Keep (fun _ => False) w w' := by
  obtain ⟨Ac, cc, rfl⟩ := hc.shape
  obtain ⟨Av, cv, rfl⟩ := hv.shape
  obtain ⟨Ai, ci, rfl⟩ := hi.shape
  obtain ⟨Ak, ck, rfl⟩ := hk.shape
  generalize hnc : m.value.changes.length = nc at *
  generalize hnv : m.votes.length = nv at *
  generalize hni : m.image.length = ni at *
  generalize hnk : m.verdict.commits.length = nk at *
  have HNC := hid hnc
  have HNV := hid hnv
  have HNI := hid hni
  have HNK := hid hnk
  have HC := hid hc
  have HV := hid hv
  have HI := hid hi
  have HK := hid hk
  have H5 := hid h5
  have H6 := hid h6
  have HFF := hid hF
  have HOK := hid hok
  clear hnc hnv hni hnk hc hv hi hk h5 h6 hF hok
  go_enter Tryz.func22, Tryz.ntmps22
  go_wp2_with (first
    | (refine wpl_boxB (v := .agg (msgCs m (.slice Ac nc cc) (.slice Av nv cv) (.slice Ai ni ci) (.slice Ak nk ck)).toArray) rfl rfl rfl ?_; intro g w1 hg hb1 k1 s1; have HG := hid hg; clear hg)
    | (refine wpl_allocB (z := .agg (msgCs msgZ nilV nilV nilV nilV).toArray) rfl rfl (by kernel_rfl) ?_; intro g2 w2 hg2 hb2 k2 s2; have HG2 := hid hg2; clear hg2; replace hb1 := k2.heap hb1 id)
    | (refine wpl_loadA rfl rfl rfl hb1 (by kernel_rfl) (by kernel_rfl) (reqCs m.value (.slice Ac nc cc)) rfl rfl ?_))
  have k02 := k1.trans k2 (fun _ _ q => q)
  refine (request_calls (r := m.value) (HC.out.keep k02 (fun _ _ => id)) (by rw [HNC.out]; exact h1)).mono ?_
  rintro e w3 ⟨v3, rfl, hs3, k3⟩
  obtain ⟨A3, c3, rfl⟩ := hs3.shape
  rw [HNC.out] at hs3 ⊢
  have k03 := k02.trans k3 (fun _ _ q => q)
  replace hb1 := k3.heap hb1 id
  replace hb2 := k3.heap hb2 id
  have HS := hid hs3
  clear hs3
  go_wp2_with (first
    | (refine wpl_storeB (v := .agg (reqCs m.value (.slice A3 nc c3)).toArray) rfl rfl rfl rfl hb1 (by kernel_rfl) (by simp [reqCs, msgCs, verdictCs, Value.cells]) (by simp [reqCs, Value.oneCell', Value.cells]) ?_; intro w4 hb4 k4 s4; replace hb1 : w4.heap[g]? = some (.cells (msgCs m (.slice A3 nc c3) (.slice Av nv cv) (.slice Ai ni ci) (.slice Ak nk ck)).toArray 42) := hb4; clear hb4; replace hb2 := k4.heap hb2 (fun e => by have := HG2.out; omega))
    | (refine wpl_load1 rfl rfl rfl hb1 (by kernel_rfl) (v := .slice Av nv cv) rfl ?_))
  have k34 : Keep (fun k => w.heap.size ≤ k) w w4 := (k03.mono (fun _ _ q => q.elim)).trans k4 (fun b hb e => by have := HG.out; omega)
  obtain ⟨cs0, hrow0, hparts0⟩ := (HV.out.keep k34 (fun q hq e => by have := HFF.out q hq; omega)).cells
  rw [HNV.out] at hrow0
  have HP0 := hid hparts0
  have h1c := row_one (by decide) vote_one (by have := hrow0; obtain ⟨_, _, _, q, _⟩ := this; rw [HNV.out]; exact q) hparts0
  clear hparts0
  refine (clone_V hrow0 h1c h2).mono ?_
  rintro e w5 ⟨A5, c5, rfl, ho5, hn5, k5⟩
  replace hb1 := k5.heap hb1 id
  replace hb2 := k5.heap hb2 id
  clear hrow0 h1c
  go_wp2_with (first
    | (refine wpl_storeB (v := .slice A5 nv c5) rfl rfl rfl rfl hb1 (by kernel_rfl) (by simp [reqCs, msgCs, verdictCs, Value.cells]) (by simp [Value.oneCell', Value.cells]) ?_; intro w6 hb6 k6 s6; replace hb1 : w6.heap[g]? = some (.cells (msgCs m (.slice A3 nc c3) (.slice A5 nv c5) (.slice Ai ni ci) (.slice Ak nk ck)).toArray 42) := hb6; clear hb6; replace hb2 := k6.heap hb2 (fun e => by have := HG2.out; omega))
    | (refine wpl_load1 rfl rfl rfl hb1 (by kernel_rfl) (v := .slice A5 nv c5) rfl ?_))
  have HS6 := hid ((((HS.out.keep k4 (fun q hq e => by have := HG.out; have := HG2.out; have := hq.1; omega)).keep k5 (fun _ _ q => q)).keep k6 (fun q hq e => by have := HG.out; have := HG2.out; have := hq.1; omega)))
  have z3 := k3.size
  have z5 := k5.size
  have hgB : g < w3.heap.size := by have := HG2.out; omega
  have hg2B : g2 < w3.heap.size := by have := HG2.out; omega
  have ho6 := k6.owns ho5 (fun q hq e => by have := hn5 q hq; omega)
  have HK6 := hid (((k34.trans k5 (fun _ _ q => q.elim)).trans k6 (fun b hb e => by have := HG.out; omega)))
  have H0 : CopyAt voteK 70 w3.heap.size F w4 (.slice A5 nv c5) m.votes 0 w6 := CopyAt.start (S := fun k => k = g) ho6 HNV.out (fun q hq => by have := hn5 q hq; omega) HP0.out ((k5.mono (fun _ _ q => q.elim)).trans k6 (fun _ _ e => e)) (fun q hq e => by have := HFF.out q hq; have := HG.out; omega)
  have K6 := hid k6
  clear HS HP0 ho5 ho6 hn5 k5 k6 k4 k3 k34
  go_loopw [16] (fun i wr => ∃ k : Nat, k ≤ nv ∧ i = .int .i64 k ∧ CopyAt voteK 70 w3.heap.size F w4 (.slice A5 nv c5) m.votes k wr ∧ Keep (fun q => w3.heap.size ≤ q) w6 wr) (fun i _ => nv - (intOf i).toNat)
  case atStart => exact ⟨0, Nat.zero_le _, rfl, H0, Keep.refl _ _⟩
  case round =>
    obtain ⟨k, hk, rfl, hat, hkp⟩ := hrel
    have hbr1 := hkp.heap hb1 (by omega)
    have hbr2 := hkp.heap hb2 (by omega)
    have zr := hkp.size
    by_cases hlt : k < nv
    · obtain ⟨x, hx⟩ : ∃ x, m.votes[k]? = some x := ⟨m.votes[k]'(by rw [HNV.out]; exact hlt), by simp [HNV.out, hlt]⟩
      obtain ⟨gv, cur, cap, v, he, hgv, hbv, hfit, hcell, hsv⟩ := hat.at hx
      simp only [Value.slice.injEq] at he
      obtain ⟨rfl, hlen, rfl⟩ := he
      clear hlen
      obtain ⟨Av', cv', rfl⟩ := hsv.shape
      obtain ⟨nx, hnx⟩ : ∃ nx, nx = (voteK.ch x).length := ⟨_, rfl⟩
      rw [← hnx] at hcell hsv
      have HNX := hid hnx
      have hlx := H5.out x (List.mem_of_getElem? hx)
      have HX := hid hx
      have HAT := hid hat
      have c7 : wr.cell? ⟨g, 17, none⟩ = some (.slice (some ⟨gv, 0, none⟩) nv c5) := cell_at hbr1 17 _ rfl
      have e0 : wr.cell? ⟨gv, k * 13 + 2, none⟩ = some (.int .i64 x.value.kind) := hcell 2 _ rfl
      have e1 : wr.cell? ⟨gv, k * 13 + 3, none⟩ = some (.string x.value.name) := hcell 3 _ rfl
      have e2 : wr.cell? ⟨gv, k * 13 + 4, none⟩ = some (.int .i64 x.value.session) := hcell 4 _ rfl
      have e3 : wr.cell? ⟨gv, k * 13 + 5, none⟩ = some (.int .i64 x.value.seq) := hcell 5 _ rfl
      have e4 : wr.cell? ⟨gv, k * 13 + 6, none⟩ = some (.int .i64 x.value.base) := hcell 6 _ rfl
      have e5 : wr.cell? ⟨gv, k * 13 + 7, none⟩ = some (.string x.value.ref) := hcell 7 _ rfl
      have e6 : wr.cell? ⟨gv, k * 13 + 8, none⟩ = some (.slice Av' nx cv') := hcell 8 _ rfl
      have e7 : wr.cell? ⟨gv, k * 13 + 9, none⟩ = some (.string x.value.path) := hcell 9 _ rfl
      have e8 : wr.cell? ⟨gv, k * 13 + 10, none⟩ = some (.int .i64 x.value.from') := hcell 10 _ rfl
      have e9 : wr.cell? ⟨gv, k * 13 + 11, none⟩ = some (.int .i64 x.value.many) := hcell 11 _ rfl
      have e10 : wr.cell? ⟨gv, k * 13 + 12, none⟩ = some (.int .i64 x.value.member) := hcell 12 _ rfl
      have HSV := hid hsv
      clear hx hat hcell hsv hnx H0
      go_wp2_with fail
      have hfit2 : k * 13 + 2 + 11 ≤ cur.size := by have : (k + 1) * 13 ≤ cur.size := hfit; omega
      go_region_with (first | (go_at_call 36; refine (request_calls (r := x.value) (v := .slice Av' nx cv') (F := F) (HSV.out.keep ((Keep.refl (fun _ => False) _).drewN _) (fun _ _ => id)) hlx).mono ?_; rintro e w7 ⟨v7, rfl, hs7, k7⟩; obtain ⟨A7, c7', rfl⟩ := hs7.shape; have d7 := k7.cell c7 id; have hst := run_stC (P := Tryz.prog) (vs := reqCs x.value (.slice A7 x.value.changes.length c7')) (k7.heap hbv id) hfit2 (by simp [reqCs, Value.oneCell']); have hl11 : (reqCs x.value (.slice A7 x.value.changes.length c7')).length = 11 := rfl))
      all_goals
        obtain ⟨q1, q2, q3⟩ := HAT.out.step HX.out (w1 := w7) (v1 := .slice A7 x.value.changes.length c7') (((Keep.refl (fun _ => False) wr).drewN 1).trans k7 (fun _ _ q => q)) hs7 (by omega) (fun q hq => by have := HFF.out q hq; have := HG.out; omega) (by rw [HNV.out])
        go_wp2_with fail
        exact ⟨⟨k + 1, by omega, by simp, q1, hkp.trans q2 (fun b hb e => by omega)⟩, by simp [intOf]; omega⟩
    · have hsv := hat.done (by rw [HNV.out]; omega)
      clear hat
      have HSV := hid hsv
      have HS7 := hid (HS6.out.keep hkp (fun q hq e => by have := hq.2; omega))
      have HK7 := hid (HK6.out.trans hkp (fun b hb q => by have := HG.out; omega))
      clear hsv hb1 hb2 H0 hkp
      go_wp2_with (first
        | (refine wpl_load1 rfl rfl rfl hbr1 (by kernel_rfl) (v := .slice Ai ni ci) rfl ?_))
      have hIr := (HI.out.keep HK7.out (fun q hq e => by have := HFF.out q hq; omega)).row
      rw [HNI.out] at hIr
      refine (clone_B (cs := m.image.map U8) hIr (by simp [U8, Value.oneCell']) h3).mono ?_
      rintro e w8 ⟨A8, c8, rfl, ho8, hn8, k8⟩
      replace hbr1 := k8.heap hbr1 id
      replace hbr2 := k8.heap hbr2 id
      clear hIr
      go_wp2_with (first
        | (refine wpl_storeB (v := .slice A8 ni c8) rfl rfl rfl rfl hbr1 (by kernel_rfl) (by simp [reqCs, msgCs, verdictCs, Value.cells]) (by simp [Value.oneCell', Value.cells]) ?_; intro w9 hb9 k9 s9; replace hbr1 : w9.heap[g]? = some (.cells (msgCs m (.slice A3 nc c3) (.slice A5 nv c5) (.slice A8 ni c8) (.slice Ak nk ck)).toArray 42) := hb9; clear hb9; replace hbr2 := k9.heap hbr2 (fun e => by have := HG2.out; omega))
        | (refine wpl_load1 rfl rfl rfl hbr1 (by kernel_rfl) (v := .slice Ak nk ck) rfl ?_))
      have z8 := k8.size
      have ho9 := k9.owns ho8 (fun q hq e => by have := hn8 q hq; omega)
      have HI9 : Hid (Sl .u8 w9 (fun q => wr.heap.size ≤ q ∧ q < w9.heap.size) (.slice A8 ni c8) m.image) := hid (Sl.ofBytes (by rw [HNI.out]; exact (Row.ofOwn ho9).mono (fun q hq => ⟨hn8 q hq.symm, own_lt' ho9 q hq.symm⟩)))
      have HC9 := hid ((HS7.out.keep k8 (fun _ _ q => q)).keep k9 (fun q hq e => by have := hq.1; have := HG.out; have := HG2.out; omega))
      have HV9 := hid ((HSV.out.keep k8 (fun _ _ q => q)).keep k9 (fun q hq e => by have := hq.1; omega))
      have HK9 := hid ((HK7.out.trans k8 (fun _ _ q => q.elim)).trans k9 (fun b hb e => by have := HG.out; omega))
      obtain ⟨ck0, hrowk, hpartsk⟩ := (HK.out.keep HK9.out (fun q hq e => by have := HFF.out q hq; omega)).cells
      rw [HNK.out] at hrowk
      have HPK := hid hpartsk
      have h1k := row_one (by decide) commit_one (by have := hrowk; obtain ⟨_, _, _, q, _⟩ := this; rw [HNK.out]; exact q) hpartsk
      clear hpartsk ho8 hn8 ho9 k8 k9 HS7 HSV
      refine (clone_K hrowk h1k h4).mono ?_
      rintro e w10 ⟨A10, c10, rfl, ho10, hn10, k10⟩
      replace hbr1 := k10.heap hbr1 id
      replace hbr2 := k10.heap hbr2 id
      clear hrowk h1k
      go_wp2_with (first
        | (refine wpl_storeB (v := .slice A10 nk c10) rfl rfl rfl rfl hbr1 (by kernel_rfl) (by simp [reqCs, msgCs, verdictCs, Value.cells]) (by simp [Value.oneCell', Value.cells]) ?_; intro w11 hb11 k11 s11; replace hbr1 : w11.heap[g]? = some (.cells (msgCs m (.slice A3 nc c3) (.slice A5 nv c5) (.slice A8 ni c8) (.slice A10 nk c10)).toArray 42) := hb11; clear hb11; replace hbr2 := k11.heap hbr2 (fun e => by have := HG2.out; omega))
        | (refine wpl_load1 rfl rfl rfl hbr1 (by kernel_rfl) (v := .slice A10 nk c10) rfl ?_))
      have z10 := k10.size
      have ho11 := k11.owns ho10 (fun q hq e => by have := hn10 q hq; omega)
      have HI11 := hid ((HI9.out.keep k10 (fun _ _ q => q)).keep k11 (fun q hq e => by have := hq.1; omega))
      have HC11 := hid ((HC9.out.keep k10 (fun _ _ q => q)).keep k11 (fun q hq e => by have := hq.1; have := HG.out; have := HG2.out; omega))
      have HV11 := hid ((HV9.out.keep k10 (fun _ _ q => q)).keep k11 (fun q hq e => by have := hq.1; omega))
      have HK11 := hid ((HK9.out.trans k10 (fun _ _ q => q.elim)).trans k11 (fun b hb e => by have := HG.out; omega))
      have H1 : CopyAt commitK 81 w9.heap.size F w9 (.slice A10 nk c10) m.verdict.commits 0 w11 := CopyAt.start (S := fun k => k = g) ho11 HNK.out (fun q hq => hn10 q hq) HPK.out ((k10.mono (fun _ _ q => q.elim)).trans k11 (fun _ _ e => e)) (fun q hq e => by have := HFF.out q hq; have := HG.out; omega)
      clear HI9 HC9 HV9 HK9 HPK ho10 ho11 hn10 k10 k11
      go_loopw [46] (fun i wt => ∃ j : Nat, j ≤ nk ∧ i = .int .i64 j ∧ CopyAt commitK 81 w9.heap.size F w9 (.slice A10 nk c10) m.verdict.commits j wt ∧ Keep (fun q => w9.heap.size ≤ q) w11 wt) (fun i _ => nk - (intOf i).toNat)
      case atStart => exact ⟨0, Nat.zero_le _, rfl, H1, Keep.refl _ _⟩
      case round =>
        obtain ⟨j, hj, rfl, hat, hkq⟩ := hrel
        have hbt1 := hkq.heap hbr1 (by omega)
        have hbt2 := hkq.heap hbr2 (by omega)
        have zt := hkq.size
        by_cases hlt2 : j < nk
        · obtain ⟨x, hx⟩ : ∃ x, m.verdict.commits[j]? = some x := ⟨m.verdict.commits[j]'(by rw [HNK.out]; exact hlt2), by simp [HNK.out, hlt2]⟩
          obtain ⟨gk, cur, cap, v, he, hgk, hbk, hfit, hcell, hsv⟩ := hat.at hx
          simp only [Value.slice.injEq] at he
          obtain ⟨rfl, hlen, rfl⟩ := he
          clear hlen
          obtain ⟨Av', cv', rfl⟩ := hsv.shape
          obtain ⟨nx, hnx⟩ : ∃ nx, nx = (commitK.ch x).length := ⟨_, rfl⟩
          rw [← hnx] at hcell hsv
          have HNX := hid hnx
          have hlx := H6.out x (List.mem_of_getElem? hx)
          have HX := hid hx
          have HAT := hid hat
          have c7 : wr.cell? ⟨g, 25, none⟩ = some (.slice (some ⟨gk, 0, none⟩) nk c10) := cell_at hbt1 25 _ rfl
          have e0 : wr.cell? ⟨gk, j * 4 + 3, none⟩ = some (.slice Av' nx cv') := hcell 3 _ rfl
          have HSV := hid hsv
          clear hx hat hcell hsv hnx H1
          have hfit2 : j * 4 + 3 + 1 ≤ cur.size := by have : (j + 1) * 4 ≤ cur.size := hfit; omega
          go_wp2_with fail
          go_region_with (first | (go_at_call 40; refine (cloneC_n HNX.out.symm (HSV.out.keep ((Keep.refl (fun _ => False) _).drewN _) (fun _ _ => id)) (by rw [HNX.out]; exact hlx)).mono ?_; rintro e w12 ⟨A12, c12, rfl, hs12, k12⟩; have d7 := k12.cell c7 id; have d0 := k12.cell e0 id; have hfr := frozen_at (k12.heap hbk id) (j * 4 + 3)))
          all_goals
            obtain ⟨q1, q2, q3⟩ := HAT.out.step HX.out (w1 := w12) (v1 := .slice A12 nx c12) (((Keep.refl (fun _ => False) wr).drewN 1).trans k12 (fun _ _ q => q)) hs12 (by omega) (fun q hq => by have := HFF.out q hq; have := HG.out; omega) (by rw [HNK.out])
            go_wp2_with fail
            exact ⟨⟨j + 1, by omega, by simp, q1, hkq.trans q2 (fun b hb e => by omega)⟩, by simp [intOf]; omega⟩
        · have hsk := hat.done (by rw [HNK.out]; omega)
          have HSK := hid hsk
          have HC12 := hid (HC11.out.keep hkq (fun q hq e => by have := hq.2; omega))
          have HV12 := hid (HV11.out.keep hkq (fun q hq e => by have := hq.2; omega))
          have HI12 := hid (HI11.out.keep hkq (fun q hq e => by have := hq.2; omega))
          have HK12 := hid (HK11.out.trans hkq (fun b hb q => by have := HG.out; omega))
          clear hsk hat hbr1 hbr2 H1 hkq
          go_wp2_with (first
            | (refine wpl_loadA rfl rfl rfl hbt1 (by kernel_rfl) (by kernel_rfl) (msgCs m (.slice A3 nc c3) (.slice A5 nv c5) (.slice A8 ni c8) (.slice A10 nk c10)) rfl rfl ?_)
            | (refine wpl_storeB (v := .agg (msgCs m (.slice A3 nc c3) (.slice A5 nv c5) (.slice A8 ni c8) (.slice A10 nk c10)).toArray) rfl rfl rfl rfl hbt2 (by kernel_rfl) (by simp [reqCs, msgCs, verdictCs, Value.cells]) (by intro u hu; exact one_msgCs m u (by simpa [Value.cells] using hu)) ?_; intro w13 hb13 k13 s13))
          refine bodyPost_ret (res_cell (g := g2) (cs := (msgCs m (.slice A3 nc c3) (.slice A5 nv c5) (.slice A8 ni c8) (.slice A10 nk c10)).toArray) Tryz.results22 _ rfl hb13 (by kernel_rfl) (by kernel_rfl)) rfl ?_
          have e1 := HG.out
          have e2 := HG2.out
          refine ⟨_, rfl, msg_mk ((HC12.out.keep k13 ?_).mono ?_) ((HV12.out.keep k13 ?_).mono ?_) ((HI12.out.keep k13 ?_).mono ?_) ((HSK.out.keep k13 ?_).mono ?_) HOK.out, (HK12.out.trans k13 ?_).mono ?_⟩
          · intro q hq e; have := hq.1; omega
          · intro q hq; have := hq.1; have := hq.2; exact ⟨by omega, by omega⟩
          · intro q hq e; have := hq.1; omega
          · intro q hq; have := hq.1; have := hq.2; exact ⟨by omega, by omega⟩
          · intro q hq e; have := hq.1; omega
          · intro q hq; have := hq.1; have := hq.2; exact ⟨by omega, by omega⟩
          · intro q hq e; have := hq.1; omega
          · intro q hq; have := hq.1; have := hq.2; exact ⟨by omega, by omega⟩
          · intro b hb e; omega
          · intro b hb e; omega
end
end Go.Proofs.YtofljidmdabkcaaGreat
namespace Go.Proofs.YtofljidmdabkcaaGreat
open Go.RowKit
section
variable {G : Nat → Prop} {w : World}
/-- A message that is small enough to be copied. -/
structure Msg.Fits (m : Msg) : Prop where
  c : m.value.changes.length ≤ 4294967296
  v : m.votes.length ≤ 4294967296
  i : m.image.length ≤ 4294967296
  k : m.verdict.commits.length ≤ 4294967296
  vc : ∀ x ∈ m.votes, x.value.changes.length ≤ 4294967296
  kc : ∀ x ∈ m.verdict.commits, x.changes.length ≤ 4294967296
theorem own_calls' {m : Msg} {cs : List Value} (hm : Rep.msg.cells w G m cs) (hG : ∀ q, G q → q < w.heap.size) (hf : m.Fits) :
    Calls Tryz.prog 22 #[.agg cs.toArray] w fun e w' => ∃ vs, e = .returned (.agg vs.toArray) ∧ Rep.msg.cells w' (NewIn w w') m vs ∧ Keep (fun _ => False) w w' := by
  obtain ⟨vc, vv, vi, vk, rfl, h1, h2, h3, h4, h5⟩ := msg_cells hm
  exact ownM_calls h1 h2 h3 h4 hG h5 hf.c hf.v hf.i hf.k hf.vc hf.kc
end
end Go.Proofs.YtofljidmdabkcaaGreat
