/- Requests: how they read; their copies, whether two are the same. -/
import Derived.Test.YtofljidmdabkcaaRep
import Derived.Test.YtofljidmdabkcaaApp
import Derived.Test.YtofljidmdabkcaaProg
import Derived.Deep.QuietTactic
import Derived.BigQuiet
import Derived.Lib.LazyBuf
import Derived.Laws.StructEq
namespace Go.Proofs.Ytofljidmdabkcaa
open Go.RowKit

structure Change where
  path : ByteArray
  gone : Bool
  digest : Nat
deriving DecidableEq
def Rep.change : Rep Change := (Rep.pair .str (.pair .bool .u64)).as fun t => (t.path, t.gone, t.digest)
theorem change_cells {w : World} {F : Nat → Prop} {t : Change} {cs : List Value} (h : Rep.change.cells w F t cs) : cs = [.string t.path, .bool t.gone, .int .u64 t.digest] := by
  obtain ⟨_, _, rfl, rfl, _, _, rfl, rfl, ⟨rfl, _⟩⟩ := h
  rfl
theorem change_at {w : World} {F : Nat → Prop} {A : Option Addr} {n c : Nat} {l : List Change} (h : Sl .change w F (.slice A n c) l) {i : Nat} {t : Change} (ht : l[i]? = some t) :
    ∃ b off, A = some ⟨b, off, none⟩ ∧ F b ∧ w.cell? ⟨b, off + i * 3, none⟩ = some (.string t.path) ∧ w.cell? ⟨b, off + i * 3 + 1, none⟩ = some (.bool t.gone) ∧ w.cell? ⟨b, off + i * 3 + 2, none⟩ = some (.int .u64 t.digest) := by
  obtain ⟨b, off, hA, hF, cs, hcs, hcell⟩ := h.elem ht
  have := change_cells hcs
  subst this
  exact ⟨b, off, hA, hF, hcell 0 _ rfl, hcell 1 _ rfl, hcell 2 _ rfl⟩
theorem change_small {w : World} {F : Nat → Prop} {v : Value} {l : List Change} (h : Sl .change w F v l) {t : Change} (ht : t ∈ l) : t.digest ≤ 18446744073709551615 := by
  obtain ⟨i, hi⟩ := List.getElem?_of_mem ht
  obtain ⟨A, c, rfl⟩ := h.shape
  obtain ⟨b, off, _, _, cs, hcs, _⟩ := h.elem hi
  obtain ⟨_, _, rfl, rfl, _, _, rfl, rfl, ⟨rfl, hx⟩⟩ := hcs
  exact hx

/-- The cells of a slice, one behind the other, as a row. -/
theorem Sl.cells {α : Type} {r : Rep α} {w : World} {F : Nat → Prop} {v : Value} {l : List α} (hv : Sl r w F v l) : ∃ cs, Row F w v l.length r.size cs ∧ (∀ i x, l[i]? = some x → r.cells w F x ((cs.drop (i * r.size)).take r.size)) := by
  obtain ⟨A, c, rfl, hl, hc, h⟩ := hv
  rcases h with rfl | ⟨b, off, rfl, hF, hb, he⟩
  · have : l = [] := List.eq_nil_of_length_eq_zero (by omega)
    subst this
    exact ⟨[], ⟨A, 0, rfl, by simp, by simp, hc, .inl rfl⟩, by simp⟩
  · have key : ∀ n, n ≤ l.length → ∃ cs : List Value, cs.length = n * r.size ∧ (∀ j u, cs[j]? = some u → w.cell? ⟨b, off + j, none⟩ = some u) ∧ (∀ i x, i < n → l[i]? = some x → r.cells w F x ((cs.drop (i * r.size)).take r.size)) := by
      intro n
      induction n with
      | zero => intro _; exact ⟨[], by simp, by simp, fun i x hi => by omega⟩
      | succ n ih =>
        intro hn
        obtain ⟨cs, h1, h2, h3⟩ := ih (by omega)
        obtain ⟨d, hd1, hd2⟩ := he n l[n] (List.getElem?_eq_getElem (by omega))
        have hdl := r.len hd1
        refine ⟨cs ++ d, by rw [List.length_append, h1, hdl, Nat.succ_mul], fun j u hu => ?_, fun i x hi hx => ?_⟩
        · rcases Nat.lt_or_ge j cs.length with hj | hj
          · rw [List.getElem?_append_left hj] at hu; exact h2 j u hu
          · rw [List.getElem?_append_right hj] at hu
            have := hd2 _ _ hu
            rw [show off + j = off + n * r.size + (j - cs.length) by omega]
            exact this
        · rcases Nat.lt_or_ge i n with hlt | hge
          · have := h3 i x hlt hx
            have hle : i * r.size + r.size ≤ n * r.size := by rw [← Nat.succ_mul]; exact Nat.mul_le_mul_right _ hlt
            rw [List.drop_append_of_le_length (by omega), List.take_append_of_le_length (by rw [List.length_drop]; omega)]
            exact this
          · obtain rfl : i = n := by omega
            rw [List.getElem?_eq_getElem (by omega), Option.some.injEq] at hx
            subst hx
            rw [List.drop_left' h1, List.take_of_length_le (by omega)]
            exact hd1
    obtain ⟨cs, h1, h2, h3⟩ := key l.length (Nat.le_refl _)
    refine ⟨cs, ⟨_, _, rfl, h1, hl, hc, .inr ⟨b, off, rfl, hF, hb, h2⟩⟩, fun i x hx => h3 i x ?_ hx⟩
    exact (List.getElem?_eq_some_iff.1 hx).1
/-- The other way round: a row whose parts read as the elements. -/
theorem Sl.ofRow {α : Type} {r : Rep α} {w : World} {F : Nat → Prop} {v : Value} {l : List α} {cs : List Value} (h : Row F w v l.length r.size cs) (hc : ∀ i x, l[i]? = some x → r.cells w F x ((cs.drop (i * r.size)).take r.size)) : Sl r w F v l := by
  obtain ⟨A, c, rfl, hl, hn, hm, h⟩ := h
  refine ⟨A, c, rfl, hn, hm, h.imp id ?_⟩
  rintro ⟨b, off, rfl, hF, hb, hcell⟩
  refine ⟨b, off, rfl, hF, hb, fun i x hx => ⟨_, hc i x hx, fun k u hu => ?_⟩⟩
  rw [List.getElem?_take] at hu
  split at hu
  · rw [List.getElem?_drop] at hu
    rw [Nat.add_assoc]
    exact hcell _ _ hu
  · cases hu

/-- Cells of values that hold no aggregate: so are all of the row's. -/
theorem row_one {α : Type} {r : Rep α} {w : World} {F : Nat → Prop} {l : List α} {cs : List Value} (hp : 0 < r.size) (hr : ∀ x d, r.cells w F x d → ∀ u ∈ d, u.oneCell' = true) (hl : cs.length = l.length * r.size)
    (hc : ∀ i x, l[i]? = some x → r.cells w F x ((cs.drop (i * r.size)).take r.size)) : ∀ u ∈ cs, u.oneCell' = true := by
  intro u hu
  obtain ⟨j, hj⟩ := List.getElem?_of_mem hu
  have hjl := (List.getElem?_eq_some_iff.1 hj).1
  have hi : j / r.size < l.length := by rw [Nat.div_lt_iff_lt_mul hp]; omega
  refine hr _ _ (hc (j / r.size) _ (List.getElem?_eq_getElem hi)) u ?_
  have hm := Nat.mod_lt j hp
  have hd : j / r.size * r.size + j % r.size = j := by rw [Nat.mul_comm]; exact Nat.div_add_mod j r.size
  refine List.mem_of_getElem? (i := j % r.size) ?_
  rw [List.getElem?_take, if_pos hm, List.getElem?_drop, hd]
  exact hj
theorem change_one {w : World} {F : Nat → Prop} (x : Change) (d : List Value) (h : Rep.change.cells w F x d) : ∀ u ∈ d, u.oneCell' = true := by
  rw [change_cells h]
  simp [Value.oneCell']

structure Req where
  kind : Int
  name : ByteArray
  session : Int
  seq : Int
  base : Int
  ref : ByteArray
  changes : List Change
  path : ByteArray
  from' : Int
  many : Int
  member : Int
deriving DecidableEq
abbrev reqV (r : Req) (v : Value) : Value := .agg #[.int .i64 r.kind, .string r.name, .int .i64 r.session, .int .i64 r.seq, .int .i64 r.base, .string r.ref, v, .string r.path, .int .i64 r.from', .int .i64 r.many, .int .i64 r.member]
def reqO (r : Req) (v : Value) : Obj := .cells #[.int .i64 r.kind, .string r.name, .int .i64 r.session, .int .i64 r.seq, .int .i64 r.base, .string r.ref, v, .string r.path, .int .i64 r.from', .int .i64 r.many, .int .i64 r.member] 24

section
variable {F : Nat → Prop} {w : World}
-- slices.Clone of changes
set_option maxRecDepth 20000 in
theorem cloneC_calls {v : Value} {l : List Change} (hv : Sl .change w F v l) (hl : l.length ≤ 4294967296) :
    Calls Try.prog 48 #[v] w fun e w' => ∃ v', e = .returned v' ∧ Sl .change w' (NewIn w w') v' l ∧ Keep (fun _ => False) w w' := by
  have T : SlT Try.prog 22 48 (.agg #[.string ByteArray.empty, .bool false, .int .u64 0]) 3 32 := SlT.mk' Try.underlying22 (by kernel_rfl) rfl (by decide)
  obtain ⟨A, c, rfl⟩ := hv.shape
  obtain ⟨cs, hrow, hcs⟩ := hv.cells
  have HCS := hid hcs
  have h1c : ∀ u ∈ cs, u.oneCell' = true := row_one (by decide) change_one (by obtain ⟨_, _, _, h, _⟩ := hrow; exact h) hcs
  have hlen : cs.length = l.length * 3 := by obtain ⟨_, _, _, h, _⟩ := hrow; exact h
  generalize hn : l.length = n at *
  have HN := hid hn
  clear hcs hn
  rcases A with _ | ⟨b, off, p⟩
  · have hnil := fun w => Lib.run_eql_slice_nil (P := Try.prog) w 22 48 none 0 c 0 0 Try.underlying22
    have hl0 : n = 0 := by
      obtain ⟨_, _, he, _, h, _, h0 | ⟨b, off, hA, _⟩⟩ := hrow
      · simp only [Value.slice.injEq] at he; omega
      · simp only [Value.slice.injEq] at he; rw [← he.1] at hA; cases hA
    go_enter Try.func48, Try.ntmps48
    go_wp2_with fail
    refine bodyPost_ret (v := .slice none 0 0) (by simp [results, Try.results48, go_sem]) rfl ?_
    have hnil : l = [] := List.eq_nil_of_length_eq_zero (by rw [HN.out]; exact hl0)
    subst hnil
    exact ⟨_, rfl, ⟨none, 0, rfl, Nat.le_refl _, Nat.zero_le _, .inl rfl⟩, Keep.refl _ _⟩
  · have hnil := fun w => Lib.run_eql_slice_nil (P := Try.prog) w 22 48 (some ⟨b, off, p⟩) n c 0 0 Try.underlying22
    go_enter Try.func48, Try.ntmps48
    have hown : (w.alloc (.cells #[] 48)).ownsRow 0 48 3 (.slice (some ⟨w.heap.size, 0, none⟩) 0 0) 0 [] := ⟨rfl, .inr ⟨w.heap.size, 0, #[], rfl, Nat.zero_le _, heap_alloc_new w _, Nat.le_refl _, Nat.zero_le _, rfl, rfl⟩⟩
    have hrow' : Row F (w.alloc (.cells #[] 48)) (.slice (some ⟨b, off, p⟩) n c) n 3 cs := hrow.keep ((Keep.refl (fun _ => False) w).alloc _) (fun _ _ => id)
    go_wp2_with (at_builtin; refine stopHere ?_)
    refine goOn (wpl_app (v := .slice (some ⟨w.heap.size, 0, none⟩) 0 0) rfl rfl T rfl hown rfl hrow' h1c (by omega) (by omega) ?_)
    intro A1 c1 w1 ho1 hk1 hn1
    have hk : Keep (fun _ => False) w w1 := ((Keep.refl (fun _ => False) w).alloc _).trans hk1 (fun q hq e => by simp only [Value.ownBlock, Option.some.injEq] at e; omega)
    rw [Nat.zero_add, List.nil_append] at ho1
    rw [Nat.zero_add] at hn1
    go_wp2_with fail
    refine bodyPost_ret (v := .slice A1 n c1) (by simp [results, Try.results48, go_sem]) rfl ?_
    refine ⟨_, rfl, Sl.ofRow (cs := cs) ?_ (fun i x hx => HCS.out i x hx), hk⟩
    rw [HN.out]
    refine (Row.ofOwn ho1).mono (fun k hk => ⟨?_, own_lt' ho1 k hk.symm⟩)
    rcases hn1 k hk.symm with q | q
    · simp only [Value.ownBlock, Option.some.injEq] at q; omega
    · simp at q; omega

abbrev changeV (x : Change) : Value := .agg #[.string x.path, .bool x.gone, .int .u64 x.digest]
theorem path_iff (a b : ByteArray) : a.toList = b.toList ↔ a = b := by
  rw [ByteArray.toList_eq, ByteArray.toList_eq]
  cases a; cases b
  simp
set_option maxRecDepth 20000 in
theorem eq_change (x y : Change) (w : World) : (Op.equalIn 10000 48 (changeV x) (changeV y)).run Try.prog w = .ok (decide (x = y)) w := by
  have h0 : Try.prog.stoodInHeld 48 = false := by kernel_rfl
  have h1 := run_equalIn_agg (P := Try.prog) w 9999 48 #[.string x.path, .bool x.gone, .int .u64 x.digest] #[.string y.path, .bool y.gone, .int .u64 y.digest] (by kernel_rfl) h0
  have e1 : ∀ w, (Op.equalIn 9999 9 (.string x.path) (.string y.path)).run Try.prog w = .ok (x.path.toList == y.path.toList) w := fun w => run_equalIn_string w 9998 _ _ _ Try.underlying9
  have e2 : ∀ w, (Op.equalIn 9999 4 (.bool x.gone) (.bool y.gone)).run Try.prog w = .ok (x.gone == y.gone) w := fun w => run_equalIn_bool' w 9998 _ _ _ Try.underlying4
  have e3 : ∀ w, (Op.equalIn 9999 27 (.int .u64 x.digest) (.int .u64 y.digest)).run Try.prog w = .ok ((x.digest : Int) == (y.digest : Int)) w := fun w => run_equalIn_int w 9998 _ _ .u64 _ _ Try.underlying27
  rw [h1]
  simp [Program.fieldsOf, Try.underlying48, Op.eqFields, go_sem, e1, e2, e3, path_iff]
  have hxy : (x = y) ↔ (x.path = y.path ∧ x.gone = y.gone ∧ x.digest = y.digest) := by cases x; cases y; simp
  by_cases p1 : x.path = y.path <;> by_cases p2 : x.gone = y.gone <;> by_cases p3 : x.digest = y.digest <;> simp [p1, p2, hxy, show ((x.digest : Int) = y.digest) ↔ x.digest = y.digest from Int.natCast_inj, p3]
theorem neq_change (x y : Change) (w : World) : (binOp .neq 48 (changeV x) (changeV y)).run Try.prog w = .ok (.bool (!decide (x = y))) w := by
  rw [run_neq_struct, eq_change]; rfl
theorem guard_change (op : BinOp) (p q : Operand) (x y : Change) (w : World) : (eqGuard op 48 p q (changeV x) (changeV y)).run Try.prog w = .ok () w := run_eqGuard_agg w op _ _ _ _ _ (by kernel_rfl)
/-- Two changes lists are compared. -/
theorem changes_take {a b : List Change} {k : Nat} (ha : k < a.length) (hb : k < b.length) (h : a.take k = b.take k) (hc : a[k] = b[k]) : a.take (k + 1) = b.take (k + 1) := by
  rw [List.take_succ_eq_append_getElem ha, List.take_succ_eq_append_getElem hb, h, hc]
set_option maxRecDepth 20000 in
set_option maxHeartbeats 800000 in
theorem equalC_calls {F G : Nat → Prop} {v u : Value} {a b : List Change} (hv : Sl .change w F v a) (hu : Sl .change w G u b) :
    Calls Try.prog 88 #[v, u] w fun e w' => e = .returned (.bool (decide (a = b))) ∧ ∃ n, w' = w.drewN n := by
  obtain ⟨A, c, rfl⟩ := hv.shape
  obtain ⟨B, d, rfl⟩ := hu.shape
  have HV := hid hv
  have HU := hid hu
  obtain ⟨n, hn⟩ : ∃ n, n = a.length := ⟨_, rfl⟩
  obtain ⟨m, hm⟩ : ∃ m, m = b.length := ⟨_, rfl⟩
  have hmax : n ≤ 9223372036854775807 := by obtain ⟨_, _, _, h1, h2, _⟩ := hv; unfold maxLen at h2; omega
  rw [← hn, ← hm]
  have HN := hid hn
  have HM := hid hm
  clear hv hu hn hm
  by_cases hnm : n = m
  · have hb0 : ((n : Int) != m) = false := by simp [hnm]
    have HNM := hid hnm
    clear hnm
    go_enter Try.func88, Try.ntmps88
    go_wp2_with fail
    go_loopw [13] (fun i wr => ∃ k : Nat, k ≤ n ∧ i = .int .i64 k ∧ a.take k = b.take k ∧ ∃ q, wr = w.drewN q) (fun i _ => n - (intOf i).toNat)
    case atStart => exact ⟨0, Nat.zero_le _, rfl, rfl, 0, rfl⟩
    case round =>
      obtain ⟨k, hk, rfl, htk, q, rfl⟩ := hrel
      by_cases hlt : k < n
      · have hka : k < a.length := by rw [← HN.out]; exact hlt
        have hkb : k < b.length := by rw [← HM.out, ← HNM.out]; exact hlt
        have hkm : k < m := by rw [← HNM.out]; exact hlt
        obtain ⟨bb, off, rfl, _, c0, c1, c2⟩ := change_at (HN.out ▸ HV.out) (List.getElem?_eq_getElem hka)
        obtain ⟨bb', off', rfl, _, d0, d1, d2⟩ := change_at (HM.out ▸ HU.out) (List.getElem?_eq_getElem hkb)
        have HTK := hid htk
        have hsm1 := change_small HV.out (List.getElem_mem hka)
        have hsm2 := change_small HU.out (List.getElem_mem hkb)
        clear htk
        obtain ⟨x, hx⟩ : ∃ x, x = a[k] := ⟨_, rfl⟩
        obtain ⟨y, hy⟩ : ∃ y, y = b[k] := ⟨_, rfl⟩
        rw [← hx] at c0 c1 c2 hsm1
        rw [← hy] at d0 d1 d2 hsm2
        have HX := hid hx
        have HY := hid hy
        clear hx hy
        have hgd := fun op p q w => guard_change op p q x y w
        by_cases hxy : x = y
        · have heq : ∀ w, (binOp .neq 48 (changeV x) (changeV y)).run Try.prog w = .ok (.bool false) w := fun w => by rw [neq_change, decide_eq_true hxy]; rfl
          have htk1 := changes_take hka hkb HTK.out (HX.out ▸ HY.out ▸ hxy)
          have HTK1 := hid htk1
          clear hxy htk1
          go_wp2_with fail
          go_quiet (fail)
          rename_i nq
          go_wp2_with fail
          exact ⟨⟨k + 1, by omega, by simp, HTK1.out, _, rfl⟩, by simp [intOf]; omega⟩
        · have heq : ∀ w, (binOp .neq 48 (changeV x) (changeV y)).run Try.prog w = .ok (.bool true) w := fun w => by rw [neq_change, decide_eq_false hxy]; rfl
          have hne : a ≠ b := fun e => hxy (by rw [HX.out, HY.out]; simp only [e])
          have HNE := hid hne
          clear hxy hne
          go_wp2_with fail
          go_quiet (fail)
          go_wp2_with fail
          refine bodyPost_ret (v := .bool false) (by simp [results, Try.results88, go_sem]) rfl ?_
          rw [decide_eq_false HNE.out]
          exact ⟨rfl, _, World.drewN_drewN _ _ _⟩
      · go_wp2_with fail
        refine bodyPost_ret (v := .bool true) (by simp [results, Try.results88, go_sem]) rfl ?_
        have hkn : k = n := by omega
        rw [List.take_of_length_le (by rw [← HN.out]; omega), List.take_of_length_le (by rw [← HM.out, ← HNM.out]; omega)] at htk
        rw [decide_eq_true htk]
        exact ⟨rfl, _, rfl⟩
  · have hb0 : ((n : Int) != m) = true := by simp; omega
    have hne : a ≠ b := fun e => hnm (by rw [HN.out, HM.out, e])
    clear hnm
    go_enter Try.func88, Try.ntmps88
    go_wp2_with fail
    refine bodyPost_ret (v := .bool false) (by simp [results, Try.results88, go_sem]) rfl ?_
    rw [decide_eq_false hne]
    exact ⟨rfl, 0, rfl⟩

/-- entry.same -/
theorem sameC_calls {F G : Nat → Prop} {v u : Value} {a b : List Change} (hv : Sl .change w F v a) (hu : Sl .change w G u b) :
    Calls Try.prog 74 #[v, u] w fun e w' => e = .returned (.bool (decide (a = b))) ∧ ∃ n, w' = w.drewN n := by
  go_enter Try.func74, Try.ntmps74
  go_wp2_with fail
  refine (equalC_calls hv hu).mono ?_
  rintro e w1 ⟨rfl, n, rfl⟩
  go_wp2_with fail
  go_ret
  exact ⟨rfl, n, rfl⟩
theorem frozen_at {w : World} {b : Nat} {c : Array Value} {e : TypeId} (h : w.heap[b]? = some (.cells c e)) (o : Nat) : w.frozen? ⟨b, o, none⟩ = false := by
  simp [World.frozen?, h]
abbrev reqZ : Array Value := #[.int .i64 0, .string ByteArray.empty, .int .i64 0, .int .i64 0, .int .i64 0, .string ByteArray.empty, .slice none 0 0, .string ByteArray.empty, .int .i64 0, .int .i64 0, .int .i64 0]
/-- The world in which own clones the changes. -/
abbrev ownW (w : World) (r : Req) (v : Value) : World := (w.alloc (.cells #[.int .i64 r.kind, .string r.name, .int .i64 r.session, .int .i64 r.seq, .int .i64 r.base, .string r.ref, v, .string r.path, .int .i64 r.from', .int .i64 r.many, .int .i64 r.member] 24)).alloc (.cells reqZ 24)
theorem ownW_0 (w : World) (r : Req) (v : Value) : (ownW w r v).heap[w.heap.size]? = some (.cells #[.int .i64 r.kind, .string r.name, .int .i64 r.session, .int .i64 r.seq, .int .i64 r.base, .string r.ref, v, .string r.path, .int .i64 r.from', .int .i64 r.many, .int .i64 r.member] 24) := by
  rw [Below.heap_alloc _ _ _ (by simp)]
  exact heap_alloc_new w _
theorem ownW_1 (w : World) (r : Req) (v : Value) : (ownW w r v).heap[w.heap.size + 1]? = some (.cells reqZ 24) := by
  have := heap_alloc_new (w.alloc (.cells #[.int .i64 r.kind, .string r.name, .int .i64 r.session, .int .i64 r.seq, .int .i64 r.base, .string r.ref, v, .string r.path, .int .i64 r.from', .int .i64 r.many, .int .i64 r.member] 24)) (.cells reqZ 24)
  simpa only [World.size_alloc] using this
-- A request's copy.
set_option maxRecDepth 20000 in
set_option maxHeartbeats 800000 in
theorem own_calls {r : Req} {v : Value} (hv : Sl .change w F v r.changes) (hl : r.changes.length ≤ 4294967296) :
    Calls Try.prog 44 #[reqV r v] w fun e w' => ∃ v', e = .returned (reqV r v') ∧ Sl .change w' (NewIn w w') v' r.changes ∧ Keep (fun _ => False) w w' := by
  obtain ⟨A, c, rfl⟩ := hv.shape
  go_enter Try.func44, Try.ntmps44
  go_wp2_with fail
  have hk0 : Keep (fun _ => False) w (ownW w r (.slice A r.changes.length c)) := ((Keep.refl _ w).alloc _).alloc _
  refine (cloneC_calls (w := ownW w r (.slice A r.changes.length c)) (hv.keep hk0 (fun _ _ => id)) hl).mono ?_
  rintro e w1 ⟨v1, rfl, hs1, hk1⟩
  obtain ⟨A1, c1, rfl⟩ := hs1.shape
  have hb0 := hk1.heap (ownW_0 w r (.slice A r.changes.length c)) id
  have hb1 := hk1.heap (ownW_1 w r (.slice A r.changes.length c)) id
  have hsz := hk1.size
  have hf0 := frozen_at hb0
  have hf1 := frozen_at hb1
  have q0 := cell_at hb0 0 (.int .i64 r.kind) rfl
  have q1 := cell_at hb0 1 (.string r.name) rfl
  have q2 := cell_at hb0 2 (.int .i64 r.session) rfl
  have q3 := cell_at hb0 3 (.int .i64 r.seq) rfl
  have q4 := cell_at hb0 4 (.int .i64 r.base) rfl
  have q5 := cell_at hb0 5 (.string r.ref) rfl
  have q6 := cell_at hb0 6 (.slice A r.changes.length c) rfl
  have q7 := cell_at hb0 7 (.string r.path) rfl
  have q8 := cell_at hb0 8 (.int .i64 r.from') rfl
  have q9 := cell_at hb0 9 (.int .i64 r.many) rfl
  have q10 := cell_at hb0 10 (.int .i64 r.member) rfl
  have z0 := cell_at hb1 0 (.int .i64 0) rfl
  have z1 := cell_at hb1 1 (.string ByteArray.empty) rfl
  have z2 := cell_at hb1 2 (.int .i64 0) rfl
  have z3 := cell_at hb1 3 (.int .i64 0) rfl
  have z4 := cell_at hb1 4 (.int .i64 0) rfl
  have z5 := cell_at hb1 5 (.string ByteArray.empty) rfl
  have z6 := cell_at hb1 6 (.slice none 0 0) rfl
  have z7 := cell_at hb1 7 (.string ByteArray.empty) rfl
  have z8 := cell_at hb1 8 (.int .i64 0) rfl
  have z9 := cell_at hb1 9 (.int .i64 0) rfl
  have z10 := cell_at hb1 10 (.int .i64 0) rfl
  have HS := hid hs1
  clear hs1 hb0 hb1
  go_wp2_with fail
  refine bodyPost_ret (v := reqV r (.slice A1 r.changes.length c1)) (by simp [results, Try.results44, go_sem, z0, z1, z2, z3, z4, z5, z6, z7, z8, z9, z10]) rfl ?_
  simp only [World.size_alloc] at hsz
  refine ⟨_, rfl, (HS.out.keep (S := fun b => b = w.heap.size ∨ b = w.heap.size + 1) ?_ ?_).mono ?_, (((hk0.trans hk1 (fun _ _ q => q)).mono (T := fun b => b = w.heap.size ∨ b = w.heap.size + 1) (fun _ _ q => q.elim)).trans (T := fun b => b = w.heap.size ∨ b = w.heap.size + 1) ?_ (fun _ _ q => q)).mono (fun b hb q => by omega)⟩
  · iterate 11 refine Keep.setCell ?_ _ _ (fun _ => Or.inr rfl)
    exact (Keep.refl _ _).setCell _ _ (fun _ => .inl rfl)
  · intro k hk q
    have := hk.1
    simp only [World.size_alloc] at this
    omega
  · intro k hk
    have h1 := hk.1
    have h2 := hk.2
    simp only [World.size_alloc] at h1
    exact ⟨by omega, by simpa using h2⟩
  · iterate 11 refine Keep.setCell ?_ _ _ (fun _ => Or.inr rfl)
    exact (Keep.refl _ _).setCell _ _ (fun _ => .inl rfl)
end
end Go.Proofs.Ytofljidmdabkcaa
