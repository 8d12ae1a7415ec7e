/- Requests: how they read; their copies, whether two are the same. Requests, votes, commits, verdicts, messages: how they read. Blocks that are known whole: loads, stores, new blocks; the world behind is abstract. Rows that are gathered by append: each element's cells, what they point to in blocks of their own. Parts of slices: xs[:j], xs[i:], as arms of a walk, and the rows that they are. No function of the program is named here. Regions that draw their order, whose callees lay new blocks and answer plain values: walked once, in the order of the text. -/
import Derived.Test.YtnekfonnceknoaaBa
import Derived.Test.YtnekfonnceknoaaProg
import Derived.Deep.QuietTactic
import Derived.BigQuiet
import Derived.Lib.LazyBuf
import Derived.Laws.StructEq
import Derived.Deep.MidRow
namespace Go.Proofs.Ytnekfonnceknoaa
open Go.RowKit

structure Change where
  path : ByteArray
  gone : Bool
  digest : Nat
deriving DecidableEq
def Rep.change : Rep Change := (Rep.pair .str (.pair .bool .u64)).as fun t => (t.path, t.gone, t.digest)
theorem change_cells {w : World} {F : Nat → Prop} {t : Change} {cs : List Value} (h : Rep.change.cells w F t cs) : cs = [.string t.path, .bool t.gone, .int .u64 t.digest] := by
  obtain ⟨_, _, rfl, rfl, _, _, rfl, rfl, ⟨rfl, _⟩⟩ := h
  rfl
theorem change_at {w : World} {F : Nat → Prop} {A : Option Addr} {n c : Nat} {l : List Change} (h : Sl .change w F (.slice A n c) l) {i : Nat} {t : Change} (ht : l[i]? = some t) :
    ∃ b off, A = some ⟨b, off, none⟩ ∧ F b ∧ w.cell? ⟨b, off + i * 3, none⟩ = some (.string t.path) ∧ w.cell? ⟨b, off + i * 3 + 1, none⟩ = some (.bool t.gone) ∧ w.cell? ⟨b, off + i * 3 + 2, none⟩ = some (.int .u64 t.digest) := by
  obtain ⟨b, off, hA, hF, cs, hcs, hcell⟩ := h.elem ht
  have := change_cells hcs
  subst this
  exact ⟨b, off, hA, hF, hcell 0 _ rfl, hcell 1 _ rfl, hcell 2 _ rfl⟩
theorem change_small {w : World} {F : Nat → Prop} {v : Value} {l : List Change} (h : Sl .change w F v l) {t : Change} (ht : t ∈ l) : t.digest ≤ 18446744073709551615 := by
  obtain ⟨i, hi⟩ := List.getElem?_of_mem ht
  obtain ⟨A, c, rfl⟩ := h.shape
  obtain ⟨b, off, _, _, cs, hcs, _⟩ := h.elem hi
  obtain ⟨_, _, rfl, rfl, _, _, rfl, rfl, ⟨rfl, hx⟩⟩ := hcs
  exact hx

/-- The cells of a slice, one behind the other, as a row. -/
theorem Sl.cells {α : Type} {r : Rep α} {w : World} {F : Nat → Prop} {v : Value} {l : List α} (hv : Sl r w F v l) : ∃ cs, Row F w v l.length r.size cs ∧ (∀ i x, l[i]? = some x → r.cells w F x ((cs.drop (i * r.size)).take r.size)) := by
  obtain ⟨A, c, rfl, hl, hc, h⟩ := hv
  rcases h with rfl | ⟨b, off, rfl, hF, hb, he⟩
  · have : l = [] := List.eq_nil_of_length_eq_zero (by omega)
    subst this
    exact ⟨[], ⟨A, 0, rfl, by simp, by simp, hc, .inl rfl⟩, by simp⟩
  · have key : ∀ n, n ≤ l.length → ∃ cs : List Value, cs.length = n * r.size ∧ (∀ j u, cs[j]? = some u → w.cell? ⟨b, off + j, none⟩ = some u) ∧ (∀ i x, i < n → l[i]? = some x → r.cells w F x ((cs.drop (i * r.size)).take r.size)) := by
      intro n
      induction n with
      | zero => intro _; exact ⟨[], by simp, by simp, fun i x hi => by omega⟩
      | succ n ih =>
        intro hn
        obtain ⟨cs, h1, h2, h3⟩ := ih (by omega)
        obtain ⟨d, hd1, hd2⟩ := he n l[n] (List.getElem?_eq_getElem (by omega))
        have hdl := r.len hd1
        refine ⟨cs ++ d, by rw [List.length_append, h1, hdl, Nat.succ_mul], fun j u hu => ?_, fun i x hi hx => ?_⟩
        · rcases Nat.lt_or_ge j cs.length with hj | hj
          · rw [List.getElem?_append_left hj] at hu; exact h2 j u hu
          · rw [List.getElem?_append_right hj] at hu
            have := hd2 _ _ hu
            rw [show off + j = off + n * r.size + (j - cs.length) by omega]
            exact this
        · rcases Nat.lt_or_ge i n with hlt | hge
          · have := h3 i x hlt hx
            have hle : i * r.size + r.size ≤ n * r.size := by rw [← Nat.succ_mul]; exact Nat.mul_le_mul_right _ hlt
            rw [List.drop_append_of_le_length (by omega), List.take_append_of_le_length (by rw [List.length_drop]; omega)]
            exact this
          · obtain rfl : i = n := by omega
            rw [List.getElem?_eq_getElem (by omega), Option.some.injEq] at hx
            subst hx
            rw [List.drop_left' h1, List.take_of_length_le (by omega)]
            exact hd1
    obtain ⟨cs, h1, h2, h3⟩ := key l.length (Nat.le_refl _)
    refine ⟨cs, ⟨_, _, rfl, h1, hl, hc, .inr ⟨b, off, rfl, hF, hb, h2⟩⟩, fun i x hx => h3 i x ?_ hx⟩
    exact (List.getElem?_eq_some_iff.1 hx).1
/-- The other way round: a row whose parts read as the elements. -/
theorem Sl.ofRow {α : Type} {r : Rep α} {w : World} {F : Nat → Prop} {v : Value} {l : List α} {cs : List Value} (h : Row F w v l.length r.size cs) (hc : ∀ i x, l[i]? = some x → r.cells w F x ((cs.drop (i * r.size)).take r.size)) : Sl r w F v l := by
  obtain ⟨A, c, rfl, hl, hn, hm, h⟩ := h
  refine ⟨A, c, rfl, hn, hm, h.imp id ?_⟩
  rintro ⟨b, off, rfl, hF, hb, hcell⟩
  refine ⟨b, off, rfl, hF, hb, fun i x hx => ⟨_, hc i x hx, fun k u hu => ?_⟩⟩
  rw [List.getElem?_take] at hu
  split at hu
  · rw [List.getElem?_drop] at hu
    rw [Nat.add_assoc]
    exact hcell _ _ hu
  · cases hu

/-- Cells of values that hold no aggregate: so are all of the row's. -/
theorem row_one {α : Type} {r : Rep α} {w : World} {F : Nat → Prop} {l : List α} {cs : List Value} (hp : 0 < r.size) (hr : ∀ x d, r.cells w F x d → ∀ u ∈ d, u.oneCell' = true) (hl : cs.length = l.length * r.size)
    (hc : ∀ i x, l[i]? = some x → r.cells w F x ((cs.drop (i * r.size)).take r.size)) : ∀ u ∈ cs, u.oneCell' = true := by
  intro u hu
  obtain ⟨j, hj⟩ := List.getElem?_of_mem hu
  have hjl := (List.getElem?_eq_some_iff.1 hj).1
  have hi : j / r.size < l.length := by rw [Nat.div_lt_iff_lt_mul hp]; omega
  refine hr _ _ (hc (j / r.size) _ (List.getElem?_eq_getElem hi)) u ?_
  have hm := Nat.mod_lt j hp
  have hd : j / r.size * r.size + j % r.size = j := by rw [Nat.mul_comm]; exact Nat.div_add_mod j r.size
  refine List.mem_of_getElem? (i := j % r.size) ?_
  rw [List.getElem?_take, if_pos hm, List.getElem?_drop, hd]
  exact hj
theorem change_one {w : World} {F : Nat → Prop} (x : Change) (d : List Value) (h : Rep.change.cells w F x d) : ∀ u ∈ d, u.oneCell' = true := by
  rw [change_cells h]
  simp [Value.oneCell']

structure Req where
  kind : Int
  name : ByteArray
  session : Int
  seq : Int
  base : Int
  ref : ByteArray
  changes : List Change
  path : ByteArray
  from' : Int
  many : Int
  member : Int
deriving DecidableEq
abbrev reqV (r : Req) (v : Value) : Value := .agg #[.int .i64 r.kind, .string r.name, .int .i64 r.session, .int .i64 r.seq, .int .i64 r.base, .string r.ref, v, .string r.path, .int .i64 r.from', .int .i64 r.many, .int .i64 r.member]
def reqO (r : Req) (v : Value) : Obj := .cells #[.int .i64 r.kind, .string r.name, .int .i64 r.session, .int .i64 r.seq, .int .i64 r.base, .string r.ref, v, .string r.path, .int .i64 r.from', .int .i64 r.many, .int .i64 r.member] 29

section
variable {F : Nat → Prop} {w : World}
-- slices.Clone of changes
set_option maxRecDepth 20000 in
theorem cloneC_calls {v : Value} {l : List Change} (hv : Sl .change w F v l) (hl : l.length ≤ 4294967296) :
    Calls Try.prog 31 #[v] w fun e w' => ∃ v', e = .returned v' ∧ Sl .change w' (NewIn w w') v' l ∧ Keep (fun _ => False) w w' := by
  have T : SlT Try.prog 27 72 (.agg #[.string ByteArray.empty, .bool false, .int .u64 0]) 3 32 := SlT.mk' Try.underlying27 (by kernel_rfl) rfl (by decide)
  obtain ⟨A, c, rfl⟩ := hv.shape
  obtain ⟨cs, hrow, hcs⟩ := hv.cells
  have HCS := hid hcs
  have h1c : ∀ u ∈ cs, u.oneCell' = true := row_one (by decide) change_one (by obtain ⟨_, _, _, h, _⟩ := hrow; exact h) hcs
  have hlen : cs.length = l.length * 3 := by obtain ⟨_, _, _, h, _⟩ := hrow; exact h
  generalize hn : l.length = n at *
  have HN := hid hn
  clear hcs hn
  rcases A with _ | ⟨b, off, p⟩
  · have hnil := fun w => Lib.run_eql_slice_nil (P := Try.prog) w 27 72 none 0 c 0 0 Try.underlying27
    have hl0 : n = 0 := by
      obtain ⟨_, _, he, _, h, _, h0 | ⟨b, off, hA, _⟩⟩ := hrow
      · simp only [Value.slice.injEq] at he; omega
      · simp only [Value.slice.injEq] at he; rw [← he.1] at hA; cases hA
    go_enter Try.func31, Try.ntmps31
    go_wp2_with fail
    refine bodyPost_ret (v := .slice none 0 0) (by simp [results, Try.results31, go_sem]) rfl ?_
    have hnil : l = [] := List.eq_nil_of_length_eq_zero (by rw [HN.out]; exact hl0)
    subst hnil
    exact ⟨_, rfl, ⟨none, 0, rfl, Nat.le_refl _, Nat.zero_le _, .inl rfl⟩, Keep.refl _ _⟩
  · have hnil := fun w => Lib.run_eql_slice_nil (P := Try.prog) w 27 72 (some ⟨b, off, p⟩) n c 0 0 Try.underlying27
    go_enter Try.func31, Try.ntmps31
    have hown : (w.alloc (.cells #[] 72)).ownsRow 0 72 3 (.slice (some ⟨w.heap.size, 0, none⟩) 0 0) 0 [] := ⟨rfl, .inr ⟨w.heap.size, 0, #[], rfl, Nat.zero_le _, heap_alloc_new w _, Nat.le_refl _, Nat.zero_le _, rfl, rfl⟩⟩
    have hrow' : Row F (w.alloc (.cells #[] 72)) (.slice (some ⟨b, off, p⟩) n c) n 3 cs := hrow.keep ((Keep.refl (fun _ => False) w).alloc _) (fun _ _ => id)
    go_wp2_with (at_builtin; refine stopHere ?_)
    refine goOn (wpl_app (v := .slice (some ⟨w.heap.size, 0, none⟩) 0 0) rfl rfl T rfl hown rfl hrow' h1c (by omega) (by omega) ?_)
    intro A1 c1 w1 ho1 hk1 hn1
    have hk : Keep (fun _ => False) w w1 := ((Keep.refl (fun _ => False) w).alloc _).trans hk1 (fun q hq e => by simp only [Value.ownBlock, Option.some.injEq] at e; omega)
    rw [Nat.zero_add, List.nil_append] at ho1
    rw [Nat.zero_add] at hn1
    go_wp2_with fail
    refine bodyPost_ret (v := .slice A1 n c1) (by simp [results, Try.results31, go_sem]) rfl ?_
    refine ⟨_, rfl, Sl.ofRow (cs := cs) ?_ (fun i x hx => HCS.out i x hx), hk⟩
    rw [HN.out]
    refine (Row.ofOwn ho1).mono (fun k hk => ⟨?_, own_lt' ho1 k hk.symm⟩)
    rcases hn1 k hk.symm with q | q
    · simp only [Value.ownBlock, Option.some.injEq] at q; omega
    · simp at q; omega

abbrev changeV (x : Change) : Value := .agg #[.string x.path, .bool x.gone, .int .u64 x.digest]
theorem path_iff (a b : ByteArray) : a.toList = b.toList ↔ a = b := by
  rw [ByteArray.toList_eq, ByteArray.toList_eq]
  cases a; cases b
  simp
set_option maxRecDepth 20000 in
theorem eq_change (x y : Change) (w : World) : (Op.equalIn 10000 72 (changeV x) (changeV y)).run Try.prog w = .ok (decide (x = y)) w := by
  have h0 : Try.prog.stoodInHeld 72 = false := by kernel_rfl
  have h1 := run_equalIn_agg (P := Try.prog) w 9999 72 #[.string x.path, .bool x.gone, .int .u64 x.digest] #[.string y.path, .bool y.gone, .int .u64 y.digest] (by kernel_rfl) h0
  have e1 : ∀ w, (Op.equalIn 9999 9 (.string x.path) (.string y.path)).run Try.prog w = .ok (x.path.toList == y.path.toList) w := fun w => run_equalIn_string w 9998 _ _ _ Try.underlying9
  have e2 : ∀ w, (Op.equalIn 9999 4 (.bool x.gone) (.bool y.gone)).run Try.prog w = .ok (x.gone == y.gone) w := fun w => run_equalIn_bool' w 9998 _ _ _ Try.underlying4
  have e3 : ∀ w, (Op.equalIn 9999 32 (.int .u64 x.digest) (.int .u64 y.digest)).run Try.prog w = .ok ((x.digest : Int) == (y.digest : Int)) w := fun w => run_equalIn_int w 9998 _ _ .u64 _ _ Try.underlying32
  rw [h1]
  simp [Program.fieldsOf, Try.underlying72, Op.eqFields, go_sem, e1, e2, e3, path_iff]
  have hxy : (x = y) ↔ (x.path = y.path ∧ x.gone = y.gone ∧ x.digest = y.digest) := by cases x; cases y; simp
  by_cases p1 : x.path = y.path <;> by_cases p2 : x.gone = y.gone <;> by_cases p3 : x.digest = y.digest <;> simp [p1, p2, hxy, show ((x.digest : Int) = y.digest) ↔ x.digest = y.digest from Int.natCast_inj, p3]
theorem neq_change (x y : Change) (w : World) : (binOp .neq 72 (changeV x) (changeV y)).run Try.prog w = .ok (.bool (!decide (x = y))) w := by
  rw [run_neq_struct, eq_change]; rfl
theorem guard_change (op : BinOp) (p q : Operand) (x y : Change) (w : World) : (eqGuard op 72 p q (changeV x) (changeV y)).run Try.prog w = .ok () w := run_eqGuard_agg w op _ _ _ _ _ (by kernel_rfl)
/-- Two changes lists are compared. -/
theorem changes_take {a b : List Change} {k : Nat} (ha : k < a.length) (hb : k < b.length) (h : a.take k = b.take k) (hc : a[k] = b[k]) : a.take (k + 1) = b.take (k + 1) := by
  rw [List.take_succ_eq_append_getElem ha, List.take_succ_eq_append_getElem hb, h, hc]
set_option maxRecDepth 20000 in
set_option maxHeartbeats 800000 in
theorem equalC_calls {F G : Nat → Prop} {v u : Value} {a b : List Change} (hv : Sl .change w F v a) (hu : Sl .change w G u b) :
    Calls Try.prog 90 #[v, u] w fun e w' => e = .returned (.bool (decide (a = b))) ∧ ∃ n, w' = w.drewN n := by
  obtain ⟨A, c, rfl⟩ := hv.shape
  obtain ⟨B, d, rfl⟩ := hu.shape
  have HV := hid hv
  have HU := hid hu
  obtain ⟨n, hn⟩ : ∃ n, n = a.length := ⟨_, rfl⟩
  obtain ⟨m, hm⟩ : ∃ m, m = b.length := ⟨_, rfl⟩
  have hmax : n ≤ 9223372036854775807 := by obtain ⟨_, _, _, h1, h2, _⟩ := hv; unfold maxLen at h2; omega
  rw [← hn, ← hm]
  have HN := hid hn
  have HM := hid hm
  clear hv hu hn hm
  by_cases hnm : n = m
  · have hb0 : ((n : Int) != m) = false := by simp [hnm]
    have HNM := hid hnm
    clear hnm
    go_enter Try.func90, Try.ntmps90
    go_wp2_with fail
    go_loopw [13] (fun i wr => ∃ k : Nat, k ≤ n ∧ i = .int .i64 k ∧ a.take k = b.take k ∧ ∃ q, wr = w.drewN q) (fun i _ => n - (intOf i).toNat)
    case atStart => exact ⟨0, Nat.zero_le _, rfl, rfl, 0, rfl⟩
    case round =>
      obtain ⟨k, hk, rfl, htk, q, rfl⟩ := hrel
      by_cases hlt : k < n
      · have hka : k < a.length := by rw [← HN.out]; exact hlt
        have hkb : k < b.length := by rw [← HM.out, ← HNM.out]; exact hlt
        have hkm : k < m := by rw [← HNM.out]; exact hlt
        obtain ⟨bb, off, rfl, _, c0, c1, c2⟩ := change_at (HN.out ▸ HV.out) (List.getElem?_eq_getElem hka)
        obtain ⟨bb', off', rfl, _, d0, d1, d2⟩ := change_at (HM.out ▸ HU.out) (List.getElem?_eq_getElem hkb)
        have HTK := hid htk
        have hsm1 := change_small HV.out (List.getElem_mem hka)
        have hsm2 := change_small HU.out (List.getElem_mem hkb)
        clear htk
        obtain ⟨x, hx⟩ : ∃ x, x = a[k] := ⟨_, rfl⟩
        obtain ⟨y, hy⟩ : ∃ y, y = b[k] := ⟨_, rfl⟩
        rw [← hx] at c0 c1 c2 hsm1
        rw [← hy] at d0 d1 d2 hsm2
        have HX := hid hx
        have HY := hid hy
        clear hx hy
        have hgd := fun op p q w => guard_change op p q x y w
        by_cases hxy : x = y
        · have heq : ∀ w, (binOp .neq 72 (changeV x) (changeV y)).run Try.prog w = .ok (.bool false) w := fun w => by rw [neq_change, decide_eq_true hxy]; rfl
          have htk1 := changes_take hka hkb HTK.out (HX.out ▸ HY.out ▸ hxy)
          have HTK1 := hid htk1
          clear hxy htk1
          go_wp2_with fail
          go_quiet (fail)
          rename_i nq
          go_wp2_with fail
          exact ⟨⟨k + 1, by omega, by simp, HTK1.out, _, rfl⟩, by simp [intOf]; omega⟩
        · have heq : ∀ w, (binOp .neq 72 (changeV x) (changeV y)).run Try.prog w = .ok (.bool true) w := fun w => by rw [neq_change, decide_eq_false hxy]; rfl
          have hne : a ≠ b := fun e => hxy (by rw [HX.out, HY.out]; simp only [e])
          have HNE := hid hne
          clear hxy hne
          go_wp2_with fail
          go_quiet (fail)
          go_wp2_with fail
          refine bodyPost_ret (v := .bool false) (by simp [results, Try.results90, go_sem]) rfl ?_
          rw [decide_eq_false HNE.out]
          exact ⟨rfl, _, World.drewN_drewN _ _ _⟩
      · go_wp2_with fail
        refine bodyPost_ret (v := .bool true) (by simp [results, Try.results90, go_sem]) rfl ?_
        have hkn : k = n := by omega
        rw [List.take_of_length_le (by rw [← HN.out]; omega), List.take_of_length_le (by rw [← HM.out, ← HNM.out]; omega)] at htk
        rw [decide_eq_true htk]
        exact ⟨rfl, _, rfl⟩
  · have hb0 : ((n : Int) != m) = true := by simp; omega
    have hne : a ≠ b := fun e => hnm (by rw [HN.out, HM.out, e])
    clear hnm
    go_enter Try.func90, Try.ntmps90
    go_wp2_with fail
    refine bodyPost_ret (v := .bool false) (by simp [results, Try.results90, go_sem]) rfl ?_
    rw [decide_eq_false hne]
    exact ⟨rfl, 0, rfl⟩

/-- entry.same -/
theorem sameC_calls {F G : Nat → Prop} {v u : Value} {a b : List Change} (hv : Sl .change w F v a) (hu : Sl .change w G u b) :
    Calls Try.prog 85 #[v, u] w fun e w' => e = .returned (.bool (decide (a = b))) ∧ ∃ n, w' = w.drewN n := by
  go_enter Try.func85, Try.ntmps85
  go_wp2_with fail
  refine (equalC_calls hv hu).mono ?_
  rintro e w1 ⟨rfl, n, rfl⟩
  go_wp2_with fail
  go_ret
  exact ⟨rfl, n, rfl⟩
theorem frozen_at {w : World} {b : Nat} {c : Array Value} {e : TypeId} (h : w.heap[b]? = some (.cells c e)) (o : Nat) : w.frozen? ⟨b, o, none⟩ = false := by
  simp [World.frozen?, h]
abbrev reqZ : Array Value := #[.int .i64 0, .string ByteArray.empty, .int .i64 0, .int .i64 0, .int .i64 0, .string ByteArray.empty, .slice none 0 0, .string ByteArray.empty, .int .i64 0, .int .i64 0, .int .i64 0]
/-- The world in which own clones the changes. -/
abbrev ownW (w : World) (r : Req) (v : Value) : World := (w.alloc (.cells #[.int .i64 r.kind, .string r.name, .int .i64 r.session, .int .i64 r.seq, .int .i64 r.base, .string r.ref, v, .string r.path, .int .i64 r.from', .int .i64 r.many, .int .i64 r.member] 29)).alloc (.cells reqZ 29)
theorem ownW_0 (w : World) (r : Req) (v : Value) : (ownW w r v).heap[w.heap.size]? = some (.cells #[.int .i64 r.kind, .string r.name, .int .i64 r.session, .int .i64 r.seq, .int .i64 r.base, .string r.ref, v, .string r.path, .int .i64 r.from', .int .i64 r.many, .int .i64 r.member] 29) := by
  rw [Below.heap_alloc _ _ _ (by simp)]
  exact heap_alloc_new w _
theorem ownW_1 (w : World) (r : Req) (v : Value) : (ownW w r v).heap[w.heap.size + 1]? = some (.cells reqZ 29) := by
  have := heap_alloc_new (w.alloc (.cells #[.int .i64 r.kind, .string r.name, .int .i64 r.session, .int .i64 r.seq, .int .i64 r.base, .string r.ref, v, .string r.path, .int .i64 r.from', .int .i64 r.many, .int .i64 r.member] 29)) (.cells reqZ 29)
  simpa only [World.size_alloc] using this
-- A request's copy.
set_option maxRecDepth 20000 in
set_option maxHeartbeats 800000 in
theorem own_calls {r : Req} {v : Value} (hv : Sl .change w F v r.changes) (hl : r.changes.length ≤ 4294967296) :
    Calls Try.prog 32 #[reqV r v] w fun e w' => ∃ v', e = .returned (reqV r v') ∧ Sl .change w' (NewIn w w') v' r.changes ∧ Keep (fun _ => False) w w' := by
  obtain ⟨A, c, rfl⟩ := hv.shape
  go_enter Try.func32, Try.ntmps32
  go_wp2_with fail
  have hk0 : Keep (fun _ => False) w (ownW w r (.slice A r.changes.length c)) := ((Keep.refl _ w).alloc _).alloc _
  refine (cloneC_calls (w := ownW w r (.slice A r.changes.length c)) (hv.keep hk0 (fun _ _ => id)) hl).mono ?_
  rintro e w1 ⟨v1, rfl, hs1, hk1⟩
  obtain ⟨A1, c1, rfl⟩ := hs1.shape
  have hb0 := hk1.heap (ownW_0 w r (.slice A r.changes.length c)) id
  have hb1 := hk1.heap (ownW_1 w r (.slice A r.changes.length c)) id
  have hsz := hk1.size
  have hf0 := frozen_at hb0
  have hf1 := frozen_at hb1
  have q0 := cell_at hb0 0 (.int .i64 r.kind) rfl
  have q1 := cell_at hb0 1 (.string r.name) rfl
  have q2 := cell_at hb0 2 (.int .i64 r.session) rfl
  have q3 := cell_at hb0 3 (.int .i64 r.seq) rfl
  have q4 := cell_at hb0 4 (.int .i64 r.base) rfl
  have q5 := cell_at hb0 5 (.string r.ref) rfl
  have q6 := cell_at hb0 6 (.slice A r.changes.length c) rfl
  have q7 := cell_at hb0 7 (.string r.path) rfl
  have q8 := cell_at hb0 8 (.int .i64 r.from') rfl
  have q9 := cell_at hb0 9 (.int .i64 r.many) rfl
  have q10 := cell_at hb0 10 (.int .i64 r.member) rfl
  have z0 := cell_at hb1 0 (.int .i64 0) rfl
  have z1 := cell_at hb1 1 (.string ByteArray.empty) rfl
  have z2 := cell_at hb1 2 (.int .i64 0) rfl
  have z3 := cell_at hb1 3 (.int .i64 0) rfl
  have z4 := cell_at hb1 4 (.int .i64 0) rfl
  have z5 := cell_at hb1 5 (.string ByteArray.empty) rfl
  have z6 := cell_at hb1 6 (.slice none 0 0) rfl
  have z7 := cell_at hb1 7 (.string ByteArray.empty) rfl
  have z8 := cell_at hb1 8 (.int .i64 0) rfl
  have z9 := cell_at hb1 9 (.int .i64 0) rfl
  have z10 := cell_at hb1 10 (.int .i64 0) rfl
  have HS := hid hs1
  clear hs1 hb0 hb1
  go_wp2_with fail
  refine bodyPost_ret (v := reqV r (.slice A1 r.changes.length c1)) (by simp [results, Try.results32, go_sem, z0, z1, z2, z3, z4, z5, z6, z7, z8, z9, z10]) rfl ?_
  simp only [World.size_alloc] at hsz
  refine ⟨_, rfl, (HS.out.keep (S := fun b => b = w.heap.size ∨ b = w.heap.size + 1) ?_ ?_).mono ?_, (((hk0.trans hk1 (fun _ _ q => q)).mono (T := fun b => b = w.heap.size ∨ b = w.heap.size + 1) (fun _ _ q => q.elim)).trans (T := fun b => b = w.heap.size ∨ b = w.heap.size + 1) ?_ (fun _ _ q => q)).mono (fun b hb q => by omega)⟩
  · iterate 11 refine Keep.setCell ?_ _ _ (fun _ => Or.inr rfl)
    exact (Keep.refl _ _).setCell _ _ (fun _ => .inl rfl)
  · intro k hk q
    have := hk.1
    simp only [World.size_alloc] at this
    omega
  · intro k hk
    have h1 := hk.1
    have h2 := hk.2
    simp only [World.size_alloc] at h1
    exact ⟨by omega, by simpa using h2⟩
  · iterate 11 refine Keep.setCell ?_ _ _ (fun _ => Or.inr rfl)
    exact (Keep.refl _ _).setCell _ _ (fun _ => .inl rfl)
end
end Go.Proofs.Ytnekfonnceknoaa
namespace Go.Proofs.Ytnekfonnceknoaa
open Go.RowKit

/-- A number of 64 bits. -/
def okI (n : Int) : Prop := -9223372036854775808 ≤ n ∧ n ≤ 9223372036854775807
theorem okI.wf {n : Int} (h : okI n) : (Lit.int .i64 n).wf = true := by
  obtain ⟨h1, h2⟩ := h
  simp [Lit.wf, IntKind.min, IntKind.max, IntKind.signed, IntKind.bits]; omega
structure Vote where
  slot : Int
  ballot : Int
  value : Req
structure Commit where
  rev : Int
  base : Int
  ref : ByteArray
  changes : List Change
deriving DecidableEq
structure Verdict where
  code : Int
  session : Int
  rev : Int
  path : ByteArray
  digest : Nat
  commits : List Commit
  member : Int
deriving DecidableEq
structure Msg where
  kind : Int
  from' : Int
  to : Int
  ballot : Int
  slot : Int
  time : Int
  value : Req
  votes : List Vote
  image : List UInt8
  number : Int
  verdict : Verdict
def Rep.req : Rep Req := (Rep.pair .int (.pair .str (.pair .int (.pair .int (.pair .int (.pair .str (.pair Rep.change.slice (.pair .str (.pair .int (.pair .int .int)))))))))).as fun r => (r.kind, r.name, r.session, r.seq, r.base, r.ref, r.changes, r.path, r.from', r.many, r.member)
def Rep.vote : Rep Vote := (Rep.pair .int (.pair .int .req)).as fun v => (v.slot, v.ballot, v.value)
def Rep.commit : Rep Commit := (Rep.pair .int (.pair .int (.pair .str Rep.change.slice))).as fun c => (c.rev, c.base, c.ref, c.changes)
def Rep.verdict : Rep Verdict := (Rep.pair .int (.pair .int (.pair .int (.pair .str (.pair .u64 (.pair Rep.commit.slice .int)))))).as fun v => (v.code, v.session, v.rev, v.path, v.digest, v.commits, v.member)
def Rep.msg : Rep Msg := (Rep.pair .int (.pair .int (.pair .int (.pair .int (.pair .int (.pair .int (.pair .req (.pair Rep.vote.slice (.pair (Rep.slice .u8) (.pair .int .verdict)))))))))).as fun m => (m.kind, m.from', m.to, m.ballot, m.slot, m.time, m.value, m.votes, m.image, m.number, m.verdict)

def reqCs (r : Req) (v : Value) : List Value := [.int .i64 r.kind, .string r.name, .int .i64 r.session, .int .i64 r.seq, .int .i64 r.base, .string r.ref, v, .string r.path, .int .i64 r.from', .int .i64 r.many, .int .i64 r.member]
def voteCs (x : Vote) (v : Value) : List Value := .int .i64 x.slot :: .int .i64 x.ballot :: reqCs x.value v
def commitCs (c : Commit) (v : Value) : List Value := [.int .i64 c.rev, .int .i64 c.base, .string c.ref, v]
def verdictCs (x : Verdict) (v : Value) : List Value := [.int .i64 x.code, .int .i64 x.session, .int .i64 x.rev, .string x.path, .int .u64 x.digest, v, .int .i64 x.member]
def msgCs (m : Msg) (vc vv vi vk : Value) : List Value := .int .i64 m.kind :: .int .i64 m.from' :: .int .i64 m.to :: .int .i64 m.ballot :: .int .i64 m.slot :: .int .i64 m.time :: (reqCs m.value vc ++ vv :: vi :: .int .i64 m.number :: verdictCs m.verdict vk)

structure Req.Ok (r : Req) : Prop where
  kind : okI r.kind
  session : okI r.session
  seq : okI r.seq
  base : okI r.base
  from' : okI r.from'
  many : okI r.many
  member : okI r.member
structure Vote.Ok (x : Vote) : Prop where
  slot : okI x.slot
  ballot : okI x.ballot
  value : x.value.Ok
structure Commit.Ok (c : Commit) : Prop where
  rev : okI c.rev
  base : okI c.base
structure Verdict.Ok (x : Verdict) : Prop where
  code : okI x.code
  session : okI x.session
  rev : okI x.rev
  digest : x.digest ≤ 18446744073709551615
  member : okI x.member
structure Msg.Ok (m : Msg) : Prop where
  kind : okI m.kind
  from' : okI m.from'
  to : okI m.to
  ballot : okI m.ballot
  slot : okI m.slot
  time : okI m.time
  value : m.value.Ok
  number : okI m.number
  verdict : m.verdict.Ok

section
variable {w : World} {F : Nat → Prop} {cs : List Value}
theorem req_cells {r : Req} (h : Rep.req.cells w F r cs) : ∃ v, cs = reqCs r v ∧ Sl .change w F v r.changes ∧ r.Ok := by
  obtain ⟨_, _, rfl, ⟨rfl, h0⟩, _, _, rfl, rfl, _, _, rfl, ⟨rfl, h1⟩, _, _, rfl, ⟨rfl, h2⟩, _, _, rfl, ⟨rfl, h3⟩, _, _, rfl, rfl, _, _, rfl, ⟨v, rfl, hv⟩, _, _, rfl, rfl, _, _, rfl, ⟨rfl, h4⟩, _, _, rfl, ⟨rfl, h5⟩, ⟨rfl, h6⟩⟩ := h
  exact ⟨v, rfl, hv, h0, h1, h2, h3, h4, h5, h6⟩
theorem req_mk {r : Req} {v : Value} (hv : Sl .change w F v r.changes) (h : r.Ok) : Rep.req.cells w F r (reqCs r v) :=
  ⟨_, _, rfl, ⟨rfl, h.kind⟩, _, _, rfl, rfl, _, _, rfl, ⟨rfl, h.session⟩, _, _, rfl, ⟨rfl, h.seq⟩, _, _, rfl, ⟨rfl, h.base⟩, _, _, rfl, rfl, _, _, rfl, ⟨v, rfl, hv⟩, _, _, rfl, rfl, _, _, rfl, ⟨rfl, h.from'⟩, _, _, rfl, ⟨rfl, h.many⟩, ⟨rfl, h.member⟩⟩
theorem vote_cells {x : Vote} (h : Rep.vote.cells w F x cs) : ∃ v, cs = voteCs x v ∧ Sl .change w F v x.value.changes ∧ x.Ok := by
  obtain ⟨_, _, rfl, ⟨rfl, h0⟩, _, _, rfl, ⟨rfl, h1⟩, h2⟩ := h
  obtain ⟨v, rfl, h3, h4⟩ := req_cells h2
  exact ⟨v, rfl, h3, h0, h1, h4⟩
theorem vote_mk {x : Vote} {v : Value} (hv : Sl .change w F v x.value.changes) (h : x.Ok) : Rep.vote.cells w F x (voteCs x v) :=
  ⟨_, _, rfl, ⟨rfl, h.slot⟩, _, _, rfl, ⟨rfl, h.ballot⟩, req_mk hv h.value⟩
theorem commit_cells {x : Commit} (h : Rep.commit.cells w F x cs) : ∃ v, cs = commitCs x v ∧ Sl .change w F v x.changes ∧ x.Ok := by
  obtain ⟨_, _, rfl, ⟨rfl, h0⟩, _, _, rfl, ⟨rfl, h1⟩, _, _, rfl, rfl, ⟨v, rfl, hv⟩⟩ := h
  exact ⟨v, rfl, hv, h0, h1⟩
theorem commit_mk {x : Commit} {v : Value} (hv : Sl .change w F v x.changes) (h : x.Ok) : Rep.commit.cells w F x (commitCs x v) :=
  ⟨_, _, rfl, ⟨rfl, h.rev⟩, _, _, rfl, ⟨rfl, h.base⟩, _, _, rfl, rfl, ⟨v, rfl, hv⟩⟩
theorem verdict_cells {x : Verdict} (h : Rep.verdict.cells w F x cs) : ∃ v, cs = verdictCs x v ∧ Sl .commit w F v x.commits ∧ x.Ok := by
  obtain ⟨_, _, rfl, ⟨rfl, h0⟩, _, _, rfl, ⟨rfl, h1⟩, _, _, rfl, ⟨rfl, h2⟩, _, _, rfl, rfl, _, _, rfl, ⟨rfl, h3⟩, _, _, rfl, ⟨v, rfl, hv⟩, ⟨rfl, h4⟩⟩ := h
  exact ⟨v, rfl, hv, h0, h1, h2, h3, h4⟩
theorem verdict_mk {x : Verdict} {v : Value} (hv : Sl .commit w F v x.commits) (h : x.Ok) : Rep.verdict.cells w F x (verdictCs x v) :=
  ⟨_, _, rfl, ⟨rfl, h.code⟩, _, _, rfl, ⟨rfl, h.session⟩, _, _, rfl, ⟨rfl, h.rev⟩, _, _, rfl, rfl, _, _, rfl, ⟨rfl, h.digest⟩, _, _, rfl, ⟨v, rfl, hv⟩, ⟨rfl, h.member⟩⟩
theorem msg_cells {m : Msg} (h : Rep.msg.cells w F m cs) : ∃ vc vv vi vk, cs = msgCs m vc vv vi vk ∧ Sl .change w F vc m.value.changes ∧ Sl .vote w F vv m.votes ∧ Sl .u8 w F vi m.image ∧ Sl .commit w F vk m.verdict.commits ∧ m.Ok := by
  obtain ⟨_, _, rfl, ⟨rfl, h0⟩, _, _, rfl, ⟨rfl, h1⟩, _, _, rfl, ⟨rfl, h2⟩, _, _, rfl, ⟨rfl, h3⟩, _, _, rfl, ⟨rfl, h4⟩, _, _, rfl, ⟨rfl, h5⟩, _, _, rfl, h6, _, _, rfl, ⟨vv, rfl, hv⟩, _, _, rfl, ⟨vi, rfl, hi⟩, _, _, rfl, ⟨rfl, h7⟩, h8⟩ := h
  obtain ⟨vc, rfl, hc, h6⟩ := req_cells h6
  obtain ⟨vk, rfl, hk, h8⟩ := verdict_cells h8
  exact ⟨vc, vv, vi, vk, rfl, hc, hv, hi, hk, h0, h1, h2, h3, h4, h5, h6, h7, h8⟩
theorem msg_mk {m : Msg} {vc vv vi vk : Value} (hc : Sl .change w F vc m.value.changes) (hv : Sl .vote w F vv m.votes) (hi : Sl .u8 w F vi m.image) (hk : Sl .commit w F vk m.verdict.commits) (h : m.Ok) : Rep.msg.cells w F m (msgCs m vc vv vi vk) :=
  ⟨_, _, rfl, ⟨rfl, h.kind⟩, _, _, rfl, ⟨rfl, h.from'⟩, _, _, rfl, ⟨rfl, h.to⟩, _, _, rfl, ⟨rfl, h.ballot⟩, _, _, rfl, ⟨rfl, h.slot⟩, _, _, rfl, ⟨rfl, h.time⟩, _, _, rfl, req_mk hc h.value, _, _, rfl, ⟨vv, rfl, hv⟩, _, _, rfl, ⟨vi, rfl, hi⟩, _, _, rfl, ⟨rfl, h.number⟩, verdict_mk hk h.verdict⟩
theorem sl_one (v : Value) (h : ∃ A n c, v = .slice A n c) : v.oneCell' = true := by obtain ⟨A, n, c, rfl⟩ := h; rfl
theorem req_one (x : Req) (d : List Value) (h : Rep.req.cells w F x d) : ∀ u ∈ d, u.oneCell' = true := by
  obtain ⟨v, rfl, hv, _⟩ := req_cells h
  obtain ⟨A, c, rfl⟩ := hv.shape
  simp [reqCs, Value.oneCell']
theorem vote_one (x : Vote) (d : List Value) (h : Rep.vote.cells w F x d) : ∀ u ∈ d, u.oneCell' = true := by
  obtain ⟨v, rfl, hv, _⟩ := vote_cells h
  obtain ⟨A, c, rfl⟩ := hv.shape
  simp [voteCs, reqCs, Value.oneCell']
theorem commit_one (x : Commit) (d : List Value) (h : Rep.commit.cells w F x d) : ∀ u ∈ d, u.oneCell' = true := by
  obtain ⟨v, rfl, hv, _⟩ := commit_cells h
  obtain ⟨A, c, rfl⟩ := hv.shape
  simp [commitCs, Value.oneCell']
theorem msg_one (x : Msg) (d : List Value) (h : Rep.msg.cells w F x d) : ∀ u ∈ d, u.oneCell' = true := by
  obtain ⟨vc, vv, vi, vk, rfl, hc, hv, hi, hk, _⟩ := msg_cells h
  obtain ⟨A, c, rfl⟩ := hc.shape
  obtain ⟨A, c, rfl⟩ := hv.shape
  obtain ⟨A, c, rfl⟩ := hi.shape
  obtain ⟨A, c, rfl⟩ := hk.shape
  simp [msgCs, reqCs, verdictCs, Value.oneCell']
end
theorem opens_change : Opens Try.prog Rep.change 72 :=
  Opens.as (Opens.struct Try.underlying72 (by kernel_rfl) (.cons rfl (Opens.str Try.underlying9 (by kernel_rfl)) (.cons rfl (Opens.bool Try.underlying4 (by kernel_rfl)) (.one rfl (Opens.u64 Try.underlying32 (by kernel_rfl))))))
    _ (fun p => ⟨p.1, p.2.1, p.2.2⟩) (fun _ => rfl)
theorem opens_changes : Opens Try.prog Rep.change.slice 27 := Opens.slice Try.underlying27 (by kernel_rfl) opens_change (by decide)
theorem opens_int : Opens Try.prog Rep.int 3 := Opens.int Try.underlying3 (by kernel_rfl)
theorem opens_str : Opens Try.prog Rep.str 9 := Opens.str Try.underlying9 (by kernel_rfl)
theorem opens_req : Opens Try.prog Rep.req 29 :=
  Opens.as (Opens.struct Try.underlying29 (by kernel_rfl) (.cons rfl opens_int (.cons rfl opens_str (.cons rfl opens_int (.cons rfl opens_int (.cons rfl opens_int (.cons rfl opens_str (.cons rfl opens_changes (.cons rfl opens_str (.cons rfl opens_int (.cons rfl opens_int (.one rfl opens_int))))))))))))
    _ (fun p => ⟨p.1, p.2.1, p.2.2.1, p.2.2.2.1, p.2.2.2.2.1, p.2.2.2.2.2.1, p.2.2.2.2.2.2.1, p.2.2.2.2.2.2.2.1, p.2.2.2.2.2.2.2.2.1, p.2.2.2.2.2.2.2.2.2.1, p.2.2.2.2.2.2.2.2.2.2⟩) (fun _ => rfl)
end Go.Proofs.Ytnekfonnceknoaa
namespace Go.Proofs.Ytnekfonnceknoaa
open Go.RowKit Go.Lib

/-- Cells are laid into a block from a place on. -/
def spl (C : Array Value) (o : Nat) (vs : List Value) : Array Value := (C.toList.take o ++ vs ++ C.toList.drop (o + vs.length)).toArray
theorem spl_size (C : Array Value) (o : Nat) (vs : List Value) (h : o + vs.length ≤ C.size) : (spl C o vs).size = C.size := by
  simp only [spl, List.size_toArray, List.length_append, List.length_take, List.length_drop, Array.length_toList]; omega
theorem spl_list (C : Array Value) (o : Nat) (vs : List Value) : (spl C o vs).toList = C.toList.take o ++ vs ++ C.toList.drop (o + vs.length) := by simp [spl]

theorem spl_whole (C : Array Value) (vs : List Value) (h : C.size ≤ vs.length) : spl C 0 vs = vs.toArray := by
  simp only [spl, List.take_zero, List.nil_append, Nat.zero_add]
  rw [List.drop_of_length_le (by simpa using h), List.append_nil]
theorem keep_setRow (w : World) (b : Nat) (C : Array Value) : Keep (fun k => k = b) w (w.setRow b C) :=
  ⟨rfl, rfl, rfl, by simp, fun k _ hk => setRow_other w b k _ (fun e => hk (by first | exact e | exact e.symm))⟩

section
variable {P : Program} {ops : Array Oper} {rest : List Oper} {op : Oper} {a : Act} {w : World} {Q : Exit → Act → World → Prop} {ty e : TypeId} {x y : Operand} {b o n : Nat} {C : Array Value}
/-- A struct's cells are loaded. -/
theorem wpl_loadA {fz : Nat × Nat} (hgd : op.guard = none) (ho : op.op = .load ty x) (hx : a.eval x = .pointer (some ⟨b, o, none⟩)) (hb : w.heap[b]? = some (.cells C e fz))
    (hd : (P.underlying ty).map TypeDesc.isRow = some true) (hi : (P.info? ty).map (·.size) = some n) (vs : List Value) (hvs : (C.toList.drop o).take n = vs) (hn : vs.length = n)
    (h : wpList P ops Q rest (a.put op.dst (.agg vs.toArray)) w) : wpList P ops Q (op :: rest) a w := by
  obtain ⟨d, hu, hd⟩ : ∃ d, P.underlying ty = some d ∧ d.isRow = true := by
    cases hq : P.underlying ty with
    | none => simp [hq] at hd
    | some d => exact ⟨d, rfl, by simpa [hq] using hd⟩
  refine wpList_load_mid hgd ty x ho b o hx vs d (fun j v hv => ?_) hu hd (by rw [hi, hn]) h
  rw [cell_of_row w b (o + j) C e fz hb]
  rw [← hvs, List.getElem?_take] at hv
  split at hv
  · rw [List.getElem?_drop] at hv
    simpa using hv
  · cases hv
/-- One cell is loaded. -/
theorem wpl_load1 {fz : Nat × Nat} (hgd : op.guard = none) (ho : op.op = .load ty x) (hx : a.eval x = .pointer (some ⟨b, o, none⟩)) (hb : w.heap[b]? = some (.cells C e fz))
    (hd : (P.underlying ty).map TypeDesc.isRow = some false) {v : Value} (hv : C[o]? = some v)
    (h : wpList P ops Q rest (a.put op.dst v) w) : wpList P ops Q (op :: rest) a w := by
  obtain ⟨d, hu, hd⟩ : ∃ d, P.underlying ty = some d ∧ d.isRow = false := by
    cases hq : P.underlying ty with
    | none => simp [hq] at hd
    | some d => exact ⟨d, rfl, by simpa [hq] using hd⟩
  have hagg : (isAgg ty).run P w = .ok false w := by
    unfold isAgg
    rw [Sem.run_bind, run_underlying hu w]
    cases d <;> simp_all
  have hc : w.cell? ⟨b, o, none⟩ = some v := by rw [cell_of_row w b o C e fz hb, hv]
  refine wpList_plain hgd fun _ hK => ?_
  unfold Oper.wp execOp
  simp only [ho, hx, Instr.loadAt, Instr.sureAddr, Sem.run_bind, Sem.run_pure, Result.andThen_ok, loadVar, hagg, Bool.false_eq_true, if_false, run_load, hc]
  exact hK _ _ h
/-- A value is stored. -/
theorem wpl_storeB (hgd : op.guard = none) (ho : op.op = .store ty x y) (hx : a.eval x = .pointer (some ⟨b, o, none⟩)) {v : Value} (hy : a.eval y = v) (hb : w.heap[b]? = some (.cells C e))
    (hi : (P.info? ty).map (·.size) = some v.cells.size) (hn : o + v.cells.size ≤ C.size) (h1 : ∀ u ∈ v.cells.toList, u.oneCell' = true)
    (h : ∀ w', w'.heap[b]? = some (.cells (spl C o v.cells.toList) e) → Keep (fun k => k = b) w w' → w'.heap.size = w.heap.size → wpList P ops Q rest (a.put op.dst undef) w') : wpList P ops Q (op :: rest) a w := by
  have hst := run_storeCells_at P b o e v.cells.toList 0 C w hb (by simpa using hn) h1
  have hr : (storeVar ty ⟨b, o, none⟩ v).run P w = .ok () (w.setRow b (spl C o v.cells.toList)) := by
    cases hq : P.info? ty with
    | none => simp [hq] at hi
    | some i =>
      have hs : i.size = v.cells.size := by simpa [hq] using hi
      simp only [Nat.add_zero] at hst
      simp [storeVar, sizeOf, typeInfo, hq, hs, hst, spl]
  refine wpList_plain hgd fun _ hK => ?_
  unfold Oper.wp execOp
  simp only [ho, hx, hy, Instr.storeAt, Instr.sureAddr, Sem.run_bind, Sem.run_pure, Result.andThen_ok, hr]
  exact hK _ _ (h _ (setRow_heap w b C _ e _ hb) (keep_setRow w b _) (by simp))
/-- A new block. -/
theorem wpl_allocB (hgd : op.guard = none) (ho : op.op = .alloc ty) {z : Value} (hi : (P.info? ty).map (·.zero) = some (some z))
    (h : ∀ g w', g = w.heap.size → w'.heap[g]? = some (.cells z.cells ty) → Keep (fun _ => False) w w' → w'.heap.size = g + 1 → wpList P ops Q rest (a.put op.dst (.pointer (some ⟨g, 0, none⟩))) w') : wpList P ops Q (op :: rest) a w := by
  refine wpList_plain hgd fun _ hK => ?_
  cases hq : P.info? ty with
  | none => simp [hq] at hi
  | some i =>
    have hz : i.zero = some z := by simpa [hq] using hi
    unfold Oper.wp execOp
    simp [ho, go_sem, zeroValue, typeInfo, hq, hz]
    exact hK _ _ (h _ _ rfl (heap_alloc_new w _) ((Keep.refl _ w).alloc _) (by simp))
/-- A value is laid into a new block. -/
theorem wpl_boxB (hgd : op.guard = none) (ho : op.op = .box ty x) {v : Value} (hx : a.eval x = v)
    (h : ∀ g w', g = w.heap.size → w'.heap[g]? = some (.cells v.cells ty) → Keep (fun _ => False) w w' → w'.heap.size = g + 1 → wpList P ops Q rest (a.put op.dst (.pointer (some ⟨g, 0, none⟩))) w') : wpList P ops Q (op :: rest) a w := by
  have hr : (Instr.box ty v).run P w = .ok (.pointer (some ⟨w.heap.size, 0, none⟩)) (w.alloc (.cells v.cells ty)) := by
    simp [Instr.box, go_sem]
  refine wpList_plain hgd fun _ hK => ?_
  unfold Oper.wp execOp
  simp only [ho, hx, Sem.run_bind, Sem.run_pure, Result.andThen_ok, hr]
  exact hK _ _ (h _ _ rfl (heap_alloc_new w _) ((Keep.refl _ w).alloc _) (by simp))
end
theorem fill_size : ∀ (vs : List Value) (k : Nat) (C : Array Value), ((vs.zipIdx k).foldl (fun cs x => cs.setIfInBounds x.2 x.1) C).size = C.size
  | [], _, _ => rfl
  | v :: r, k, C => by rw [List.zipIdx_cons, List.foldl_cons, fill_size r (k + 1)]; simp
theorem fill_get : ∀ (vs : List Value) (k : Nat) (C : Array Value) (i : Nat), k + vs.length ≤ C.size → ((vs.zipIdx k).foldl (fun cs x => cs.setIfInBounds x.2 x.1) C)[i]? = if i < k then C[i]? else if i < k + vs.length then vs[i - k]? else C[i]?
  | [], k, C, i, _ => by simp only [List.zipIdx_nil, List.foldl_nil, List.length_nil, Nat.add_zero]; split <;> simp
  | v :: r, k, C, i, h => by
    simp only [List.length_cons] at h
    rw [List.zipIdx_cons, List.foldl_cons, fill_get r (k + 1) _ i (by simp; omega)]
    simp only [Array.getElem?_setIfInBounds]
    by_cases h1 : i < k
    · rw [if_pos (by omega), if_neg (by omega), if_pos h1]
    · rw [if_neg h1]
      by_cases h2 : i = k
      · subst h2
        have hi : i < C.size := by omega
        simp [hi]
      · rw [if_neg (by omega)]
        by_cases h3 : i < k + 1 + r.length
        · rw [if_pos h3, if_pos (by simp only [List.length_cons]; omega), show i - k = (i - (k + 1)) + 1 by omega, List.getElem?_cons_succ]
        · rw [if_neg h3, if_neg (by omega), if_neg (by simp only [List.length_cons]; omega)]
theorem fill_whole (vs : List Value) (C : Array Value) (h : C.size = vs.length) : (vs.zipIdx.foldl (fun cs x => cs.setIfInBounds x.2 x.1) C) = vs.toArray := by
  apply Array.ext_getElem?
  intro i
  rw [fill_get vs 0 C i (by omega)]
  by_cases h1 : i < vs.length
  · simp [h1]
  · simp [h1]; omega
/-- A slice of one element. -/
theorem wpl_sliceOne {P : Program} {ops : Array Oper} {rest : List Oper} {op : Oper} {a : Act} {w : World} {Q : Exit → Act → World → Prop} {ty e : TypeId} {x : Operand} {n : Nat} (hgd : op.guard = none) (ho : op.op = .buildSlice ty 1 #[(0, x)]) (ht : P.underlying ty = some (.slice e)) {z v : Value}
    (hi : (P.info? e).map (fun i => (i.zero, i.size)) = some (some z, n)) (hn0 : 0 < n) (hn : n ≤ 16777216) (hx : a.eval x = v) (hv : v.cells.size = n)
    (h : ∀ g w', g = w.heap.size → w'.heap[g]? = some (.cells v.cells e) → Keep (fun _ => False) w w' → w'.heap.size = g + 1 → wpList P ops Q rest (a.put op.dst (.slice (some ⟨g, 0, none⟩) 1 1)) w') : wpList P ops Q (op :: rest) a w := by
  have hr : (Instr.buildSlice ty 1 #[(0, v)]).run P w = .ok (.slice (some ⟨w.heap.size, 0, none⟩) 1 1) (w.alloc (.cells v.cells e)) := by
    cases hq : P.info? e with
    | none => simp [hq] at hi
    | some i =>
      simp [hq] at hi
      obtain ⟨h1, h2⟩ := hi
      have hc : (v.cells.zipIdx.foldl (fun cs x => cs.setIfInBounds x.2 x.1) ((Array.range n).map (z.cells[· % z.cells.size]!))) = v.cells := by
        have := fill_whole v.cells.toList ((Array.range n).map (z.cells[· % z.cells.size]!)) (by simp [hv])
        rw [Array.toArray_toList] at this
        refine Eq.trans ?_ this
        rw [← Array.foldl_toList, Array.toList_zipIdx]
      have hn1 : ¬ (16777216 < n) := by omega
      have hn2 : ¬ (n = 0) := by omega
      have hf : Instr.fill (fun i => some (i * n, n)) ((Array.range n).map (z.cells[· % z.cells.size]!)) [(0, v)] = some v.cells := by
        unfold Instr.fill
        simp only [Nat.zero_mul, Nat.zero_add, hv, Array.size_map, Array.size_range]
        simp only [ne_eq, not_true_eq_false, Nat.lt_irrefl, gt_iff_lt, decide_false, Bool.or_self, Bool.false_eq_true, if_false, Instr.fill]
        exact congrArg some hc
      simp [Instr.buildSlice, run_underlying ht, sizeOf, typeInfo, hq, zeroValue, h1, h2, hn1, hn2, hf, newRow]
  refine wpList_plain hgd fun _ hK => ?_
  unfold Oper.wp execOp
  simp only [ho, List.map_toArray, List.map_cons, List.map_nil, hx, Sem.run_bind, Sem.run_pure, Result.andThen_ok, hr]
  exact hK _ _ (h _ _ rfl (heap_alloc_new w _) ((Keep.refl _ w).alloc _) (by simp))
/-- The result lies in a cell of its own. -/
theorem res_cell {P : Program} {fn : Func} {p : Tmp} {ty : TypeId} (h : fn.results = #[.cell p ty]) (tmps : Array Value) {w : World} {g : Nat} {t : TypeId} {cs : Array Value} {fr : Nat × Nat}
    (hp : tmps.getD p undef = .pointer (some ⟨g, 0, none⟩)) (hg : w.heap[g]? = some (.cells cs t fr))
    (hd : (P.underlying ty).map TypeDesc.isRow = some true) (hi : (P.info? ty).map (·.size) = some cs.size) :
    (results fn tmps).run P w = .ok (.agg cs) w := by
  obtain ⟨d, hu, hd⟩ : ∃ d, P.underlying ty = some d ∧ d.isRow = true := by
    cases hq : P.underlying ty with
    | none => simp [hq] at hd
    | some d => exact ⟨d, rfl, by simpa [hq] using hd⟩
  exact results_cell_row h tmps w g t cs fr d hp hg hu (by cases d <;> simp_all) hi
/-- Two results, the first one in a cell. -/
theorem res_cell_tmp {P : Program} {fn : Func} {p u : Tmp} {ty : TypeId} (h : fn.results = #[.cell p ty, .tmp u]) (tmps : Array Value) {w : World} {g : Nat} {t : TypeId} {cs : Array Value} {fr : Nat × Nat} {v : Value}
    (hp : tmps.getD p undef = .pointer (some ⟨g, 0, none⟩)) (hu' : tmps.getD u undef = v) (hg : w.heap[g]? = some (.cells cs t fr))
    (hd : (P.underlying ty).map TypeDesc.isRow = some true) (hi : (P.info? ty).map (·.size) = some cs.size) :
    (results fn tmps).run P w = .ok (.tuple #[.agg cs, v]) w := by
  obtain ⟨d, hu, hd⟩ : ∃ d, P.underlying ty = some d ∧ d.isRow = true := by
    cases hq : P.underlying ty with
    | none => simp [hq] at hd
    | some d => exact ⟨d, rfl, by simpa [hq] using hd⟩
  rw [results_cell_tmp h, hp, hu']
  simp [asAddr, run_loadVar_row w g t ty cs fr d hg hu (by cases d <;> simp_all) hi, Result.andThen]
end Go.Proofs.Ytnekfonnceknoaa
namespace Go.Proofs.Ytnekfonnceknoaa
open Go.RowKit
section
variable {α : Type} {r : Rep α} {F G S : Nat → Prop} {w w' w1 w2 : World} {cs d : List Value} {l : List α}
/-- The cells of a row, element by element. -/
def Parts (r : Rep α) (w : World) (G : Nat → Prop) (cs : List Value) (l : List α) : Prop := ∀ i x, l[i]? = some x → r.cells w G x ((cs.drop (i * r.size)).take r.size)
theorem Parts.keep (h : Parts r w G cs l) (hk : Keep S w w') (hG : ∀ k, G k → ¬ S k) : Parts r w' G cs l := fun i x hx => r.keep (h i x hx) hk hG
theorem Parts.mono (h : Parts r w F cs l) (hF : ∀ k, F k → G k) : Parts r w G cs l := fun i x hx => r.mono (h i x hx) hF
theorem Parts.nil : Parts r w G [] [] := fun i x hx => by simp at hx
theorem Parts.one {x : α} (h : r.cells w G x d) : Parts r w G d [x] := fun i y hy => by
  have hi : i = 0 := by have := (List.getElem?_eq_some_iff.1 hy).1; simp at this; omega
  subst hi
  simp only [List.getElem?_cons_zero, Option.some.injEq] at hy
  subst hy
  rw [Nat.zero_mul, List.drop_zero, List.take_of_length_le (Nat.le_of_eq (r.len h))]
  exact h
theorem Parts.app {cs2 : List Value} {l2 : List α} (h : Parts r w G cs l) (hl : cs.length = l.length * r.size) (h2 : Parts r w G cs2 l2) : Parts r w G (cs ++ cs2) (l ++ l2) := fun i x hx => by
  by_cases hi : i < l.length
  · rw [List.getElem?_append_left hi] at hx
    have hle : (i + 1) * r.size ≤ l.length * r.size := Nat.mul_le_mul_right _ hi
    rw [Nat.succ_mul] at hle
    rw [List.drop_append_of_le_length (by omega), List.take_append_of_le_length (by rw [List.length_drop]; omega)]
    exact h i x hx
  · rw [List.getElem?_append_right (by omega)] at hx
    have := h2 (i - l.length) x hx
    have he : i * r.size = cs.length + (i - l.length) * r.size := by rw [hl, ← Nat.add_mul]; congr 1; omega
    rw [he, ← List.drop_drop, List.drop_left' rfl]
    exact this
theorem Parts.drop (h : Parts r w G cs l) (i : Nat) : Parts r w G (cs.drop (i * r.size)) (l.drop i) := fun j x hx => by
  rw [List.getElem?_drop] at hx
  have := h (i + j) x hx
  rwa [Nat.add_mul, ← List.drop_drop] at this
theorem Parts.sl {v : Value} (h : Parts r w G cs l) (hr : Row F w v l.length r.size cs) (hF : ∀ k, F k → G k) : Sl r w G v l := Sl.ofRow (hr.mono hF) h
theorem Sl.parts {v : Value} (h : Sl r w F v l) : ∃ cs, Row F w v l.length r.size cs ∧ Parts r w F cs l := h.cells
theorem owns_emp (w : World) (e : TypeId) (size : Nat) : (w.alloc (.cells #[] e)).ownsRow 0 e size (.slice (some ⟨w.heap.size, 0, none⟩) 0 0) 0 [] :=
  ⟨by simp, .inr ⟨w.heap.size, 0, #[], rfl, Nat.zero_le _, heap_alloc_new w _, Nat.le_refl _, by simp, by simp, by simp⟩⟩
theorem keep_emp2 {w6 : World} {o : Obj} (hk : Keep (fun q => some q = (Value.slice (some ⟨w.heap.size, 0, none⟩) 0 0).ownBlock) (w.alloc o) w6) : Keep (fun _ => False) w w6 :=
  ((Keep.refl (fun _ => False) w).alloc o).trans hk (fun b hb e => by simp only [Value.ownBlock, Option.some.injEq] at e; omega)
/-- A row that is gathered: its own block, the elements', and what they point to, from B on. -/
def GrownP (r : Rep α) (e : TypeId) (B : Nat) (w : World) (v : Value) (k : Nat) (l : List α) (cs : List Value) : Prop :=
  w.ownsRow 0 e r.size v k cs ∧ Parts r w (fun b => B ≤ b ∧ b < w.heap.size ∧ some b ≠ v.ownBlock) cs l ∧ l.length = k ∧ ∀ b, v.ownBlock = some b → B ≤ b
theorem GrownP.nil {e : TypeId} {B : Nat} : GrownP r e B w (.slice none 0 0) 0 [] [] := ⟨World.ownsRow_nil _ 0 _ _, Parts.nil, rfl, fun b hb => by simp [Value.ownBlock] at hb⟩
theorem GrownP.keep {e : TypeId} {B k : Nat} {v : Value} (h : GrownP r e B w v k l cs) (hk : Keep S w w') (hS : ∀ b, B ≤ b → b < w.heap.size → ¬ S b) : GrownP r e B w' v k l cs := by
  obtain ⟨h1, h2, h3, h4⟩ := h
  have hs := hk.size
  exact ⟨hk.owns h1 (fun b hb => hS b (h4 b hb) (own_lt' h1 b hb)), (h2.keep hk (fun b hb => hS b hb.1 hb.2.1)).mono (fun b hb => ⟨hb.1, by have := hb.2.1; omega, hb.2.2⟩), h3, h4⟩
theorem GrownP.keepF {e : TypeId} {B k : Nat} {v : Value} (h : GrownP r e B w v k l cs) (hk : Keep (fun _ => False) w w') : GrownP r e B w' v k l cs := h.keep hk (fun _ _ _ => id)
theorem GrownP.sl {e : TypeId} {B k : Nat} {v : Value} (h : GrownP r e B w v k l cs) : Sl r w (fun b => B ≤ b ∧ b < w.heap.size) v l := by
  obtain ⟨h1, h2, h3, h4⟩ := h
  subst h3
  exact (h2.mono (G := fun b => B ≤ b ∧ b < w.heap.size) (fun b hb => ⟨hb.1, hb.2.1⟩)).sl (Row.ofOwn h1) (fun b hb => ⟨h4 b hb.symm, own_lt' h1 b hb.symm⟩)
/-- One element more: what it points to is new. -/
theorem GrownP.more {e : TypeId} {B k c c2 : Nat} {A A2 : Option Addr} {x : α} {wa : World} (h : GrownP r e B w (.slice A k c) k l cs) (hB : B ≤ w.heap.size) (hk1 : Keep (fun _ => False) w w1)
    (hd : r.cells w1 (fun b => w.heap.size ≤ b ∧ b < w1.heap.size) x d) (hka : Keep (fun _ => False) w1 wa)
    (ho : w2.ownsRow 0 e r.size (.slice A2 (k + 1) c2) (k + 1) (cs ++ d)) (hk2 : Keep (fun q => some q = (Value.slice A k c).ownBlock) wa w2) (hn : SameOrNew wa (.slice A k c) (.slice A2 (k + 1) c2)) :
    GrownP r e B w2 (.slice A2 (k + 1) c2) (k + 1) (l ++ [x]) (cs ++ d) ∧ Keep (fun q => some q = (Value.slice A k c).ownBlock) w w2 := by
  obtain ⟨h1, h2, h3, h4⟩ := h
  have s1 := hk1.size
  have sa := hka.size
  have s2 := hk2.size
  have hob : ∀ b, (Value.slice A k c).ownBlock = some b → b < w.heap.size := fun b hb => own_lt' h1 b hb
  have hkw : Keep (fun q => some q = (Value.slice A k c).ownBlock) w w2 := (((hk1.trans hka (fun _ _ h => h)).mono (fun _ _ h => h.elim)).trans hk2 (fun _ _ h => h))
  have hne : ∀ b, b < wa.heap.size → some b ≠ (Value.slice A k c).ownBlock → some b ≠ (Value.slice A2 (k + 1) c2).ownBlock := fun b hb hne e => by
    rcases hn b e.symm with q | q
    · exact hne q.symm
    · omega
  refine ⟨⟨ho, ?_, by simp [h3], fun b hb => ?_⟩, hkw⟩
  · refine Parts.app ((h2.keep hkw (fun b hb e => hb.2.2 e)).mono (fun b hb => ⟨hb.1, by have := hb.2.1; omega, hne b (by have := hb.2.1; omega) hb.2.2⟩)) (by rw [h1.1, h3]) (Parts.one ?_)
    have hk12 : Keep (fun q => some q = (Value.slice A k c).ownBlock) w1 w2 := (hka.mono (fun _ _ h => h.elim)).trans hk2 (fun _ _ h => h)
    exact r.mono (r.keep hd hk12 (fun b hb e => by have := hob b e.symm; have := hb.1; omega)) (fun b hb => ⟨by have := hb.1; omega, by have := hb.2; omega, hne b (by have := hb.2; omega) (fun e => by have := hob b e.symm; have := hb.1; omega)⟩)
  · rcases hn b hb with q | q
    · exact h4 b q
    · omega
end
end Go.Proofs.Ytnekfonnceknoaa
namespace Go.Proofs.Ytnekfonnceknoaa
open Go.RowKit Go.Lib
section
variable {P : Program} {ops : Array Oper} {rest : List Oper} {op : Oper} {a : Act} {w : World} {Q : Exit → Act → World → Prop} {ty e : TypeId} {x y : Operand} {A : Option Addr} {n c j size : Nat}
theorem size_of {P : Program} {w : World} {e : TypeId} {size : Nat} (hi : (P.info? e).map (·.size) = some size) : (sizeOf e).run P w = .ok size w := by
  cases hq : P.info? e with
  | none => simp [hq] at hi
  | some i =>
    have hs : i.size = size := by simpa [hq] using hi
    simp [sizeOf, typeInfo, hq, hs]
theorem wpl_sliceHi (hgd : op.guard = none) (ho : op.op = .slice ty x none (some y) none) (ht : P.underlying ty = some (.slice (P.elem ty))) (hi : (P.info? (P.elem ty)).map (·.size) = some size)
    (hx : a.eval x = .slice A n c) (hy : a.eval y = .int .i64 j) (hj : j ≤ c) (h : wpList P ops Q rest (a.put op.dst (.slice A j c)) w) : wpList P ops Q (op :: rest) a w := by
  have hr : (Instr.sliceAt ty (.slice A n c) none (some (.int .i64 j)) none).run P w = .ok (.slice A j c) w := by
    rw [run_sliceAt_slice w ty _ _ _ _ ht, run_slice_h w ty A n c ht .i64 j (by omega) (by omega), size_of hi]
    have h0 : ∀ p : Addr, p.add 0 = p := fun p => by cases p; simp [Addr.add]
    cases A <;> simp [Result.andThen, sliced, h0]
  refine wpList_plain hgd fun _ hK => ?_
  unfold Oper.wp execOp
  simp only [ho, Option.map_none, Option.map_some, hx, hy, Sem.run_bind, Sem.run_pure, Result.andThen_ok, hr]
  exact hK _ _ h
theorem wpl_sliceLo (hgd : op.guard = none) (ho : op.op = .slice ty x (some y) none none) (ht : P.underlying ty = some (.slice (P.elem ty))) (hi : (P.info? (P.elem ty)).map (·.size) = some size)
    (hx : a.eval x = .slice A n c) (hy : a.eval y = .int .i64 j) (hj : j ≤ n) (h : wpList P ops Q rest (a.put op.dst (.slice (if c = j then A else A.map (·.add (j * size))) (n - j) (c - j))) w) : wpList P ops Q (op :: rest) a w := by
  have hr : (Instr.sliceAt ty (.slice A n c) (some (.int .i64 j)) none none).run P w = .ok (.slice (if c = j then A else A.map (·.add (j * size))) (n - j) (c - j)) w := by
    rw [run_sliceAt_slice w ty _ _ _ _ ht, run_slice_l w ty A n c ht .i64 j (by omega) (by omega), size_of hi]
    simp [Result.andThen, sliced]
  refine wpList_plain hgd fun _ hK => ?_
  unfold Oper.wp execOp
  simp only [ho, Option.map_none, Option.map_some, hx, hy, Sem.run_bind, Sem.run_pure, Result.andThen_ok, hr]
  exact hK _ _ h
end
/-- A struct's cells are loaded, where a guard lets it. -/
theorem wpl_loadG {P : Program} {ops : Array Oper} {rest : List Oper} {op : Oper} {a : Act} {w : World} {Q : Exit → Act → World → Prop} {ty e : TypeId} {x : Operand} {b o n : Nat} {C : Array Value} {fz : Nat × Nat}
    (hgw : Region.wanted op (yielded ops a.tmps) = true) (ho : op.op = .load ty x) (hx : a.eval x = .pointer (some ⟨b, o, none⟩)) (hb : w.heap[b]? = some (.cells C e fz))
    (hd : (P.underlying ty).map TypeDesc.isRow = some true) (hi : (P.info? ty).map (·.size) = some n) (vs : List Value) (hvs : (C.toList.drop o).take n = vs) (hn : vs.length = n)
    (h : wpList P ops Q rest (a.put op.dst (.agg vs.toArray)) w) : wpList P ops Q (op :: rest) a w := by
  obtain ⟨d, hu, hd⟩ : ∃ d, P.underlying ty = some d ∧ d.isRow = true := by
    cases hq : P.underlying ty with
    | none => simp [hq] at hd
    | some d => exact ⟨d, rfl, by simpa [hq] using hd⟩
  refine wpList_step fun K hK => ?_
  rw [if_pos hgw]
  refine wp_load_mid ty x ho b o hx vs d (fun j v hv => ?_) hu hd (by rw [hi, hn]) (hK _ _ h)
  rw [cell_of_row w b (o + j) C e fz hb]
  rw [← hvs, List.getElem?_take] at hv
  split at hv
  · rw [List.getElem?_drop] at hv
    simpa using hv
  · cases hv
/-- A struct is built: what it comes to is told. -/
theorem wpl_build {P : Program} {ops : Array Oper} {rest : List Oper} {op : Oper} {a : Act} {w : World} {Q : Exit → Act → World → Prop} {ty : TypeId} {parts : Array (Nat × Operand)} (hgd : op.guard = none) (ho : op.op = .build ty parts) (cells : Array Value)
    (hc : P.built ty (parts.map fun (i, x) => (i, a.eval x)).toList = some cells) (h : wpList P ops Q rest (a.put op.dst (.agg cells)) w) : wpList P ops Q (op :: rest) a w := by
  refine wpList_plain hgd fun _ hK => ?_
  refine wp_build ty parts ho (by rw [hc]; rfl) ?_
  rw [hc]
  exact hK _ _ h
section
variable {F : Nat → Prop} {w : World} {A : Option Addr} {n c j size : Nat} {cs : List Value}
theorem Row.cap (h : Row F w (.slice A n c) n size cs) : n ≤ c ∧ c ≤ maxLen := by
  obtain ⟨_, _, he, _, h1, h2, _⟩ := h
  simp only [Value.slice.injEq, true_and] at he
  omega
theorem Row.takeN (h : Row F w (.slice A n c) n size cs) (hj : j ≤ n) : Row F w (.slice A j c) j size (cs.take (j * size)) := by
  obtain ⟨A', c', he, hl, hnc, hc, hA⟩ := h
  simp only [Value.slice.injEq, true_and] at he
  obtain ⟨rfl, rfl⟩ := he
  have hle : j * size ≤ n * size := Nat.mul_le_mul_right _ hj
  refine ⟨_, _, rfl, by rw [List.length_take]; omega, by omega, hc, hA.imp id ?_⟩
  rintro ⟨b, off, rfl, hF, hb, hcell⟩
  refine ⟨b, off, rfl, hF, hb, fun k u hu => hcell k u ?_⟩
  rw [List.getElem?_take] at hu
  split at hu
  · exact hu
  · cases hu
theorem Row.dropN (h : Row F w (.slice A n c) n size cs) (hj : j ≤ n) : Row F w (.slice (if c = j then A else A.map (·.add (j * size))) (n - j) (c - j)) (n - j) size (cs.drop (j * size)) := by
  obtain ⟨A', c', he, hl, hnc, hc, hA⟩ := h
  simp only [Value.slice.injEq, true_and] at he
  obtain ⟨rfl, rfl⟩ := he
  have hle : (n - j) * size = n * size - j * size := Nat.sub_mul _ _ _
  refine ⟨_, _, rfl, by rw [List.length_drop]; omega, by omega, by omega, ?_⟩
  by_cases hcj : c = j
  · exact .inl (by omega)
  · rcases hA with hA | ⟨b, off, rfl, hF, hb, hcell⟩
    · omega
    · refine .inr ⟨b, off + j * size, by rw [if_neg hcj, Option.map_some, Addr.add_lit], hF, hb, fun k u hu => ?_⟩
      rw [List.getElem?_drop] at hu
      rw [Nat.add_assoc]
      exact hcell _ _ hu
/-- xs[j:] of a row that is known: where it lies is not told. -/
theorem wpl_sliceLoR {P : Program} {ops : Array Oper} {rest : List Oper} {op : Oper} {a : Act} {Q : Exit → Act → World → Prop} {ty : TypeId} {x y : Operand} (hgd : op.guard = none) (ho : op.op = .slice ty x (some y) none none) (ht : P.underlying ty = some (.slice (P.elem ty))) (hi : (P.info? (P.elem ty)).map (·.size) = some size)
    (hx : a.eval x = .slice A n c) (hy : a.eval y = .int .i64 j) (hr : Row F w (.slice A n c) n size cs) (hj : j ≤ n)
    (h : ∀ A' c', Row F w (.slice A' (n - j) c') (n - j) size (cs.drop (j * size)) → wpList P ops Q rest (a.put op.dst (.slice A' (n - j) c')) w) : wpList P ops Q (op :: rest) a w :=
  wpl_sliceLo hgd ho ht hi hx hy hj (h _ _ (hr.dropN hj))
theorem Row.at1 {u : Value} (h : Row F w (.slice A n c) n 1 cs) (hj : cs[j]? = some u) : ∃ b off, A = some ⟨b, off, none⟩ ∧ F b ∧ w.cell? ⟨b, off + j, none⟩ = some u := by
  obtain ⟨A', c', he, hl, hnc, hc, hA⟩ := h
  simp only [Value.slice.injEq, true_and] at he
  obtain ⟨rfl, rfl⟩ := he
  have := (List.getElem?_eq_some_iff.1 hj).1
  rcases hA with hA | ⟨b, off, rfl, hF, hb, hcell⟩
  · omega
  · exact ⟨b, off, rfl, hF, hcell _ _ hj⟩
theorem Parts.take {α : Type} {r : Rep α} {l : List α} (h : Parts r w F cs l) (j : Nat) : Parts r w F (cs.take (j * r.size)) (l.take j) := fun i x hx => by
  rw [List.getElem?_take] at hx
  split at hx
  · rename_i hij
    have hle : (i + 1) * r.size ≤ j * r.size := Nat.mul_le_mul_right _ hij
    rw [Nat.succ_mul] at hle
    have := h i x hx
    rw [List.drop_take, List.take_take, Nat.min_eq_left (by omega)]
    exact this
  · cases hx
end
end Go.Proofs.Ytnekfonnceknoaa
namespace Go.Proofs.Ytnekfonnceknoaa
open Go.RowKit
/-- A world in which all that w has lies as it lay. -/
structure Gr (w : World) where
  w' : World
  k : Keep (fun _ => False) w w'
instance (w : World) : Inhabited (Gr w) := ⟨⟨w, Keep.refl _ w⟩⟩
theorem wp_region_gr {P : Program} {id : Nat} {Q : Exit → Act → World → Prop} {a : Act} {w : World} {l : List Oper} (hm : P.follows .mixedOrders = true) (hB : Region.lexB .any l.toArray = true)
    (h : wpQuiet P l.toArray (fun x => ∃ p : Gr w, x = p.w') (fun a' => ∀ x, (∃ p : Gr w, x = p.w') → Q .normal a' x) l a) : (Code.region id l.toArray true).wp P Q a w :=
  wp_region_quiet (C := fun x => ∃ p : Gr w, x = p.w') hm hB ⟨⟨w.drew, (Keep.refl _ w).drew⟩, rfl⟩ (by simpa using h)
theorem grOf {P : Program} {f : FuncId} {args : Array Value} {w x : World} {v : Value}
    (h : Calls P f args x fun e w'' => e = .returned v ∧ Keep (fun _ => False) w w'') : Calls P f args x fun e w'' => e = .returned v ∧ ∃ q : Gr w, w'' = q.w' :=
  h.mono fun _ _ ⟨he, hk⟩ => ⟨he, ⟨_, hk⟩, rfl⟩

/-! ### A cheap test that the order of the text serves -/
def lexOk (l : List Oper) : Bool :=
  Region.noSelect l.toArray &&
  (l.zipIdx.all fun p => p.1.after.all fun e => !Region.binds .any e || decide (e.on < p.2)) &&
  (l.zipIdx.all fun p => l.zipIdx.all fun q => p.2 == q.2 || (match p.1.dst with | some d => q.1.dst != some d | none => true)) &&
  (l.zipIdx.all fun p => (p.1.looksAt l.toArray).all fun d => l.zipIdx.all fun q => q.1.dst != some d || (decide (q.2 < p.2) && p.1.after.any fun e => Region.binds .any e && e.on == q.2))
theorem zip_mem {l : List Oper} {i : Nat} {o : Oper} (h : l[i]? = some o) : (o, i) ∈ l.zipIdx := by
  rw [List.mem_zipIdx_iff_getElem?]; exact h
def listedTo (n k : Nat) : Array Bool := (Array.range n).map (fun j => decide (j < k))
theorem listedTo_get (n k j : Nat) (d : Bool) : (listedTo n k).getD j d = if j < n then decide (j < k) else d := by
  simp only [listedTo]
  by_cases h : j < n
  · simp [h, Array.getD]
  · simp [h, Array.getD]
theorem listedTo_zero (n : Nat) : Array.replicate n false = listedTo n 0 := by
  apply Array.ext
  · simp [listedTo]
  · intro i h1 h2; simp [listedTo]
theorem listedTo_set (n k : Nat) : (listedTo n k).setIfInBounds k true = listedTo n (k + 1) := by
  apply Array.ext
  · simp [listedTo]
  · intro i h1 h2
    simp [listedTo] at h1
    rw [Array.getElem_setIfInBounds]
    · simp only [listedTo, Array.getElem_map, Array.getElem_range]
      by_cases hik : k = i
      · simp [hik]
      · rw [if_neg hik]; simp; omega
    · simpa [listedTo] using h1
theorem lexFrom_ok {l : List Oper} (h : lexOk l = true) : ∀ (f k : Nat), k + f = l.length → Region.lexFrom .any l.toArray f k (listedTo l.length k) = true
  | 0, k, hk => by
    simp only [Region.lexFrom, List.isEmpty_iff]
    rw [Region.ready, List.filter_eq_nil_iff]
    intro i hi
    simp only [List.size_toArray, List.mem_range] at hi
    rw [listedTo_get, if_pos hi]
    simp
    omega
  | f + 1, k, hk => by
    simp only [lexOk, Bool.and_eq_true] at h
    obtain ⟨⟨⟨hsel, hback⟩, hdist⟩, hlook⟩ := h
    have hkl : k < l.length := by omega
    obtain ⟨ok, hok⟩ : ∃ o, l[k]? = some o := ⟨l[k], by simp [hkl]⟩
    have hokm := zip_mem hok
    simp only [Region.lexFrom, Bool.and_eq_true]
    refine ⟨⟨?_, ?_⟩, ?_⟩
    · simp only [Region.ready, List.contains_eq_mem, decide_eq_true_eq, List.mem_filter, List.size_toArray, List.mem_range]
      refine ⟨hkl, ?_⟩
      have hb := List.all_eq_true.1 hback _ hokm
      rw [listedTo_get, if_pos hkl]
      simp only [List.getElem?_toArray, hok, Option.map_some, Option.getD_some]
      rw [Bool.and_eq_true]
      refine ⟨by simp, ?_⟩
      rw [Array.all_eq_true_iff_forall_mem]
      intro e he
      have hb2 := Array.all_eq_true_iff_forall_mem.1 hb e he
      rw [Bool.or_eq_true] at hb2 ⊢
      rcases hb2 with hb2 | hb2
      · exact .inl hb2
      · right
        simp only [decide_eq_true_eq] at hb2
        rw [listedTo_get, if_pos (by omega)]
        simpa using hb2
    · simp only [Region.free, List.getElem?_toArray, hok, List.size_toArray]
      rw [List.all_eq_true]
      intro j hj
      rw [List.mem_range] at hj
      obtain ⟨oj, hoj⟩ : ∃ o, l[j]? = some o := ⟨l[j], by simp [hj]⟩
      have hojm := zip_mem hoj
      rw [listedTo_get, if_pos hj]
      simp only [hoj]
      by_cases hjk : j ≤ k
      · by_cases h2 : j = k
        · simp [h2]
        · have : j < k := by omega
          simp [this]
      · rw [Bool.or_eq_true]
        right
        by_cases hedge : (oj.after.any fun e => Region.binds .any e && e.on == k) = true
        · rw [hedge]; rfl
        · have hap : ok.apart l.toArray oj = true := by
            have hlj := List.all_eq_true.1 hlook _ hojm
            have hlk := List.all_eq_true.1 hlook _ hokm
            have hd := List.all_eq_true.1 (List.all_eq_true.1 hdist _ hokm) _ hojm
            simp only [Oper.apart, Bool.and_eq_true]
            constructor
            · split
              · rename_i d hdd
                rw [Bool.and_eq_true]
                constructor
                · simp only [Bool.not_eq_true', List.contains_eq_mem, decide_eq_false_iff_not]
                  intro hmem
                  have := List.all_eq_true.1 (List.all_eq_true.1 hlj d hmem) _ hokm
                  simp only [hdd, Bool.or_eq_true, bne_self_eq_false, Bool.false_eq_true, false_or, Bool.and_eq_true] at this
                  exact hedge this.2
                · simp only [hdd, Bool.or_eq_true, beq_iff_eq] at hd
                  rcases hd with hd | hd
                  · omega
                  · exact hd
              · rfl
            · split
              · rename_i d hdd
                simp only [Bool.not_eq_true', List.contains_eq_mem, decide_eq_false_iff_not]
                intro hmem
                have := List.all_eq_true.1 (List.all_eq_true.1 hlk d hmem) _ hojm
                simp only [hdd, Bool.or_eq_true, bne_self_eq_false, Bool.false_eq_true, false_or, Bool.and_eq_true, decide_eq_true_eq] at this
                omega
              · rfl
          rw [hap]; simp
    · rw [listedTo_set]
      exact lexFrom_ok (by simp only [lexOk, Bool.and_eq_true]; exact ⟨⟨⟨hsel, hback⟩, hdist⟩, hlook⟩) f (k + 1) (by omega)
theorem lexB_of {l : List Oper} (h : lexOk l = true) : Region.lexB .any l.toArray = true := by
  have h0 := h
  simp only [lexOk, Bool.and_eq_true] at h
  rw [Region.lexB, h.1.1.1, Bool.true_and, List.size_toArray, listedTo_zero]
  exact lexFrom_ok h0 _ 0 (by omega)
end Go.Proofs.Ytnekfonnceknoaa
