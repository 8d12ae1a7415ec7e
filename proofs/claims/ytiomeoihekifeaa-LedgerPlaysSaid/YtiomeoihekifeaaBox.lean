/- Boxes: New, Post, Take, Len. -/
import Derived.Test.YtiomeoihekifeaaOwnM
import Derived.Test.YtiomeoihekifeaaComm
import Derived.Deep.Cut
import Derived.Conc.LoneSelectN
namespace Go.Proofs.Ytiomeoihekifeaa
open Go.RowKit Go.Conc
/-- A box that holds messages; its blocks are of F. -/
def BoxAt (F : Nat → Prop) (w : World) (g c cap : Nat) (l : List Msg) : Prop :=
  ∃ s r buf, w.heap[g]? = some (.cells #[.chan (some c)] 97) ∧ w.heap[c]? = some (.chan cap buf false s r false) ∧ F g ∧ F c ∧ g ≠ c ∧ buf.size = l.length ∧ l.length ≤ cap ∧
    ∀ (i : Nat) (m : Msg), l[i]? = some m → ∃ cs, buf[i]? = some (.agg cs.toArray) ∧ Rep.msg.cells w (fun q => F q ∧ q ≠ g ∧ q ≠ c) m cs
theorem run_equalIn_chan_nil {P : Program} (w : World) (d : Nat) {t e : TypeId} {dr : ChanDir} (m : Option Nat) (h : P.underlying t = some (.chan dr e)) : (Op.equalIn (d + 1) t (.chan m) (.chan none)).run P w = .ok m.isNone w := by
  cases m <;> simp [Op.equalIn, run_underlying h]
theorem run_neq_chan_nil {P : Program} (w : World) {t e : TypeId} {d : ChanDir} (m : Option Nat) (h : P.underlying t = some (.chan d e)) : (binOp .neq t (.chan m) (.chan none)).run P w = .ok (.bool (!m.isNone)) w := by
  have h1 : (Op.equal t (.chan m) (.chan none)).run P w = .ok m.isNone w := run_equalIn_chan_nil w 9999 m h
  simp only [binOp]
  simp [h1]
section
variable {F S G : Nat → Prop} {w w' : World} {g c cap : Nat} {l : List Msg}
theorem BoxAt.keep (h : BoxAt F w g c cap l) (hk : Keep S w w') (hd : ∀ k, F k → ¬ S k) : BoxAt F w' g c cap l := by
  obtain ⟨s, r, buf, h1, h2, h3, h4, h5, h6, h7, h8⟩ := h
  refine ⟨s, r, buf, hk.heap h1 (hd g h3), hk.heap h2 (hd c h4), h3, h4, h5, h6, h7, fun i m hm => ?_⟩
  obtain ⟨cs, q1, q2⟩ := h8 i m hm
  exact ⟨cs, q1, Rep.msg.keep q2 hk (fun k hk => hd k hk.1)⟩
theorem BoxAt.mono (h : BoxAt F w g c cap l) (hFG : ∀ k, F k → G k) : BoxAt G w g c cap l := by
  obtain ⟨s, r, buf, h1, h2, h3, h4, h5, h6, h7, h8⟩ := h
  refine ⟨s, r, buf, h1, h2, hFG g h3, hFG c h4, h5, h6, h7, fun i m hm => ?_⟩
  obtain ⟨cs, q1, q2⟩ := h8 i m hm
  exact ⟨cs, q1, Rep.msg.mono q2 (fun k hk => ⟨hFG k hk.1, hk.2⟩)⟩
theorem BoxAt.le (h : BoxAt F w g c cap l) : l.length ≤ cap := by obtain ⟨_, _, _, _, _, _, _, _, _, h, _⟩ := h; exact h
theorem BoxAt.lt (h : BoxAt F w g c cap l) : g < w.heap.size := by obtain ⟨_, _, _, h, _⟩ := h; exact lt_heap h
set_option maxRecDepth 20000 in
theorem made_calls (h : BoxAt F w g c cap l) : Calls Try.prog 59 #[.pointer (some ⟨g, 0, none⟩)] w fun e w' => e = .returned (.bool true) ∧ w = w' := by
  obtain ⟨s, r, buf, hg, _⟩ := h
  have c0 := cell_at hg 0 (.chan (some c)) rfl
  have hne := fun w => run_neq_chan_nil (P := Try.prog) w (some c) Try.underlying95
  clear hg
  go_enter Try.func59, Try.ntmps59
  go_wp2_with fail
  go_ret
  exact ⟨rfl, rfl⟩
set_option maxRecDepth 20000 in
theorem made_nil : Calls Try.prog 59 #[.pointer none] w fun e w' => e = .returned (.bool false) ∧ w = w' := by
  go_enter Try.func59, Try.ntmps59
  go_wp2_with fail
  go_ret
  exact ⟨rfl, rfl⟩
theorem info_msg : ∃ i, Try.prog.info? 60 = some i ∧ i.bytes = 312 ∧ i.zero = some (.agg (msgCs msgZ nilV nilV nilV nilV).toArray) := by
  have h : (Try.prog.info? 60).map (fun i => (i.zero, i.size, i.bytes)) = some (some (.agg (msgCs msgZ nilV nilV nilV nilV).toArray), 27, 312) := by kernel_rfl
  obtain ⟨i, hi, h1, h2, h3⟩ := info_parts h
  exact ⟨i, hi, h3, h1⟩
set_option maxRecDepth 20000 in
theorem newBox_calls (n : Nat) (h1 : 1 ≤ n) (h2 : n ≤ 4096) :
    Calls Try.prog 36 #[.int .i64 n] w fun e w' => ∃ g c, e = .returned (.tuple #[.pointer (some ⟨g, 0, none⟩), .int .i64 0]) ∧ BoxAt (NewIn w w') w' g c n [] ∧ Keep (fun _ => False) w w' := by
  obtain ⟨i, hi, hb, _⟩ := info_msg
  have hmk := fun w => run_makeChan (P := Try.prog) (w := w) Try.underlying95 hi .i64 n (by omega) (by rw [hb]; omega)
  clear hi hb
  have d1 : decide ((n : Int) < 1) = false := decide_eq_false (by omega)
  have d2 : decide (4096 < (n : Int)) = false := decide_eq_false (by omega)
  go_enter Try.func36, Try.ntmps36
  go_wp2_with fail
  go_ret2
  refine ⟨_, w.heap.size, rfl, ⟨0, 0, #[], ?_, ?_, ⟨by omega, by simp⟩, ⟨by omega, by simp; omega⟩, by omega, rfl, by simp, fun i m hm => by simp at hm⟩, ((Keep.refl _ w).alloc _).alloc _⟩
  · have := heap_alloc_new (w.alloc (.chan n #[] false 0 0 false)) (.cells #[.chan (some w.heap.size)] 97)
    simpa only [World.size_alloc] using this
  · rw [Below.heap_alloc _ _ _ (by simp)]
    exact heap_alloc_new w _
set_option maxRecDepth 20000 in
theorem newBox_bad (n : Int) (h : n < 1 ∨ 4096 < n) :
    Calls Try.prog 36 #[.int .i64 n] w fun e w' => e = .returned (.tuple #[.pointer none, .int .i64 1]) ∧ w = w' := by
  have d1 : (decide (n < 1) || decide (4096 < n)) = true := by simpa using h
  by_cases h1 : n < 1
  · go_enter Try.func36, Try.ntmps36
    go_wp2_with fail
    go_ret2
    exact ⟨rfl, rfl⟩
  · have h2 : 4096 < n := by omega
    go_enter Try.func36, Try.ntmps36
    go_wp2_with fail
    go_ret2
    exact ⟨rfl, rfl⟩
/-- A message that is small enough to be copied. -/
structure Msg.Fits (m : Msg) : Prop where
  c : m.value.changes.length ≤ 4294967296
  v : m.votes.length ≤ 4294967296
  i : m.image.length ≤ 4294967296
  k : m.verdict.commits.length ≤ 4294967296
  vc : ∀ x ∈ m.votes, x.value.changes.length ≤ 4294967296
  kc : ∀ x ∈ m.verdict.commits, x.changes.length ≤ 4294967296
theorem own_calls' {m : Msg} {cs : List Value} (hm : Rep.msg.cells w G m cs) (hG : ∀ q, G q → q < w.heap.size) (hf : m.Fits) :
    Calls Try.prog 60 #[.agg cs.toArray] w fun e w' => ∃ vs, e = .returned (.agg vs.toArray) ∧ Rep.msg.cells w' (NewIn w w') m vs ∧ Keep (fun _ => False) w w' := by
  obtain ⟨vc, vv, vi, vk, rfl, h1, h2, h3, h4, h5⟩ := msg_cells hm
  exact ownM_calls h1 h2 h3 h4 hG h5 hf.c hf.v hf.i hf.k hf.vc hf.kc
theorem wpl_goC {P : Program} {ops : Array Oper} {Q : Exit → Act → World → Prop} {l : List Oper} {a : Act} {w : World} (h : wpList P ops Q l a w) : wpList P ops Q l a w := h
set_option maxRecDepth 20000 in
set_option maxHeartbeats 800000 in
theorem post_calls {m : Msg} {cs : List Value} (h : BoxAt F w g c cap l) (hF : ∀ q, F q → q < w.heap.size) (hm : Rep.msg.cells w G m cs) (hG : ∀ q, G q → q < w.heap.size) (hf : m.Fits) :
    Calls Try.prog 38 #[.pointer (some ⟨g, 0, none⟩), .agg cs.toArray] w fun e w' => e = .returned (.bool (decide (l.length < cap))) ∧ BoxAt (Grow F w w') w' g c cap (if l.length < cap then l ++ [m] else l) ∧ Keep (fun q => q = c) w w' := by
  have hlen : cs.length = 27 := Rep.msg.len hm
  have H := hid h
  have HM := hid hm
  have HG := hid hG
  have HFF := hid hF
  have HL := hid hlen
  clear h hm hG hF hlen
  go_enter Try.func38, Try.ntmps38
  go_wp2_with (first
    | (refine wpl_boxB (v := .agg cs.toArray) rfl rfl rfl ?_; intro g1 w1 hg1 hb1 k1 s1; have HG1 := hid hg1; clear hg1))
  have h1 := H.out.keep k1 (fun _ _ => id)
  refine (made_calls h1).mono ?_
  rintro e w' ⟨rfl, rfl⟩
  have H1 := hid h1
  obtain ⟨s, r, buf, q1, q2, q3, q4, q5, q6, q7, q8⟩ := h1
  have HQ8 := hid q8
  clear q8
  go_wp2_with (first
    | (refine wpl_load1 rfl rfl rfl q1 (by kernel_rfl) (v := .chan (some c)) rfl ?_)
    | (refine wpl_loadA rfl rfl rfl hb1 (by kernel_rfl) (by kernel_rfl) cs (List.take_of_length_le (Nat.le_of_eq HL.out)) HL.out ?_))
  refine (own_calls' (Rep.msg.keep HM.out k1 (fun _ _ => id)) (fun q hq => by have := HG.out q hq; have := k1.size; omega) hf).mono ?_
  rintro e w2 ⟨vs, rfl, hm2, k2⟩
  have q1' := k2.heap q1 id
  have q2' := k2.heap q2 id
  have HM2 := hid hm2
  clear q1 q2 hm2
  go_upto_region 5 with fail
  have hz := fun w => (by obtain ⟨i, hi, _, hz⟩ := info_msg; simp [zeroValue, typeInfo, hi, hz] : (zeroValue 60).run Try.prog w = .ok (.agg (msgCs msgZ nilV nilV nilV nilV).toArray) w)
  by_cases hroom : l.length < cap
  · refine wp_send_room (x := .agg vs.toArray) (z := .agg (msgCs msgZ nilV nilV nilV nilV).toArray) rfl (by simp [go_sem, execOp, Act.eval, scase, hz]) q2' (by omega) ?_
    intro w3 hb3 k3 s3
    clear hz
    go_wp2_with fail
    go_ret
    have z1 := k1.size
    have z2 := k2.size
    have e1 := HG1.out
    have hc1 : c < w.heap.size := HFF.out c q4
    have hg1 : g < w.heap.size := HFF.out g q3
    refine ⟨rfl, ⟨s + 1, r, _, k3.heap q1' q5, hb3, .inl q3, .inl q4, q5, by simp [q6], by simp; omega, fun i x hx => ?_⟩, ((k1.trans k2 (fun _ _ q => q)).mono (fun _ _ q => q.elim)).trans k3 (fun b hb e => e)⟩
    rw [List.getElem?_append] at hx
    split at hx
    · rename_i hi
      obtain ⟨d, y1, y2⟩ := HQ8.out i x hx
      refine ⟨d, ?_, Rep.msg.mono (Rep.msg.keep (Rep.msg.keep y2 k2 (fun _ _ q => q)) k3 (fun q hq e => hq.2.2 e)) (fun q hq => ⟨.inl hq.1, hq.2⟩)⟩
      rw [Array.getElem?_push, if_neg (by omega)]
      exact y1
    · rename_i hi
      have hi0 : i - l.length = 0 := by
        rcases Nat.eq_zero_or_pos (i - l.length) with q | q
        · exact q
        · rw [List.getElem?_eq_none (by simp; omega)] at hx; cases hx
      rw [hi0] at hx
      simp only [List.getElem?_cons_zero, Option.some.injEq] at hx
      subst hx
      refine ⟨vs, ?_, Rep.msg.mono (Rep.msg.keep HM2.out k3 (fun q hq e => by have := hq.1; omega)) (fun q hq => ⟨.inr ⟨by have := hq.1; omega, by have := hq.2; omega⟩, by have := hq.1; omega, by have := hq.1; omega⟩)⟩
      rw [Array.getElem?_push, if_pos (by omega)]
  · refine wp_send_full (x := .agg vs.toArray) (z := .agg (msgCs msgZ nilV nilV nilV nilV).toArray) rfl (by simp [go_sem, execOp, Act.eval, scase, hz]) q2' (by omega) ?_
    clear hz
    go_wp2_with fail
    go_ret
    exact ⟨rfl, (H1.out.keep k2 (fun _ _ q => q)).mono (fun _ q => .inl q), (k1.trans k2 (fun _ _ q => q)).mono (fun _ _ q => q.elim)⟩
set_option maxRecDepth 20000 in
theorem len_calls (h : BoxAt F w g c cap l) : Calls Try.prog 46 #[.pointer (some ⟨g, 0, none⟩)] w fun e w' => e = .returned (.int .i64 l.length) ∧ w = w' := by
  have h1 := h
  obtain ⟨s, r, buf, q1, q2, q3, q4, q5, q6, q7, q8⟩ := h
  have hln := run_len_chan (P := Try.prog) (w := w) 95 3 Try.underlying95 q2
  rw [q6] at hln
  clear q8 q6
  go_enter Try.func46, Try.ntmps46
  go_wp2_with fail
  refine (made_calls h1).mono ?_
  rintro e w' ⟨rfl, rfl⟩
  go_wp2_with (first
    | (refine wpl_load1 rfl rfl rfl q1 (by kernel_rfl) (v := .chan (some c)) rfl ?_))
  go_ret
  exact ⟨rfl, rfl⟩
set_option maxRecDepth 20000 in
theorem len_nil : Calls Try.prog 46 #[.pointer none] w fun e w' => e = .returned (.int .i64 0) ∧ w = w' := by
  go_enter Try.func46, Try.ntmps46
  go_wp2_with fail
  refine made_nil.mono ?_
  rintro e w' ⟨rfl, rfl⟩
  go_wp2_with fail
  go_ret
  exact ⟨rfl, rfl⟩
/-- What is taken: the first message, if there is one. -/
def TakePost (F : Nat → Prop) (w : World) (g c cap : Nat) (l : List Msg) (e : Ending) (w' : World) : Prop :=
  ∃ cs, e = .returned (.tuple #[.agg cs.toArray, .bool (decide (0 < l.length))]) ∧ Rep.msg.cells w' (fun q => F q ∧ q ≠ g ∧ q ≠ c) (l.headD msgZ) cs ∧ BoxAt F w' g c cap l.tail ∧ Keep (fun q => q = c) w w'
theorem msgZ_ok : msgZ.Ok := by
  have h : okI 0 := ⟨by decide, by decide⟩
  exact ⟨h, h, h, h, h, h, ⟨h, h, h, h, h, h, h⟩, h, ⟨h, h, h, by decide, h⟩⟩
theorem nilSl {α : Type} (r : Rep α) (w : World) (F : Nat → Prop) : Sl r w F (.slice none 0 0) [] := ⟨none, 0, rfl, Nat.le_refl _, Nat.zero_le _, .inl rfl⟩
theorem msgZ_cells (w : World) (F : Nat → Prop) : Rep.msg.cells w F msgZ (msgCs msgZ nilV nilV nilV nilV) := msg_mk (nilSl _ _ _) (nilSl _ _ _) (nilSl _ _ _) (nilSl _ _ _) msgZ_ok
theorem msg_oneA {m : Msg} {cs : List Value} (h : Rep.msg.cells w F m cs) : ∀ u ∈ (Value.agg cs.toArray).cells.toList, u.oneCell' = true := fun u hu => msg_one m cs h u (by simpa [Value.cells] using hu)
set_option maxRecDepth 20000 in
set_option maxHeartbeats 800000 in
theorem take_calls (h : BoxAt F w g c cap l) (hF : ∀ q, F q → q < w.heap.size) : Calls Try.prog 39 #[.pointer (some ⟨g, 0, none⟩)] w (TakePost F w g c cap l) := by
  have hz := fun w => (by obtain ⟨i, hi, _, hz⟩ := info_msg; simp [zeroValue, typeInfo, hi, hz] : (zeroValue 60).run Try.prog w = .ok (.agg (msgCs msgZ nilV nilV nilV nilV).toArray) w)
  have HZ := hid hz
  have H := hid h
  have HFF := hid hF
  clear h hF hz
  go_enter Try.func39, Try.ntmps39
  go_wp2_with (first
    | (refine wpl_allocB (z := .agg (msgCs msgZ nilV nilV nilV nilV).toArray) rfl rfl (by kernel_rfl) ?_; intro g1 w1 hg1 hb1 k1 s1; have HG1 := hid hg1; clear hg1))
  have h1 := H.out.keep k1 (fun _ _ => id)
  refine (made_calls h1).mono ?_
  rintro e w' ⟨rfl, rfl⟩
  have H1 := hid h1
  obtain ⟨s, r, buf, q1, q2, q3, q4, q5, q6, q7, q8⟩ := h1
  have HQ8 := hid q8
  clear q8
  go_upto_region 4 with (first
    | (refine wpl_load1 rfl rfl rfl q1 (by kernel_rfl) (v := .chan (some c)) rfl ?_))
  cases l with
  | nil =>
    have hbuf : buf = #[] := Array.eq_empty_of_size_eq_zero (by simpa using q6)
    subst hbuf
    refine wp_recv_none (z := .agg (msgCs msgZ nilV nilV nilV nilV).toArray) rfl (by simp [go_sem, execOp, Act.eval, rcase, HZ.out]) q2 ?_
    go_wp2_with (first
      | (refine wpl_storeB (v := .agg (msgCs msgZ nilV nilV nilV nilV).toArray) rfl rfl rfl rfl hb1 (by kernel_rfl) (by decide) (msg_oneA (msgZ_cells w1 F)) ?_; intro w2 hb2 k2 s2))
    refine bodyPost_ret (res_cell_tmp (g := g1) (cs := (msgCs msgZ nilV nilV nilV nilV).toArray) (v := .bool false) Try.results39 _ rfl rfl hb2 (by kernel_rfl) (by kernel_rfl)) rfl ?_
    have e1 := HG1.out
    exact ⟨_, rfl, msgZ_cells _ _, H1.out.keep k2 (fun q hq e => by have := HFF.out q hq; omega), (k1.mono (fun _ _ q => q.elim)).trans k2 (fun b hb e => by omega)⟩
  | cons m t =>
    obtain ⟨cs, hbc, hmc⟩ := HQ8.out 0 m rfl
    have hgd : buf.getD 0 undef = .agg cs.toArray := by simp [hbc]
    have hlen : cs.length = 27 := Rep.msg.len hmc
    have HL := hid hlen
    have HMC := hid hmc
    have HBC := hid hbc
    have hb27 : 0 + (Value.agg cs.toArray).cells.size ≤ 27 := by simp [Value.cells, hlen]
    clear hlen hmc hbc
    refine wp_recv_some (z := .agg (msgCs msgZ nilV nilV nilV nilV).toArray) rfl (by simp [go_sem, execOp, Act.eval, rcase, HZ.out]) q2 (by rw [q6]; simp) ?_
    intro w2 hb2 k2 s2
    rw [hgd]
    have hc1 : c < w.heap.size := HFF.out c q4
    have hb1' := k2.heap hb1 (fun e => by have := HG1.out; omega)
    have HQ1 := hid q1
    clear hb1 hgd q1 q2
    have hmA := msg_oneA HMC.out
    have hsz : (Value.agg cs.toArray).cells.size = 27 := by simp [Value.cells, HL.out]
    have hsp : some (Obj.cells (spl (Value.agg (msgCs msgZ nilV nilV nilV nilV).toArray).cells 0 (Value.agg cs.toArray).cells.toList) 60) = some (Obj.cells cs.toArray 60) := by
      rw [spl_whole _ _ (by simp only [Value.cells, List.size_toArray, msgCs_len, HL.out]; omega)]
      rfl
    have HSP := hid hsp
    clear hsp
    have HSZ := hid hsz
    clear hsz
    go_wp2_with (first
      | (refine wpl_allocB (z := .agg (msgCs msgZ nilV nilV nilV nilV).toArray) rfl rfl (by kernel_rfl) ?_; intro g2 w3 hg2 hb3 k3 s3; have HG2 := hid hg2; clear hg2; have hb1'' := k3.heap hb1' id)
      | (refine wpl_storeB (v := .agg cs.toArray) rfl rfl rfl rfl hb3 (by rw [HSZ.out]; kernel_rfl) hb27 hmA ?_; intro w4 hb4' k4 s4; have hb4 := hb4'.trans HSP.out; have hb1''' := k4.heap hb1'' (fun e => by have := HG1.out; have := HG2.out; omega))
      | (refine wpl_loadA rfl rfl rfl hb4 (by kernel_rfl) (by kernel_rfl) cs (List.take_of_length_le (Nat.le_of_eq HL.out)) HL.out ?_)
      | (refine wpl_storeB (v := .agg cs.toArray) rfl rfl rfl rfl hb1''' (by rw [HSZ.out]; kernel_rfl) hb27 hmA ?_; intro w5 hb5' k5 s5; have hb5 := hb5'.trans HSP.out))
    refine bodyPost_ret (res_cell_tmp (g := g1) (cs := cs.toArray) (v := .bool true) Try.results39 _ rfl rfl hb5 (by kernel_rfl) (by rw [show cs.toArray.size = 27 by simpa using HL.out]; kernel_rfl)) rfl ?_
    have e1 := HG1.out
    have e2 := HG2.out
    have hg1 : g < w.heap.size := HFF.out g q3
    have kk : Keep (fun q => q = g1 ∨ q = g2) w2 w5 := ((k3.mono (fun _ _ q => q.elim)).trans (k4.mono (T := fun q => q = g1 ∨ q = g2) (fun _ _ e => .inr e)) (fun _ _ q => q)).trans (k5.mono (T := fun q => q = g1 ∨ q = g2) (fun _ _ e => .inl e)) (fun _ _ q => q)
    have hd : ∀ q, F q → ¬ (q = g1 ∨ q = g2) := fun q hq e => by have := HFF.out q hq; omega
    have kc : Keep (fun q => q = c) w1 w2 := k2
    refine ⟨cs, rfl, ?_, ⟨s, r + 1, buf.extract 1 buf.size, ?_, kk.heap hb2 (hd c q4), q3, q4, q5, ?_, ?_, ?_⟩, ?_⟩
    · exact Rep.msg.mono (Rep.msg.keep (Rep.msg.keep HMC.out kc (fun q hq e => hq.2.2 e)) kk (fun q hq => hd q hq.1)) (fun q hq => hq)
    · exact kk.heap (k2.heap HQ1.out q5) (hd g q3)
    · simp [q6]
    · simp only [List.tail_cons, List.length_cons] at q7 ⊢; omega
    · intro i x hx
      obtain ⟨d, y1, y2⟩ := HQ8.out (i + 1) x (by simpa using hx)
      refine ⟨d, ?_, Rep.msg.keep (Rep.msg.keep y2 kc (fun q hq e => hq.2.2 e)) kk (fun q hq => hd q hq.1)⟩
      rw [Array.getElem?_extract]
      have hi : i + 1 < buf.size := (Array.getElem?_eq_some_iff.1 y1).1
      simp only [Nat.min_self]
      rw [if_pos (by omega), Nat.add_comm]
      exact y1
    · exact (((k1.mono (fun _ _ q => q.elim)).trans kc (fun _ _ q => q))).trans kk (fun b hb e => by omega)
end
end Go.Proofs.Ytiomeoihekifeaa
