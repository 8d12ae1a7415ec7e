/- wapentakeref23.Net: Take. -/
import Derived.Test.YtofljidmdabkcaaGreatRNet2
namespace Go.Proofs.YtofljidmdabkcaaGreat
open Go.RowKit Go.Lib
section
variable {F S G : Nat → Prop} {w w' : World} {g : Nat} {most : Int} {L : List Msg} {m : Msg} {ms : List Value} {k : Int}
def RTake (F : Nat → Prop) (w : World) (g : Nat) (most : Int) (L : List Msg) (k : Int) (e : Ending) (w' : World) : Prop :=
  ∃ cs, e = .returned (.tuple #[.agg cs.toArray, .bool (decide (0 < L.length))]) ∧ Rep.msg.cells w' (fun q => F q ∧ q ≠ g) (takeM L k) cs ∧ NetAt 54 (Grow F w w') w' g most (L.eraseIdx (placeN k L.length)) ∧ Keep F w w'
set_option maxRecDepth 20000 in
set_option maxHeartbeats 8000000 in
theorem rtake_calls (h : NetAt 54 F w g most L) (hk : okI k) : Calls Tryz.prog 11 #[.pointer (some ⟨g, 0, none⟩), .int .i64 k] w (RTake F w g most L k) := by
  have hle := h.le
  have KP := hid (fun w' (hk' : Keep (fun _ => False) w w') => rplace_calls (h.keepF hk') hk)
  have HAT := hid h
  obtain ⟨v, cs, h⟩ := h
  obtain ⟨A, c, rfl⟩ := h.shape
  have H := hid h
  obtain ⟨n, hn⟩ : ∃ n, n = L.length := ⟨_, rfl⟩
  rw [← hn] at hle KP
  have HN := hid hn
  clear h hn hk
  by_cases h0 : n = 0
  · subst h0
    go_enter Tryz.func11, Tryz.ntmps11
    go_wp2_with (first
      | (refine wpl_allocB (z := zM) rfl rfl (by kernel_rfl) ?_; intro g4 w1 hg4 hb4 k1 s1; have HG4 := hid hg4; have K1 := hid k1; clear hg4 k1 s1))
    refine (KP.out _ K1.out).mono ?_
    rintro e w' ⟨rfl, rfl⟩
    rw [if_pos rfl]
    have hz := fun w => (by obtain ⟨i, hi, _, hz⟩ := info_msg; simp [zeroValue, typeInfo, hi, hz] : (zeroValue 42).run Tryz.prog w = .ok (.agg (msgCs msgZ nilV nilV nilV nilV).toArray) w)
    go_wp2_with (first
      | (refine wpl_build rfl rfl (msgCs msgZ nilV nilV nilV nilV).toArray (by kernel_rfl) ?_)
      | (refine wpl_storeB (v := zM) rfl rfl rfl rfl hb4 msgL_z.info msgL_z.fit msgL_z.oneA ?_; intro w2 hb2 k2 s2))
    refine bodyPost_ret (res_cell_tmp (g := g4) (cs := (msgCs msgZ nilV nilV nilV nilV).toArray) (v := .bool false) Tryz.results11 _ rfl rfl (hb2.trans (msgL_z.whole rfl)) (by kernel_rfl) (by kernel_rfl)) rfl ?_
    have e1 := HG4.out
    have kk : Keep (fun _ => False) w w2 := K1.out.trans k2 (fun b hb e => by omega)
    refine ⟨_, by rw [← HN.out]; rfl, ?_, ?_, kk.mono (fun _ _ f => f.elim)⟩
    · rw [takeM_nil HN.out.symm]; exact msgZ_cells _ _
    · have : L = [] := List.eq_nil_of_length_eq_zero HN.out.symm
      subst this
      exact HAT.out.grow kk
  obtain ⟨n1, rfl⟩ : ∃ n1, n = n1 + 1 := ⟨n - 1, by omega⟩
  have hst := H.out
  rcases hst.row.2 with ⟨_, h00⟩ | ⟨b, cap, cur, he, _, hgb, hnc, hcm, hcs, htk⟩
  · have := HN.out; omega
  simp only [Value.slice.injEq, true_and] at he
  obtain ⟨rfl, rfl⟩ := he
  have hil := placeN_lt k (n := n1 + 1) (by omega)
  obtain ⟨i, hi⟩ : ∃ i, i = placeN k (n1 + 1) := ⟨_, rfl⟩
  rw [← hi] at hil
  have HI := hid hi
  have KPI := hid (fun w' (hk' : Keep (fun _ => False) w w') => (KP.out w' hk').mono (R' := fun e w'' => e = .returned (.int .i64 (i : Int)) ∧ w' = w'') (fun e w'' h => ⟨by rw [h.1, if_neg h0, HI.out], h.2⟩))
  obtain ⟨x, hx⟩ : ∃ x, L[i]? = some x := ⟨L[i]'(by rw [← HN.out]; exact hil), List.getElem?_eq_getElem _⟩
  have hxm := hst.parts i x hx
  have hlx := MsgL.of hxm
  obtain ⟨xs, hxs⟩ : ∃ xs, xs = (cs.drop (i * 27)).take 27 := ⟨_, rfl⟩
  have hsz : Rep.msg.size = 27 := rfl
  rw [hsz] at hxm hlx
  rw [← hxs] at hxm hlx
  have hcell : ∀ j u, xs[j]? = some u → w.cell? ⟨b, i * 27 + j, none⟩ = some u := fun j u hu => by
    refine (World.ownsRow.cells hst.row (g := b) rfl (i * 27 + j) u ?_ : _).trans rfl |> fun q => by rw [Addr.add_lit, Nat.zero_add] at q; exact q
    rw [hxs, List.getElem?_take] at hu
    split at hu
    · rwa [List.getElem?_drop] at hu
    · cases hu
  have hobj := cell_at hst.obj 1 (.slice (some ⟨b, 0, none⟩) L.length c) rfl
  have hrow := Row.ofOwn hst.row
  have hone := parts_one hst.parts hst.row.1
  have hown := hst.own b rfl
  rw [← HN.out] at hobj hrow
  have HX := hid hx; have HXM := hid hxm; have HLX := hid hlx; have HC := hid hcell; have HO := hid hobj; have HW := hid hown; have HIL := hid hil; have HROW := hid hrow; have HONE := hid hone
  have hwsz := lt_heap hgb
  have hgl := lt_heap hst.obj
  obtain ⟨dM, hu, hd⟩ : ∃ d, Tryz.prog.underlying 42 = some d ∧ d.isRow = true := ⟨_, Tryz.underlying42, rfl⟩
  have hinf : (Tryz.prog.info? 42).map (·.size) = some xs.length := by rw [HLX.out.len]; kernel_rfl
  have HU := hid hu; have HD := hid hd; have HIN := hid hinf
  have hi1 : (0 : Int) ≤ (i : Int) := by omega
  have hi2 : (i : Int) < (n1 : Int) + 1 := by omega
  have hi3 : decide ((i : Int) < 0) = false := decide_eq_false (by omega)
  have hcap : n1 + 1 ≤ c := by have := hrow.cap; omega
  clear hxm hlx hcell hobj hown hst hxs hgb hcm hcs htk hu hd hinf hsz hx hi hnc hrow hone KP
  go_enter Tryz.func11, Tryz.ntmps11
  go_wp2_with (first
    | (refine wpl_allocB (z := zM) rfl rfl (by kernel_rfl) ?_; intro g4 w1 hg4 hb4 k1 s1; have HG4 := hid hg4; have K1 := hid k1; clear hg4 k1 s1))
  refine (KPI.out _ K1.out).mono ?_
  rintro e w' ⟨rfl, rfl⟩
  have q1 : w1.cell? ⟨g, 1, none⟩ = some (.slice (some ⟨b, 0, none⟩) (n1 + 1) c) := K1.out.cell HO.out id
  have HCE := hid (fun j u (hu : xs[j]? = some u) => K1.out.cell (HC.out j u hu) id)
  go_wp2_with (first
    | (refine wpList_load_mid rfl _ _ rfl b (i * 27) rfl xs dM HCE.out HU.out HD.out HIN.out ?_)
    | (refine wpl_allocB (z := zM) rfl rfl (by kernel_rfl) ?_; intro g7 w4 hg7 hb7 k4 s4; have HG7 := hid hg7; have K4 := hid k4; have hb44 := k4.heap hb4 id; clear hg7 k4 s4)
    | (refine wpl_storeB (v := .agg xs.toArray) (b := g7) rfl rfl rfl rfl hb7 HLX.out.info HLX.out.fit HLX.out.oneA ?_; intro w5 hb75 k5 s5; have q5 := k5.cell (K4.out.cell q1 id) (fun e => by have := HG7.out; have := K1.out.size; simp only at e; omega); have q5a := fun o => ((Keep.refl (fun _ => False) w5).alloc o).cell q5 id; have hb45 := k5.heap hb44 (fun e => by have := HG7.out; have := lt_heap hb4; omega); have K5 := hid k5; replace hb75 := hb75.trans (HLX.out.whole rfl); clear k5 s5)
    | (refine wpl_sliceHi (size := 27) (j := i) rfl rfl (by kernel_rfl) (by kernel_rfl) rfl rfl (by omega) ?_)
    | (at_builtin; refine stopHere ?_))
  have e4 := HG4.out; have e7 := HG7.out
  have z1 := K1.out.size; have z4 := K4.out.size; have z5 := K5.out.size
  have g4w : g4 < w1.heap.size := lt_heap hb4
  have kw5 : Keep (fun _ => False) w w5 := (K1.out.trans K4.out (fun _ _ f => f)).trans K5.out (fun b hb e => by omega)
  have HKW5 := hid kw5; have HB45 := hid hb45; have HB75 := hid hb75
  have HOW := hid (show b ≠ g4 ∧ b ≠ g7 ∧ g ≠ g4 ∧ g ≠ g7 ∧ g4 ≠ g7 ∧ w.heap.size ≤ g4 ∧ w.heap.size ≤ g7 from ⟨by omega, by omega, by omega, by omega, by omega, by omega, by omega⟩)
  have hr5 := (HROW.out.keep (kw5.trans ((Keep.refl (fun _ => False) w5).alloc (.cells #[] 42)) (fun _ _ f => f)) (fun _ _ => id)).takeN (j := i) (by omega)
  clear hb4 hb44 hb7 hb45 hb75 q1 q5a kw5 e4 e7
  refine goOn (wpl_app (v := .slice (some ⟨w5.heap.size, 0, none⟩) 0 0) rfl rfl T_M rfl (owns_emp w5 42 27) rfl hr5 (fun u hu => HONE.out u (List.mem_of_mem_take hu)) (by omega) (by omega) ?_)
  intro A8 c8 w6 ho6 k6 hn6
  rw [Nat.zero_add, List.nil_append] at ho6
  rw [Nat.zero_add] at hn6 ⊢
  have k56 : Keep (fun _ => False) w5 w6 := keep_emp2 k6
  have hob6 : ∀ q, (Value.slice A8 i c8).ownBlock = some q → w5.heap.size ≤ q := fun q hq => by
    rcases hn6 q hq with h | h
    · simp only [Value.ownBlock, Option.some.injEq] at h; omega
    · simp at h; omega
  have HO6 := hid ho6; have HOB6 := hid hob6; have K56 := hid k56
  have q6 := k56.cell q5 id
  clear ho6 k6 hn6 hr5 hob6 k56 q5
  have hkw6 : Keep (fun _ => False) w w6 := HKW5.out.trans K56.out (fun _ _ f => f)
  have HR6 := hid (HROW.out.keep hkw6 (fun _ _ => id)); have HKW6 := hid hkw6
  clear hkw6
  go_wp2_with (first
    | (refine wpl_sliceLoR (size := 27) (j := i + 1) (n := n1 + 1) (A := some ⟨b, 0, none⟩) (c := c) rfl rfl (by kernel_rfl) (by kernel_rfl) rfl rfl HR6.out (by omega) ?_; intro A9 c9 hr9)
    | (at_builtin; refine stopHere ?_))
  rw [show n1 + 1 - (i + 1) = n1 - i from by omega] at hr9
  refine goOn (wpl_app (v := .slice A8 i c8) (n := i) (m := n1 - i) rfl rfl T_M rfl HO6.out rfl hr9 (fun u hu => HONE.out u (List.mem_of_mem_drop hu)) (by omega) (by omega) ?_)
  intro A10 c10 w7 ho7 k7 hn7
  have hlen : i + (n1 - i) = n1 := by omega
  rw [hlen] at ho7 hn7 ⊢
  have hob7 : ∀ q, (Value.slice A10 n1 c10).ownBlock = some q → w5.heap.size ≤ q := fun q hq => by
    rcases hn7 q hq with h | h
    · exact HOB6.out q h
    · have := K56.out.size; omega
  have K7 := hid k7; have HO7 := hid ho7; have HOB7 := hid hob7
  have hobj7 := k7.heap (K56.out.heap (HKW5.out.heap H.out.obj id) id) (fun e => by have := HOB6.out g e.symm; have := HKW5.out.size; omega)
  rw [← HN.out] at hobj7
  have hb47 := k7.heap (K56.out.heap HB45.out id) (fun e => by have := HOB6.out _ e.symm; have := lt_heap HB45.out; omega)
  have hb77 := k7.heap (K56.out.heap HB75.out id) (fun e => by have := HOB6.out _ e.symm; have := lt_heap HB75.out; omega)
  clear ho7 k7 hn7 hr9 hob7 q6 hlen
  go_wp2_with (first
    | (refine wpl_storeB (v := .slice A10 n1 c10) (o := 1) (b := g) rfl rfl rfl rfl hobj7 (by kernel_rfl) (by simp [Value.cells]) (by simp [Value.oneCell', Value.cells]) ?_; intro w8 hobj8 k8 s8; have hb48 := k8.heap hb47 (fun e => HOW.out.2.2.1 e.symm); have hb78 := k8.heap hb77 (fun e => HOW.out.2.2.2.1 e.symm); have K8 := hid k8; clear k8 s8)
    | (refine wpl_loadA (ty := 42) (o := 0) (n := 27) rfl rfl rfl hb78 (by kernel_rfl) (by kernel_rfl) xs HLX.out.take HLX.out.len ?_)
    | (refine wpl_storeB (v := .agg xs.toArray) (o := 0) (b := g4) rfl rfl rfl rfl hb48 HLX.out.info HLX.out.fit HLX.out.oneA ?_; intro w9 hb49 k9 s9; have hobj9 := k9.heap hobj8 HOW.out.2.2.1; have K9 := hid k9; clear k9 s9))
  refine bodyPost_ret (res_cell_tmp (g := g4) (cs := xs.toArray) (v := .bool true) Tryz.results11 _ rfl rfl (hb49.trans (HLX.out.whole rfl)) (by kernel_rfl) HLX.out.info') rfl ?_
  obtain ⟨o1, o2, o3, o4, o5, o6, o7⟩ := HOW.out
  have z56 := K56.out.size; have z7 := K7.out.size; have z8 := K8.out.size; have z9 := K9.out.size; have zw5 := HKW5.out.size
  have hob6 := HOB6.out; have hob7 := HOB7.out
  have k59 : Keep (fun q => q = g ∨ q = g4) w7 w9 := (K8.out.mono (fun _ _ e => .inl e)).trans K9.out (fun _ _ e => .inr e)
  have kk : Keep (fun q => q = g) w w9 := ((((HKW5.out.trans K56.out (fun _ _ f => f)).mono (fun _ _ f => f.elim)).trans K7.out (fun q hq e => by have := hob6 q e.symm; omega)).trans K8.out (fun _ _ e => e)).trans K9.out (fun q hq e => by omega)
  have hlen : (L.eraseIdx i).length = n1 := by rw [List.length_eraseIdx_of_lt (by rw [← HN.out]; exact HIL.out), ← HN.out]; omega
  have hi2 : placeN k L.length = i := by rw [← HN.out, ← HI.out]
  have hw := HW.out
  refine ⟨xs, by rw [← HN.out]; rfl, ?_, ?_, kk.mono (fun q _ e => by subst e; exact H.out.hg)⟩
  · have ht : takeM L k = x := by rw [takeM, hi2, HX.out]; rfl
    rw [ht]
    exact Rep.msg.mono (Rep.msg.keep HXM.out kk (fun q hq e => hq.2.1 e)) (fun q hq => ⟨hq.1, hq.2.1⟩)
  · rw [hi2]
    refine ⟨.slice A10 n1 c10, cs.take (i * 27) ++ cs.drop ((i + 1) * 27), hobj9, .inl H.out.hg, ?_, ?_, ?_, Grow.lt H.out.lt kk.size, fun m hm => H.out.fits m (List.mem_of_mem_eraseIdx hm), ?_, H.out.most⟩
    · rw [hlen]
      exact k59.owns HO7.out (fun q hq e => by have := hob7 q hq; rcases e with e | e; omega; have := lt_heap HB45.out; omega)
    · refine parts_erase ((H.out.parts.keep kk (fun q hq e => hq.2.1 e)).mono (fun q hq => ⟨.inl hq.1, hq.2.1, fun e => by have := hob7 q e; have := H.out.lt q hq.1; omega⟩)) H.out.row.1 (by rw [← HN.out]; exact HIL.out)
    · intro q hq
      have h1 := hob7 q hq
      have h2 := own_lt' HO7.out q hq
      exact ⟨.inr ⟨by omega, by omega⟩, by omega⟩
    · rw [hlen]; omega
end
end Go.Proofs.YtofljidmdabkcaaGreat
