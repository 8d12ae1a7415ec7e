/- net: Take, Lose, Twice, All. -/
import Derived.Test.YtofljidmdabkcaaNetD
namespace Go.Proofs.Ytofljidmdabkcaa
open Go.RowKit Go.Lib
/-- The message that a number points to. -/
def takeM (L : List Msg) (k : Int) : Msg := (L[placeN k L.length]?).getD msgZ
section
variable {ty : TypeId} {F S G : Nat → Prop} {w w' w1 w2 w3 wa : World} {g : Nat} {most : Int} {v : Value} {L : List Msg} {cs ms vs : List Value} {m : Msg} {A A2 : Option Addr} {c c2 : Nat}
theorem parts_one {cs : List Value} (hp : Parts .msg w F cs L) (hl : cs.length = L.length * 27) : ∀ u ∈ cs, u.oneCell' = true := row_one (r := .msg) (by decide) msg_one hl hp
theorem parts_erase {i : Nat} (hp : Parts .msg w F cs L) (hl : cs.length = L.length * 27) (hi : i < L.length) : Parts .msg w F (cs.take (i * 27) ++ cs.drop ((i + 1) * 27)) (L.eraseIdx i) := by
  rw [List.eraseIdx_eq_take_drop_succ]
  exact Parts.app (hp.take i) (by rw [List.length_take, List.length_take, hl]; have : i * 27 ≤ L.length * 27 := Nat.mul_le_mul_right _ (by omega); show min (i * 27) (L.length * 27) = min i L.length * 27; omega) (hp.drop (i + 1))
def TakeNPost (F : Nat → Prop) (w : World) (g : Nat) (most : Int) (L : List Msg) (k : Int) (e : Ending) (w' : World) : Prop :=
  ∃ cs, e = .returned (.tuple #[.agg cs.toArray, .bool (decide (0 < L.length))]) ∧ Rep.msg.cells w' (fun q => F q ∧ q ≠ g) (takeM L k) cs ∧ NetAt 56 F w' g most (L.eraseIdx (placeN k L.length)) ∧ Keep F w w'
theorem takeM_nil {k : Int} (h : L.length = 0) : takeM L k = msgZ := by
  have : L = [] := List.eq_nil_of_length_eq_zero h
  subst this; rfl
set_option maxRecDepth 20000 in
set_option maxHeartbeats 4000000 in
theorem ntake_calls (h : NetAt 56 F w g most L) {k : Int} (hk : okI k) : Calls Try.prog 14 #[.pointer (some ⟨g, 0, none⟩), .int .i64 k] w (TakeNPost F w g most L k) := by
  have H := hid h
  have hle := h.le
  have KL := hid (fun w' (hk : Keep (fun _ => False) w w') => nlen_calls (h.keepF hk))
  have KP := hid (fun w' (hk : Keep (fun _ => False) w w') => nplace_calls (h.keepF hk))
  obtain ⟨n, hn⟩ : ∃ n, n = L.length := ⟨_, rfl⟩
  rw [← hn] at KL KP hle
  have HN := hid hn
  clear h hn
  by_cases h0 : n = 0
  · subst h0
    go_enter Try.func14, Try.ntmps14
    go_wp2_with (first
      | (refine wpl_allocB (z := zM) rfl rfl (by kernel_rfl) ?_; intro g4 w1 hg4 hb4 k1 s1; have HG4 := hid hg4; have K1 := hid k1; clear hg4 k1 s1))
    refine (KL.out _ K1.out).mono ?_
    rintro e w' ⟨rfl, rfl⟩
    have hz := fun w => (by obtain ⟨i, hi, _, hz⟩ := info_msg; simp [zeroValue, typeInfo, hi, hz] : (zeroValue 32).run Try.prog w = .ok (.agg (msgCs msgZ nilV nilV nilV nilV).toArray) w)
    go_wp2_with (first
      | (refine wpl_build rfl rfl (msgCs msgZ nilV nilV nilV nilV).toArray (by kernel_rfl) ?_)
      | (refine wpl_storeB (v := zM) rfl rfl rfl rfl hb4 msgL_z.info msgL_z.fit msgL_z.oneA ?_; intro w2 hb2 k2 s2))
    refine bodyPost_ret (res_cell_tmp (g := g4) (cs := (msgCs msgZ nilV nilV nilV nilV).toArray) (v := .bool false) Try.results14 _ rfl rfl (hb2.trans (msgL_z.whole rfl)) (by kernel_rfl) (by kernel_rfl)) rfl ?_
    have e1 := HG4.out
    have kk : Keep (fun _ => False) w w2 := K1.out.trans k2 (fun b hb e => by omega)
    refine ⟨_, by rw [← HN.out]; rfl, ?_, ?_, kk.mono (fun _ _ f => f.elim)⟩
    · rw [takeM_nil HN.out.symm]; exact msgZ_cells _ _
    · have : L = [] := List.eq_nil_of_length_eq_zero HN.out.symm
      subst this
      exact H.out.keepF kk
  obtain ⟨n1, rfl⟩ : ∃ n1, n = n1 + 1 := ⟨n - 1, by omega⟩
  have hb0 : (((n1 + 1 : Nat) : Int) == 0) = false := by rw [beq_eq_false_iff_ne]; omega
  have hb1 : (((n1 : Int) + 1) == 0) = false := by rw [beq_eq_false_iff_ne]; omega
  obtain ⟨v, cs, hst⟩ := H.out
  obtain ⟨A, c, rfl⟩ := hst.shape
  have HS := hid hst
  rcases hst.row.2 with ⟨_, h00⟩ | ⟨b, cap, cur, he, _, hgb, hnc, hcm, hcs, htk⟩
  · have := HN.out; omega
  simp only [Value.slice.injEq, true_and] at he
  obtain ⟨rfl, rfl⟩ := he
  have hil := placeN_lt k (n := n1 + 1) (by omega)
  obtain ⟨i, hi⟩ : ∃ i, i = placeN k (n1 + 1) := ⟨_, rfl⟩
  rw [← hi] at hil
  have HI := hid hi
  obtain ⟨x, hx⟩ : ∃ x, L[i]? = some x := ⟨L[i]'(by rw [← HN.out]; exact hil), List.getElem?_eq_getElem _⟩
  have hxm := hst.parts i x hx
  have hlx := MsgL.of hxm
  obtain ⟨xs, hxs⟩ : ∃ xs, xs = (cs.drop (i * 27)).take 27 := ⟨_, rfl⟩
  have hsz : Rep.msg.size = 27 := rfl
  rw [hsz] at hxm hlx
  rw [← hxs] at hxm hlx
  have hcell : ∀ j u, xs[j]? = some u → w.cell? ⟨b, i * 27 + j, none⟩ = some u := fun j u hu => by
    refine (World.ownsRow.cells hst.row (g := b) rfl (i * 27 + j) u ?_ : _).trans rfl |> fun q => by rw [Addr.add_lit, Nat.zero_add] at q; exact q
    rw [hxs, List.getElem?_take] at hu
    split at hu
    · rwa [List.getElem?_drop] at hu
    · cases hu
  have hobj := cell_at hst.obj 1 (.slice (some ⟨b, 0, none⟩) L.length c) rfl
  rw [← HN.out] at hobj
  have hown := hst.own b rfl
  have HX := hid hx; have HXM := hid hxm; have HLX := hid hlx; have HC := hid hcell; have HO := hid hobj; have HW := hid hown; have HIL := hid hil; have HNC := hid hnc
  have hwsz := lt_heap hgb
  have hgl := lt_heap hst.obj
  obtain ⟨dM, hu, hd⟩ : ∃ d, Try.prog.underlying 32 = some d ∧ d.isRow = true := ⟨_, Try.underlying32, rfl⟩
  have hinf : (Try.prog.info? 32).map (·.size) = some xs.length := by rw [HLX.out.len]; kernel_rfl
  have HU := hid hu; have HD := hid hd; have HIN := hid hinf
  clear hxm hlx hcell hobj hown hst hxs hgb hcm hcs htk hu hd hinf hsz hx hi hnc
  go_enter Try.func14, Try.ntmps14
  go_wp2_with (first
    | (refine wpl_allocB (z := zM) rfl rfl (by kernel_rfl) ?_; intro g4 w1 hg4 hb4 k1 s1; have HG4 := hid hg4; have K1 := hid k1; clear hg4 k1 s1))
  refine (KL.out _ K1.out).mono ?_
  rintro e w' ⟨rfl, rfl⟩
  go_wp2_with fail
  refine (KP.out _ K1.out).mono ?_
  rintro e w2 ⟨bp, rfl, hbp, hcp, k2⟩
  have K2 := hid (K1.out.trans k2 (fun _ _ f => f))
  have hb4' := k2.heap hb4 id
  have hp1 := place1_calls (w := w2) (k := k) hcp (by omega) (by omega) hk
  rw [← HI.out] at hp1
  have HP1 := hid hp1
  clear k2 hb4 hcp hp1
  go_wp2_with fail
  refine HP1.out.mono ?_
  rintro e w3 ⟨rfl, dn, rfl⟩
  have K3 := hid (K2.out.drewN dn)
  have hb5 : (w2.drewN dn).heap[g4]? = some (.cells zM.cells 32) := hb4'
  have q1 : (w2.drewN dn).cell? ⟨g, 1, none⟩ = some (.slice (some ⟨b, 0, none⟩) (n1 + 1) c) := K3.out.cell HO.out id
  have HCE : ∀ j u, xs[j]? = some u → (w2.drewN dn).cell? ⟨b, i * 27 + j, none⟩ = some u := fun j u hu => K3.out.cell (HC.out j u hu) id
  have HCE' := hid HCE
  have hgw : g < w.heap.size := hgl
  have hil2 := HIL.out
  clear hb4' HCE
  obtain ⟨W3, hW3⟩ : ∃ W3, W3 = w2.drewN dn := ⟨_, rfl⟩
  rw [← hW3] at hb5 q1 HCE' K3 ⊢
  clear hW3
  go_wp2_with (first
    | (refine wpList_load_mid rfl _ _ rfl b (i * 27) rfl xs dM HCE'.out HU.out HD.out HIN.out ?_)
    | (refine wpl_allocB (z := zM) rfl rfl (by kernel_rfl) ?_; intro g7 w4 hg7 hb7 k4 s4; have HG7 := hid hg7; have K4 := hid k4; clear hg7 k4 s4)
    | (refine wpl_storeB (v := .agg xs.toArray) rfl rfl rfl rfl hb7 HLX.out.info HLX.out.fit HLX.out.oneA ?_; intro w5 hb7' k5 s5; have q5 := k5.cell (K4.out.cell q1 id) (fun e => by have := HG7.out; have := K3.out.size; simp only at e; omega); have K5 := hid k5; clear k5 s5))
  have e4 := HG4.out; have e7 := HG7.out
  have z1 := K1.out.size; have z2 := K3.out.size; have z4 := K4.out.size; have z5 := K5.out.size
  have g4w : g4 < W3.heap.size := lt_heap hb5
  have kw5 : Keep (fun _ => False) w w5 := (K3.out.trans K4.out (fun _ _ f => f)).trans K5.out (fun b hb e => by omega)
  have hown5 := kw5.owns HS.out.row (fun _ _ => id)
  have hobj5 := kw5.heap HS.out.obj id
  have hb45 := K5.out.heap (K4.out.heap hb5 id) (fun e => by omega)
  have hone := parts_one HS.out.parts HS.out.row.1
  rw [← HN.out] at hown5 hobj5
  have HKW5 := hid kw5; have HOBJ5 := hid hobj5; have HB45 := hid hb45
  have hdel := delM_calls (i := i) hown5 hone (by omega) (by omega)
  have HDEL := hid hdel
  have HOW := hid (show b ≠ g4 ∧ b ≠ g7 ∧ g ≠ g4 ∧ g ≠ g7 ∧ g4 ≠ g7 ∧ w.heap.size ≤ g4 ∧ w.heap.size ≤ g7 from ⟨by omega, by omega, by omega, by omega, by omega, by omega, by omega⟩)
  replace hb7' := hb7'.trans (HLX.out.whole rfl)
  have HB7 := hid hb7'
  clear kw5 hown5 hobj5 hb45 hone hdel hb7 hb5 q1 e4 e7 z1 z2 z4 z5 g4w hb7'
  go_wp2_with fail
  refine HDEL.out.mono ?_
  rintro e w6 ⟨rfl, ho6, k6⟩
  have HO6 := hid ho6; have K6 := hid k6
  have hobj6 := k6.heap HOBJ5.out (fun e => HW.out.2 e.symm)
  have hb46 := k6.heap HB45.out (fun e => HOW.out.1 e.symm)
  have hb76 := k6.heap HB7.out (fun e => HOW.out.2.1 e.symm)
  clear ho6 k6 q5
  go_wp2_with (first
    | (refine wpl_storeB (v := .slice (some ⟨b, 0, none⟩) n1 c) (o := 1) (b := g) rfl rfl rfl rfl hobj6 (by kernel_rfl) (by simp [Value.cells]) (by simp [Value.oneCell', Value.cells]) ?_; intro w7 hobj7 k7 s7; have hb47 := k7.heap hb46 (fun e => HOW.out.2.2.1 e.symm); have hb77 := k7.heap hb76 (fun e => HOW.out.2.2.2.1 e.symm); have K7 := hid k7; clear k7 s7)
    | (refine wpl_loadA (ty := 32) (o := 0) (n := 27) rfl rfl rfl hb77 (by kernel_rfl) (by kernel_rfl) xs HLX.out.take HLX.out.len ?_)
    | (refine wpl_storeB (v := .agg xs.toArray) (o := 0) (b := g4) rfl rfl rfl rfl hb47 HLX.out.info HLX.out.fit HLX.out.oneA ?_; intro w8 hb48 k8 s8; have hobj8 := k8.heap hobj7 HOW.out.2.2.1; have K8 := hid k8; clear k8 s8))
  refine bodyPost_ret (res_cell_tmp (g := g4) (cs := xs.toArray) (v := .bool true) Try.results14 _ rfl rfl (hb48.trans (HLX.out.whole rfl)) (by kernel_rfl) HLX.out.info') rfl ?_
  obtain ⟨o1, o2, o3, o4, o5, o6, o7⟩ := HOW.out
  have kk : Keep (fun q => q = g ∨ q = b) w w8 := (((HKW5.out.mono (fun _ _ f => f.elim)).trans K6.out (fun _ _ e => .inr e)).trans K7.out (fun _ _ e => .inl e)).trans K8.out (fun q hq e => by omega)
  have k68 : Keep (fun q => q = g ∨ q = g4) w6 w8 := (K7.out.mono (fun _ _ e => .inl e)).trans K8.out (fun _ _ e => .inr e)
  have hlen : (L.eraseIdx i).length = n1 := by rw [List.length_eraseIdx_of_lt (by rw [← HN.out]; exact HIL.out), ← HN.out]; omega
  have hi2 : placeN k L.length = i := by rw [← HN.out, ← HI.out]
  have hw := HW.out
  refine ⟨xs, by rw [← HN.out]; rfl, ?_, ?_, kk.mono (fun q _ e => by rcases e with e | e; subst e; exact HS.out.hg; subst e; exact hw.1)⟩
  · have ht : takeM L k = x := by rw [takeM, hi2, HX.out]; rfl
    rw [ht]
    refine Rep.msg.mono (Rep.msg.keep HXM.out kk (fun q hq e => ?_)) (fun q hq => ⟨hq.1, hq.2.1⟩)
    rcases e with e | e
    · exact hq.2.1 e
    · exact hq.2.2 (by rw [e]; rfl)
  · rw [hi2]
    refine ⟨.slice (some ⟨b, 0, none⟩) n1 c, cs.take (i * 27) ++ cs.drop ((i + 1) * 27), hobj8, HS.out.hg, ?_, ?_, ?_, fun q hq => Nat.lt_of_lt_of_le (HS.out.lt q hq) kk.size, fun m hm => HS.out.fits m (List.mem_of_mem_eraseIdx hm), ?_, HS.out.most⟩
    · rw [hlen]
      refine k68.owns HO6.out (fun q hq e => ?_)
      simp only [Value.ownBlock, Option.some.injEq] at hq
      subst hq
      rcases e with e | e
      · exact hw.2 e
      · exact o1 e
    · refine parts_erase ((HS.out.parts.keep kk (fun q hq e => ?_)).mono (fun q hq => hq)) HS.out.row.1 (by rw [← HN.out]; exact HIL.out)
      rcases e with e | e
      · exact hq.2.1 e
      · exact hq.2.2 (by rw [e]; rfl)
    · intro q hq
      simp only [Value.ownBlock, Option.some.injEq] at hq
      subst hq
      exact hw
    · rw [hlen]; have := HS.out.le; rw [← HN.out] at this; omega
end
end Go.Proofs.Ytofljidmdabkcaa
