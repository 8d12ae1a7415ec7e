/- net: Take, Lose, Twice, All. net: Lose, Twice, All. net: a net of the call's own; wapentakelaw24: nack, awake, NetKnown. -/
import Derived.Test.YtofljidmdabkcaaGreatNa
namespace Go.Proofs.YtofljidmdabkcaaGreat
open Go.RowKit Go.Lib
/-- The message that a number points to. -/
def takeM (L : List Msg) (k : Int) : Msg := (L[placeN k L.length]?).getD msgZ
section
variable {ty : TypeId} {F S G : Nat → Prop} {w w' w1 w2 w3 wa : World} {g : Nat} {most : Int} {v : Value} {L : List Msg} {cs ms vs : List Value} {m : Msg} {A A2 : Option Addr} {c c2 : Nat}
theorem parts_one {cs : List Value} (hp : Parts .msg w F cs L) (hl : cs.length = L.length * 27) : ∀ u ∈ cs, u.oneCell' = true := row_one (r := .msg) (by decide) msg_one hl hp
theorem parts_erase {i : Nat} (hp : Parts .msg w F cs L) (hl : cs.length = L.length * 27) (hi : i < L.length) : Parts .msg w F (cs.take (i * 27) ++ cs.drop ((i + 1) * 27)) (L.eraseIdx i) := by
  rw [List.eraseIdx_eq_take_drop_succ]
  exact Parts.app (hp.take i) (by rw [List.length_take, List.length_take, hl]; have : i * 27 ≤ L.length * 27 := Nat.mul_le_mul_right _ (by omega); show min (i * 27) (L.length * 27) = min i L.length * 27; omega) (hp.drop (i + 1))
def TakeNPost (F : Nat → Prop) (w : World) (g : Nat) (most : Int) (L : List Msg) (k : Int) (e : Ending) (w' : World) : Prop :=
  ∃ cs, e = .returned (.tuple #[.agg cs.toArray, .bool (decide (0 < L.length))]) ∧ Rep.msg.cells w' (fun q => F q ∧ q ≠ g) (takeM L k) cs ∧ NetAt 58 F w' g most (L.eraseIdx (placeN k L.length)) ∧ Keep F w w'
theorem takeM_nil {k : Int} (h : L.length = 0) : takeM L k = msgZ := by
  have : L = [] := List.eq_nil_of_length_eq_zero h
  subst this; rfl
set_option maxRecDepth 20000 in
set_option maxHeartbeats 4000000 in
theorem ntake_calls (h : NetAt 58 F w g most L) {k : Int} (hk : okI k) : Calls Tryz.prog 10 #[.pointer (some ⟨g, 0, none⟩), .int .i64 k] w (TakeNPost F w g most L k) := by
  have H := hid h
  have hle := h.le
  have KL := hid (fun w' (hk : Keep (fun _ => False) w w') => nlen_calls (h.keepF hk))
  have KP := hid (fun w' (hk : Keep (fun _ => False) w w') => nplace_calls (h.keepF hk))
  obtain ⟨n, hn⟩ : ∃ n, n = L.length := ⟨_, rfl⟩
  rw [← hn] at KL KP hle
  have HN := hid hn
  clear h hn
  by_cases h0 : n = 0
  · subst h0
    go_enter Tryz.func10, Tryz.ntmps10
    go_wp2_with (first
      | (refine wpl_allocB (z := zM) rfl rfl (by kernel_rfl) ?_; intro g4 w1 hg4 hb4 k1 s1; have HG4 := hid hg4; have K1 := hid k1; clear hg4 k1 s1))
    refine (KL.out _ K1.out).mono ?_
    rintro e w' ⟨rfl, rfl⟩
    have hz := fun w => (by obtain ⟨i, hi, _, hz⟩ := info_msg; simp [zeroValue, typeInfo, hi, hz] : (zeroValue 42).run Tryz.prog w = .ok (.agg (msgCs msgZ nilV nilV nilV nilV).toArray) w)
    go_wp2_with (first
      | (refine wpl_build rfl rfl (msgCs msgZ nilV nilV nilV nilV).toArray (by kernel_rfl) ?_)
      | (refine wpl_storeB (v := zM) rfl rfl rfl rfl hb4 msgL_z.info msgL_z.fit msgL_z.oneA ?_; intro w2 hb2 k2 s2))
    refine bodyPost_ret (res_cell_tmp (g := g4) (cs := (msgCs msgZ nilV nilV nilV nilV).toArray) (v := .bool false) Tryz.results10 _ rfl rfl (hb2.trans (msgL_z.whole rfl)) (by kernel_rfl) (by kernel_rfl)) rfl ?_
    have e1 := HG4.out
    have kk : Keep (fun _ => False) w w2 := K1.out.trans k2 (fun b hb e => by omega)
    refine ⟨_, by rw [← HN.out]; rfl, ?_, ?_, kk.mono (fun _ _ f => f.elim)⟩
    · rw [takeM_nil HN.out.symm]; exact msgZ_cells _ _
    · have : L = [] := List.eq_nil_of_length_eq_zero HN.out.symm
      subst this
      exact H.out.keepF kk
  obtain ⟨n1, rfl⟩ : ∃ n1, n = n1 + 1 := ⟨n - 1, by omega⟩
  have hb0 : (((n1 + 1 : Nat) : Int) == 0) = false := by rw [beq_eq_false_iff_ne]; omega
  have hb1 : (((n1 : Int) + 1) == 0) = false := by rw [beq_eq_false_iff_ne]; omega
  obtain ⟨v, cs, hst⟩ := H.out
  obtain ⟨A, c, rfl⟩ := hst.shape
  have HS := hid hst
  rcases hst.row.2 with ⟨_, h00⟩ | ⟨b, cap, cur, he, _, hgb, hnc, hcm, hcs, htk⟩
  · have := HN.out; omega
  simp only [Value.slice.injEq, true_and] at he
  obtain ⟨rfl, rfl⟩ := he
  have hil := placeN_lt k (n := n1 + 1) (by omega)
  obtain ⟨i, hi⟩ : ∃ i, i = placeN k (n1 + 1) := ⟨_, rfl⟩
  rw [← hi] at hil
  have HI := hid hi
  obtain ⟨x, hx⟩ : ∃ x, L[i]? = some x := ⟨L[i]'(by rw [← HN.out]; exact hil), List.getElem?_eq_getElem _⟩
  have hxm := hst.parts i x hx
  have hlx := MsgL.of hxm
  obtain ⟨xs, hxs⟩ : ∃ xs, xs = (cs.drop (i * 27)).take 27 := ⟨_, rfl⟩
  have hsz : Rep.msg.size = 27 := rfl
  rw [hsz] at hxm hlx
  rw [← hxs] at hxm hlx
  have hcell : ∀ j u, xs[j]? = some u → w.cell? ⟨b, i * 27 + j, none⟩ = some u := fun j u hu => by
    refine (World.ownsRow.cells hst.row (g := b) rfl (i * 27 + j) u ?_ : _).trans rfl |> fun q => by rw [Addr.add_lit, Nat.zero_add] at q; exact q
    rw [hxs, List.getElem?_take] at hu
    split at hu
    · rwa [List.getElem?_drop] at hu
    · cases hu
  have hobj := cell_at hst.obj 1 (.slice (some ⟨b, 0, none⟩) L.length c) rfl
  rw [← HN.out] at hobj
  have hown := hst.own b rfl
  have HX := hid hx; have HXM := hid hxm; have HLX := hid hlx; have HC := hid hcell; have HO := hid hobj; have HW := hid hown; have HIL := hid hil; have HNC := hid hnc
  have hwsz := lt_heap hgb
  have hgl := lt_heap hst.obj
  obtain ⟨dM, hu, hd⟩ : ∃ d, Tryz.prog.underlying 42 = some d ∧ d.isRow = true := ⟨_, Tryz.underlying42, rfl⟩
  have hinf : (Tryz.prog.info? 42).map (·.size) = some xs.length := by rw [HLX.out.len]; kernel_rfl
  have HU := hid hu; have HD := hid hd; have HIN := hid hinf
  clear hxm hlx hcell hobj hown hst hxs hgb hcm hcs htk hu hd hinf hsz hx hi hnc
  go_enter Tryz.func10, Tryz.ntmps10
  go_wp2_with (first
    | (refine wpl_allocB (z := zM) rfl rfl (by kernel_rfl) ?_; intro g4 w1 hg4 hb4 k1 s1; have HG4 := hid hg4; have K1 := hid k1; clear hg4 k1 s1))
  refine (KL.out _ K1.out).mono ?_
  rintro e w' ⟨rfl, rfl⟩
  go_wp2_with fail
  refine (KP.out _ K1.out).mono ?_
  rintro e w2 ⟨bp, rfl, hbp, hcp, k2⟩
  have K2 := hid (K1.out.trans k2 (fun _ _ f => f))
  have hb4' := k2.heap hb4 id
  have hp1 := place1_calls (w := w2) (k := k) hcp (by omega) (by omega) hk
  rw [← HI.out] at hp1
  have HP1 := hid hp1
  clear k2 hb4 hcp hp1
  go_wp2_with fail
  refine HP1.out.mono ?_
  rintro e w3 ⟨rfl, dn, rfl⟩
  have K3 := hid (K2.out.drewN dn)
  have hb5 : (w2.drewN dn).heap[g4]? = some (.cells zM.cells 42) := hb4'
  have q1 : (w2.drewN dn).cell? ⟨g, 1, none⟩ = some (.slice (some ⟨b, 0, none⟩) (n1 + 1) c) := K3.out.cell HO.out id
  have HCE : ∀ j u, xs[j]? = some u → (w2.drewN dn).cell? ⟨b, i * 27 + j, none⟩ = some u := fun j u hu => K3.out.cell (HC.out j u hu) id
  have HCE' := hid HCE
  have hgw : g < w.heap.size := hgl
  have hil2 := HIL.out
  clear hb4' HCE
  obtain ⟨W3, hW3⟩ : ∃ W3, W3 = w2.drewN dn := ⟨_, rfl⟩
  rw [← hW3] at hb5 q1 HCE' K3 ⊢
  clear hW3
  go_wp2_with (first
    | (refine wpList_load_mid rfl _ _ rfl b (i * 27) rfl xs dM HCE'.out HU.out HD.out HIN.out ?_)
    | (refine wpl_allocB (z := zM) rfl rfl (by kernel_rfl) ?_; intro g7 w4 hg7 hb7 k4 s4; have HG7 := hid hg7; have K4 := hid k4; clear hg7 k4 s4)
    | (refine wpl_storeB (v := .agg xs.toArray) rfl rfl rfl rfl hb7 HLX.out.info HLX.out.fit HLX.out.oneA ?_; intro w5 hb7' k5 s5; have q5 := k5.cell (K4.out.cell q1 id) (fun e => by have := HG7.out; have := K3.out.size; simp only at e; omega); have K5 := hid k5; clear k5 s5))
  have e4 := HG4.out; have e7 := HG7.out
  have z1 := K1.out.size; have z2 := K3.out.size; have z4 := K4.out.size; have z5 := K5.out.size
  have g4w : g4 < W3.heap.size := lt_heap hb5
  have kw5 : Keep (fun _ => False) w w5 := (K3.out.trans K4.out (fun _ _ f => f)).trans K5.out (fun b hb e => by omega)
  have hown5 := kw5.owns HS.out.row (fun _ _ => id)
  have hobj5 := kw5.heap HS.out.obj id
  have hb45 := K5.out.heap (K4.out.heap hb5 id) (fun e => by omega)
  have hone := parts_one HS.out.parts HS.out.row.1
  rw [← HN.out] at hown5 hobj5
  have HKW5 := hid kw5; have HOBJ5 := hid hobj5; have HB45 := hid hb45
  have hdel := delM_calls (i := i) hown5 hone (by omega) (by omega)
  have HDEL := hid hdel
  have HOW := hid (show b ≠ g4 ∧ b ≠ g7 ∧ g ≠ g4 ∧ g ≠ g7 ∧ g4 ≠ g7 ∧ w.heap.size ≤ g4 ∧ w.heap.size ≤ g7 from ⟨by omega, by omega, by omega, by omega, by omega, by omega, by omega⟩)
  replace hb7' := hb7'.trans (HLX.out.whole rfl)
  have HB7 := hid hb7'
  clear kw5 hown5 hobj5 hb45 hone hdel hb7 hb5 q1 e4 e7 z1 z2 z4 z5 g4w hb7'
  go_wp2_with fail
  refine HDEL.out.mono ?_
  rintro e w6 ⟨rfl, ho6, k6⟩
  have HO6 := hid ho6; have K6 := hid k6
  have hobj6 := k6.heap HOBJ5.out (fun e => HW.out.2 e.symm)
  have hb46 := k6.heap HB45.out (fun e => HOW.out.1 e.symm)
  have hb76 := k6.heap HB7.out (fun e => HOW.out.2.1 e.symm)
  clear ho6 k6 q5
  go_wp2_with (first
    | (refine wpl_storeB (v := .slice (some ⟨b, 0, none⟩) n1 c) (o := 1) (b := g) rfl rfl rfl rfl hobj6 (by kernel_rfl) (by simp [Value.cells]) (by simp [Value.oneCell', Value.cells]) ?_; intro w7 hobj7 k7 s7; have hb47 := k7.heap hb46 (fun e => HOW.out.2.2.1 e.symm); have hb77 := k7.heap hb76 (fun e => HOW.out.2.2.2.1 e.symm); have K7 := hid k7; clear k7 s7)
    | (refine wpl_loadA (ty := 42) (o := 0) (n := 27) rfl rfl rfl hb77 (by kernel_rfl) (by kernel_rfl) xs HLX.out.take HLX.out.len ?_)
    | (refine wpl_storeB (v := .agg xs.toArray) (o := 0) (b := g4) rfl rfl rfl rfl hb47 HLX.out.info HLX.out.fit HLX.out.oneA ?_; intro w8 hb48 k8 s8; have hobj8 := k8.heap hobj7 HOW.out.2.2.1; have K8 := hid k8; clear k8 s8))
  refine bodyPost_ret (res_cell_tmp (g := g4) (cs := xs.toArray) (v := .bool true) Tryz.results10 _ rfl rfl (hb48.trans (HLX.out.whole rfl)) (by kernel_rfl) HLX.out.info') rfl ?_
  obtain ⟨o1, o2, o3, o4, o5, o6, o7⟩ := HOW.out
  have kk : Keep (fun q => q = g ∨ q = b) w w8 := (((HKW5.out.mono (fun _ _ f => f.elim)).trans K6.out (fun _ _ e => .inr e)).trans K7.out (fun _ _ e => .inl e)).trans K8.out (fun q hq e => by omega)
  have k68 : Keep (fun q => q = g ∨ q = g4) w6 w8 := (K7.out.mono (fun _ _ e => .inl e)).trans K8.out (fun _ _ e => .inr e)
  have hlen : (L.eraseIdx i).length = n1 := by rw [List.length_eraseIdx_of_lt (by rw [← HN.out]; exact HIL.out), ← HN.out]; omega
  have hi2 : placeN k L.length = i := by rw [← HN.out, ← HI.out]
  have hw := HW.out
  refine ⟨xs, by rw [← HN.out]; rfl, ?_, ?_, kk.mono (fun q _ e => by rcases e with e | e; subst e; exact HS.out.hg; subst e; exact hw.1)⟩
  · have ht : takeM L k = x := by rw [takeM, hi2, HX.out]; rfl
    rw [ht]
    refine Rep.msg.mono (Rep.msg.keep HXM.out kk (fun q hq e => ?_)) (fun q hq => ⟨hq.1, hq.2.1⟩)
    rcases e with e | e
    · exact hq.2.1 e
    · exact hq.2.2 (by rw [e]; rfl)
  · rw [hi2]
    refine ⟨.slice (some ⟨b, 0, none⟩) n1 c, cs.take (i * 27) ++ cs.drop ((i + 1) * 27), hobj8, HS.out.hg, ?_, ?_, ?_, fun q hq => Nat.lt_of_lt_of_le (HS.out.lt q hq) kk.size, fun m hm => HS.out.fits m (List.mem_of_mem_eraseIdx hm), ?_, HS.out.most⟩
    · rw [hlen]
      refine k68.owns HO6.out (fun q hq e => ?_)
      simp only [Value.ownBlock, Option.some.injEq] at hq
      subst hq
      rcases e with e | e
      · exact hw.2 e
      · exact o1 e
    · refine parts_erase ((HS.out.parts.keep kk (fun q hq e => ?_)).mono (fun q hq => hq)) HS.out.row.1 (by rw [← HN.out]; exact HIL.out)
      rcases e with e | e
      · exact hq.2.1 e
      · exact hq.2.2 (by rw [e]; rfl)
    · intro q hq
      simp only [Value.ownBlock, Option.some.injEq] at hq
      subst hq
      exact hw
    · rw [hlen]; have := HS.out.le; rw [← HN.out] at this; omega
end
end Go.Proofs.YtofljidmdabkcaaGreat
namespace Go.Proofs.YtofljidmdabkcaaGreat
open Go.RowKit Go.Lib
section
variable {P : Program} {ops : Array Oper} {Q : Exit → Act → World → Prop} {o : Oper} {a : Act} {w : World} {K : Act → World → Prop} {E : Prop}
/-- A closure of one argument that holds one thing is called. -/
theorem step_callV (d : Option Tmp) (hd : o.dst = d) {f : FuncId} {x y : Tmp} {ts : Array TypeId} (hgw : Region.wanted o (yielded ops a.tmps) = true)
    (ho : o.op = .call { callee := .value (.tmp x), args := #[.tmp y], argTypes := ts }) (eg : ∀ args w, (callFunc f args).run P w = .ok (.enter f args) w) {u cp : Value} (hf : a.tmps[x]?.getD undef = .func (.func f) #[] #[cp]) (hy : a.tmps[y]?.getD undef = u) {R : Value → World → Prop}
    (hc : Calls P f #[u, cp] w fun e w' => ∃ u, e = .returned u ∧ R u w') (h : ∀ u w', R u w' → K (a.put d u) w') :
    if Region.wanted o (yielded ops a.tmps) = true then Oper.wp P o a w K Q else E := by
  subst hd
  rw [if_pos hgw]
  unfold Oper.wp execOp
  have key : Calls P f #[u, cp] w fun e w' => match e, w' with
      | .returned v, w'' => K (a.put o.dst v) w''
      | .panicked chain, w'' => Q (Exit.panic chain) a w''
      | .outgrown, _ => LetsOut Q := by
    refine hc.mono ?_
    rintro e w' ⟨u, rfl, hr⟩
    exact h u w' hr
  simp [ho, hf, hy, resolve, invoke, eg, go_sem]
  exact key
end
section
variable {ty : TypeId} {F S G : Nat → Prop} {w w' w1 w2 w3 wa : World} {g : Nat} {most : Int} {v : Value} {L : List Msg} {cs ms vs : List Value} {m : Msg} {A A2 : Option Addr} {c c2 : Nat}
theorem NetAt.mono (h : NetAt ty F w g most L) (hG : ∀ q, F q → G q) (hlt : ∀ q, G q → q < w.heap.size) : NetAt ty G w g most L := by
  obtain ⟨v, cs, h⟩ := h
  exact ⟨v, cs, h.obj, hG g h.hg, h.row, h.parts.mono (fun q hq => ⟨hG q hq.1, hq.2⟩), fun q hq => ⟨hG q (h.own q hq).1, (h.own q hq).2⟩, hlt, h.fits, h.le, h.most⟩
def LosePost (F : Nat → Prop) (w : World) (g : Nat) (most : Int) (L : List Msg) (k : Int) (e : Ending) (w' : World) : Prop :=
  e = .returned (.bool (decide (0 < L.length))) ∧ NetAt 58 F w' g most (L.eraseIdx (placeN k L.length)) ∧ Keep F w w'
set_option maxRecDepth 20000 in
set_option maxHeartbeats 4000000 in
theorem nlose_calls (h : NetAt 58 F w g most L) {k : Int} (hk : okI k) : Calls Tryz.prog 12 #[.pointer (some ⟨g, 0, none⟩), .int .i64 k] w (LosePost F w g most L k) := by
  have HT := hid (ntake_calls h hk)
  obtain ⟨b, hb⟩ : ∃ b, b = decide (0 < L.length) := ⟨_, rfl⟩
  have HB := hid hb
  clear h hk hb
  go_enter Tryz.func12, Tryz.ntmps12
  go_wp2_with fail
  refine HT.out.mono ?_
  rintro e w1 ⟨cs, rfl, hm, hn, k1⟩
  have HL := hid (MsgL.of hm); have HN := hid hn; have K1 := hid k1
  rw [← HB.out]
  clear hm hn k1
  go_wp2_with (first
    | (refine wpl_allocB (z := zM) rfl rfl (by kernel_rfl) ?_; intro g4 w2 hg4 hb4 k2 s2; have HG4 := hid hg4; have K2 := hid k2; clear hg4 k2 s2)
    | (refine wpl_storeB (v := .agg cs.toArray) rfl rfl rfl rfl hb4 HL.out.info HL.out.fit HL.out.oneA ?_; intro w3 hb4' k3 s3; have K3 := hid k3; clear k3 s3))
  go_ret
  have e4 := HG4.out
  have kk : Keep (fun _ => False) w1 w3 := K2.out.trans K3.out (fun b hb e => by omega)
  exact ⟨by rw [← HB.out]; rfl, HN.out.keepF kk, K1.out.trans kk (fun _ _ f => f.elim)⟩
def twB (most : Int) (L : List Msg) (k : Int) : Bool := decide (0 < L.length) && sendB most L (takeM L k)
def TwicePost (F : Nat → Prop) (w : World) (g : Nat) (most : Int) (L : List Msg) (k : Int) (e : Ending) (w' : World) : Prop :=
  e = .returned (.bool (twB most L k)) ∧ NetAt 58 (Grow F w w') w' g most (if twB most L k then L ++ [takeM L k] else L) ∧ Keep F w w'
set_option maxRecDepth 20000 in
set_option maxHeartbeats 4000000 in
theorem ntwice_calls (h : NetAt 58 F w g most L) {k : Int} (hk : okI k) : Calls Tryz.prog 13 #[.pointer (some ⟨g, 0, none⟩), .int .i64 k] w (TwicePost F w g most L k) := by
  have H := hid h
  have hle := h.le
  have KL := hid (fun w' (hk : Keep (fun _ => False) w w') => nlen_calls (h.keepF hk))
  have KP := hid (fun w' (hk : Keep (fun _ => False) w w') => nplace_calls (h.keepF hk))
  obtain ⟨n, hn⟩ : ∃ n, n = L.length := ⟨_, rfl⟩
  rw [← hn] at KL KP hle
  have HN := hid hn
  clear h hn
  by_cases h0 : n = 0
  · subst h0
    go_enter Tryz.func13, Tryz.ntmps13
    go_wp2_with fail
    refine (KL.out _ (Keep.refl _ _)).mono ?_
    rintro e w' ⟨rfl, rfl⟩
    go_wp2_with fail
    go_ret
    have hb : twB most L k = false := by rw [twB, ← HN.out]; rfl
    refine ⟨by rw [hb]; rfl, ?_, Keep.refl _ _⟩
    rw [hb]
    exact H.out.grow (Keep.refl _ _)
  obtain ⟨n1, rfl⟩ : ∃ n1, n = n1 + 1 := ⟨n - 1, by omega⟩
  have hb1 : (((n1 : Int) + 1) == 0) = false := by rw [beq_eq_false_iff_ne]; omega
  obtain ⟨v, cs, hst⟩ := H.out
  obtain ⟨A, c, rfl⟩ := hst.shape
  rcases hst.row.2 with ⟨_, h00⟩ | ⟨b, cap, cur, he, _, hgb, hnc, hcm, hcs, htk⟩
  · have := HN.out; omega
  simp only [Value.slice.injEq, true_and] at he
  obtain ⟨rfl, rfl⟩ := he
  have hil := placeN_lt k (n := n1 + 1) (by omega)
  obtain ⟨i, hi⟩ : ∃ i, i = placeN k (n1 + 1) := ⟨_, rfl⟩
  rw [← hi] at hil
  have HI := hid hi
  obtain ⟨x, hx⟩ : ∃ x, L[i]? = some x := ⟨L[i]'(by rw [← HN.out]; exact hil), List.getElem?_eq_getElem _⟩
  have hxm := hst.parts i x hx
  have hlx := MsgL.of hxm
  obtain ⟨xs, hxs⟩ : ∃ xs, xs = (cs.drop (i * 27)).take 27 := ⟨_, rfl⟩
  have hsz : Rep.msg.size = 27 := rfl
  rw [hsz] at hxm hlx
  rw [← hxs] at hxm hlx
  have hcell : ∀ j u, xs[j]? = some u → w.cell? ⟨b, i * 27 + j, none⟩ = some u := fun j u hu => by
    refine (World.ownsRow.cells hst.row (g := b) rfl (i * 27 + j) u ?_ : _).trans rfl |> fun q => by rw [Addr.add_lit, Nat.zero_add] at q; exact q
    rw [hxs, List.getElem?_take] at hu
    split at hu
    · rwa [List.getElem?_drop] at hu
    · cases hu
  have hobj := cell_at hst.obj 1 (.slice (some ⟨b, 0, none⟩) L.length c) rfl
  rw [← HN.out] at hobj
  have ht : takeM L k = x := by rw [takeM, ← HN.out, ← HI.out, hx]; rfl
  have hfx : x.Fits := hst.fits x (List.mem_of_getElem? hx)
  have hb0 : twB most L k = sendB most L x := by rw [twB, ht, ← HN.out]; rfl
  have HX := hid hx; have HXM := hid hxm; have HLX := hid hlx; have HC := hid hcell; have HO := hid hobj; have HIL := hid hil; have HT := hid ht; have HFX := hid hfx; have HB0 := hid hb0; have HLT := hid (hst.lt)
  have hi1 : (0 : Int) ≤ (i : Int) := by omega
  have hi2 : (i : Int) < (n1 : Int) + 1 := by omega
  obtain ⟨dM, hu, hd⟩ : ∃ d, Tryz.prog.underlying 42 = some d ∧ d.isRow = true := ⟨_, Tryz.underlying42, rfl⟩
  have hinf : (Tryz.prog.info? 42).map (·.size) = some xs.length := by rw [HLX.out.len]; kernel_rfl
  have HU := hid hu; have HD := hid hd; have HIN := hid hinf
  have EP := hid (enters_of Tryz.func25 (by kernel_rfl) rfl)
  have EC := hid (enters_of Tryz.func52 (by kernel_rfl) rfl)
  have ES := hid (enters_of Tryz.func8 (by kernel_rfl) rfl)
  clear hxm hlx hcell hobj hst hxs hgb hcm hcs htk hu hd hinf hsz hx hi hnc ht hfx hb0
  go_enter Tryz.func13, Tryz.ntmps13
  go_wp2_with fail
  refine (KL.out _ (Keep.refl _ _)).mono ?_
  rintro e w' ⟨rfl, rfl⟩
  have k0 : Keep (fun _ => False) w w.drew := (Keep.refl _ w).drew
  have hS : w.drew.cell? ⟨g, 1, none⟩ = some (.slice (some ⟨b, 0, none⟩) (n1 + 1) c) ∧ w.drew.rangeAt b (i * 27) xs := ⟨HO.out, HC.out⟩
  have HPL := hid ((KP.out _ k0).mono (R' := fun e w' => ∃ u, e = .returned u ∧ ∃ bp, u = .func (.func 52) #[] #[.pointer (some ⟨bp, 0, none⟩)] ∧ w'.cell? ⟨bp, 0, none⟩ = some (.int .i64 ((n1 + 1 : Nat) : Int)) ∧ Keep (fun _ => False) w.drew w') (fun e w' ⟨bp, h1, _, h3, h4⟩ => ⟨_, h1, bp, rfl, h3, h4⟩))
  clear k0
  go_wp2_with fail
  refine wp_region_X (fun y => y.cell? ⟨g, 1, none⟩ = some (.slice (some ⟨b, 0, none⟩) (n1 + 1) c) ∧ y.rangeAt b (i * 27) xs) [11, 12] (by kernel_rfl) hS (fun _ => ?_)
  refine wpAnyX_take (i := 0) [11, 12] (some 8) (v := ?_) rfl (by rfl) (by kernel_rfl) (by kernel_rfl) (by kernel_rfl) (by kernel_rfl) (fun _ _ _ h => h) (Or.inl ⟨by rfl, ?_⟩) hS ?_
  rotate_left
  focus (intro w' hSw; (try dsimp only at hSw); go_simp; try with_reducible rfl)
  simp only [Act.put, List.setIfInBounds_toArray, List.set_cons_zero, List.set_cons_succ]
  refine wpAnyX_take (i := 1) [2, 3, 4, 9, 10, 11, 12] (some 9) (v := ?_) rfl (by rfl) (by kernel_rfl) (by kernel_rfl) (by kernel_rfl) (by kernel_rfl) (fun _ _ _ h => h) (Or.inl ⟨by rfl, ?_⟩) hS ?_
  rotate_left
  focus (intro w' hSw; (try dsimp only at hSw); go_simp; try with_reducible rfl)
  simp only [Act.put, List.setIfInBounds_toArray, List.set_cons_zero, List.set_cons_succ]
  refine wpAnyX_take (i := 2) [3, 4, 9, 10, 11, 12] (some 10) (v := ?_) rfl (by rfl) (by kernel_rfl) (by kernel_rfl) (by kernel_rfl) (by kernel_rfl) (fun _ _ _ h => h) (Or.inl ⟨by rfl, ?_⟩) hS ?_
  rotate_left
  focus (intro w' hSw; (try dsimp only at hSw); go_simp; try with_reducible rfl)
  simp only [Act.put, List.setIfInBounds_toArray, List.set_cons_zero, List.set_cons_succ]
  refine wpAnyX_take (i := 3) [4, 9, 10, 11, 12] (some 11) (v := ?_) rfl (by rfl) (by kernel_rfl) (by kernel_rfl) (by kernel_rfl) (by kernel_rfl) (fun _ _ _ h => h) (Or.inl ⟨by rfl, ?_⟩) hS ?_
  rotate_left
  focus (intro w' hSw; (try dsimp only at hSw); go_simp; try with_reducible rfl)
  simp only [Act.put, List.setIfInBounds_toArray, List.set_cons_zero, List.set_cons_succ]
  refine wpAnyX_take (i := 4) [9, 10, 11, 12] (some 12) (v := ?_) rfl (by rfl) (by kernel_rfl) (by kernel_rfl) (by kernel_rfl) (by kernel_rfl) (fun _ _ _ h => h) (Or.inl ⟨by rfl, ?_⟩) hS ?_
  rotate_left
  focus (intro w' hSw; (try dsimp only at hSw); go_simp; try with_reducible rfl)
  simp only [Act.put, List.setIfInBounds_toArray, List.set_cons_zero, List.set_cons_succ]
  refine wpAnyX_take (i := 5) [6, 8, 9, 10, 11, 12] (some 13) (v := ?_) rfl (by rfl) (by kernel_rfl) (by kernel_rfl) (by kernel_rfl) (by kernel_rfl) (fun _ _ _ h => h) (Or.inl ⟨by rfl, ?_⟩) hS ?_
  rotate_left
  focus (intro w' hSw; (try dsimp only at hSw); go_simp; try with_reducible rfl)
  simp only [Act.put, List.setIfInBounds_toArray, List.set_cons_zero, List.set_cons_succ]
  refine wpAnyX_take (i := 7) [8, 9, 10, 11, 12] (some 15) (v := ?_) rfl (by rfl) (by kernel_rfl) (by kernel_rfl) (by kernel_rfl) (by kernel_rfl) (fun _ _ _ h => h) (Or.inl ⟨by rfl, ?_⟩) hS ?_
  rotate_left
  focus (intro w' hSw; (try dsimp only at hSw); go_simp; try with_reducible rfl)
  simp only [Act.put, List.setIfInBounds_toArray, List.set_cons_zero, List.set_cons_succ]
  refine wpAnyX_one (i := 6) (by kernel_rfl) rfl (fun K hK => ?_)
  refine step_call (some 14) (by rfl) (by rfl) rfl EP.out (by rfl) HPL.out ?_
  rintro u w2 ⟨bp, rfl, hcp, k2⟩
  have K2 := hid k2; have HCP := hid hcp
  have hS2 : w2.cell? ⟨g, 1, none⟩ = some (.slice (some ⟨b, 0, none⟩) (n1 + 1) c) ∧ w2.rangeAt b (i * 27) xs := ⟨k2.cell hS.1 id, fun j u hu => k2.cell (hS.2 j u hu) id⟩
  clear k2 hcp
  refine hK _ _ (hS2) ?_
  clear hK K
  simp only [Act.put, List.setIfInBounds_toArray, List.set_cons_zero, List.set_cons_succ]
  refine wpAnyX_one (i := 8) (by kernel_rfl) rfl (fun K hK => ?_)
  have hp1 := place1_calls (w := w2) (k := k) HCP.out (by omega) (by omega) hk
  rw [← HI.out] at hp1
  have hp2 := hp1.mono (R' := fun e w' => ∃ u, e = .returned u ∧ u = .int .i64 (i : Int) ∧ ∃ m, w' = w2.drewN m) (fun e w' ⟨h1, h2⟩ => ⟨_, h1, rfl, h2⟩)
  have HP2 := hid hp2
  clear hp1 hp2
  refine step_callV (some 16) (by rfl) (by rfl) rfl EC.out (by rfl) (by rfl) HP2.out ?_
  rintro u w3 ⟨rfl, dn, rfl⟩
  have hS3 : (w2.drewN dn).cell? ⟨g, 1, none⟩ = some (.slice (some ⟨b, 0, none⟩) (n1 + 1) c) ∧ (w2.drewN dn).rangeAt b (i * 27) xs := ⟨hS2.1, hS2.2⟩
  refine hK _ _ (hS3) ?_
  clear hK K
  simp only [Act.put, List.setIfInBounds_toArray, List.set_cons_zero, List.set_cons_succ]
  refine wpAnyX_take (i := 9) [10, 11, 12] (some 17) (v := ?_) rfl (by rfl) (by kernel_rfl) (by kernel_rfl) (by kernel_rfl) (by kernel_rfl) (fun _ _ _ h => h) (Or.inl ⟨by rfl, ?_⟩) hS3 ?_
  rotate_left
  focus (intro w' hSw; (try dsimp only at hSw); go_simp; try with_reducible rfl)
  simp only [Act.put, List.setIfInBounds_toArray, List.set_cons_zero, List.set_cons_succ]
  refine wpAnyX_take (i := 10) [11, 12] (some 18) (v := _) rfl (by rfl) (by kernel_rfl) (by kernel_rfl) (by kernel_rfl) (by kernel_rfl) (fun _ _ _ h => h) (yieldsIf_load_mid (by rfl) _ _ rfl b (i * 27) rfl xs dM (fun _ h => h.2) HU.out HD.out HIN.out) hS3 ?_
  simp only [Act.put, List.setIfInBounds_toArray, List.set_cons_zero, List.set_cons_succ]
  refine wpAnyX_oneX (i := 11) (by kernel_rfl) rfl (by kernel_rfl) (fun K hK => ?_)
  have k3 : Keep (fun _ => False) w (w2.drewN dn) := (((Keep.refl (fun _ => False) w).drew).trans K2.out (fun _ _ f => f)).drewN dn
  have hsend := nsend_calls (H.out.keepF k3) (Rep.msg.keep HXM.out k3 (fun _ _ => id)) (fun q hq => Nat.lt_of_lt_of_le (HLT.out q hq.1) k3.size) HFX.out
  have hsend2 := hsend.mono (R' := fun e w' => ∃ u, e = .returned u ∧ u = .bool (sendB most L x) ∧ NetAt 58 (Grow F (w2.drewN dn) w') w' g most (if sendB most L x then L ++ [x] else L) ∧ Keep F (w2.drewN dn) w') (fun e w' ⟨h1, h2⟩ => ⟨_, h1, rfl, h2⟩)
  have HS2 := hid hsend2; have K3 := hid k3
  clear hsend hsend2 k3
  refine step_call (some 19) (by rfl) (by rfl) rfl ES.out (by rfl) HS2.out ?_
  rintro u w5 ⟨rfl, hn5, k5⟩
  have HN5 := hid hn5; have K5 := hid k5
  clear hn5 k5
  refine hK _ _ ?_
  clear hK K
  simp only [Act.put, List.setIfInBounds_toArray, List.set_cons_zero, List.set_cons_succ]
  refine wpAnyX_oneX (i := 12) (by kernel_rfl) rfl (by kernel_rfl) (fun K hK => ?_)
  rw [if_pos (by rfl)]
  go_simp
  refine hK _ _ ?_
  clear hK K
  refine wpAnyX_done (by kernel_rfl) ?_ _
  clear hS hS2 hS3
  go_wp2_with fail
  go_ret
  have kk := K3.out
  refine ⟨by rw [HB0.out]; rfl, ?_, (kk.mono (T := F) (fun _ _ f => f.elim)).trans K5.out (fun _ _ e => e)⟩
  rw [HB0.out, HT.out]
  have zk := kk.size
  refine HN5.out.mono (fun q hq => ?_) (fun q hq => ?_)
  · rcases hq with hq | hq
    · exact .inl hq
    · exact .inr ⟨by omega, hq.2⟩
  · rcases hq with hq | hq
    · have := HLT.out q hq; have := K5.out.size; omega
    · exact hq.2
def AllPost (w : World) (L : List Msg) (e : Ending) (w' : World) : Prop := ∃ v, e = .returned v ∧ Sl .msg w' (NewIn w w') v L ∧ Keep (fun _ => False) w w'
set_option maxRecDepth 20000 in
set_option maxHeartbeats 4000000 in
theorem nall_calls (h : NetAt 58 F w g most L) : Calls Tryz.prog 15 #[.pointer (some ⟨g, 0, none⟩)] w (AllPost w L) := by
  have hle := h.le
  obtain ⟨v, cs, hst⟩ := h
  obtain ⟨A, c, rfl⟩ := hst.shape
  have hobj := cell_at hst.obj 1 (.slice A L.length c) rfl
  have hrow := Row.ofOwn hst.row
  obtain ⟨n, hn⟩ : ∃ n, n = L.length := ⟨_, rfl⟩
  rw [← hn] at hobj hrow hle
  have HN := hid hn; have HS := hid hst; have HR := hid hrow
  have z0 := lt_heap hst.obj
  clear hn hst hrow
  go_enter Tryz.func15, Tryz.ntmps15
  go_wp2_with fail
  have HO := hid hobj
  clear hobj
  go_loopw [3, 13] (fun v i wr => ∃ (k : Nat) (ds : List Value), k ≤ n ∧ i = .int .i64 k ∧ GrownP .msg 42 w.heap.size wr v k (L.take k) ds ∧ Keep (fun _ => False) w wr) (fun _ i _ => n - (intOf i).toNat)
  case atStart => exact ⟨0, [], Nat.zero_le _, rfl, GrownP.nil, Keep.refl _ _⟩
  case round =>
    obtain ⟨k, ds, hk, rfl, hg, hkp⟩ := hrel
    obtain ⟨B, cc, rfl⟩ := own_slice hg.1
    have HG := hid hg; have HKP := hid hkp
    have zr := hkp.size
    clear hg hkp
    by_cases hlt : k < n
    · obtain ⟨x, hx⟩ : ∃ x, L[k]? = some x := ⟨L[k]'(by rw [← HN.out]; exact hlt), List.getElem?_eq_getElem _⟩
      have hxm := HS.out.parts k x hx
      have hsz : Rep.msg.size = 27 := rfl
      rw [hsz] at hxm
      obtain ⟨xs, hxs⟩ : ∃ xs, xs = (cs.drop (k * 27)).take 27 := ⟨_, rfl⟩
      rw [← hxs] at hxm
      have HLX := hid (MsgL.of hxm)
      have hst := HS.out
      rcases hst.row.2 with ⟨_, h00⟩ | ⟨b, cap, cur, he, _, hgb, hnc, hcm, hcs, htk⟩
      · have := HN.out; omega
      simp only [Value.slice.injEq, true_and] at he
      obtain ⟨rfl, rfl⟩ := he
      have hcell : ∀ j u, xs[j]? = some u → wr.cell? ⟨b, k * 27 + j, none⟩ = some u := fun j u hu => by
        refine HKP.out.cell ?_ id
        refine (World.ownsRow.cells hst.row (g := b) rfl (k * 27 + j) u ?_ : _).trans rfl |> fun q => by rw [Addr.add_lit, Nat.zero_add] at q; exact q
        rw [hxs, List.getElem?_take] at hu
        split at hu
        · rwa [List.getElem?_drop] at hu
        · cases hu
      have hfx : x.Fits := hst.fits x (List.mem_of_getElem? hx)
      have hi1 : (0 : Int) ≤ (k : Int) := by omega
      have hi2 : (k : Int) < (n : Int) := by omega
      obtain ⟨dM, hu, hd⟩ : ∃ d, Tryz.prog.underlying 42 = some d ∧ d.isRow = true := ⟨_, Tryz.underlying42, rfl⟩
      have hinf : (Tryz.prog.info? 42).map (·.size) = some xs.length := by rw [HLX.out.len]; kernel_rfl
      have HU := hid hu; have HD := hid hd; have HIN := hid hinf; have HCE := hid hcell; have HFX := hid hfx
      have HXM := hid (Rep.msg.keep hxm HKP.out (fun _ _ => id)); have HLT := hid hst.lt
      have HTK := hid (show L.take k ++ [x] = L.take (k + 1) by rw [List.take_add_one, hx]; rfl)
      clear hu hd hinf hcell hfx hxm hst hxs hgb hnc hcm hcs htk hsz hx
      go_wp2_with (first
        | (refine wpList_load_mid rfl _ _ rfl b (k * 27) rfl xs dM HCE.out HU.out HD.out HIN.out ?_)
        | (refine wpl_allocB (z := zM) rfl rfl (by kernel_rfl) ?_; intro g5 w1 hg5 hb5 k1 s1; have HG5 := hid hg5; have K1 := hid k1; clear hg5 k1 s1)
        | (refine wpl_storeB (v := .agg xs.toArray) (b := g5) rfl rfl rfl rfl hb5 HLX.out.info HLX.out.fit HLX.out.oneA ?_; intro w2 hb5' k2 s2; replace hb5' := hb5'.trans (HLX.out.whole rfl); have K2 := hid k2; clear k2 s2)
        | (refine wpl_loadA (ty := 42) (o := 0) (n := 27) rfl rfl rfl hb5' (by kernel_rfl) (by kernel_rfl) xs HLX.out.take HLX.out.len ?_))
      have e5 := HG5.out
      have kr2 : Keep (fun _ => False) wr w2 := K1.out.trans K2.out (fun b hb e => by omega)
      have z2 := kr2.size
      have KR2 := hid kr2
      have hown := own_calls' (Rep.msg.keep HXM.out kr2 (fun _ _ => id)) (fun q hq => by have := HLT.out q hq.1; omega) HFX.out
      clear kr2 hb5 hb5'
      refine hown.mono ?_
      clear hown
      rintro e w3 ⟨vs, rfl, hv3, k3⟩
      have HV3 := hid hv3; have K3 := hid k3; have HLV := hid (MsgL.of hv3)
      clear hv3 k3
      go_wp2_with (first
        | (refine wpl_sliceOne (v := .agg vs.toArray) (z := zM) rfl rfl Tryz.underlying49 (n := 27) (by kernel_rfl) (by decide) (by decide) rfl (by simp [Value.cells, HLV.out.len]) ?_; intro g7 w4 hg7 hb7 k4 s4; have K4 := hid k4; clear hg7 k4 s4)
        | (at_builtin; refine stopHere ?_))
      have hrow7 : Row (fun q => q = g7) w4 (.slice (some ⟨g7, 0, none⟩) 1 1) 1 27 vs := by have := row_at (w := w4) (d := vs) hb7; rwa [HLV.out.len] at this
      have k34 : Keep (fun _ => False) wr w4 := (KR2.out.trans K3.out (fun _ _ f => f)).trans K4.out (fun _ _ f => f)
      have hown4 := k34.owns HG.out.1 (fun _ _ => id)
      refine goOn (wpl_app (v := .slice B k cc) rfl rfl T_M rfl hown4 rfl hrow7 HLV.out.one (by omega) (by omega) ?_)
      intro A6 c6 w5 ho5 k5 hn5
      have hmore := HG.out.more zr (KR2.out.trans K3.out (fun _ _ f => f)) (Rep.msg.mono HV3.out (fun q hq => ⟨by have := hq.1; omega, hq.2⟩)) K4.out ho5 k5 hn5
      rw [HTK.out] at hmore
      have hownb := HG.out.2.2.2
      have hkf : Keep (fun _ => False) w w5 := HKP.out.trans hmore.2 (fun q hq e => by have := hownb q e.symm; omega)
      have HM := hid hmore.1; have HKF := hid hkf
      clear ho5 k5 hn5 hmore hkf hown4 hrow7 hb7 k34
      go_wp2_with fail
      exact ⟨⟨k + 1, _, by omega, by simp, HM.out, HKF.out⟩, by simp [intOf]; omega⟩
    · obtain rfl : k = n := by omega
      go_wp2_with fail
      go_ret
      have hs := HG.out.sl
      rw [HN.out, List.take_length] at hs
      rw [HN.out]
      exact ⟨_, rfl, hs, HKP.out⟩
end
end Go.Proofs.YtofljidmdabkcaaGreat
namespace Go.Proofs.YtofljidmdabkcaaGreat
open Go.RowKit Go.Lib
/-- A net whose blocks lie at B or behind, none of them of E. -/
def NetQ (B : Nat) (E : Nat → Prop) (w : World) (g : Nat) (most : Int) (L : List Msg) : Prop :=
  ∃ F, NetAt 58 F w g most L ∧ (∀ k, F k → B ≤ k ∧ ¬ E k) ∧ ∀ k, E k → k < w.heap.size
def OutN (B : Nat) (E : Nat → Prop) (k : Nat) : Prop := B ≤ k ∧ ¬ E k
section
variable {B : Nat} {E E' S G : Nat → Prop} {w w' : World} {g : Nat} {most : Int} {L : List Msg} {m : Msg} {ms : List Value} {k : Int}
theorem NetQ.keepE (h : NetQ B E w g most L) (hk : Keep S w w') (hS : ∀ k, k < w.heap.size → S k → B ≤ k → E k) : NetQ B E w' g most L := by
  obtain ⟨F, h1, h2, h3⟩ := h
  exact ⟨F, h1.keep hk (fun q hq s => (h2 q hq).2 (hS q (h1.lt q hq) s (h2 q hq).1)), h2, fun q hq => Nat.lt_of_lt_of_le (h3 q hq) hk.size⟩
theorem NetQ.keepF (h : NetQ B E w g most L) (hk : Keep (fun _ => False) w w') : NetQ B E w' g most L := h.keepE hk (fun _ _ f => f.elim)
theorem NetQ.withE (h : NetQ B E w g most L) (hk : Keep (fun _ => False) w w') (hE : ∀ k, E' k → E k ∨ (w.heap.size ≤ k ∧ k < w'.heap.size)) : NetQ B E' w' g most L := by
  obtain ⟨F, h1, h2, h3⟩ := h
  have hs := hk.size
  refine ⟨F, h1.keepF hk, fun q hq => ⟨(h2 q hq).1, fun e => ?_⟩, fun q hq => ?_⟩
  · rcases hE q e with e | e
    · exact (h2 q hq).2 e
    · have := h1.lt q hq; omega
  · rcases hE q hq with e | e
    · have := h3 q e; omega
    · exact e.2
theorem NetQ.len (h : NetQ B E w g most L) : Calls Tryz.prog 17 #[.pointer (some ⟨g, 0, none⟩)] w fun e w' => e = .returned (.int .i64 L.length) ∧ w = w' := by
  obtain ⟨F, h1, h2, h3⟩ := h
  exact nlen_calls h1
theorem NetQ.le (h : NetQ B E w g most L) : (L.length : Int) ≤ most ∧ most ≤ 100000 := by obtain ⟨F, h1, h2, h3⟩ := h; exact h1.le
theorem NetQ.grown {F : Nat → Prop} (h1 : NetAt 58 (Grow F w w') w' g most L) (hF : ∀ k, F k → B ≤ k ∧ ¬ E k) (hB : B ≤ w.heap.size) (hE : ∀ k, E k → k < w.heap.size) (hs : w.heap.size ≤ w'.heap.size) : NetQ B E w' g most L :=
  ⟨_, h1, fun q hq => by
    rcases hq with hq | hq
    · exact hF q hq
    · exact ⟨by omega, fun e => by have := hE q e; omega⟩, fun q hq => Nat.lt_of_lt_of_le (hE q hq) hs⟩
theorem NetQ.send (h : NetQ B E w g most L) (hB : B ≤ w.heap.size) (hm : Rep.msg.cells w G m ms) (hG : ∀ q, G q → q < w.heap.size) (hf : m.Fits) :
    Calls Tryz.prog 8 #[.pointer (some ⟨g, 0, none⟩), .agg ms.toArray] w fun e w' => e = .returned (.bool (sendB most L m)) ∧ NetQ B E w' g most (if sendB most L m then L ++ [m] else L) ∧ Keep (OutN B E) w w' := by
  obtain ⟨F, h1, h2, h3⟩ := h
  refine (nsend_calls h1 hm hG hf).mono ?_
  rintro e w' ⟨he, hn, hk⟩
  exact ⟨he, NetQ.grown hn h2 hB h3 hk.size, hk.mono (fun q _ s => h2 q s)⟩
theorem NetQ.twice (h : NetQ B E w g most L) (hB : B ≤ w.heap.size) (hk : okI k) :
    Calls Tryz.prog 13 #[.pointer (some ⟨g, 0, none⟩), .int .i64 k] w fun e w' => e = .returned (.bool (twB most L k)) ∧ NetQ B E w' g most (if twB most L k then L ++ [takeM L k] else L) ∧ Keep (OutN B E) w w' := by
  obtain ⟨F, h1, h2, h3⟩ := h
  refine (ntwice_calls h1 hk).mono ?_
  rintro e w' ⟨he, hn, hk⟩
  exact ⟨he, NetQ.grown hn h2 hB h3 hk.size, hk.mono (fun q _ s => h2 q s)⟩
theorem NetQ.take (h : NetQ B E w g most L) (hk : okI k) :
    Calls Tryz.prog 10 #[.pointer (some ⟨g, 0, none⟩), .int .i64 k] w fun e w' => ∃ cs, e = .returned (.tuple #[.agg cs.toArray, .bool (decide (0 < L.length))]) ∧ Rep.msg.cells w' (OutN B E) (takeM L k) cs ∧ NetQ B E w' g most (L.eraseIdx (placeN k L.length)) ∧ Keep (OutN B E) w w' := by
  obtain ⟨F, h1, h2, h3⟩ := h
  refine (ntake_calls h1 hk).mono ?_
  rintro e w' ⟨cs, he, hm, hn, hk⟩
  exact ⟨cs, he, Rep.msg.mono hm (fun q hq => h2 q hq.1), ⟨F, hn, h2, fun q hq => Nat.lt_of_lt_of_le (h3 q hq) hk.size⟩, hk.mono (fun q _ s => h2 q s)⟩
theorem NetQ.lose (h : NetQ B E w g most L) (hk : okI k) :
    Calls Tryz.prog 12 #[.pointer (some ⟨g, 0, none⟩), .int .i64 k] w fun e w' => e = .returned (.bool (decide (0 < L.length))) ∧ NetQ B E w' g most (L.eraseIdx (placeN k L.length)) ∧ Keep (OutN B E) w w' := by
  obtain ⟨F, h1, h2, h3⟩ := h
  refine (nlose_calls h1 hk).mono ?_
  rintro e w' ⟨he, hn, hk⟩
  exact ⟨he, ⟨F, hn, h2, fun q hq => Nat.lt_of_lt_of_le (h3 q hq) hk.size⟩, hk.mono (fun q _ s => h2 q s)⟩
theorem NetQ.all (h : NetQ B E w g most L) : Calls Tryz.prog 15 #[.pointer (some ⟨g, 0, none⟩)] w (AllPost w L) := by
  obtain ⟨F, h1, h2, h3⟩ := h
  exact nall_calls h1
theorem newNetQ (n : Int) (h1 : 1 ≤ n) (h2 : n ≤ 100000) (hB : B ≤ w.heap.size) :
    Calls Tryz.prog 6 #[.int .i64 n] w fun e w' => ∃ g, e = .returned (.tuple #[.pointer (some ⟨g, 0, none⟩), .int .i64 0]) ∧ NetQ B (fun _ => False) w' g n [] ∧ Keep (fun _ => False) w w' := by
  refine (newNet_calls n h1 h2).mono ?_
  rintro e w' ⟨g, he, hn, hk⟩
  exact ⟨g, he, ⟨_, hn, fun q hq => ⟨by have := hq.1; omega, id⟩, fun _ f => f.elim⟩, hk⟩
def nackM (n : Int) : Msg := ⟨5, 1, 2, n, 0, 0, reqZ', [], [], 0, verdictZ⟩
abbrev nackC (n : Int) : List Value := msgCs (nackM n) nilV nilV nilV nilV
theorem nack_ok (n : Int) (hn : okI n) : (nackM n).Ok := by
  have h : okI 0 := ⟨by decide, by decide⟩
  have h5 : okI 5 := ⟨by decide, by decide⟩
  have h1 : okI 1 := ⟨by decide, by decide⟩
  have h2 : okI 2 := ⟨by decide, by decide⟩
  exact ⟨h5, h1, h2, hn, h, h, ⟨h, h, h, h, h, h, h⟩, h, ⟨h, h, h, Nat.zero_le _, h⟩⟩
theorem nack_cells (w : World) (F : Nat → Prop) (n : Int) (hn : okI n) : Rep.msg.cells w F (nackM n) (nackC n) := msg_mk (nilSl _ _ _) (nilSl _ _ _) (nilSl _ _ _) (nilSl _ _ _) (nack_ok n hn)
theorem nack_fits (n : Int) : (nackM n).Fits := ⟨Nat.zero_le _, Nat.zero_le _, Nat.zero_le _, Nat.zero_le _, fun x hx => by simp [nackM] at hx, fun x hx => by simp [nackM, verdictZ] at hx⟩
theorem nackL (n : Int) : MsgL (nackC n) := ⟨rfl, by simp [nackC, msgCs, reqCs, verdictCs, nilV, Value.oneCell']⟩
set_option maxRecDepth 20000 in
theorem nack_calls (n : Int) : Calls Tryz.prog 18 #[.int .i64 n] w fun e w' => e = .returned (.agg (nackC n).toArray) ∧ Keep (fun _ => False) w w' := by
  go_enter Tryz.func18, Tryz.ntmps18
  go_wp2_with (first
    | (refine wpl_allocB (z := zM) rfl rfl (by kernel_rfl) ?_; intro g1 w1 hg1 hb1 k1 s1; have HG1 := hid hg1; clear hg1)
    | (refine wpl_build rfl rfl (nackC n).toArray (by kernel_rfl) ?_)
    | (refine wpl_storeB (v := .agg (nackC n).toArray) rfl rfl rfl rfl hb1 (nackL n).info (nackL n).fit (nackL n).oneA ?_; intro w2 hb2 k2 s2))
  refine bodyPost_ret (res_cell (g := g1) (cs := (nackC n).toArray) Tryz.results18 _ rfl (hb2.trans ((nackL n).whole rfl)) (by kernel_rfl) (by kernel_rfl)) rfl ?_
  have e1 := HG1.out
  exact ⟨rfl, (k1.trans (k2.mono (T := fun k => k = g1) (fun _ _ e => e)) (fun b hb e => by omega))⟩
theorem nack_may : mchkB (nackM 1) = true ∧ mchkB (nackM 2) = true ∧ mchkB (nackM 3) = true := by decide +kernel
theorem nack_of {F : Nat → Prop} {n : Int} {cs : List Value} (h : Rep.msg.cells w F (nackM n) cs) : cs[3]? = some (.int .i64 n) := by
  obtain ⟨vc, vv, vi, vk, rfl, _⟩ := msg_cells h
  rfl
theorem ok_of (n : Int) (h : -1000000 ≤ n ∧ n ≤ 1000000) : okI n := ⟨by omega, by omega⟩
set_option maxRecDepth 20000 in
set_option maxHeartbeats 4000000 in
theorem awake24_calls (w : World) : Calls Tryz.prog 4 #[] w fun e w' => e = .returned (.bool true) ∧ Keep (fun _ => False) w w' := by
  obtain ⟨m1, m2, m3⟩ := nack_may
  have s1 : sendB 2 [] (nackM 1) = true := by rw [sendB, m1]; rfl
  have s2 : sendB 2 [nackM 1] (nackM 2) = true := by rw [sendB, m2]; rfl
  have s3 : sendB 2 [nackM 1, nackM 2] (nackM 3) = false := rfl
  have p1 : placeN (-1) 2 = 1 := by decide
  have p2 : placeN 0 1 = 0 := by decide
  have t1 : takeM [nackM 1, nackM 2] (-1) = nackM 2 := by rw [takeM]; show ([nackM 1, nackM 2][placeN (-1) 2]?).getD msgZ = _; rw [p1]; rfl
  have t2 : takeM [nackM 1] 0 = nackM 1 := by rw [takeM]; show ([nackM 1][placeN 0 1]?).getD msgZ = _; rw [p2]; rfl
  have s4 : twB 2 [nackM 1] 0 = true := by rw [twB, t2, sendB, m1]; rfl
  have S1 := hid s1; have S2 := hid s2; have S3 := hid s3; have S4 := hid s4; have P1 := hid p1; have T1 := hid t1; have T2 := hid t2
  clear s1 s2 s3 s4 p1 p2 t1 t2 m1 m2 m3
  go_enter Tryz.func4, Tryz.ntmps4
  go_wp2_with fail
  refine (newNetQ (B := w.heap.size) 2 (by decide) (by decide) (Nat.le_refl _)).mono ?_
  rintro e w1 ⟨g, rfl, hn1, k1⟩
  have HN1 := hid hn1; have K1 := hid k1
  clear hn1 k1
  go_wp2_with fail
  refine (nack_calls 1).mono ?_
  rintro e w2 ⟨rfl, k2⟩
  have HN2 := hid (HN1.out.keepF k2); have K2 := hid (K1.out.trans k2 (fun _ _ f => f))
  clear k2
  go_wp2_with fail
  refine (HN2.out.send K2.out.size (nack_cells w2 (fun _ => False) 1 (ok_of 1 (by decide))) (fun _ f => f.elim) (nack_fits 1)).mono ?_
  rintro e w3 ⟨rfl, hn3, k3⟩
  rw [S1.out] at hn3 ⊢
  have HN3 := hid (show NetQ _ _ w3 g 2 [nackM 1] from hn3); have K3 := hid ((K2.out.mono (T := fun k => w.heap.size ≤ k) (fun _ _ f => f.elim)).trans k3 (fun _ _ e => e.1))
  clear hn3 k3
  go_wp2_with fail
  refine (nack_calls 2).mono ?_
  rintro e w4 ⟨rfl, k4⟩
  have HN4 := hid (HN3.out.keepF k4); have K4 := hid (K3.out.trans k4 (fun _ _ f => f.elim))
  clear k4
  go_wp2_with fail
  refine (HN4.out.send K4.out.size (nack_cells w4 (fun _ => False) 2 (ok_of 2 (by decide))) (fun _ f => f.elim) (nack_fits 2)).mono ?_
  rintro e w5 ⟨rfl, hn5, k5⟩
  rw [S2.out] at hn5 ⊢
  have HN5 := hid (show NetQ _ _ w5 g 2 [nackM 1, nackM 2] from hn5); have K5 := hid (K4.out.trans k5 (fun _ _ e => e.1))
  clear hn5 k5
  go_wp2_with fail
  refine (nack_calls 3).mono ?_
  rintro e w6 ⟨rfl, k6⟩
  have HN6 := hid (HN5.out.keepF k6); have K6 := hid (K5.out.trans k6 (fun _ _ f => f.elim))
  clear k6
  go_wp2_with fail
  refine (HN6.out.send K6.out.size (nack_cells w6 (fun _ => False) 3 (ok_of 3 (by decide))) (fun _ f => f.elim) (nack_fits 3)).mono ?_
  rintro e w7 ⟨rfl, hn7, k7⟩
  rw [S3.out] at hn7 ⊢
  have HN7 := hid (show NetQ _ _ w7 g 2 [nackM 1, nackM 2] from hn7); have K7 := hid (K6.out.trans k7 (fun _ _ e => e.1))
  clear hn7 k7
  go_wp2_with fail
  refine (HN7.out.take (ok_of (-1) (by decide))).mono ?_
  rintro e w8 ⟨cs, rfl, hm8, hn8, k8⟩
  rw [T1.out] at hm8
  have hn8' : NetQ w.heap.size (fun _ => False) w8 g 2 [nackM 1] := by
    rw [show placeN (-1) [nackM 1, nackM 2].length = 1 from P1.out] at hn8
    exact hn8
  have HL8 := hid (MsgL.of hm8); have HC8 := hid (nack_of hm8)
  have HN8 := hid hn8'; have K8 := hid (K7.out.trans k8 (fun _ _ e => e.1))
  have htr : decide (0 < [nackM 1, nackM 2].length) = true := rfl
  rw [htr]
  clear hn8 hn8' k8 hm8 htr
  go_wp2_with (first
    | (refine wpl_allocB (z := zM) rfl rfl (by kernel_rfl) ?_; intro g3 w9 hg9 hb9 k9 s9; have HG9 := hid hg9; have K9 := hid k9; clear hg9 k9 s9)
    | (refine wpl_storeB (v := .agg cs.toArray) rfl rfl rfl rfl hb9 HL8.out.info HL8.out.fit HL8.out.oneA ?_; intro w10 hb10 k10 s10; replace hb10 := hb10.trans (HL8.out.whole rfl); have K10 := hid k10; clear k10 s10; have q3 := cell_at hb10 3 (.int .i64 2) (by have := HC8.out; simpa using this)))
  have e9 := HG9.out
  have k810 : Keep (fun _ => False) w8 w10 := K9.out.trans K10.out (fun b hb e => by omega)
  have HN10 := hid (HN8.out.keepF k810); have K10' := hid (K8.out.trans k810 (fun _ _ f => f.elim))
  clear k810 hb9 hb10
  refine (HN10.out.twice K10'.out.size (ok_of 0 (by decide))).mono ?_
  rintro e w11 ⟨rfl, hn11, k11⟩
  rw [S4.out, T2.out] at hn11
  rw [S4.out]
  have HN11 := hid (show NetQ _ _ w11 g 2 [nackM 1, nackM 1] from hn11); have K11 := hid (K10'.out.trans k11 (fun _ _ e => e.1))
  clear hn11 k11 q3
  go_wp2_with fail
  refine HN11.out.len.mono ?_
  rintro e w' ⟨rfl, rfl⟩
  go_wp2_with fail
  go_ret
  exact ⟨rfl, K11.out.mono (fun q hq e => by omega)⟩
end
end Go.Proofs.YtofljidmdabkcaaGreat
