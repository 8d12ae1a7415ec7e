/- net: Lose, Twice, All. -/
import Derived.Test.YtofljidmdabkcaaNetT
namespace Go.Proofs.Ytofljidmdabkcaa
open Go.RowKit Go.Lib
section
variable {P : Program} {ops : Array Oper} {Q : Exit → Act → World → Prop} {o : Oper} {a : Act} {w : World} {K : Act → World → Prop} {E : Prop}
/-- A closure of one argument that holds one thing is called. -/
theorem step_callV (d : Option Tmp) (hd : o.dst = d) {f : FuncId} {x y : Tmp} {ts : Array TypeId} (hgw : Region.wanted o (yielded ops a.tmps) = true)
    (ho : o.op = .call { callee := .value (.tmp x), args := #[.tmp y], argTypes := ts }) (eg : ∀ args w, (callFunc f args).run P w = .ok (.enter f args) w) {u cp : Value} (hf : a.tmps[x]?.getD undef = .func (.func f) #[] #[cp]) (hy : a.tmps[y]?.getD undef = u) {R : Value → World → Prop}
    (hc : Calls P f #[u, cp] w fun e w' => ∃ u, e = .returned u ∧ R u w') (h : ∀ u w', R u w' → K (a.put d u) w') :
    if Region.wanted o (yielded ops a.tmps) = true then Oper.wp P o a w K Q else E := by
  subst hd
  rw [if_pos hgw]
  unfold Oper.wp execOp
  have key : Calls P f #[u, cp] w fun e w' => match e, w' with
      | .returned v, w'' => K (a.put o.dst v) w''
      | .panicked chain, w'' => Q (Exit.panic chain) a w''
      | .outgrown, _ => LetsOut Q := by
    refine hc.mono ?_
    rintro e w' ⟨u, rfl, hr⟩
    exact h u w' hr
  simp [ho, hf, hy, resolve, invoke, eg, go_sem]
  exact key
end
section
variable {ty : TypeId} {F S G : Nat → Prop} {w w' w1 w2 w3 wa : World} {g : Nat} {most : Int} {v : Value} {L : List Msg} {cs ms vs : List Value} {m : Msg} {A A2 : Option Addr} {c c2 : Nat}
theorem NetAt.mono (h : NetAt ty F w g most L) (hG : ∀ q, F q → G q) (hlt : ∀ q, G q → q < w.heap.size) : NetAt ty G w g most L := by
  obtain ⟨v, cs, h⟩ := h
  exact ⟨v, cs, h.obj, hG g h.hg, h.row, h.parts.mono (fun q hq => ⟨hG q hq.1, hq.2⟩), fun q hq => ⟨hG q (h.own q hq).1, (h.own q hq).2⟩, hlt, h.fits, h.le, h.most⟩
def LosePost (F : Nat → Prop) (w : World) (g : Nat) (most : Int) (L : List Msg) (k : Int) (e : Ending) (w' : World) : Prop :=
  e = .returned (.bool (decide (0 < L.length))) ∧ NetAt 56 F w' g most (L.eraseIdx (placeN k L.length)) ∧ Keep F w w'
set_option maxRecDepth 20000 in
set_option maxHeartbeats 4000000 in
theorem nlose_calls (h : NetAt 56 F w g most L) {k : Int} (hk : okI k) : Calls Try.prog 17 #[.pointer (some ⟨g, 0, none⟩), .int .i64 k] w (LosePost F w g most L k) := by
  have HT := hid (ntake_calls h hk)
  obtain ⟨b, hb⟩ : ∃ b, b = decide (0 < L.length) := ⟨_, rfl⟩
  have HB := hid hb
  clear h hk hb
  go_enter Try.func17, Try.ntmps17
  go_wp2_with fail
  refine HT.out.mono ?_
  rintro e w1 ⟨cs, rfl, hm, hn, k1⟩
  have HL := hid (MsgL.of hm); have HN := hid hn; have K1 := hid k1
  rw [← HB.out]
  clear hm hn k1
  go_wp2_with (first
    | (refine wpl_allocB (z := zM) rfl rfl (by kernel_rfl) ?_; intro g4 w2 hg4 hb4 k2 s2; have HG4 := hid hg4; have K2 := hid k2; clear hg4 k2 s2)
    | (refine wpl_storeB (v := .agg cs.toArray) rfl rfl rfl rfl hb4 HL.out.info HL.out.fit HL.out.oneA ?_; intro w3 hb4' k3 s3; have K3 := hid k3; clear k3 s3))
  go_ret
  have e4 := HG4.out
  have kk : Keep (fun _ => False) w1 w3 := K2.out.trans K3.out (fun b hb e => by omega)
  exact ⟨by rw [← HB.out]; rfl, HN.out.keepF kk, K1.out.trans kk (fun _ _ f => f.elim)⟩
def twB (most : Int) (L : List Msg) (k : Int) : Bool := decide (0 < L.length) && sendB most L (takeM L k)
def TwicePost (F : Nat → Prop) (w : World) (g : Nat) (most : Int) (L : List Msg) (k : Int) (e : Ending) (w' : World) : Prop :=
  e = .returned (.bool (twB most L k)) ∧ NetAt 56 (Grow F w w') w' g most (if twB most L k then L ++ [takeM L k] else L) ∧ Keep F w w'
set_option maxRecDepth 20000 in
set_option maxHeartbeats 4000000 in
theorem ntwice_calls (h : NetAt 56 F w g most L) {k : Int} (hk : okI k) : Calls Try.prog 12 #[.pointer (some ⟨g, 0, none⟩), .int .i64 k] w (TwicePost F w g most L k) := by
  have H := hid h
  have hle := h.le
  have KL := hid (fun w' (hk : Keep (fun _ => False) w w') => nlen_calls (h.keepF hk))
  have KP := hid (fun w' (hk : Keep (fun _ => False) w w') => nplace_calls (h.keepF hk))
  obtain ⟨n, hn⟩ : ∃ n, n = L.length := ⟨_, rfl⟩
  rw [← hn] at KL KP hle
  have HN := hid hn
  clear h hn
  by_cases h0 : n = 0
  · subst h0
    go_enter Try.func12, Try.ntmps12
    go_wp2_with fail
    refine (KL.out _ (Keep.refl _ _)).mono ?_
    rintro e w' ⟨rfl, rfl⟩
    go_wp2_with fail
    go_ret
    have hb : twB most L k = false := by rw [twB, ← HN.out]; rfl
    refine ⟨by rw [hb]; rfl, ?_, Keep.refl _ _⟩
    rw [hb]
    exact H.out.grow (Keep.refl _ _)
  obtain ⟨n1, rfl⟩ : ∃ n1, n = n1 + 1 := ⟨n - 1, by omega⟩
  have hb1 : (((n1 : Int) + 1) == 0) = false := by rw [beq_eq_false_iff_ne]; omega
  obtain ⟨v, cs, hst⟩ := H.out
  obtain ⟨A, c, rfl⟩ := hst.shape
  rcases hst.row.2 with ⟨_, h00⟩ | ⟨b, cap, cur, he, _, hgb, hnc, hcm, hcs, htk⟩
  · have := HN.out; omega
  simp only [Value.slice.injEq, true_and] at he
  obtain ⟨rfl, rfl⟩ := he
  have hil := placeN_lt k (n := n1 + 1) (by omega)
  obtain ⟨i, hi⟩ : ∃ i, i = placeN k (n1 + 1) := ⟨_, rfl⟩
  rw [← hi] at hil
  have HI := hid hi
  obtain ⟨x, hx⟩ : ∃ x, L[i]? = some x := ⟨L[i]'(by rw [← HN.out]; exact hil), List.getElem?_eq_getElem _⟩
  have hxm := hst.parts i x hx
  have hlx := MsgL.of hxm
  obtain ⟨xs, hxs⟩ : ∃ xs, xs = (cs.drop (i * 27)).take 27 := ⟨_, rfl⟩
  have hsz : Rep.msg.size = 27 := rfl
  rw [hsz] at hxm hlx
  rw [← hxs] at hxm hlx
  have hcell : ∀ j u, xs[j]? = some u → w.cell? ⟨b, i * 27 + j, none⟩ = some u := fun j u hu => by
    refine (World.ownsRow.cells hst.row (g := b) rfl (i * 27 + j) u ?_ : _).trans rfl |> fun q => by rw [Addr.add_lit, Nat.zero_add] at q; exact q
    rw [hxs, List.getElem?_take] at hu
    split at hu
    · rwa [List.getElem?_drop] at hu
    · cases hu
  have hobj := cell_at hst.obj 1 (.slice (some ⟨b, 0, none⟩) L.length c) rfl
  rw [← HN.out] at hobj
  have ht : takeM L k = x := by rw [takeM, ← HN.out, ← HI.out, hx]; rfl
  have hfx : x.Fits := hst.fits x (List.mem_of_getElem? hx)
  have hb0 : twB most L k = sendB most L x := by rw [twB, ht, ← HN.out]; rfl
  have HX := hid hx; have HXM := hid hxm; have HLX := hid hlx; have HC := hid hcell; have HO := hid hobj; have HIL := hid hil; have HT := hid ht; have HFX := hid hfx; have HB0 := hid hb0; have HLT := hid (hst.lt)
  have hi1 : (0 : Int) ≤ (i : Int) := by omega
  have hi2 : (i : Int) < (n1 : Int) + 1 := by omega
  obtain ⟨dM, hu, hd⟩ : ∃ d, Try.prog.underlying 32 = some d ∧ d.isRow = true := ⟨_, Try.underlying32, rfl⟩
  have hinf : (Try.prog.info? 32).map (·.size) = some xs.length := by rw [HLX.out.len]; kernel_rfl
  have HU := hid hu; have HD := hid hd; have HIN := hid hinf
  have EP := hid (enters_of Try.func33 (by kernel_rfl) rfl)
  have EC := hid (enters_of Try.func54 (by kernel_rfl) rfl)
  have ES := hid (enters_of Try.func9 (by kernel_rfl) rfl)
  clear hxm hlx hcell hobj hst hxs hgb hcm hcs htk hu hd hinf hsz hx hi hnc ht hfx hb0
  go_enter Try.func12, Try.ntmps12
  go_wp2_with fail
  refine (KL.out _ (Keep.refl _ _)).mono ?_
  rintro e w' ⟨rfl, rfl⟩
  have k0 : Keep (fun _ => False) w w.drew := (Keep.refl _ w).drew
  have hS : w.drew.cell? ⟨g, 1, none⟩ = some (.slice (some ⟨b, 0, none⟩) (n1 + 1) c) ∧ w.drew.rangeAt b (i * 27) xs := ⟨HO.out, HC.out⟩
  have HPL := hid ((KP.out _ k0).mono (R' := fun e w' => ∃ u, e = .returned u ∧ ∃ bp, u = .func (.func 54) #[] #[.pointer (some ⟨bp, 0, none⟩)] ∧ w'.cell? ⟨bp, 0, none⟩ = some (.int .i64 ((n1 + 1 : Nat) : Int)) ∧ Keep (fun _ => False) w.drew w') (fun e w' ⟨bp, h1, _, h3, h4⟩ => ⟨_, h1, bp, rfl, h3, h4⟩))
  clear k0
  go_wp2_with fail
  refine wp_region_X (fun y => y.cell? ⟨g, 1, none⟩ = some (.slice (some ⟨b, 0, none⟩) (n1 + 1) c) ∧ y.rangeAt b (i * 27) xs) [11, 12] (by kernel_rfl) hS (fun _ => ?_)
  refine wpAnyX_take (i := 0) [11, 12] (some 8) (v := ?_) rfl (by rfl) (by kernel_rfl) (by kernel_rfl) (by kernel_rfl) (by kernel_rfl) (fun _ _ _ h => h) (Or.inl ⟨by rfl, ?_⟩) hS ?_
  rotate_left
  focus (intro w' hSw; (try dsimp only at hSw); go_simp; try with_reducible rfl)
  simp only [Act.put, List.setIfInBounds_toArray, List.set_cons_zero, List.set_cons_succ]
  refine wpAnyX_take (i := 1) [2, 3, 4, 9, 10, 11, 12] (some 9) (v := ?_) rfl (by rfl) (by kernel_rfl) (by kernel_rfl) (by kernel_rfl) (by kernel_rfl) (fun _ _ _ h => h) (Or.inl ⟨by rfl, ?_⟩) hS ?_
  rotate_left
  focus (intro w' hSw; (try dsimp only at hSw); go_simp; try with_reducible rfl)
  simp only [Act.put, List.setIfInBounds_toArray, List.set_cons_zero, List.set_cons_succ]
  refine wpAnyX_take (i := 2) [3, 4, 9, 10, 11, 12] (some 10) (v := ?_) rfl (by rfl) (by kernel_rfl) (by kernel_rfl) (by kernel_rfl) (by kernel_rfl) (fun _ _ _ h => h) (Or.inl ⟨by rfl, ?_⟩) hS ?_
  rotate_left
  focus (intro w' hSw; (try dsimp only at hSw); go_simp; try with_reducible rfl)
  simp only [Act.put, List.setIfInBounds_toArray, List.set_cons_zero, List.set_cons_succ]
  refine wpAnyX_take (i := 3) [4, 9, 10, 11, 12] (some 11) (v := ?_) rfl (by rfl) (by kernel_rfl) (by kernel_rfl) (by kernel_rfl) (by kernel_rfl) (fun _ _ _ h => h) (Or.inl ⟨by rfl, ?_⟩) hS ?_
  rotate_left
  focus (intro w' hSw; (try dsimp only at hSw); go_simp; try with_reducible rfl)
  simp only [Act.put, List.setIfInBounds_toArray, List.set_cons_zero, List.set_cons_succ]
  refine wpAnyX_take (i := 4) [9, 10, 11, 12] (some 12) (v := ?_) rfl (by rfl) (by kernel_rfl) (by kernel_rfl) (by kernel_rfl) (by kernel_rfl) (fun _ _ _ h => h) (Or.inl ⟨by rfl, ?_⟩) hS ?_
  rotate_left
  focus (intro w' hSw; (try dsimp only at hSw); go_simp; try with_reducible rfl)
  simp only [Act.put, List.setIfInBounds_toArray, List.set_cons_zero, List.set_cons_succ]
  refine wpAnyX_take (i := 5) [6, 8, 9, 10, 11, 12] (some 13) (v := ?_) rfl (by rfl) (by kernel_rfl) (by kernel_rfl) (by kernel_rfl) (by kernel_rfl) (fun _ _ _ h => h) (Or.inl ⟨by rfl, ?_⟩) hS ?_
  rotate_left
  focus (intro w' hSw; (try dsimp only at hSw); go_simp; try with_reducible rfl)
  simp only [Act.put, List.setIfInBounds_toArray, List.set_cons_zero, List.set_cons_succ]
  refine wpAnyX_take (i := 7) [8, 9, 10, 11, 12] (some 15) (v := ?_) rfl (by rfl) (by kernel_rfl) (by kernel_rfl) (by kernel_rfl) (by kernel_rfl) (fun _ _ _ h => h) (Or.inl ⟨by rfl, ?_⟩) hS ?_
  rotate_left
  focus (intro w' hSw; (try dsimp only at hSw); go_simp; try with_reducible rfl)
  simp only [Act.put, List.setIfInBounds_toArray, List.set_cons_zero, List.set_cons_succ]
  refine wpAnyX_one (i := 6) (by kernel_rfl) rfl (fun K hK => ?_)
  refine step_call (some 14) (by rfl) (by rfl) rfl EP.out (by rfl) HPL.out ?_
  rintro u w2 ⟨bp, rfl, hcp, k2⟩
  have K2 := hid k2; have HCP := hid hcp
  have hS2 : w2.cell? ⟨g, 1, none⟩ = some (.slice (some ⟨b, 0, none⟩) (n1 + 1) c) ∧ w2.rangeAt b (i * 27) xs := ⟨k2.cell hS.1 id, fun j u hu => k2.cell (hS.2 j u hu) id⟩
  clear k2 hcp
  refine hK _ _ (hS2) ?_
  clear hK K
  try simp only [Act.put, List.setIfInBounds_toArray, List.set_cons_zero, List.set_cons_succ]
  refine wpAnyX_one (i := 8) (by kernel_rfl) rfl (fun K hK => ?_)
  have hp1 := place1_calls (w := w2) (k := k) HCP.out (by omega) (by omega) hk
  rw [← HI.out] at hp1
  have hp2 := hp1.mono (R' := fun e w' => ∃ u, e = .returned u ∧ u = .int .i64 (i : Int) ∧ ∃ m, w' = w2.drewN m) (fun e w' ⟨h1, h2⟩ => ⟨_, h1, rfl, h2⟩)
  have HP2 := hid hp2
  clear hp1 hp2
  refine step_callV (some 16) (by rfl) (by rfl) rfl EC.out (by rfl) (by rfl) HP2.out ?_
  rintro u w3 ⟨rfl, dn, rfl⟩
  have hS3 : (w2.drewN dn).cell? ⟨g, 1, none⟩ = some (.slice (some ⟨b, 0, none⟩) (n1 + 1) c) ∧ (w2.drewN dn).rangeAt b (i * 27) xs := ⟨hS2.1, hS2.2⟩
  refine hK _ _ (hS3) ?_
  clear hK K
  try simp only [Act.put, List.setIfInBounds_toArray, List.set_cons_zero, List.set_cons_succ]
  refine wpAnyX_take (i := 9) [10, 11, 12] (some 17) (v := ?_) rfl (by rfl) (by kernel_rfl) (by kernel_rfl) (by kernel_rfl) (by kernel_rfl) (fun _ _ _ h => h) (Or.inl ⟨by rfl, ?_⟩) hS3 ?_
  rotate_left
  focus (intro w' hSw; (try dsimp only at hSw); go_simp; try with_reducible rfl)
  simp only [Act.put, List.setIfInBounds_toArray, List.set_cons_zero, List.set_cons_succ]
  refine wpAnyX_take (i := 10) [11, 12] (some 18) (v := _) rfl (by rfl) (by kernel_rfl) (by kernel_rfl) (by kernel_rfl) (by kernel_rfl) (fun _ _ _ h => h) (yieldsIf_load_mid (by rfl) _ _ rfl b (i * 27) rfl xs dM (fun _ h => h.2) HU.out HD.out HIN.out) hS3 ?_
  simp only [Act.put, List.setIfInBounds_toArray, List.set_cons_zero, List.set_cons_succ]
  refine wpAnyX_oneX (i := 11) (by kernel_rfl) rfl (by kernel_rfl) (fun K hK => ?_)
  have k3 : Keep (fun _ => False) w (w2.drewN dn) := (((Keep.refl (fun _ => False) w).drew).trans K2.out (fun _ _ f => f)).drewN dn
  have hsend := nsend_calls (H.out.keepF k3) (Rep.msg.keep HXM.out k3 (fun _ _ => id)) (fun q hq => Nat.lt_of_lt_of_le (HLT.out q hq.1) k3.size) HFX.out
  have hsend2 := hsend.mono (R' := fun e w' => ∃ u, e = .returned u ∧ u = .bool (sendB most L x) ∧ NetAt 56 (Grow F (w2.drewN dn) w') w' g most (if sendB most L x then L ++ [x] else L) ∧ Keep F (w2.drewN dn) w') (fun e w' ⟨h1, h2⟩ => ⟨_, h1, rfl, h2⟩)
  have HS2 := hid hsend2; have K3 := hid k3
  clear hsend hsend2 k3
  refine step_call (some 19) (by rfl) (by rfl) rfl ES.out (by rfl) HS2.out ?_
  rintro u w5 ⟨rfl, hn5, k5⟩
  have HN5 := hid hn5; have K5 := hid k5
  clear hn5 k5
  refine hK _ _ ?_
  clear hK K
  try simp only [Act.put, List.setIfInBounds_toArray, List.set_cons_zero, List.set_cons_succ]
  refine wpAnyX_oneX (i := 12) (by kernel_rfl) rfl (by kernel_rfl) (fun K hK => ?_)
  rw [if_pos (by rfl)]
  go_simp
  refine hK _ _ ?_
  clear hK K
  refine wpAnyX_done (by kernel_rfl) ?_ _
  clear hS hS2 hS3
  go_wp2_with fail
  go_ret
  have kk := K3.out
  refine ⟨by rw [HB0.out]; rfl, ?_, (kk.mono (T := F) (fun _ _ f => f.elim)).trans K5.out (fun _ _ e => e)⟩
  rw [HB0.out, HT.out]
  have zk := kk.size
  refine HN5.out.mono (fun q hq => ?_) (fun q hq => ?_)
  · rcases hq with hq | hq
    · exact .inl hq
    · exact .inr ⟨by omega, hq.2⟩
  · rcases hq with hq | hq
    · have := HLT.out q hq; have := K5.out.size; omega
    · exact hq.2
def AllPost (w : World) (L : List Msg) (e : Ending) (w' : World) : Prop := ∃ v, e = .returned v ∧ Sl .msg w' (NewIn w w') v L ∧ Keep (fun _ => False) w w'
set_option maxRecDepth 20000 in
set_option maxHeartbeats 4000000 in
theorem nall_calls (h : NetAt 56 F w g most L) : Calls Try.prog 13 #[.pointer (some ⟨g, 0, none⟩)] w (AllPost w L) := by
  have hle := h.le
  obtain ⟨v, cs, hst⟩ := h
  obtain ⟨A, c, rfl⟩ := hst.shape
  have hobj := cell_at hst.obj 1 (.slice A L.length c) rfl
  have hrow := Row.ofOwn hst.row
  obtain ⟨n, hn⟩ : ∃ n, n = L.length := ⟨_, rfl⟩
  rw [← hn] at hobj hrow hle
  have HN := hid hn; have HS := hid hst; have HR := hid hrow
  have z0 := lt_heap hst.obj
  clear hn hst hrow
  go_enter Try.func13, Try.ntmps13
  go_wp2_with fail
  have HO := hid hobj
  clear hobj
  go_loopw [3, 13] (fun v i wr => ∃ (k : Nat) (ds : List Value), k ≤ n ∧ i = .int .i64 k ∧ GrownP .msg 32 w.heap.size wr v k (L.take k) ds ∧ Keep (fun _ => False) w wr) (fun _ i _ => n - (intOf i).toNat)
  case atStart => exact ⟨0, [], Nat.zero_le _, rfl, GrownP.nil, Keep.refl _ _⟩
  case round =>
    obtain ⟨k, ds, hk, rfl, hg, hkp⟩ := hrel
    obtain ⟨B, cc, rfl⟩ := own_slice hg.1
    have HG := hid hg; have HKP := hid hkp
    have zr := hkp.size
    clear hg hkp
    by_cases hlt : k < n
    · obtain ⟨x, hx⟩ : ∃ x, L[k]? = some x := ⟨L[k]'(by rw [← HN.out]; exact hlt), List.getElem?_eq_getElem _⟩
      have hxm := HS.out.parts k x hx
      have hsz : Rep.msg.size = 27 := rfl
      rw [hsz] at hxm
      obtain ⟨xs, hxs⟩ : ∃ xs, xs = (cs.drop (k * 27)).take 27 := ⟨_, rfl⟩
      rw [← hxs] at hxm
      have HLX := hid (MsgL.of hxm)
      have hst := HS.out
      rcases hst.row.2 with ⟨_, h00⟩ | ⟨b, cap, cur, he, _, hgb, hnc, hcm, hcs, htk⟩
      · have := HN.out; omega
      simp only [Value.slice.injEq, true_and] at he
      obtain ⟨rfl, rfl⟩ := he
      have hcell : ∀ j u, xs[j]? = some u → wr.cell? ⟨b, k * 27 + j, none⟩ = some u := fun j u hu => by
        refine HKP.out.cell ?_ id
        refine (World.ownsRow.cells hst.row (g := b) rfl (k * 27 + j) u ?_ : _).trans rfl |> fun q => by rw [Addr.add_lit, Nat.zero_add] at q; exact q
        rw [hxs, List.getElem?_take] at hu
        split at hu
        · rwa [List.getElem?_drop] at hu
        · cases hu
      have hfx : x.Fits := hst.fits x (List.mem_of_getElem? hx)
      have hi1 : (0 : Int) ≤ (k : Int) := by omega
      have hi2 : (k : Int) < (n : Int) := by omega
      obtain ⟨dM, hu, hd⟩ : ∃ d, Try.prog.underlying 32 = some d ∧ d.isRow = true := ⟨_, Try.underlying32, rfl⟩
      have hinf : (Try.prog.info? 32).map (·.size) = some xs.length := by rw [HLX.out.len]; kernel_rfl
      have HU := hid hu; have HD := hid hd; have HIN := hid hinf; have HCE := hid hcell; have HFX := hid hfx
      have HXM := hid (Rep.msg.keep hxm HKP.out (fun _ _ => id)); have HLT := hid hst.lt
      have HTK := hid (show L.take k ++ [x] = L.take (k + 1) by rw [List.take_add_one, hx]; rfl)
      clear hu hd hinf hcell hfx hxm hst hxs hgb hnc hcm hcs htk hsz hx
      go_wp2_with (first
        | (refine wpList_load_mid rfl _ _ rfl b (k * 27) rfl xs dM HCE.out HU.out HD.out HIN.out ?_)
        | (refine wpl_allocB (z := zM) rfl rfl (by kernel_rfl) ?_; intro g5 w1 hg5 hb5 k1 s1; have HG5 := hid hg5; have K1 := hid k1; clear hg5 k1 s1)
        | (refine wpl_storeB (v := .agg xs.toArray) (b := g5) rfl rfl rfl rfl hb5 HLX.out.info HLX.out.fit HLX.out.oneA ?_; intro w2 hb5' k2 s2; replace hb5' := hb5'.trans (HLX.out.whole rfl); have K2 := hid k2; clear k2 s2)
        | (refine wpl_loadA (ty := 32) (o := 0) (n := 27) rfl rfl rfl hb5' (by kernel_rfl) (by kernel_rfl) xs HLX.out.take HLX.out.len ?_))
      have e5 := HG5.out
      have kr2 : Keep (fun _ => False) wr w2 := K1.out.trans K2.out (fun b hb e => by omega)
      have z2 := kr2.size
      have KR2 := hid kr2
      have hown := own_calls' (Rep.msg.keep HXM.out kr2 (fun _ _ => id)) (fun q hq => by have := HLT.out q hq.1; omega) HFX.out
      clear kr2 hb5 hb5'
      refine hown.mono ?_
      clear hown
      rintro e w3 ⟨vs, rfl, hv3, k3⟩
      have HV3 := hid hv3; have K3 := hid k3; have HLV := hid (MsgL.of hv3)
      clear hv3 k3
      go_wp2_with (first
        | (refine wpl_sliceOne (v := .agg vs.toArray) (z := zM) rfl rfl Try.underlying45 (n := 27) (by kernel_rfl) (by decide) (by decide) rfl (by simp [Value.cells, HLV.out.len]) ?_; intro g7 w4 hg7 hb7 k4 s4; have K4 := hid k4; clear hg7 k4 s4)
        | (at_builtin; refine stopHere ?_))
      have hrow7 : Row (fun q => q = g7) w4 (.slice (some ⟨g7, 0, none⟩) 1 1) 1 27 vs := by have := row_at (w := w4) (d := vs) hb7; rwa [HLV.out.len] at this
      have k34 : Keep (fun _ => False) wr w4 := (KR2.out.trans K3.out (fun _ _ f => f)).trans K4.out (fun _ _ f => f)
      have hown4 := k34.owns HG.out.1 (fun _ _ => id)
      refine goOn (wpl_app (v := .slice B k cc) rfl rfl T_M rfl hown4 rfl hrow7 HLV.out.one (by omega) (by omega) ?_)
      intro A6 c6 w5 ho5 k5 hn5
      have hmore := HG.out.more zr (KR2.out.trans K3.out (fun _ _ f => f)) (Rep.msg.mono HV3.out (fun q hq => ⟨by have := hq.1; omega, hq.2⟩)) K4.out ho5 k5 hn5
      rw [HTK.out] at hmore
      have hownb := HG.out.2.2.2
      have hkf : Keep (fun _ => False) w w5 := HKP.out.trans hmore.2 (fun q hq e => by have := hownb q e.symm; omega)
      have HM := hid hmore.1; have HKF := hid hkf
      clear ho5 k5 hn5 hmore hkf hown4 hrow7 hb7 k34
      go_wp2_with fail
      exact ⟨⟨k + 1, _, by omega, by simp, HM.out, HKF.out⟩, by simp [intOf]; omega⟩
    · obtain rfl : k = n := by omega
      go_wp2_with fail
      go_ret
      have hs := HG.out.sl
      rw [HN.out, List.take_length] at hs
      rw [HN.out]
      exact ⟨_, rfl, hs, HKP.out⟩
end
end Go.Proofs.Ytofljidmdabkcaa
