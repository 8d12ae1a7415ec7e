/- nack; Drain; wapentakelaw20.awake. -/
import Derived.Test.YtiomeoihekifeaaBox2
namespace Go.Proofs.Ytiomeoihekifeaa
open Go.RowKit Go.Conc
def nackM (n : Int) : Msg := ⟨5, 1, 2, n, 0, 0, reqZ', [], [], 0, verdictZ⟩
abbrev nackC (n : Int) : List Value := msgCs (nackM n) nilV nilV nilV nilV
section
variable {F S G : Nat → Prop} {w w' : World} {p : Option Nat} {c cap : Nat} {l : List Msg}
theorem nack_ok (n : Int) (hn : okI n) : (nackM n).Ok := by
  have h : okI 0 := ⟨by decide, by decide⟩
  have h5 : okI 5 := ⟨by decide, by decide⟩
  have h1 : okI 1 := ⟨by decide, by decide⟩
  have h2 : okI 2 := ⟨by decide, by decide⟩
  exact ⟨h5, h1, h2, hn, h, h, ⟨h, h, h, h, h, h, h⟩, h, ⟨h, h, h, Nat.zero_le _, h⟩⟩
theorem nack_cells (w : World) (F : Nat → Prop) (n : Int) (hn : okI n) : Rep.msg.cells w F (nackM n) (nackC n) := msg_mk (nilSl _ _ _) (nilSl _ _ _) (nilSl _ _ _) (nilSl _ _ _) (nack_ok n hn)
theorem nack_fits (n : Int) : (nackM n).Fits := ⟨Nat.zero_le _, Nat.zero_le _, Nat.zero_le _, Nat.zero_le _, fun x hx => by simp [nackM] at hx, fun x hx => by simp [nackM, verdictZ] at hx⟩
theorem nackL (n : Int) : MsgL (nackC n) := ⟨rfl, by simp [nackC, msgCs, reqCs, verdictCs, nilV, Value.oneCell']⟩
set_option maxRecDepth 20000 in
theorem nack_calls (n : Int) : Calls Try.prog 41 #[.int .i64 n] w fun e w' => e = .returned (.agg (nackC n).toArray) ∧ Keep (fun _ => False) w w' := by
  go_enter Try.func41, Try.ntmps41
  go_wp2_with (first
    | (refine wpl_allocB (z := zM) rfl rfl (by kernel_rfl) ?_; intro g1 w1 hg1 hb1 k1 s1; have HG1 := hid hg1; clear hg1)
    | (refine wpl_storeB (v := .agg (nackC n).toArray) rfl rfl rfl rfl hb1 (nackL n).info (nackL n).fit (nackL n).oneA ?_; intro w2 hb2 k2 s2))
  refine bodyPost_ret (res_cell (g := g1) (cs := (nackC n).toArray) Try.results41 _ rfl (hb2.trans ((nackL n).whole rfl)) (by kernel_rfl) (by kernel_rfl)) rfl ?_
  have e1 := HG1.out
  exact ⟨rfl, (k1.trans (k2.mono (T := fun k => k = g1) (fun _ _ e => e)) (fun b hb e => by omega))⟩
theorem T_M : SlT Try.prog 76 60 zM 27 312 := SlT.mk' Try.underlying76 (by kernel_rfl) rfl (by decide)
/-- A message's cells in a new block, as the row of one element that an append takes. -/
theorem Row.oneM {w : World} {cs : List Value} (h : MsgL cs) (e : TypeId) : Row (fun k => k = w.heap.size) (w.alloc (.cells cs.toArray e)) (.slice (some ⟨w.heap.size, 0, none⟩) 1 1) 1 27 cs :=
  ⟨_, _, rfl, by rw [h.len], Nat.le_refl _, by decide, .inr ⟨w.heap.size, 0, rfl, rfl, by simp, fun j u hu => by
    rw [Nat.zero_add, cell_of_row _ _ j cs.toArray e (0, 0) (heap_alloc_new w _)]
    simpa using hu⟩⟩
def slLen : Value → Nat
  | .slice _ n _ => n
  | _ => 0
/-- The first k messages, out of a row of cells. -/
def DrP (F : Nat → Prop) (w : World) (cs : List Value) (l : List Msg) (k : Nat) : Prop := ∀ (i : Nat) (m : Msg), i < k → l[i]? = some m → Rep.msg.cells w F m ((cs.drop (i * 27)).take 27)
set_option maxRecDepth 20000 in
set_option maxHeartbeats 800000 in
theorem drain_calls (h : BoxO F w p c cap l) (hF : ∀ q, F q → q < w.heap.size) (hc : p ≠ none → F c) (hcap : cap ≤ 4096) (hle : l.length ≤ cap) (n : Int) :
    Calls Try.prog 43 #[ptr p, .int .i64 n] w fun e w' => ∃ v, e = .returned v ∧ Sl .msg w' (fun q => FreeOf F p c q ∨ NewIn w w' q) v (l.take n.toNat) ∧ BoxO F w' p c cap (l.drop n.toNat) ∧ Keep (fun q => p ≠ none ∧ q = c) w w' := by
  have H := hid h
  have HF := hid hF
  have HC := hid hc
  obtain ⟨vp, hvp⟩ : ∃ v, ptr p = v := ⟨_, rfl⟩
  have HVP := hid hvp
  rw [hvp]
  clear hvp h hF hc
  go_enter Try.func43, Try.ntmps43
  go_wp2_with fail
  go_loopw [5] (fun v wr => ∃ (k : Nat) (cs : List Value), k ≤ l.length ∧ (k : Int) ≤ max n 0 ∧ wr.ownsRow 0 60 27 v k cs ∧ (∀ q, v.ownBlock = some q → w.heap.size ≤ q) ∧ DrP (FreeOf F p c) wr cs l k ∧ BoxO F wr p c cap (l.drop k) ∧ Keep (fun q => p ≠ none ∧ q = c) w wr) (fun v _ => 5000 - slLen v)
  case atStart => exact ⟨0, [], Nat.zero_le _, by omega, World.ownsRow_nil _ 0 _ _, fun q hq => by simp [Value.ownBlock] at hq, fun i m hi => by omega, by simpa using H.out, Keep.refl _ _⟩
  case round =>
    obtain ⟨k, cs, hk, hkn, hown, hnew, hdp, hbo, hkp⟩ := hrel
    obtain ⟨A, cc, rfl⟩ := own_slice hown
    have HO := hid hown
    have HN := hid hnew
    have HDP := hid hdp
    have HBO := hid hbo
    have HKP := hid hkp
    have zr := hkp.size
    clear hown hnew hdp hbo hkp
    by_cases hlt : (k : Int) < n
    · have h1 := takeO_calls HBO.out (fun q hq => by have := HF.out q hq; omega)
      rw [HVP.out] at h1
      go_wp2_with fail
      refine h1.mono ?_
      clear h1
      rintro e w2 ⟨cm, rfl, hm2, hb2, k2⟩
      have HL := hid (MsgL.of hm2)
      have HM2 := hid hm2
      have HB2 := hid hb2
      have z2 := k2.size
      have HDP2 := hid (fun (i : Nat) (m : Msg) (hi : i < k) (hm : l[i]? = some m) => Rep.msg.keep (HDP.out i m hi hm) k2 (fun q hq e => hq.2.2 e.2))
      have HO2 := hid (k2.owns HO.out (fun q hq e => by have := HN.out q hq; have := HF.out c (HC.out e.1); omega))
      have HK2 := hid (HKP.out.trans k2 (fun _ _ e => e))
      clear hm2 hb2 HBO HKP HDP
      by_cases hd : k < l.length
      · have hdd : decide (0 < (l.drop k).length) = true := decide_eq_true (by rw [List.length_drop]; omega)
        rw [hdd]
        clear hdd
        have HHD := hid (show (l.drop k).headD msgZ = l[k] by rw [List.drop_eq_getElem_cons hd]; rfl)
        go_wp2_with (first
          | (refine wpl_allocB (z := zM) rfl rfl (by kernel_rfl) ?_; intro g6 w3 hg6 hb6 k3 s3; have HG6 := hid hg6; clear hg6)
          | (refine wpl_storeB (v := .agg cm.toArray) rfl rfl rfl rfl hb6 HL.out.info HL.out.fit HL.out.oneA ?_; intro w4 hb6' k4 s4; have hb7 := hb6'.trans (HL.out.whole rfl))
          | (refine wpl_loadA rfl rfl rfl hb7 (by kernel_rfl) (by kernel_rfl) cm HL.out.take HL.out.len ?_)
          | (refine wpl_sliceOne (v := .agg cm.toArray) (z := zM) rfl rfl Try.underlying76 (n := 27) (by kernel_rfl) (by decide) (by decide) rfl (by simp [Value.cells, HL.out.len]) ?_; intro g7 w5 hg7 hb8 k5 s5; have HG7 := hid hg7; clear hg7)
          | (at_builtin; refine stopHere ?_))
        have e6 : w2.heap.size ≤ g6 := Nat.le_of_eq HG6.out.symm
        have e7 : w4.heap.size ≤ g7 := Nat.le_of_eq HG7.out.symm
        have kk : Keep (fun q => q = g6) w2 w5 := ((k3.mono (fun _ _ q => q.elim)).trans k4 (fun _ _ e => e)).trans k5 (fun _ _ q => q.elim)
        have hFg : ∀ q, F q → q ≠ g6 := fun q hq e => by have := HF.out q hq; omega
        have hown5 := kk.owns HO2.out (fun q hq e => by have := own_lt' HO2.out q hq; omega)
        have hrow7 : Row (fun q => q = g7) w5 (.slice (some ⟨g7, 0, none⟩) 1 1) 1 27 cm := ⟨_, _, rfl, by rw [HL.out.len], Nat.le_refl _, by decide, .inr ⟨g7, 0, rfl, rfl, lt_heap hb8, fun j u hu => by
          rw [Nat.zero_add, cell_of_row _ _ j _ _ (0, 0) hb8]
          simpa [Value.cells] using hu⟩⟩
        have HKK := hid kk
        have HHF := hid hFg
        clear kk hFg k3 k4 k5 hb6 hb6' hb7 hb8 k2
        refine goOn (wpl_app (v := .slice A k cc) rfl rfl T_M rfl hown5 rfl hrow7 HL.out.one (by omega) (by omega) ?_)
        intro A6 c6 w6 ho6 k6 hn6
        have hlc : cs.length = k * 27 := HO.out.1
        have hrel : ∃ (k' : Nat) (cs' : List Value), k' ≤ l.length ∧ (k' : Int) ≤ max n 0 ∧ w6.ownsRow 0 60 27 (.slice A6 (k + 1) c6) k' cs' ∧ (∀ q, (Value.slice A6 (k + 1) c6).ownBlock = some q → w.heap.size ≤ q) ∧ DrP (FreeOf F p c) w6 cs' l k' ∧ BoxO F w6 p c cap (l.drop k') ∧ Keep (fun q => p ≠ none ∧ q = c) w w6 := by
          have hown6 : ∀ q, (Value.slice A k cc).ownBlock = some q → w.heap.size ≤ q := HN.out
          have hF6 : ∀ q, F q → ¬ (some q = (Value.slice A k cc).ownBlock) := fun q hq e => by have := hown6 q e.symm; have := HF.out q hq; omega
          refine ⟨k + 1, cs ++ cm, by omega, by omega, ho6, fun q hq => ?_, fun i m hi hm => ?_, ?_, (HK2.out.trans HKK.out (fun b hb e => by omega)).trans k6 (fun b hb e => by have := hown6 b e.symm; omega)⟩
          · rcases hn6 q hq with e | e
            · exact hown6 q e
            · have := HKK.out.size; omega
          · by_cases hik : i < k
            · have : (i + 1) * 27 ≤ k * 27 := Nat.mul_le_mul_right _ hik
              rw [List.drop_append_of_le_length (by omega), List.take_append_of_le_length (by rw [List.length_drop]; omega)]
              exact Rep.msg.keep (Rep.msg.keep (HDP2.out i m hik hm) HKK.out (fun q hq => HHF.out q hq.1)) k6 (fun q hq => hF6 q hq.1)
            · obtain rfl : i = k := by omega
              rw [List.drop_left' hlc, HL.out.take]
              rw [List.getElem?_eq_getElem hd, Option.some.injEq] at hm
              have hm2 := HM2.out
              rw [HHD.out, hm] at hm2
              exact Rep.msg.keep (Rep.msg.keep hm2 HKK.out (fun q hq => HHF.out q hq.1)) k6 (fun q hq => hF6 q hq.1)
          · have hb := (HB2.out.keep HKK.out (fun q hq => HHF.out q hq)).keep k6 hF6
            rw [List.tail_drop] at hb
            exact hb
        have HREL := hid hrel
        clear hrel ho6 k6 hn6 hown5 hrow7
        go_wp2_with fail
        exact ⟨HREL.out, by simp [slLen]; omega⟩
      · have hdd : decide (0 < (l.drop k).length) = false := decide_eq_false (by rw [List.length_drop]; omega)
        rw [hdd]
        clear hdd
        have hkl : k = l.length := by omega
        have HKL := hid hkl
        have HNN := hid hlt
        clear hkl hd
        go_wp2_with (first
          | (refine wpl_allocB (z := zM) rfl rfl (by kernel_rfl) ?_; intro g6 w3 hg6 hb6 k3 s3; have HG6 := hid hg6; clear hg6)
          | (refine wpl_storeB (v := .agg cm.toArray) rfl rfl rfl rfl hb6 HL.out.info HL.out.fit HL.out.oneA ?_; intro w4 hb6' k4 s4))
        go_ret
        have e6 : w2.heap.size ≤ g6 := Nat.le_of_eq HG6.out.symm
        have kk : Keep (fun q => q = g6) w2 w4 := (k3.mono (fun _ _ q => q.elim)).trans k4 (fun _ _ e => e)
        have hFg : ∀ q, F q → q ≠ g6 := fun q hq e => by have := HF.out q hq; omega
        have hown5 := kk.owns HO2.out (fun q hq e => by have := own_lt' HO2.out q hq; omega)
        have e1 : l.take n.toNat = l := List.take_of_length_le (by have := HNN.out; have := HKL.out; omega)
        have e2 : l.drop n.toNat = [] := List.drop_of_length_le (by have := HNN.out; have := HKL.out; omega)
        have e3 : (l.drop k).tail = [] := by rw [HKL.out, List.drop_length]; rfl
        have hbx := HB2.out.keep kk (fun q hq => hFg q hq)
        rw [e3] at hbx
        rw [e1, e2]
        refine ⟨_, rfl, Sl.ofRow (cs := cs) (r := .msg) ?_ (fun i m hm => ?_), hbx, HK2.out.trans kk (fun b hb e => by omega)⟩
        · rw [← HKL.out]
          exact (Row.ofOwn hown5).mono (fun q hq => .inr ⟨HN.out q hq.symm, own_lt' hown5 q hq.symm⟩)
        · have hi := (List.getElem?_eq_some_iff.1 hm).1
          exact Rep.msg.mono (Rep.msg.keep (HDP2.out i m (by have := HKL.out; omega) hm) kk (fun q hq => hFg q hq.1)) (fun q hq => .inl hq)
    · go_wp2_with fail
      go_ret
      have hkn' : n.toNat = k := by omega
      rw [hkn']
      refine ⟨_, rfl, Sl.ofRow (cs := cs) (r := .msg) ?_ (fun i m hm => ?_), HBO.out, HKP.out⟩
      · rw [List.length_take, Nat.min_eq_left hk]
        exact (Row.ofOwn HO.out).mono (fun q hq => .inr ⟨HN.out q hq.symm, own_lt' HO.out q hq.symm⟩)
      · rw [List.getElem?_take] at hm
        split at hm
        · rename_i hi
          exact Rep.msg.mono (HDP.out i m hi hm) (fun q hq => .inl hq)
        · cases hm
end
end Go.Proofs.Ytiomeoihekifeaa
