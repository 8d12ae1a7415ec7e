/- Epochs in memory: how a row of them lies; copies of their own. -/
import Derived.Test.YtbkgobdpgokbaaaRowOps
import Derived.Test.YtbkgobdpgokbaaaEpMay
import Derived.Test.YtbkgobdpgokbaaaBlk
import Derived.Laws.OwnMore
namespace Go.Proofs.Ytbkgobdpgokbaaa
open Go.RowKit
abbrev Ep := Int × List Int
/-- The cells of epochs: where each begins, and its members, whose memory is of G. -/
def EpRow (w : World) (G : Nat → Prop) : List Ep → List Value → Prop
  | [], cs => cs = []
  | x :: L, cs => ∃ vm r, cs = .int .i64 x.1 :: vm :: r ∧ Row G w vm x.2.length 1 (x.2.map I64) ∧ okI x.1 ∧ (∀ y ∈ x.2, okI y) ∧ EpRow w G L r
section
variable {F G S : Nat → Prop} {w w' : World} {v : Value} {L L1 L2 : List Ep} {cs c1 c2 : List Value}
theorem EpRow.len : ∀ {L : List Ep} {cs : List Value}, EpRow w G L cs → cs.length = L.length * 2
  | [], _, h => by subst h; rfl
  | _ :: _, _, ⟨vm, r, rfl, _, _, _, h⟩ => by have := EpRow.len h; simp only [List.length_cons]; omega
theorem EpRow.keep : ∀ {L : List Ep} {cs : List Value}, EpRow w G L cs → Keep S w w' → (∀ k, G k → ¬ S k) → EpRow w' G L cs
  | [], _, h, _, _ => h
  | _ :: _, _, ⟨vm, r, h1, h2, h3, h4, h⟩, hk, hd => ⟨vm, r, h1, h2.keep hk hd, h3, h4, EpRow.keep h hk hd⟩
theorem EpRow.mono {G' : Nat → Prop} : ∀ {L : List Ep} {cs : List Value}, EpRow w G L cs → (∀ k, G k → G' k) → EpRow w G' L cs
  | [], _, h, _ => h
  | _ :: _, _, ⟨vm, r, h1, h2, h3, h4, h⟩, hd => ⟨vm, r, h1, h2.mono hd, h3, h4, EpRow.mono h hd⟩
theorem EpRow.app : ∀ {L1 : List Ep} {c1 : List Value}, EpRow w G L1 c1 → EpRow w G L2 c2 → EpRow w G (L1 ++ L2) (c1 ++ c2)
  | [], _, h, k => by subst h; exact k
  | _ :: _, _, ⟨vm, r, h1, h2, h3, h4, h⟩, k => ⟨vm, r ++ c2, by rw [h1]; rfl, h2, h3, h4, EpRow.app h k⟩
theorem EpRow.one {x : Ep} {vm : Value} (h2 : Row G w vm x.2.length 1 (x.2.map I64)) (h3 : okI x.1) (h4 : ∀ y ∈ x.2, okI y) : EpRow w G [x] [.int .i64 x.1, vm] := ⟨vm, [], rfl, h2, h3, h4, rfl⟩
theorem EpRow.get : ∀ {L : List Ep} {cs : List Value}, EpRow w G L cs → ∀ {i : Nat} {x : Ep}, L[i]? = some x → ∃ vm, cs[i * 2]? = some (.int .i64 x.1) ∧ cs[i * 2 + 1]? = some vm ∧ Row G w vm x.2.length 1 (x.2.map I64) ∧ okI x.1 ∧ ∀ y ∈ x.2, okI y
  | [], _, _, i, x, hx => by simp at hx
  | _ :: _, _, ⟨vm, r, h1, h2, h3, h4, h⟩, 0, x, hx => by
    simp at hx
    subst hx
    subst h1
    exact ⟨vm, rfl, rfl, h2, h3, h4⟩
  | _ :: _, _, ⟨vm, r, h1, h2, h3, h4, h⟩, i + 1, x, hx => by
    obtain ⟨vm', q1, q2, q3⟩ := EpRow.get h (i := i) (x := x) (by simpa using hx)
    subst h1
    exact ⟨vm', by rw [show (i + 1) * 2 = i * 2 + 1 + 1 by omega]; simpa using q1, by rw [show (i + 1) * 2 + 1 = i * 2 + 1 + 1 + 1 by omega]; simpa using q2, q3⟩
theorem EpRow.split : ∀ {L1 : List Ep} {cs : List Value}, EpRow w G (L1 ++ L2) cs → ∃ c1 c2, cs = c1 ++ c2 ∧ EpRow w G L1 c1 ∧ EpRow w G L2 c2
  | [], cs, h => ⟨[], cs, rfl, rfl, h⟩
  | x :: L, _, ⟨vm, r, h1, h2, h3, h4, h⟩ => by
    obtain ⟨c1, c2, e, q1, q2⟩ := EpRow.split h
    exact ⟨.int .i64 x.1 :: vm :: c1, c2, by rw [h1, e]; rfl, ⟨vm, c1, rfl, h2, h3, h4, q1⟩, q2⟩
theorem EpRow.one' : ∀ {L : List Ep} {cs : List Value}, EpRow w G L cs → ∀ u ∈ cs, u.oneCell' = true
  | [], _, h, u, hu => by subst h; simp at hu
  | _ :: _, _, ⟨vm, r, h1, h2, h3, h4, h⟩, u, hu => by
    subst h1
    rcases List.mem_cons.1 hu with rfl | hu
    · rfl
    · rcases List.mem_cons.1 hu with rfl | hu
      · obtain ⟨A, c, e⟩ := h2.shape
        rw [e]; rfl
      · exact EpRow.one' h u hu
theorem SLE : SlT Try.prog 33 42 (.agg #[.int .i64 0, .slice none 0 0]) 2 32 := SlT.mk' Try.underlying33 (by kernel_rfl) rfl (by decide)
/-- A slice that reads as epochs. -/
def EpSl (F G : Nat → Prop) (w : World) (v : Value) (L : List Ep) : Prop := ∃ cs, Row F w v L.length 2 cs ∧ EpRow w G L cs
theorem EpSl.keep (h : EpSl F G w v L) (hk : Keep S w w') (hF : ∀ k, F k → ¬ S k) (hG : ∀ k, G k → ¬ S k) : EpSl F G w' v L := by
  obtain ⟨cs, h1, h2⟩ := h; exact ⟨cs, h1.keep hk hF, h2.keep hk hG⟩
theorem EpSl.keepF (h : EpSl F G w v L) (hk : Keep (fun _ => False) w w') : EpSl F G w' v L := h.keep hk (fun _ _ => id) (fun _ _ => id)
theorem EpSl.shape (h : EpSl F G w v L) : ∃ A c, v = .slice A L.length c := by obtain ⟨cs, h1, _⟩ := h; exact h1.shape
/-- An epoch's cells. -/
theorem EpSl.elem {A : Option Addr} {n c : Nat} (h : EpSl F G w (.slice A n c) L) {i : Nat} {x : Ep} (hx : L[i]? = some x) :
    ∃ b off vm, A = some ⟨b, off, none⟩ ∧ F b ∧ w.cell? ⟨b, off + i * 2, none⟩ = some (.int .i64 x.1) ∧ w.cell? ⟨b, off + i * 2 + 1, none⟩ = some vm ∧ Row G w vm x.2.length 1 (x.2.map I64) ∧ okI x.1 ∧ ∀ y ∈ x.2, okI y := by
  obtain ⟨cs, h1, h2⟩ := h
  have hi : i < L.length := (List.getElem?_eq_some_iff.1 hx).1
  obtain ⟨vm, q1, q2, q3⟩ := h2.get hx
  obtain ⟨A', c', he, hl, hnc, hcm, h0 | ⟨b, off, hA, hF, hb, hc⟩⟩ := h1
  · omega
  · simp only [Value.slice.injEq] at he
    obtain ⟨rfl, rfl, rfl⟩ := he
    exact ⟨b, off, vm, hA, hF, hc _ _ q1, by have := hc _ _ q2; rwa [← Nat.add_assoc] at this, q3⟩
set_option maxRecDepth 20000 in
theorem clone_Ep {A : Option Addr} {n c : Nat} {cs : List Value} (hv : Row F w (.slice A n c) n 2 cs) (h1c : ∀ u ∈ cs, u.oneCell' = true) (hl : n ≤ 4294967296) :
    Calls Try.prog 52 #[.slice A n c] w fun e w' => ∃ A' c', e = .returned (.slice A' n c') ∧ w'.ownsRow 0 42 2 (.slice A' n c') n cs ∧ (∀ k, (Value.slice A' n c').ownBlock = some k → w.heap.size ≤ k) ∧ Keep (fun _ => False) w w' := by
  rcases A with _ | ⟨b, off, p⟩
  · have hnil := fun w => Lib.run_eql_slice_nil (P := Try.prog) w 33 42 none n c 0 0 Try.underlying33
    have hl0 : n = 0 := by
      obtain ⟨_, _, he, _, h, _, h0 | ⟨b, off, hA, _⟩⟩ := hv
      · simp only [Value.slice.injEq] at he; omega
      · simp only [Value.slice.injEq] at he; rw [← he.1] at hA; cases hA
    subst hl0
    have hcs : cs = [] := by obtain ⟨_, _, _, h, _⟩ := hv; exact List.eq_nil_of_length_eq_zero (by simpa using h)
    subst hcs
    clear hv h1c
    go_enter Try.func52, Try.ntmps52
    go_wp2_with fail
    refine bodyPost_ret (v := .slice none 0 0) (by simp [results, Try.results52, go_sem]) rfl ?_
    exact ⟨none, 0, rfl, World.ownsRow_nil _ 0 _ _, fun k hk => by simp [Value.ownBlock] at hk, Keep.refl _ _⟩
  · have hnil := fun w => Lib.run_eql_slice_nil (P := Try.prog) w 33 42 (some ⟨b, off, p⟩) n c 0 0 Try.underlying33
    have hown : (w.alloc (.cells #[] 42)).ownsRow 0 42 2 (.slice (some ⟨w.heap.size, 0, none⟩) 0 0) 0 [] := ⟨rfl, .inr ⟨w.heap.size, 0, #[], rfl, Nat.zero_le _, heap_alloc_new w _, Nat.le_refl _, Nat.zero_le _, rfl, rfl⟩⟩
    have hrow' : Row F (w.alloc (.cells #[] 42)) (.slice (some ⟨b, off, p⟩) n c) n 2 cs := hv.keep ((Keep.refl (fun _ => False) w).alloc _) (fun _ _ => id)
    clear hv
    go_enter Try.func52, Try.ntmps52
    go_wp2_with (at_builtin; refine stopHere ?_)
    refine goOn (wpl_app (v := .slice (some ⟨w.heap.size, 0, none⟩) 0 0) rfl rfl SLE rfl hown rfl hrow' h1c (by omega) (by omega) ?_)
    intro A1 c1 w1 ho1 hk1 hn1
    have hk : Keep (fun _ => False) w w1 := ((Keep.refl (fun _ => False) w).alloc _).trans hk1 (fun q hq e => by simp only [Value.ownBlock, Option.some.injEq] at e; omega)
    rw [Nat.zero_add, List.nil_append] at ho1
    rw [Nat.zero_add] at hn1
    go_wp2_with fail
    refine bodyPost_ret (v := .slice A1 n c1) (by simp [results, Try.results52, go_sem]) rfl ?_
    refine ⟨_, _, rfl, ho1, fun k hk => ?_, hk⟩
    rcases hn1 k hk with q | q
    · simp only [Value.ownBlock, Option.some.injEq] at q; omega
    · simp at q; omega
/-- A row of epochs of the call's own, and members of their own. -/
def EpOwn (F G : Nat → Prop) (w : World) (v : Value) (L : List Ep) : Prop := ∃ cs, w.ownsRow 0 42 2 v L.length cs ∧ EpRow w G L cs ∧ (∀ b, v.ownBlock = some b → F b ∧ ¬ G b)
theorem EpOwn.sl (h : EpOwn F G w v L) : EpSl F G w v L := by
  obtain ⟨cs, h1, h2, h3⟩ := h
  exact ⟨cs, (Row.ofOwn h1).mono (fun b hb => (h3 b hb.symm).1), h2⟩
theorem EpOwn.keep (h : EpOwn F G w v L) (hk : Keep S w w') (hF : ∀ k, F k → ¬ S k) (hG : ∀ k, G k → ¬ S k) : EpOwn F G w' v L := by
  obtain ⟨cs, h1, h2, h3⟩ := h
  exact ⟨cs, hk.owns h1 (fun k hk => hF k (h3 k hk).1), h2.keep hk hG, h3⟩
theorem take_succ_get {x : Ep} {k : Nat} (h : L[k]? = some x) : L.take (k + 1) = L.take k ++ [x] := by
  rw [List.take_add_one, h]; rfl
theorem drop_get {x : Ep} {k : Nat} (h : L[k]? = some x) : L.drop k = x :: L.drop (k + 1) := by
  obtain ⟨h1, h2⟩ := List.getElem?_eq_some_iff.1 h
  rw [List.drop_eq_getElem_cons h1, h2]
set_option maxRecDepth 20000 in
set_option maxHeartbeats 1600000 in
/-- Epochs in memory of their own. -/
theorem ownE (h : EpSl F G w v L) (hG : ∀ k, G k → k < w.heap.size) (hm : ∀ x ∈ L, 0 < x.2.length ∧ x.2.length ≤ 1000) (hl : L.length ≤ 1000000) : Calls Try.prog 41 #[v] w fun e w' => ∃ v', e = .returned v' ∧ EpOwn (fun b => w.heap.size ≤ b) (fun b => w.heap.size ≤ b ∧ b < w'.heap.size ∧ some b ≠ v'.ownBlock) w' v' L ∧ Keep (fun _ => False) w w' := by
  obtain ⟨cs, h1, h2⟩ := h
  have H2 := hid h2
  have HG := hid hG
  have HM := hid hm
  obtain ⟨A, c, rfl⟩ := h1.shape
  have hcl := clone_Ep h1 h2.one' (by omega)
  obtain ⟨n, hn⟩ : ∃ n, n = L.length := ⟨_, rfl⟩
  rw [← hn] at hl hcl ⊢
  have HN := hid hn
  clear h1 h2 hG hm hn
  go_enter Try.func41, Try.ntmps41
  go_wp2_with fail
  refine hcl.mono ?_
  rintro e w1 ⟨A', c', rfl, ho, hnb, hk⟩
  have HO := hid ho
  have HNB := hid hnb
  have HK := hid hk
  clear hcl ho hnb hk
  go_wp2_with fail
  go_loopw [9] (fun i wr => ∃ (k : Nat) (d1 d2 : List Value), k ≤ n ∧ i = .int .i64 k ∧ wr.ownsRow 0 42 2 (.slice A' n c') n (d1 ++ d2) ∧ EpRow wr (fun b => w.heap.size ≤ b ∧ b < wr.heap.size ∧ some b ≠ (Value.slice A' n c').ownBlock) (L.take k) d1 ∧ EpRow wr G (L.drop k) d2 ∧ Keep (fun _ => False) w wr) (fun i _ => n - (intOf i).toNat)
  case atStart => exact ⟨0, [], cs, Nat.zero_le _, rfl, HO.out, rfl, H2.out.keep HK.out (fun _ _ => id), HK.out⟩
  case round =>
    obtain ⟨k, d1, d2, hk, rfl, ho, hr1, hr2, hkp⟩ := hrel
    by_cases hlt : k < n
    · obtain ⟨x, hx⟩ : ∃ x, L[k]? = some x := ⟨L[k]'(by rw [← HN.out]; exact hlt), by simp [show k < L.length by rw [← HN.out]; exact hlt]⟩
      have hd1 := hr1.len
      rw [drop_get hx] at hr2
      obtain ⟨vm, r, rfl, q1, q2, q3, q4⟩ := hr2
      have hx0 := HM.out x (List.mem_of_getElem? hx)
      obtain ⟨g, cap, he⟩ : ∃ g cap, Value.slice A' n c' = .slice (some ⟨g, 0, none⟩) n cap := by
        obtain ⟨_, ⟨h2, h3⟩ | ⟨g, c, cur, he, _⟩⟩ := ho
        · omega
        · exact ⟨g, c, he⟩
      simp only [Value.slice.injEq, true_and] at he
      obtain ⟨rfl, rfl⟩ := he
      have hlk : (L.take k).length = k := by rw [List.length_take, ← HN.out]; omega
      rw [hlk] at hd1
      have hcat : (d1 ++ .int .i64 x.1 :: vm :: r)[k * 2 + 1]? = some vm := by
        rw [List.getElem?_append_right (by omega), show k * 2 + 1 - d1.length = 1 by omega]; rfl
      have hc1 := ho.cellAt (k * 2 + 1) (by omega)
      rw [hcat] at hc1
      have hcl2 := cloneI q1 hx0.1 (by omega)
      have HX := hid hx
      have HD1 := hid hd1
      have HO2 := hid ho; have HR1 := hid hr1; have HQ2 := hid q2; have HQ3 := hid q3; have HQ4 := hid q4; have HKP := hid hkp
      obtain ⟨Am, cm, hvm⟩ := q1.shape
      subst hvm
      clear hcat hx hd1 ho hr1 q1 q2 q3 q4 hkp hlk
      go_wp2_with fail
      refine hcl2.mono ?_
      rintro e w3 ⟨g3, c3, rfl, ho3, hg3, hk3⟩
      have ho4 := hk3.owns HO2.out (fun _ _ => id)
      have hst := (ho4.stored (k * 2 + 1) (.slice (some ⟨g3, 0, none⟩) x.2.length c3)).1
      have hfz := ho4.frozenAt (k * 2 + 1)
      have hgl := own_lt' HO2.out g rfl
      have hgw := HNB.out g rfl
      have hs3 := hk3.size
      have hg3l := own_lt' ho3 g3 rfl
      have HO3 := hid ho3; have HST := hid hst; have HK3 := hid hk3
      have hc2 := ho4.cellAt (k * 2 + 1) (by omega)
      rw [List.getElem?_append_right (by have := HD1.out; omega), show k * 2 + 1 - d1.length = 1 by have := HD1.out; omega] at hc2
      simp only [List.getElem?_cons_succ, List.getElem?_cons_zero] at hc2
      clear hst ho3 hk3 ho4 hcl2 hc1
      go_wp2_with fail
      have hkset : Keep (fun q => q = g) wr (w3.setCell ⟨g, k * 2 + 1, none⟩ (.slice (some ⟨g3, 0, none⟩) x.2.length c3)) := (HK3.out.mono (fun _ _ h => h.elim)).setCell _ _ (fun _ => rfl)
      refine ⟨⟨k + 1, d1 ++ [.int .i64 x.1, .slice (some ⟨g3, 0, none⟩) x.2.length c3], r, by omega, by simp, ?_, ?_, ?_, ?_⟩, by simp [intOf]; omega⟩
      · have := HST.out
        rw [List.set_append_right _ _ (by have := HD1.out; omega), show k * 2 + 1 - d1.length = 1 by have := HD1.out; omega] at this
        simpa using this
      · rw [take_succ_get HX.out]
        refine EpRow.app ((HR1.out.keep hkset (fun q hq e => hq.2.2 (by rw [e]; rfl))).mono (fun q hq => ⟨hq.1, by simp; omega, hq.2.2⟩)) (EpRow.one (((Row.ofOwn HO3.out).keep ((Keep.refl (fun q => q = g) w3).setCell _ _ (fun _ => rfl)) (fun q hq e => by simp only [Value.ownBlock, Option.some.injEq] at hq; omega)).mono (fun q hq => ?_)) HQ2.out HQ3.out)
        simp only [Value.ownBlock, Option.some.injEq] at hq
        subst hq
        exact ⟨by have := HKP.out.size; omega, by simpa using hg3l, fun e => by simp only [Value.ownBlock, Option.some.injEq] at e; omega⟩
      · exact HQ4.out.keep hkset (fun q hq e => by have := HG.out q hq; omega)
      · exact (HKP.out.trans HK3.out (fun _ _ h => h)).setCell _ _ (fun h => by simp at h; omega)
    · obtain rfl : k = n := by omega
      have HO2 := hid ho; have HR1 := hid hr1; have HKP := hid hkp; have HR2 := hid hr2
      clear ho hr1 hkp hr2
      go_wp2_with fail
      refine bodyPost_ret (v := .slice A' k c') (by simp [results, Try.results41, go_sem]) rfl ?_
      have e2 : d2 = [] := by
        have := HR2.out
        rw [List.drop_of_length_le (by rw [← HN.out]; exact Nat.le_refl _)] at this
        exact this
      have e1 : L.take k = L := List.take_of_length_le (by rw [← HN.out]; exact Nat.le_refl _)
      have ho := HO2.out
      have hr := HR1.out
      rw [e2, List.append_nil] at ho
      rw [e1] at hr
      refine ⟨_, rfl, ⟨d1, ?_, hr, fun b hb => ⟨HNB.out b hb, fun q => q.2.2 hb.symm⟩⟩, HKP.out⟩
      rw [← HN.out]; exact ho
end
end Go.Proofs.Ytbkgobdpgokbaaa
