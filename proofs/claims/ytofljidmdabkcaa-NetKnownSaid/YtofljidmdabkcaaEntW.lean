/- entry's writer of requests: word, list, the parts. -/
import Derived.Test.YtofljidmdabkcaaEntPure
import Derived.Test.YtofljidmdabkcaaWr
import Derived.Test.YtofljidmdabkcaaBlk
import Derived.Test.YtofljidmdabkcaaSlc
import Derived.Deep.RegionHeld3
namespace Go.Proofs.Ytofljidmdabkcaa
open Go.RowKit
section
variable {F : Nat → Prop} {w : World} {g : Nat} {s : WS}
theorem word'_calls (h : WrAt F w g s) (t : ByteArray) (hl : s.b.length ≤ 35184372088832) :
    Calls Try.prog 95 #[.pointer (some ⟨g, 0, none⟩), .string t] w (WrPost F w g (eWord s t)) := by
  by_cases hbig : 255 < t.size
  · have e := hid (show eWord s t = wRefuse s from if_pos hbig)
    go_enter Try.func95, Try.ntmps95
    go_wp2_with fail
    refine (refuse_calls h).mono ?_
    rintro en w1 ⟨rfl, h1, h2⟩
    go_wp2_with fail
    go_end0
    rw [e.out]
    exact ⟨rfl, h1, h2⟩
  · have e := hid (show eWord s t = wText s t.data.toList from if_neg hbig)
    have htc := text_calls h t (by omega) hl
    go_enter Try.func95, Try.ntmps95
    go_wp2_with fail
    refine htc.mono ?_
    rintro en w1 ⟨rfl, h1, h2⟩
    go_wp2_with fail
    go_end0
    rw [e.out]
    exact ⟨rfl, h1, h2⟩
theorem WrPost.step {w1 w2 : World} {s1 s2 : WS} {e : Ending} (_h1 : WrAt (Grow F w w1) w1 g s1) (k1 : Keep F w w1) {w1' : World} (ka : Keep (fun _ => False) w1 w1') (h2 : WrPost (Grow F w w1) w1' g s2 e w2) : WrPost F w g s2 e w2 := by
  obtain ⟨a, b, c⟩ := h2
  have z1 := k1.size
  have z2 := ka.size
  have z3 := c.size
  refine ⟨a, b.mono (fun q hq => ?_), k1.trans ((ka.mono (T := Grow F w w1) (fun _ _ h => h.elim)).trans c (fun _ _ q => q)) (fun q hq e => e.elim id (fun ⟨e1, _⟩ => by omega))⟩
  rcases hq with hq | ⟨q1, q2⟩
  · rcases hq with hq | ⟨q1, q2⟩
    · exact .inl hq
    · exact .inr ⟨q1, by omega⟩
  · exact .inr ⟨by omega, q2⟩
abbrev chCs (c : Change) : List Value := [.string c.path, .bool c.gone, .int .u64 c.digest]
theorem eWord_len {s : WS} {t : ByteArray} : (eWord s t).b.length ≤ s.b.length + 261 := by
  by_cases hf : s.f = 0
  · obtain ⟨l, f⟩ := s
    obtain rfl : f = 0 := hf
    by_cases ht : t.size ≤ 255
    · rw [eWord_good l ht]; have := encText_len ht; simp; omega
    · rw [eWord_bad l ht]; simp
  · rw [eWord_f _ hf]; omega
theorem wFlag_len {s : WS} {b : Bool} : (wFlag s b).b.length ≤ s.b.length + 1 := by unfold wFlag; split <;> simp
theorem wWord_len {s : WS} {x : Nat} : (wWord s x).b.length ≤ s.b.length + 8 := by unfold wWord; split <;> simp [layBytes_len]
theorem wRefuse_len {s : WS} : (wRefuse s).b.length = s.b.length := by unfold wRefuse; split <;> simp
theorem wNum_len {s : WS} {n : Int} : (wNum s n).b.length ≤ s.b.length + 6 := by
  unfold wNum
  split
  · omega
  split
  · rename_i hq
    have := encNum_small (n := n.toNat) (by omega)
    simp; omega
  · simp
theorem eChange_len {s : WS} {c : Change} : (eChange s c).b.length ≤ s.b.length + 270 := by
  have h1 := eWord_len (s := s) (t := c.path)
  unfold eChange
  have h2 := wFlag_len (s := eWord s c.path) (b := true)
  have h3 := wFlag_len (s := eWord s c.path) (b := false)
  have h4 := wWord_len (s := wFlag (eWord s c.path) false) (x := c.digest)
  split
  · split
    · rw [wRefuse_len]; omega
    · omega
  · omega
theorem fold_len (l : List Change) (s : WS) : (l.foldl eChange s).b.length ≤ s.b.length + l.length * 270 := by
  induction l generalizing s with
  | nil => simp
  | cons c l ih =>
    rw [List.foldl_cons, List.length_cons, Nat.succ_mul]
    have := ih (eChange s c)
    have := eChange_len (s := s) (c := c)
    omega
theorem eList_len {s : WS} {l : List Change} : (eList s l).b.length ≤ s.b.length + 17286 := by
  unfold eList
  split
  · rw [wRefuse_len]; omega
  · have := fold_len l (wNum s l.length)
    have := wNum_len (s := s) (n := l.length)
    omega
theorem ePart_len {r : Req} {p : EPart} {s : WS} : (ePart r p s).b.length ≤ s.b.length + 17286 := by
  cases p
  all_goals first | exact Nat.le_trans eWord_len (by omega) | exact Nat.le_trans wNum_len (by omega) | exact eList_len
set_option maxRecDepth 20000 in
set_option maxHeartbeats 4000000 in
theorem list_calls {G : Nat → Prop} (h : WrAt F w g s) (hF : ∀ k, F k → k < w.heap.size) {v : Value} {l : List Change} (hv : Sl .change w G v l) (hG : ∀ k, G k → ¬ F k ∧ k < w.heap.size) (hl : s.b.length ≤ 30000000000000) :
    Calls Try.prog 96 #[.pointer (some ⟨g, 0, none⟩), v] w (WrPost F w g (eList s l)) := by
  obtain ⟨A, c, rfl⟩ := hv.shape
  have hmax : l.length ≤ 9223372036854775807 := by obtain ⟨_, _, _, q1, q2, _⟩ := hv; unfold maxLen at q2; omega
  obtain ⟨n, hn⟩ : ∃ n, n = l.length := ⟨_, rfl⟩
  rw [← hn] at hv hmax ⊢
  have HN := hid hn; have HV := hid hv; have HG := hid hG; have HF := hid hF
  clear hv hn hG hF
  by_cases h64 : 64 < n
  · have e := hid (show eList s l = wRefuse s from if_pos (by rw [← HN.out]; exact h64))
    go_enter Try.func96, Try.ntmps96
    go_wp2_with fail
    refine (refuse_calls h).mono ?_
    rintro en w1 ⟨rfl, h1, h2⟩
    go_wp2_with fail
    go_end0
    rw [e.out]
    exact ⟨rfl, h1, h2⟩
  · have e := hid (show eList s l = l.foldl eChange (wNum s n) by rw [eList, if_neg (by rw [← HN.out]; exact h64), HN.out])
    have hnc := num_calls h n (by omega)
    have hnl := wNum_len (s := s) (n := n)
    go_enter Try.func96, Try.ntmps96
    go_wp2_with fail
    refine hnc.mono ?_
    rintro en w1 ⟨rfl, h1, k1⟩
    generalize wNum s n = s1 at *
    have H1 := hid h1; have K1 := hid k1
    clear hnc h1 k1
    go_wp2_with fail
    go_loopw [17] (fun i wr => ∃ k : Nat, k ≤ n ∧ i = .int .i64 k ∧ WrAt (Grow F w wr) wr g ((l.take k).foldl eChange s1) ∧ Keep F w wr) (fun i _ => n - (intOf i).toNat)
    case atStart => exact ⟨0, Nat.zero_le _, rfl, H1.out, K1.out⟩
    case round =>
      obtain ⟨k, hk, rfl, hW, hkp⟩ := hrel
      by_cases hlt : k < n
      · obtain ⟨x, hx⟩ : ∃ x, l[k]? = some x := ⟨l[k]'(by rw [← HN.out]; exact hlt), by simp [show k < l.length by rw [← HN.out]; exact hlt]⟩
        have hvk := HV.out.keep hkp (fun q hq => (HG.out q hq).1)
        obtain ⟨b, off, rfl, hGb, d0, d1, d2⟩ := change_at hvk hx
        have htk : (l.take (k + 1)).foldl eChange s1 = eChange ((l.take k).foldl eChange s1) x := by rw [List.take_add_one, hx, List.foldl_append]; rfl
        have hln := fold_len (l.take k) s1
        have hlk : (l.take k).length ≤ 64 := by rw [List.length_take]; omega
        have hln2 : ((l.take k).foldl eChange s1).b.length ≤ 30000000020000 := by omega
        generalize (l.take k).foldl eChange s1 = sk at *
        have hec : eChange sk x = if x.gone = true then (if x.digest ≠ 0 then wRefuse (wFlag (eWord sk x.path) x.gone) else wFlag (eWord sk x.path) x.gone) else wWord (wFlag (eWord sk x.path) x.gone) x.digest := by unfold eChange; cases x.gone <;> rfl
        have HEC := hid hec
        clear hec
        have hlw := eWord_len (s := sk) (t := x.path)
        have hlf := fun b => wFlag_len (s := eWord sk x.path) (b := b)
        have HTK := hid htk; have HW := hid hW; have HKP := hid hkp
        have hrk := hkp.size
        clear hvk hx htk hW hkp hln hlk
        go_wp2_with (first
          | (refine wpl_allocB (z := .agg (chCs ⟨ByteArray.empty, false, 0⟩).toArray) rfl rfl (by kernel_rfl) ?_; intro g5 w5 hg5 hb5 k5 s5; have HG5 := hid hg5; have K5 := hid k5; have z5 : w5.heap.size = g5 + 1 := s5; have Z5 := hid z5; have e0 := k5.cell d0 id; have e1 := k5.cell d1 id; have e2 := k5.cell d2 id; clear hg5 k5 s5 z5)
          | (refine wpl_storeB (v := .agg (chCs x).toArray) rfl rfl rfl rfl hb5 (by kernel_rfl) (Nat.le_refl 3) (by simp [Value.oneCell', Value.cells]) ?_; intro w6 hb6 k6 s6; rw [show spl (Value.agg (chCs ⟨ByteArray.empty, false, 0⟩).toArray).cells 0 (Value.agg (chCs x).toArray).cells.toList = (chCs x).toArray from spl_whole _ _ (Nat.le_refl 3)] at hb6; have K6 := hid k6; have HB6 := hid hb6; have f0 := cell_at hb6 0 (.string x.path) rfl; clear k6 s6))
        have k06 : Keep (fun _ => False) wr w6 := K5.out.trans K6.out (fun b hb e => by have := HG5.out; omega)
        have hW6 := HW.out.keep k06 (fun _ _ => id)
        have hg5F : ¬ Grow F w wr g5 := fun e => by
          have := HG5.out
          rcases e with e | ⟨_, e⟩
          · have := HF.out _ e; omega
          · omega
        have K06 := hid k06; have HGF := hid hg5F
        clear hb5 k06 d0 d1 d2 e0 e1 e2 hg5F
        refine (word'_calls hW6 x.path (by omega)).mono ?_
        rintro en w7 ⟨rfl, h7, k7⟩
        have hb7 := k7.heap HB6.out HGF.out
        have f1 := cell_at hb7 1 (.bool x.gone) rfl
        have HB7 := hid hb7
        have hg7F : ¬ Grow (Grow F w wr) w6 w7 g5 := fun e => by
          rcases e with e | ⟨e, _⟩
          · exact HGF.out e
          · have := lt_heap HB6.out; omega
        have H7 := hid h7; have K7 := hid k7; have HG7 := hid hg7F
        clear hW6 hb7 h7 k7 f0 hg7F
        generalize eWord sk x.path = s7 at *
        go_wp2_with fail
        refine (flag_calls H7.out x.gone (by omega)).mono ?_
        rintro en w8 ⟨rfl, h8, k8⟩
        have hb8 := k8.heap HB7.out HG7.out
        have f1 := cell_at hb8 1 (.bool x.gone) rfl
        have f2 := cell_at hb8 2 (.int .u64 x.digest) rfl
        have h68 := WrPost.after K7.out ⟨rfl, h8, k8⟩
        have H8 := hid h68.2.1; have K8 := hid h68.2.2
        clear h8 k8 h68 hb8
        have hl8 := wFlag_len (s := s7) (b := x.gone)
        obtain ⟨gn, hgn⟩ : ∃ gn, gn = x.gone := ⟨_, rfl⟩
        rw [← hgn] at f1 H8 hl8 HEC
        have hend : ∀ s9 w9 e9, eChange sk x = s9 → WrPost (Grow F w wr) w6 g s9 e9 w9 → WrAt (Grow F w w9) w9 g ((l.take (k + 1)).foldl eChange s1) ∧ Keep F w w9 := fun s9 w9 e9 he hp => by
          rw [HTK.out, he]
          exact (WrPost.step HW.out HKP.out K06.out hp).2
        have HEND := hid hend
        clear hend hgn
        cases gn
        · have hec := HEC.out
          rw [if_neg (by decide)] at hec
          have HEC := hid hec
          clear hec
          have hwc := word_calls H8.out x.digest (by omega)
          generalize wFlag s7 false = s8 at *
          go_wp2_with fail
          refine hwc.mono ?_
          rintro en w9 ⟨rfl, h9, k9⟩
          have HF9 := hid (HEND.out _ _ _ HEC.out (WrPost.after K8.out ⟨rfl, h9, k9⟩))
          clear hwc h9 k9
          go_wp2_with fail
          exact ⟨⟨k + 1, by omega, by simp, HF9.out.1, HF9.out.2⟩, by simp [intOf]; omega⟩
        · have hec := HEC.out
          rw [if_pos rfl] at hec
          generalize wFlag s7 true = s8 at *
          by_cases hd : x.digest = 0
          · rw [if_neg (by simp [hd])] at hec
            have hb0 : ((x.digest : Int) != 0) = false := by simp [hd]
            have HF9 := hid (HEND.out _ _ _ hec ⟨rfl, H8.out, K8.out⟩)
            clear hd hec
            go_wp2_with fail
            exact ⟨⟨k + 1, by omega, by simp, HF9.out.1, HF9.out.2⟩, by simp [intOf]; omega⟩
          · rw [if_pos hd] at hec
            have hb0 : ((x.digest : Int) != 0) = true := by simp [hd]
            have HEC2 := hid hec
            have hwc := refuse_calls H8.out
            clear hd hec
            go_wp2_with fail
            refine hwc.mono ?_
            rintro en w9 ⟨rfl, h9, k9⟩
            have HF9 := hid (HEND.out _ _ _ HEC2.out (WrPost.after K8.out ⟨rfl, h9, k9⟩))
            clear hwc h9 k9
            go_wp2_with fail
            exact ⟨⟨k + 1, by omega, by simp, HF9.out.1, HF9.out.2⟩, by simp [intOf]; omega⟩
      · obtain rfl : k = n := by omega
        have HW := hid hW; have HKP := hid hkp
        clear hW hkp
        go_wp2_with fail
        go_end0
        rw [e.out]
        have := HW.out
        rw [List.take_of_length_le (by rw [← HN.out]; exact Nat.le_refl _)] at this
        exact ⟨rfl, this, HKP.out⟩
end
end Go.Proofs.Ytofljidmdabkcaa
