/- wapentakelaw1.CodecReads: the walk. -/
import Derived.Test.YtbfdnhffcdbidaaAlike
import Derived.Test.YtbfdnhffcdbidaaL1
import Derived.Test.YtbfdnhffcdbidaaThingO
namespace Go.Proofs.Ytbfdnhffcdbidaa
open Go.RowKit

def rOps (b : List UInt8) (l : List Thing) : RS := l.foldl rOp ⟨b, 0⟩
theorem rOps_snoc (b : List UInt8) (l : List Thing) (t : Thing) : rOps b (l ++ [t]) = rOp (rOps b l) t := by simp [rOps]
theorem rDo_len {α : Type} {s : RS} {z : α} {r : Int ⊕ (α × List UInt8)} (h : ∀ x l, r = .inr (x, l) → l.length ≤ s.b.length) : (rDo s z r).2.b.length ≤ s.b.length := by
  unfold rDo
  split
  · exact Nat.le_refl _
  · split
    · simp
    · exact h _ _ rfl
theorem decNum_len {l r : List UInt8} {n : Nat} (h : decNum l = .inr (n, r)) : r.length ≤ l.length := (numFrom_le _ _ _ _ _ _ h).2
theorem rOp_len (s : RS) (t : Thing) : (rOp s t).b.length ≤ s.b.length := by
  have hb : ∀ m : Int, (rBytes s m).2.b.length ≤ s.b.length := fun m => rDo_len (fun x l h => by
    unfold decBytes at h
    split at h
    · simp at h
    · rename_i n r hd
      have := decNum_len hd
      unfold takeN at h
      split at h
      · split at h
        · simp only [Sum.inr.injEq, Prod.mk.injEq] at h; rw [← h.2, List.length_drop]; omega
        · simp at h
      · simp at h)
  unfold rOp
  split
  · exact rDo_len (fun x l h => decNum_len h)
  split
  · exact hb _
  split
  · exact hb _
  split
  · refine rDo_len (fun x l h => ?_)
    unfold decFlag at h
    split at h
    · simp at h
    · rename_i c r e
      split at h
      · simp only [Sum.inr.injEq, Prod.mk.injEq] at h; rw [← h.2, e]; simp
      · simp at h
  split
  · refine rDo_len (fun x l h => ?_)
    unfold decWord at h
    split at h
    · simp only [Sum.inr.injEq, Prod.mk.injEq] at h; rw [← h.2, List.length_drop]; omega
    · simp at h
  · unfold rStop
    split
    · exact Nat.le_refl _
    · simp
theorem rOps_len (b : List UInt8) (l : List Thing) : (rOps b l).b.length ≤ b.length := by
  have key : ∀ (l : List Thing) (s : RS), (l.foldl rOp s).b.length ≤ s.b.length := by
    intro l
    induction l with
    | nil => intro s; exact Nat.le_refl _
    | cons t l ih => intro s; exact Nat.le_trans (ih _) (rOp_len s t)
  exact key l ⟨b, 0⟩

/-- A reader and the reference's reader, side by side. -/
def RLoop (F1 F2 : Nat → Prop) (w wr : World) (g m : Nat) (s : RS) : Prop :=
  RdAt F1 wr g s ∧ MrAt F2 wr m s ∧ Keep (fun _ => False) w wr

theorem MrAt.fresh {w : World} {A : Option Addr} {c : Nat} {l : List UInt8} (hv : Row (fun k => k < w.heap.size) w (.slice A l.length c) l.length 1 (l.map U8)) :
    MrAt (fun k => k ≤ w.heap.size) (w.alloc (MrObj (.slice A l.length c) 0)) w.heap.size ⟨l, 0⟩ :=
  ⟨_, heap_alloc_new w _, (hv.keep ((Keep.refl (fun _ => False) w).alloc _) (fun _ _ => id)).mono (fun k hk => ⟨by omega, by omega⟩), Nat.le_refl _⟩

set_option maxRecDepth 20000 in
set_option maxHeartbeats 1000000 in
theorem codecReads_calls {w : World} {vb v : Value} {b : List UInt8} {l : List Thing} (hb : Row (fun k => k < w.heap.size) w vb b.length 1 (b.map U8)) (hbl : b.length ≤ 140737488351232) (hv : Sl .thing w (fun b => b < w.heap.size) v l) :
    Calls Try.prog 5 #[vb, v] w fun e w' => e = .returned (.bool true) ∧ Below w.heap.size w w' := by
  obtain ⟨A, c, rfl⟩ := hv.shape
  obtain ⟨Ab, cb, rfl⟩ := hb.shape
  have HV := hid hv
  have HB := hid hb
  obtain ⟨n, hn⟩ : ∃ n, n = l.length := ⟨_, rfl⟩
  have hmax : n ≤ 9223372036854775807 := by obtain ⟨_, _, _, h1, h2, _⟩ := hv; unfold maxLen at h2; omega
  obtain ⟨nb, hnb⟩ : ∃ nb, nb = b.length := ⟨_, rfl⟩
  rw [← hn, ← hnb]
  rw [← hnb] at hbl
  have HN := hid hn
  have HNB := hid hnb
  clear hv hn hb hnb
  go_enter Try.func5, Try.ntmps5
  go_wp2_with fail
  refine (awake_calls w).mono ?_
  rintro e w1 ⟨rfl, hk1⟩
  have HV1 := hid (HV.out.keep hk1 (fun _ _ => id))
  have HB1 := hid (HB.out.keep hk1 (fun _ _ => id))
  have hs1 := hk1.size
  by_cases h2 : 20000 < nb
  · go_wp2
    go_ret
    exact ⟨rfl, hk1.below (Nat.le_refl _) (fun _ _ => id)⟩
  go_wp2_with fail
  rw [HN.out]
  refine (room_calls HV1.out).mono ?_
  rintro e w' ⟨rfl, rfl⟩
  rw [← HN.out]
  by_cases hr : roomP l
  · simp only [hr, decide_true]
    have HR := hid hr
    clear hr
    go_wp2_with fail
    rw [HNB.out]
    refine (newReader_calls HB1.out (by rw [← HNB.out]; omega)).mono ?_
    rw [← HNB.out]
    rintro e w2 ⟨g, rfl, hr2, hk2⟩
    have hs2 := hk2.size
    have hgl := hr2.lt
    have hg1 : w1.heap.size ≤ g := by obtain ⟨_, _, _, q⟩ := hr2; exact q.1
    have hm2 := MrAt.fresh ((HB1.out.keep hk2 (fun _ _ => id)).mono (fun k hk => by omega))
    rw [← HNB.out] at hm2
    have H0 : RLoop (NewIn w1 w2) (fun k => k < w.heap.size ∨ k = w2.heap.size) w (w2.alloc (MrObj (.slice Ab nb cb) 0)) g w2.heap.size (rOps b (l.take 0)) := by
      refine ⟨hr2.keep ((Keep.refl (fun _ => False) _).alloc _) (fun _ _ => id), ?_, (hk1.trans hk2 (fun _ _ => id)).alloc _⟩
      have h1 := (HB1.out.keep hk2 (fun _ _ => id)).keep ((Keep.refl (fun _ => False) w2).alloc (MrObj (.slice Ab nb cb) 0)) (fun _ _ => id)
      rw [← HNB.out] at h1
      refine ⟨_, heap_alloc_new w2 _, ?_, .inr rfl⟩
      simp only [rOps, List.take_zero, List.foldl_nil]
      rw [← HNB.out]
      exact h1.mono (fun k hk => ⟨.inl hk, by omega⟩)
    clear hm2
    go_wp2_with fail
    go_loopw [7] (fun i wr => ∃ k : Nat, k ≤ n ∧ i = .int .i64 k ∧ RLoop (NewIn w1 w2) (fun k => k < w.heap.size ∨ k = w2.heap.size) w wr g w2.heap.size (rOps b (l.take k))) (fun i _ => n - (intOf i).toNat)
    case atStart => exact ⟨0, Nat.zero_le _, rfl, H0⟩
    case round =>
      obtain ⟨k, hk, rfl, hw, hm, hkp⟩ := hrel
      by_cases hlt : k < n
      · have htl : k < l.length := by rw [← HN.out]; exact hlt
        obtain ⟨t, ht⟩ : ∃ t, l[k]? = some t := ⟨l[k]'htl, by simp [htl]⟩
        have hn3 : n ≤ 300 := by rw [HN.out]; exact HR.out.1
        have hnext : rOps b (l.take (k + 1)) = rOp (rOps b (l.take k)) t := by rw [List.take_add_one, ht]; exact rOps_snoc _ _ _
        have hlen := rOps_len b (l.take k)
        rw [← HNB.out] at hlen
        have HNX := hid hnext
        have HVr := hid (HV.out.keep hkp (fun _ _ => id))
        obtain ⟨bb, off, tv, rfl, hFb, htv, c0, c1, c2, c3, c4, c5⟩ := thing_at (HN.out ▸ HVr.out) ht
        generalize rOps b (l.take k) = s at *
        clear hnext ht H0 htl
        have hks := hkp.size
        have hw2lt : w2.heap.size < wr.heap.size := by obtain ⟨_, q, _⟩ := hm; exact lt_heap q
        clear HV HV1 HVr
        go_wp2_with fail
        refine (alike_calls hw hm (fun q hq => by have := hq.2; omega) (fun q hq e => by have := hq.2; omega) (fun q hq e => by rcases hq with hq | hq <;> omega) htv (by omega)).mono ?_
        rintro e w3 ⟨rfl, hr3, hm3, hk3⟩
        go_wp2
        refine ⟨⟨k + 1, by omega, by simp, by rw [HNX.out]; exact hr3, by rw [HNX.out]; exact hm3, hkp.trans hk3 (fun q hq e => by rcases e with e | e <;> omega)⟩, by simp [intOf]; omega⟩
      · go_wp2_with fail
        go_ret
        exact ⟨rfl, hkp.below (Nat.le_refl _) (fun _ _ => id)⟩
  · simp only [hr, decide_false]
    clear hr
    go_wp2
    go_ret
    exact ⟨rfl, hk1.below (Nat.le_refl _) (fun _ _ => id)⟩
end Go.Proofs.Ytbfdnhffcdbidaa
