/- wapentakelaw1.CodecOne. -/
import Derived.Test.YtbfdnhffcdbidaaL1
import Derived.Test.YtbfdnhffcdbidaaOnePure
namespace Go.Proofs.Ytbfdnhffcdbidaa
open Go.RowKit

theorem Row.shape {F : Nat → Prop} {w : World} {v : Value} {n size : Nat} {cs : List Value} (h : Row F w v n size cs) : ∃ A c, v = .slice A n c := by
  obtain ⟨A, c, rfl, _⟩ := h
  exact ⟨A, c, rfl⟩
theorem Row.upto {F : Nat → Prop} {w : World} {A : Option Addr} {c n : Nat} {l : List UInt8} (h : Row F w (.slice A l.length c) l.length 1 (l.map U8)) (hn : n ≤ l.length) : Row F w (.slice A n c) n 1 ((l.take n).map U8) := by
  obtain ⟨A', c', he, hl, hnc, hc, hA⟩ := h
  simp only [Value.slice.injEq, true_and] at he
  obtain ⟨rfl, rfl⟩ := he
  refine ⟨A, c, rfl, by simp; omega, by omega, hc, ?_⟩
  rcases hA with hA | ⟨b, off, hA, hF, hb, hcell⟩
  · exact .inl hA
  · refine .inr ⟨b, off, hA, hF, hb, fun j u hu => hcell j u ?_⟩
    rw [List.map_take, List.getElem?_take] at hu
    split at hu
    · exact hu
    · simp at hu

set_option maxRecDepth 20000 in
set_option maxHeartbeats 800000 in
theorem one_calls {w : World} {v : Value} {l : List UInt8} (hv : Row (fun k => k < w.heap.size) w v l.length 1 (l.map U8)) (hl : l.length ≤ 140737488351232) :
    Calls Try.prog 3 #[v] w fun e w' => e = .returned (.bool true) ∧ Below w.heap.size w w' := by
  obtain ⟨A, c, rfl⟩ := hv.shape
  go_enter Try.func3, Try.ntmps3
  go_wp2_with fail
  refine (awake_calls w).mono ?_
  rintro e w1 ⟨rfl, hk1⟩
  have hv1 := hv.keep hk1 (fun _ _ => id)
  go_wp2_with fail
  refine (newReader_calls hv1 (by omega)).mono ?_
  rintro e w2 ⟨g, rfl, hr2, hk2⟩
  have hv2 := hv1.keep hk2 (fun _ _ => id)
  go_wp2_with fail
  refine (newWriter_calls w2).mono ?_
  rintro e w3 ⟨rfl, rfl⟩
  have hkw : Keep (fun _ => False) w2 (w2.alloc (WrObj (.slice none 0 0) 0)) := (Keep.refl _ w2).alloc _
  have hr3 := hr2.keep hkw (fun _ _ => id)
  have hv3 := hv2.keep hkw (fun _ _ => id)
  have hw3 := WrAt.fresh w2
  have hs1 := hk1.size
  have hs2 := hk2.size
  have hgl := hr2.lt
  have hg1 : w1.heap.size ≤ g := by obtain ⟨_, _, _, q⟩ := hr2; exact q.1
  have hdis : ∀ b, b < w.heap.size → b ≠ g := fun b hb => by omega
  rcases hd : decNum l with er | ⟨n, r⟩
  · have hR : rNum ⟨l, 0⟩ = (0, ⟨[], er⟩) := by simp [rNum, rDo, hd]
    have her : (er != 0) = true := by rcases numFrom_err _ _ _ _ _ hd with rfl | rfl <;> rfl
    clear hd hw3 hv hv1 hv2 hv3 hr2
    go_wp2_with fail
    refine (rnum_calls hr3 (fun k hk => by have := hk.2; simp; omega)).mono ?_
    rintro e w4 ⟨v4, rfl, hv4, hr4, hk4⟩
    rw [hR] at hv4 hr4
    subst hv4
    clear hR
    go_wp2_with fail
    refine (fail_calls hr4).mono ?_
    rintro e w' ⟨rfl, rfl⟩
    go_wp2_with fail
    refine (left_calls hr4).mono ?_
    rintro e w' ⟨rfl, rfl⟩
    go_wp2
    go_ret
    exact ⟨rfl, (((hk1.trans hk2 (fun _ _ => id)).trans hkw (fun _ _ => id)).trans hk4 (fun b hb e => hdis b hb e)).below (Nat.le_refl _) (fun _ _ => id)⟩
  · have hR : rNum ⟨l, 0⟩ = (n, ⟨r, 0⟩) := by simp [rNum, rDo, hd]
    have hn := (numFrom_le _ _ _ _ _ _ hd).1
    have HLE := hid (decNum_enc hd)
    clear hd
    go_wp2_with fail
    refine (rnum_calls hr3 (fun k hk => by have := hk.2; simp; omega)).mono ?_
    rintro e w4 ⟨v4, rfl, hv4, hr4, hk4⟩
    rw [hR] at hv4 hr4
    subst hv4
    have hv5 := hv3.keep hk4 (fun b hb e => hdis b hb e)
    have hw4 := hw3.keep hk4 (fun b hb e => by have e : b = g := e; have := hb.1; omega)
    clear hR hw3 hv hv1 hv2 hv3 hr2 hr3
    go_wp2_with fail
    refine (fail_calls hr4).mono ?_
    rintro e w' ⟨rfl, rfl⟩
    go_wp2_with fail
    refine (num_calls hw4 n (by simp)).mono ?_
    rintro e w5 ⟨rfl, hw5, hk5⟩
    have hv6 := hv5.keep hk5 (fun b hb q => by have := q.1; omega)
    have hr6 := hr4.keep hk5 (fun b hb q => by have := q.1; have := hb.2; omega)
    have hs : wNum ⟨[], 0⟩ n = ⟨encNum n, 0⟩ := by simp [wNum]; omega
    rw [hs] at hw5
    clear hs hw4 hv5 hr4
    go_wp2_with fail
    refine (done_calls hw5 (by have := encNum_small hn; simp only; omega)).mono ?_
    rintro e w6 ⟨v6, rfl, ho6, hn6, hk6⟩
    simp only [if_true] at ho6
    have hv7 := hv6.keep hk6 (fun _ _ => id)
    have hr7 := hr6.keep hk6 (fun _ _ => id)
    have hrow := Row.ofOwn ho6
    have hlen : l.length = (encNum n).length + r.length := by rw [HLE.out]; simp
    obtain ⟨A6, c6, rfl⟩ := own_slice ho6
    have hup := Row.upto hv7 (n := (encNum n).length) (by omega)
    have htk : l.take (encNum n).length = encNum n := by rw [HLE.out]; exact List.take_left
    rw [htk] at hup
    have hlc : l.length ≤ c := by
      obtain ⟨_, _, he, _, h, _⟩ := hv7
      simp only [Value.slice.injEq, true_and] at he
      omega
    have hbig : l.length ≤ 9223372036854775807 := by omega
    obtain ⟨E, hE⟩ : ∃ E, E = (encNum n).length := ⟨_, rfl⟩
    rw [← hE] at hrow hup hlen ⊢
    have HE := hid hE
    have hrl : ∃ R, R = r.length := ⟨_, rfl⟩
    obtain ⟨R, hrl⟩ := hrl
    rw [← hrl] at hlen
    have HRL := hid hrl
    generalize l.length = N at *
    have hb : ((N : Int) - R == E) = true := by simp; omega
    have hRN : R ≤ N := by omega
    have HL := hid hlen
    have hEc : E ≤ c := by omega
    have hEN : E ≤ N := by omega
    clear hlen hrl hE htk hv6 hv7 hr6 hw5 ho6 hn6
    go_wp2_with fail
    refine (left_calls hr7).mono ?_
    rintro e w' ⟨rfl, rfl⟩
    simp only [← HRL.out]
    go_wp2_with fail
    refine (same_calls (a := encNum n) (b := encNum n) (by rw [← HE.out]; exact hrow) (by rw [← HE.out]; exact hup)).mono ?_
    rintro e w7 ⟨rfl, hk7⟩
    simp only [decide_true]
    go_wp2
    go_ret
    refine ⟨rfl, ((((((hk1.trans hk2 (fun _ _ => id)).trans hkw (fun _ _ => id)).trans hk4 (fun b hb e => hdis b hb e)).trans hk5 (fun b hb q => ?_)).trans hk6 (fun _ _ => id)).trans hk7 (fun _ _ => id)).below (Nat.le_refl _) (fun _ _ => id)⟩
    have := q.1
    omega
end Go.Proofs.Ytbfdnhffcdbidaa
