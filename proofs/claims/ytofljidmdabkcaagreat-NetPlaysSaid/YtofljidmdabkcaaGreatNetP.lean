/- wapentakelaw24: Deed, room; two nets side by side, the program's and the document's. -/
import Derived.Test.YtofljidmdabkcaaGreatRNet3
import Derived.Test.YtofljidmdabkcaaGreatNb
import Derived.Test.YtofljidmdabkcaaGreatMsgSmall
import Derived.Test.YtofljidmdabkcaaGreatLoop
import Derived.Test.YtofljidmdabkcaaGreatMsgO
namespace Go.Proofs.YtofljidmdabkcaaGreat
open Go.RowKit Go.ChangeShapes Go.WideShapes Go.ChangeAt
structure NDeed where
  do_ : Int
  n : Int
  m : Msg
def Rep.ndeed : Rep NDeed := (Rep.pair .int (.pair .int .msg)).as fun d => (d.do_, d.n, d.m)
theorem opens_ndeed : Opens Tryz.prog Rep.ndeed 44 :=
  Opens.as (Opens.struct Tryz.underlying44 (by kernel_rfl) (.cons rfl opens_int (.cons rfl opens_int (.one rfl opens_msg)))) _ (fun p => ⟨p.1, p.2.1, p.2.2⟩) (fun _ => rfl)
theorem opens_ndeeds : Opens Tryz.prog Rep.ndeed.slice 22 := Opens.slice Tryz.underlying22 (by kernel_rfl) opens_ndeed (by decide)
theorem ndeed_cells {w : World} {F : Nat → Prop} {d : NDeed} {cs : List Value} (h : Rep.ndeed.cells w F d cs) : ∃ ms, cs = .int .i64 d.do_ :: .int .i64 d.n :: ms ∧ okI d.do_ ∧ okI d.n ∧ Rep.msg.cells w F d.m ms := by
  obtain ⟨a, b, rfl, ⟨h1, h2⟩, c, e, rfl, ⟨h3, h4⟩, h5⟩ := h
  have h1 : a = [.int .i64 d.do_] := h1
  have h3 : c = [.int .i64 d.n] := h3
  subst h1 h3
  exact ⟨e, rfl, h2, h4, h5⟩
def roomN (l : List NDeed) : Bool := decide (l.length ≤ 200) && l.all (fun d => smallM d.m)
section
variable {F : Nat → Prop} {w : World} {l : List NDeed}
set_option maxRecDepth 20000 in
set_option maxHeartbeats 4000000 in
theorem room24_calls {v : Value} (hv : Sl .ndeed w F v l) : Calls Tryz.prog 5 #[v] w fun e w' => e = .returned (.bool (roomN l)) ∧ Keep (fun _ => False) w w' := by
  have hmax : l.length ≤ 9223372036854775807 := by obtain ⟨_, _, _, q1, q2, _⟩ := hv; unfold maxLen at q2; omega
  obtain ⟨A, c, rfl⟩ := hv.shape
  have HV := hid hv
  obtain ⟨n, hn⟩ : ∃ n, n = l.length := ⟨_, rfl⟩
  rw [← hn] at HV hmax ⊢
  have HN := hid hn
  obtain ⟨sb, hsb⟩ : ∃ sb, sb = roomN l := ⟨_, rfl⟩
  rw [← hsb]
  have HSB := hid hsb
  clear hv hn hsb
  by_cases b0 : 200 < n
  · have hb : sb = false := by
      rw [HSB.out]
      simp only [roomN, Bool.and_eq_false_iff, decide_eq_false_iff_not]
      rw [← HN.out]; omega
    subst hb
    go_enter Tryz.func5, Tryz.ntmps5
    go_wp2_with fail
    go_ret
    exact ⟨rfl, Keep.refl _ _⟩
  go_enter Tryz.func5, Tryz.ntmps5
  go_wp2_with fail
  go_loopw [3] (fun i wr => ∃ k : Nat, k ≤ n ∧ i = .int .i64 k ∧ (l.take k).all (fun d => smallM d.m) = true ∧ Keep (fun _ => False) w wr) (fun i _ => n - (intOf i).toNat)
  case atStart => exact ⟨0, Nat.zero_le _, rfl, rfl, Keep.refl _ _⟩
  case round =>
    obtain ⟨k, hk, rfl, hall, hkp⟩ := hrel
    have HALL := hid hall
    have HKP := hid hkp
    clear hall
    by_cases hlt : k < n
    · obtain ⟨x, hx⟩ : ∃ x, l[k]? = some x := ⟨l[k]'(by rw [← HN.out]; exact hlt), by simp [show k < l.length by rw [← HN.out]; exact hlt]⟩
      have hvk := HV.out.keep hkp (fun _ _ => id)
      obtain ⟨A', c', b, off, cs, he, rfl, hcs, hcell⟩ := elem_cells7 hvk HN.out hx
      simp only [Value.slice.injEq, true_and] at he
      obtain ⟨rfl, rfl⟩ := he
      obtain ⟨ms, rfl, _, _, hms⟩ := ndeed_cells hcs
      obtain ⟨vc, vv, vi, vk, rfl, e1, e2, e3, e4, _⟩ := msg_cells hms
      have hsm := smallM_calls e1 e2 e3 e4
      have hsz : Rep.ndeed.size = 29 := rfl
      rw [hsz] at hcell
      have hr : wr.rangeAt b (off + k * 29 + 2) (msgCs x.m vc vv vi vk) := fun j u hu => by
        have := hcell (j + 2) u (by simpa using hu)
        rw [show off + k * 29 + 2 + j = off + k * 29 + (j + 2) by omega]
        exact this
      obtain ⟨dM, hu, hd⟩ : ∃ d, Tryz.prog.underlying 42 = some d ∧ d.isRow = true := ⟨_, Tryz.underlying42, rfl⟩
      have hi : (Tryz.prog.info? 42).map (·.size) = some (msgCs x.m vc vv vi vk).length := by kernel_rfl
      have HX := hid hx; have HR := hid hr; have HU := hid hu; have HD := hid hd; have HI := hid hi
      obtain ⟨s, hs⟩ : ∃ s, s = smallM x.m := ⟨_, rfl⟩
      rw [← hs] at hsm
      have HS := hid hs
      clear hcell hcs hx hsz hvk hms e1 e2 e3 e4 hs hr hu hd hi hkp
      go_wp2_with (refine wpList_load_mid rfl _ _ rfl b (off + k * 29 + 2) rfl (msgCs x.m vc vv vi vk) dM HR.out HU.out HD.out HI.out ?_)
      refine hsm.mono ?_
      rintro e w6 ⟨rfl, hk6⟩
      clear hsm
      cases s with
      | false =>
        have hb : sb = false := by
          rw [HSB.out]
          simp only [roomN, all_false (p := fun d : NDeed => smallM d.m) HX.out HS.out.symm, Bool.and_false]
        subst hb
        go_wp2_with fail
        go_ret
        exact ⟨rfl, HKP.out.trans hk6 (fun _ _ h => h)⟩
      | true =>
        have HT := hid (take_all (p := fun d : NDeed => smallM d.m) HX.out HALL.out HS.out.symm)
        go_wp2_with fail
        exact ⟨⟨k + 1, by omega, by simp, HT.out, HKP.out.trans hk6 (fun _ _ h => h)⟩, by simp [intOf]; omega⟩
    · have hb : sb = true := by
        rw [HSB.out]
        simp only [roomN, all_true (l := l) (k := k) (by rw [← HN.out]; omega) HALL.out, Bool.and_true, decide_eq_true_iff]
        rw [← HN.out]; omega
      subst hb
      go_wp2_with fail
      go_ret
      exact ⟨rfl, HKP.out⟩
end
/-- The program's net in F, the document's in G: both lie at B or behind, apart from each other and from E. -/
structure PQ (B : Nat) (E F G : Nat → Prop) (w : World) (g r : Nat) (most : Int) (L M : List Msg) : Prop where
  n : NetAt 58 F w g most L
  d : NetAt 54 G w r most M
  apart : ∀ k, F k → ¬ G k
  f : ∀ k, F k → B ≤ k ∧ ¬ E k
  g' : ∀ k, G k → B ≤ k ∧ ¬ E k
  e : ∀ k, E k → B ≤ k ∧ k < w.heap.size
section
variable {B : Nat} {E E' F G S : Nat → Prop} {w w' : World} {g r : Nat} {most : Int} {L L' M M' : List Msg}
theorem PQ.step1 (h : PQ B E F G w g r most L M) (hB : B ≤ w.heap.size) (hn : NetAt 58 (Grow F w w') w' g most L') (hk : Keep F w w') : PQ B E (Grow F w w') G w' g r most L' M :=
  ⟨hn, h.d.keep hk (fun k a b => h.apart k b a), fun k a b => by
    rcases a with a | a
    · exact h.apart k a b
    · have := h.d.lt k b; omega, fun k a => by
    rcases a with a | a
    · exact h.f k a
    · exact ⟨by omega, fun e => by have := (h.e k e).2; omega⟩, h.g', fun k a => ⟨(h.e k a).1, Nat.lt_of_lt_of_le (h.e k a).2 hk.size⟩⟩
theorem PQ.step0 (h : PQ B E F G w g r most L M) (hn : NetAt 58 F w' g most L') (hk : Keep F w w') : PQ B E F G w' g r most L' M :=
  ⟨hn, h.d.keep hk (fun k a b => h.apart k b a), h.apart, h.f, h.g', fun k a => ⟨(h.e k a).1, Nat.lt_of_lt_of_le (h.e k a).2 hk.size⟩⟩
theorem PQ.step2 (h : PQ B E F G w g r most L M) (hB : B ≤ w.heap.size) (hn : NetAt 54 (Grow G w w') w' r most M') (hk : Keep G w w') : PQ B E F (Grow G w w') w' g r most L M' :=
  ⟨h.n.keep hk (fun k a b => h.apart k a b), hn, fun k b a => by
    rcases a with a | a
    · exact h.apart k b a
    · have := h.n.lt k b; omega, h.f, fun k a => by
    rcases a with a | a
    · exact h.g' k a
    · exact ⟨by omega, fun e => by have := (h.e k e).2; omega⟩, fun k a => ⟨(h.e k a).1, Nat.lt_of_lt_of_le (h.e k a).2 hk.size⟩⟩
theorem PQ.keepE (h : PQ B E F G w g r most L M) (hk : Keep S w w') (hS : ∀ k, S k → E k) : PQ B E F G w' g r most L M :=
  ⟨h.n.keep hk (fun k a b => (h.f k a).2 (hS k b)), h.d.keep hk (fun k a b => (h.g' k a).2 (hS k b)), h.apart, h.f, h.g', fun k a => ⟨(h.e k a).1, Nat.lt_of_lt_of_le (h.e k a).2 hk.size⟩⟩
theorem PQ.keepF (h : PQ B E F G w g r most L M) (hk : Keep (fun _ => False) w w') : PQ B E F G w' g r most L M := h.keepE hk (fun _ f => f.elim)
theorem PQ.withE (h : PQ B (fun _ => False) F G w g r most L M) (hB : B ≤ w.heap.size) (hk : Keep (fun _ => False) w w') (hE : ∀ k, E k → w.heap.size ≤ k ∧ k < w'.heap.size) : PQ B E F G w' g r most L M :=
  ⟨h.n.keepF hk, h.d.keepF hk, h.apart, fun k a => ⟨(h.f k a).1, fun e => by have := h.n.lt k a; have := (hE k e).1; omega⟩, fun k a => ⟨(h.g' k a).1, fun e => by have := h.d.lt k a; have := (hE k e).1; omega⟩, fun k a => ⟨by have := (hE k a).1; omega, (hE k a).2⟩⟩
theorem PQ.noE (h : PQ B E F G w g r most L M) : PQ B (fun _ => False) F G w g r most L M :=
  ⟨h.n, h.d, h.apart, fun k a => ⟨(h.f k a).1, id⟩, fun k a => ⟨(h.g' k a).1, id⟩, fun _ f => f.elim⟩
end
/-- What is on its way may be sent, and is small. -/
def InvN (L : List Msg) : Prop := ∀ m ∈ L, mchkB m = true ∧ Few m
theorem InvN.nil : InvN [] := fun m h => by simp at h
theorem InvN.add {L : List Msg} {m : Msg} (h : InvN L) (hm : mchkB m = true) (hf : Few m) : InvN (L ++ [m]) := fun x hx => by
  rcases List.mem_append.1 hx with hx | hx
  · exact h x hx
  · rw [List.mem_singleton] at hx; subst hx; exact ⟨hm, hf⟩
theorem InvN.send {L : List Msg} {m : Msg} {most : Int} (h : InvN L) (hf : Few m) : InvN (if sendB most L m then L ++ [m] else L) := by
  by_cases hb : sendB most L m = true
  · rw [if_pos hb]
    simp only [sendB, Bool.and_eq_true] at hb
    exact h.add hb.2 hf
  · rw [if_neg hb]; exact h
theorem InvN.cut {L : List Msg} {i : Nat} (h : InvN L) : InvN (L.eraseIdx i) := fun x hx => h x (List.mem_of_mem_eraseIdx hx)
theorem InvN.at {L : List Msg} {k : Int} (h : InvN L) (hl : 0 < L.length) : mchkB (takeM L k) = true ∧ Few (takeM L k) := by
  have hi := placeN_lt k hl
  have hx : L[placeN k L.length]? = some (L[placeN k L.length]'hi) := List.getElem?_eq_getElem hi
  rw [takeM, hx]
  exact h _ (List.getElem_mem _)
theorem InvN.tw {L : List Msg} {k most : Int} (h : InvN L) : twB most L k = rtwB most L := by
  by_cases hl : 0 < L.length
  · rw [twB, rtwB, sendB, (h.at hl).1, Bool.and_true]
  · rw [twB, rtwB, decide_eq_false hl, Bool.false_and, Bool.false_and]
theorem InvN.twice {L : List Msg} {k most : Int} (h : InvN L) : InvN (if rtwB most L then L ++ [takeM L k] else L) := by
  by_cases hb : rtwB most L = true
  · rw [if_pos hb]
    simp only [rtwB, Bool.and_eq_true, decide_eq_true_iff] at hb
    exact h.add (h.at hb.1).1 (h.at hb.1).2
  · rw [if_neg hb]; exact h
theorem smallM_few {m : Msg} (h : smallM m = true) : Few m := by
  simp only [smallM, smallV, smallB, Bool.and_eq_true, decide_eq_true_iff, List.all_eq_true, comReq] at h
  obtain ⟨h1, h2, h3, ⟨h4, h5, h6⟩, h7⟩ := h
  exact ⟨by omega, by omega⟩
end Go.Proofs.YtofljidmdabkcaaGreat
