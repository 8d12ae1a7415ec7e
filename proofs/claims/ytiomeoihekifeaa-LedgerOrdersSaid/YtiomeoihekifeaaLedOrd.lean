/- wapentakelaw17.LedgerOrders: the walk. -/
import Derived.Test.YtiomeoihekifeaaLedN
import Derived.Test.YtiomeoihekifeaaHas
namespace Go.Proofs.Ytiomeoihekifeaa
open Go.RowKit

theorem and15 (x : Int) : ∃ k : Nat, k ≤ 15 ∧ bits .and .i64 x 15 = (k : Int) := by
  have h : (BitVec.ofInt 64 x &&& 15#64).toNat ≤ 15 := by rw [BitVec.toNat_and]; exact Nat.and_le_right
  have e : bits .and .i64 x 15 = IntKind.i64.wrap ((BitVec.ofInt 64 x &&& 15#64).toNat : Int) := rfl
  refine ⟨_, h, ?_⟩
  rw [e]
  generalize (BitVec.ofInt 64 x &&& 15#64).toNat = q at *
  simp [IntKind.wrap, IntKind.bits, IntKind.signed]
  omega
theorem wf_small (n : Nat) (h : n ≤ 1000) : (Lit.int .i64 (n : Int)).wf = true := by
  simp [Lit.wf, IntKind.min, IntKind.max, IntKind.signed, IntKind.bits]; omega
/-- What has been learned: the slots of sn, each with its own request; below n all. -/
structure OrdInv (sn : List Int) (n : Nat) (s : LS) : Prop where
  base : s.base = 0
  next : s.next = n
  small : ∀ q ∈ sn, 0 ≤ q ∧ q ≤ 15
  all : ∀ m : Nat, m < n → (m : Int) ∈ sn
  holds : ∀ k, look s.l k = if k ∈ sn then some (reqX k) else none
theorem OrdInv.le {sn : List Int} {n : Nat} {s : LS} (h : OrdInv sn n s) : n ≤ 16 := by
  rcases Nat.lt_or_ge 16 n with h1 | h1
  · have := (h.small _ (h.all 16 h1)).2; omega
  · exact h1
theorem OrdInv.learn {sn : List Int} {n : Nat} {s : LS} (h : OrdInv sn n s) (k : Nat) (hk : k ≤ 15) :
    (learnS s k (reqX k)).1 = (if (k : Int) ∈ sn then 9 else 0) ∧ OrdInv (sn ++ [(k : Int)]) n (learnS s k (reqX k)).2 := by
  have hh := h.holds k
  have hb : ¬ (k : Int) < s.base := by rw [h.base]; omega
  by_cases hm : (k : Int) ∈ sn
  · rw [if_pos hm] at hh
    have e : learnS s k (reqX k) = (9, s) := by rw [learnS, if_neg (by omega), if_neg hb, hh]; simp
    rw [e, if_pos hm]
    refine ⟨rfl, h.base, h.next, fun q hq => ?_, fun m hm' => List.mem_append_left _ (h.all m hm'), fun q => ?_⟩
    · rcases List.mem_append.1 hq with hq | hq
      · exact h.small q hq
      · simp only [List.mem_singleton] at hq; omega
    · rw [h.holds q]
      by_cases hq : q ∈ sn
      · simp [hq]
      · have : ¬ q = k := fun e => hq (e ▸ hm)
        simp [hq, this]
  · rw [if_neg hm] at hh
    have hn : ¬ (k : Int) < s.next := by
      rw [h.next]
      intro hlt
      exact hm (h.all k (by omega))
    have e : learnS s k (reqX k) = (0, ⟨s.base, s.next, putE s.l k (reqX k)⟩) := by rw [learnS, if_neg (by omega), if_neg hb, hh]; simp only; rw [if_neg hn]
    rw [e, if_neg hm]
    refine ⟨rfl, h.base, h.next, fun q hq => ?_, fun m hm' => List.mem_append_left _ (h.all m hm'), fun q => ?_⟩
    · rcases List.mem_append.1 hq with hq | hq
      · exact h.small q hq
      · simp only [List.mem_singleton] at hq; omega
    · simp only [look_put, h.holds q]
      by_cases hq : (k : Int) = q
      · subst hq; simp
      · have : ¬ q = k := fun e => hq e.symm
        simp [hq, this]
theorem OrdInv.step {sn : List Int} {n : Nat} {s : LS} (h : OrdInv sn n s) (hn : (n : Int) ∈ sn) : OrdInv sn (n + 1) (stepS s) := by
  have hh := h.holds n
  rw [if_pos hn] at hh
  rw [stepS, h.next, hh]
  refine ⟨h.base, by simp, h.small, fun m hm => ?_, h.holds⟩
  rcases Nat.lt_or_ge m n with h1 | h1
  · exact h.all m h1
  · obtain rfl : m = n := by omega
    exact hn

/-- The ledger and what has been seen, side by side. -/
def OrdAt (B : Nat) (w : World) (g : Nat) (v : Value) (sn : List Int) (s : LS) : Prop :=
  ∃ F, LedAt F w g s ∧ (∀ k, F k → B ≤ k ∧ k < w.heap.size) ∧ w.ownsRow 0 3 1 v sn.length (sn.map I64) ∧ ∀ k, v.ownBlock = some k → B ≤ k ∧ ¬ F k
section
variable {B : Nat} {w w' : World} {g : Nat} {v : Value} {sn : List Int} {s : LS}
theorem OrdAt.keep (h : OrdAt B w g v sn s) (hk : Keep (fun _ => False) w w') : OrdAt B w' g v sn s := by
  obtain ⟨F, h1, h2, h3, h4⟩ := h
  have := hk.size
  exact ⟨F, h1.keep hk (fun _ _ => id), fun k q => ⟨(h2 k q).1, by have := (h2 k q).2; omega⟩, hk.owns h3 (fun _ _ => id), h4⟩
theorem OrdAt.row (h : OrdAt B w g v sn s) : Row (fun k => some k = v.ownBlock) w v sn.length 1 (sn.map I64) := by
  obtain ⟨F, _, _, h3, _⟩ := h; exact Row.ofOwn h3
theorem OrdAt.learn (h : OrdAt B w g v sn s) (k : Int) (hk : (Lit.int .i64 k).wf = true) (n : Int) :
    Calls Try.prog 13 #[.pointer (some ⟨g, 0, none⟩), .int .i64 k, reqV (reqX n) (.slice none 0 0)] w fun e w' =>
      e = .returned (.int .i64 (learnS s k (reqX n)).1) ∧ OrdAt B w' g v sn (learnS s k (reqX n)).2 ∧ Keep (fun k => B ≤ k) w w' := by
  obtain ⟨F, h1, h2, h3, h4⟩ := h
  refine (learn_calls (G := fun _ => False) h1 k hk (nilC w _) (by simp) (fun k q => (h2 k q).2)).mono ?_
  rintro e w' ⟨he, hl, hkp⟩
  have hs := hkp.size
  refine ⟨he, ⟨_, hl, ?_, hkp.owns h3 (fun q hq => (h4 q hq).2), fun q hq => ⟨(h4 q hq).1, ?_⟩⟩, hkp.mono (fun k _ q => (h2 k q).1)⟩
  · rintro k (q | ⟨a, b⟩)
    · have := h2 k q; omega
    · exact ⟨by obtain ⟨_, _, _, hg, _⟩ := h1; have := h2 g hg; omega, b⟩
  · rintro (q' | ⟨a, _⟩)
    · exact (h4 q hq).2 q'
    · have := own_lt' h3 q hq; omega
theorem OrdAt.ready (h : OrdAt B w g v sn s) (hk : (Lit.int .i64 s.next).wf = true) :
    Calls Try.prog 16 #[.pointer (some ⟨g, 0, none⟩)] w fun e w' => ∃ v', e = .returned (.tuple #[reqV ((look s.l s.next).getD reqZero) v', .bool (look s.l s.next).isSome]) ∧ (∃ A n c, v' = .slice A n c) ∧ OrdAt B w' g v sn s ∧ Keep (fun _ => False) w w' := by
  have h0 := h
  obtain ⟨F, h1, _⟩ := h
  refine (ready'_calls h1 hk).mono ?_
  rintro e w' ⟨v, he, hs, hkp⟩
  obtain ⟨A, c, rfl⟩ := hs.shape
  exact ⟨_, he, ⟨_, _, _, rfl⟩, h0.keep hkp, hkp⟩
theorem OrdAt.step (h : OrdAt B w g v sn s) (hk : (Lit.int .i64 s.next).wf = true) (hk' : (Lit.int .i64 (s.next + 1)).wf = true) :
    Calls Try.prog 17 #[.pointer (some ⟨g, 0, none⟩)] w fun e w' =>
      e = .returned (.bool (look s.l s.next).isSome) ∧ OrdAt B w' g v sn (stepS s) ∧ Keep (fun k => B ≤ k) w w' := by
  obtain ⟨F, h1, h2, h3, h4⟩ := h
  refine (step_calls h1 hk hk').mono ?_
  rintro e w' ⟨he, hl, hkp⟩
  have hs := hkp.size
  have hg : F g := by obtain ⟨_, _, _, hg, _⟩ := h1; exact hg
  exact ⟨he, ⟨F, hl, fun k q => ⟨(h2 k q).1, by have := (h2 k q).2; omega⟩, hkp.owns h3 (fun q hq e => (h4 q hq).2 (by have e : q = g := e; subst e; exact hg)), h4⟩, hkp.mono (fun k _ q => by have q : k = g := q; subst q; exact (h2 k hg).1)⟩
theorem OrdAt.next (h : OrdAt B w g v sn s) : Calls Try.prog 18 #[.pointer (some ⟨g, 0, none⟩)] w fun e w' => e = .returned (.int .i64 s.next) ∧ w = w' := by
  obtain ⟨F, h1, _⟩ := h
  exact next_calls h1
theorem OrdAt.app {o : Obj} {v' : Value} {sn' : List Int} {n : Nat} (h : OrdAt B w g v sn s) (hB : B ≤ w.heap.size) (ho : w'.ownsRow 0 3 1 v' n (sn'.map I64)) (hn' : n = sn'.length) (hk : Keep (fun k => some k = v.ownBlock) (w.alloc o) w') (hn : SameOrNew (w.alloc o) v v') :
    OrdAt B w' g v' sn' s ∧ Keep (fun k => B ≤ k) w w' := by
  subst hn'
  obtain ⟨F, h1, h2, h3, h4⟩ := h
  have hk0 : Keep (fun k => some k = v.ownBlock) w w' := ((Keep.refl _ w).alloc o).trans hk (fun _ _ q => q)
  have hs := hk0.size
  refine ⟨⟨F, h1.keep hk0 (fun q hq e => (h4 q e.symm).2 hq), fun k q => ⟨(h2 k q).1, by have := (h2 k q).2; omega⟩, ho, fun q hq => ?_⟩, hk0.mono (fun q _ e => (h4 q e.symm).1)⟩
  rcases hn q hq with e | e
  · exact h4 q e
  · simp only [World.size_alloc] at e
    exact ⟨by omega, fun hf => by have := (h2 q hf).2; omega⟩
end
set_option maxRecDepth 20000 in
set_option maxHeartbeats 2000000 in
theorem orders_calls {w : World} {v : Value} {l : List Int} (hv : Row (fun k => k < w.heap.size) w v l.length 1 (l.map I64)) (_hwf : ∀ n ∈ l, (Lit.int .i64 n).wf = true) :
    Calls Try.prog 3 #[v] w fun e w' => e = .returned (.bool true) ∧ Below w.heap.size w w' := by
  have T : SlT Try.prog 22 3 (.int .i64 0) 1 8 := SlT.mk' Try.underlying22 (by kernel_rfl) rfl (by decide)
  obtain ⟨A, c, rfl, _⟩ := hv.int'
  obtain ⟨len, hlen⟩ : ∃ len, len = l.length := ⟨_, rfl⟩
  have hmax : len ≤ 9223372036854775807 := by obtain ⟨_, _, _, _, h1, h2, _⟩ := hv; unfold maxLen at h2; omega
  have HV := hid hv
  rw [← hlen]
  have HL := hid hlen
  clear hlen hv
  go_enter Try.func3, Try.ntmps3
  go_wp2_with fail
  refine (awake17_calls w).mono ?_
  rintro e w1 ⟨rfl, hk1⟩
  have hs1 := hk1.size
  by_cases h2 : 200 < len
  · go_wp2
    go_ret
    exact ⟨rfl, hk1.below (Nat.le_refl _) (fun _ _ => id)⟩
  go_wp2_with fail
  refine (newN_calls 0 (by decide)).mono ?_
  rintro e w2 ⟨g, rfl, ⟨F2, hl2, hb2⟩, hk2⟩
  have H0 : OrdAt w1.heap.size w2 g (.slice none 0 0) [] ⟨0, 0, []⟩ := ⟨F2, hl2, hb2, World.ownsRow_nil w2 0 _ 1, fun k hk => by simp [Value.ownBlock] at hk⟩
  have I0 : OrdInv [] 0 ⟨0, 0, []⟩ := ⟨rfl, rfl, by simp, by simp, fun k => by simp [look_nil]⟩
  have hk12 := hk1.trans hk2 (fun _ _ => id)
  go_wp2_with fail
  go_loopw [4, 5, 6] (fun sv nv i wr => ∃ (k n : Nat) (sn : List Int) (s : LS), k ≤ len ∧ i = .int .i64 k ∧ nv = .int .i64 n ∧ sn.length = k ∧ OrdAt w1.heap.size wr g sv sn s ∧ OrdInv sn n s ∧ ¬ (n : Int) ∈ sn ∧ Keep (fun _ => False) w wr ∧ w1.heap.size ≤ wr.heap.size) (fun _ _ i _ => len - (intOf i).toNat)
  case atStart => exact ⟨0, 0, [], _, Nat.zero_le _, rfl, rfl, rfl, H0, I0, by simp, hk12, hk2.size⟩
  case round =>
    obtain ⟨k, n, sn, s, hk, rfl, rfl, hsn, hat, hinv, hnn, hkp, hsz⟩ := hrel
    have hn16 := hinv.le
    by_cases hlt : k < len
    · have hkl : k < l.length := by rw [← HL.out]; exact hlt
      obtain ⟨A', c', he, hcells⟩ := (HV.out.keep hkp (fun _ _ => id)).int'
      simp only [Value.slice.injEq, true_and] at he
      obtain ⟨rfl, rfl⟩ := he
      obtain ⟨b, off, rfl, hbF, hcell⟩ := hcells (by omega)
      have hc := hcell k hkl
      obtain ⟨x, hx⟩ := and15 (l.getD k 0)
      obtain ⟨hx15, hxe⟩ := hx
      generalize l.getD k 0 = y at *
      obtain ⟨hler, hinv1⟩ := hinv.learn x hx15
      have HLE := hid hler
      have HI1 := hid hinv1
      have HI := hid hinv
      have HNN := hid hnn
      have HSN := hid hsn
      have hsn2 : sn.length ≤ 200 := by omega
      clear hsn
      have hwx := wf_small x (by omega)
      clear hcell hcells hinv hinv1 hler hnn
      go_wp2_with fail
      refine (x_calls x).mono ?_
      rintro e w3 ⟨rfl, hk3⟩
      have hat3 := hat.keep hk3
      have hs3 := hk3.size
      go_wp2_with fail
      refine (hat3.learn x hwx x).mono ?_
      rintro e w4 ⟨rfl, hat4, hk4⟩
      have hs4 := hk4.size
      rw [HLE.out]
      obtain ⟨A4, c4, rfl⟩ : ∃ A c, u4 = .slice A sn.length c := by
        obtain ⟨_, _, h, _⟩ := hat4.row; exact ⟨_, _, h⟩
      have hcmp : ((decide ((x : Int) ∈ sn)) == ((if (x : Int) ∈ sn then (9 : Int) else 0) == 9)) = true := by by_cases hm : (x : Int) ∈ sn <;> simp [hm]
      generalize (if (x : Int) ∈ sn then (9 : Int) else 0) = en at *
      generalize hmm : decide ((x : Int) ∈ sn) = em at *
      have HMM := hid hmm
      clear hmm
      have hh := has_calls hat4.row (x : Int)
      rw [HMM.out] at hh
      go_wp2_with fail
      refine hh.mono ?_
      rintro e w' ⟨rfl, rfl⟩
      have ho4 : w4.ownsRow 0 3 1 (.slice A4 sn.length c4) sn.length (sn.map I64) := by obtain ⟨_, _, _, h, _⟩ := hat4; exact h
      go_wp2_with (at_builtin; refine stopHere ?_)
      refine goOn (wpl_app (v := .slice A4 sn.length c4) rfl rfl T rfl (ownsAlloc ho4 _) rfl (Row.one w4 _ _) (by simp [Value.oneCell']) (by omega) (by omega) ?_)
      intro A5 c5 w5 ho5 hk5 hn5
      obtain ⟨hat5, hkb5⟩ := hat4.app (by omega) (sn' := sn ++ [(x : Int)]) (by simpa using ho5) (by simp) hk5 hn5
      have hs5 := hkb5.size
      have hkw5 : Keep (fun _ => False) w w5 := (((hkp.trans hk3 (fun _ _ q => q)).trans hk4 (fun b hb q => by omega)).trans hkb5 (fun b hb q => by omega))
      clear hat hat3 hat4 ho4 ho5 hk5 hn5 hkb5 hk4 hk3 hcmp
      have hi5 := HI1.out
      have hsl : (sn ++ [(x : Int)]).length = sn.length + 1 := by simp
      generalize sn ++ [(x : Int)] = sn' at *
      generalize (learnS s x (reqX x)).2 = s5 at *
      have HSL := hid hsl
      clear hsl HLE HMM hh HI1
      go_wp2_with fail
      go_loopw [5] (fun nv wq => ∃ (m : Nat) (s2 : LS), nv = .int .i64 m ∧ OrdAt w1.heap.size wq g (.slice A5 (sn.length + 1) c5) sn' s2 ∧ OrdInv sn' m s2 ∧ Keep (fun _ => False) w wq ∧ w1.heap.size ≤ wq.heap.size) (fun nv _ => 20 - (intOf nv).toNat)
      case atStart => exact ⟨n, s5, rfl, hat5, hi5, hkw5, by omega⟩
      case round =>
        obtain ⟨m, s2, rfl, hat6, hi6, hkw6, hsz6⟩ := hrel
        have hm16 := hi6.le
        have hwn : (Lit.int .i64 s2.next).wf = true := by rw [hi6.next]; exact wf_small m (by omega)
        have hwn' : (Lit.int .i64 (s2.next + 1)).wf = true := by rw [hi6.next]; exact wf_small (m + 1) (by omega)
        have hhold := hi6.holds m
        by_cases hm : (m : Int) ∈ sn'
        · rw [if_pos hm, ← hi6.next] at hhold
          have hr := hat6.ready hwn
          rw [hhold] at hr
          simp only [Option.getD_some, Option.isSome_some] at hr
          have HI7 := hid (hi6.step hm)
          have HSN2 := hid hi6.next
          rw [hi6.next] at hr
          have HH := hid hhold
          have HM := hid hm
          clear hhold hm hi6 hat6
          go_wp2_with fail
          refine hr.mono ?_
          rintro e w6 ⟨v6, rfl, ⟨A6, n6, c6, rfl⟩, hat6, hk6⟩
          have hst := fun o => ((hat6.keep ((Keep.refl (fun _ => False) w6).alloc o)).step hwn hwn')
          rw [HH.out] at hst
          simp only [Option.isSome_some] at hst
          have HST := hid hst
          have HK6 := hid (fun o => (hkw6.trans hk6 (fun _ _ q => q)).alloc o)
          have hs6 := hk6.size
          clear hst hr hat6 hk6
          go_wp2_with fail
          refine (HST.out _).mono ?_
          rintro e w7 ⟨rfl, hat7, hk7⟩
          have hs7 := hk7.size
          simp only [World.size_alloc] at hs7
          go_wp2
          exact ⟨⟨m + 1, _, by simp, hat7, HI7.out, (HK6.out _).trans hk7 (fun b hb q => by omega), by omega⟩, by simp [intOf]; omega⟩
        · rw [if_neg hm, ← hi6.next] at hhold
          have hr := hat6.ready hwn
          rw [hhold] at hr
          simp only [Option.getD_none, Option.isSome_none] at hr
          have HI7 := hid hi6
          have HM := hid hm
          clear hhold hm hi6 hat6
          go_wp2_with fail
          refine hr.mono ?_
          rintro e w6 ⟨v6, rfl, ⟨A6, n6, c6, rfl⟩, hat6, hk6⟩
          have HX := hid (fun o => hat6.keep ((Keep.refl (fun _ => False) w6).alloc o))
          have HK6 := hid (fun o => (hkw6.trans hk6 (fun _ _ q => q)).alloc o)
          have hs6 := hk6.size
          have hhas := fun o => has_calls (HX.out o).row (m : Int)
          rw [decide_eq_false HM.out] at hhas
          have HHAS := hid hhas
          have hnx := fun o => (HX.out o).next
          rw [HI7.out.next] at hnx
          have HNX := hid hnx
          clear hhas hnx hr hat6 hk6
          go_wp2_with fail
          refine (HHAS.out _).mono ?_
          rintro e w' ⟨rfl, rfl⟩
          go_wp2_with fail
          refine (HNX.out _).mono ?_
          rintro e w' ⟨rfl, rfl⟩
          go_wp2
          exact ⟨⟨k + 1, m, sn', s2, by omega, by simp, rfl, by rw [HSL.out, HSN.out], HX.out _, HI7.out, HM.out, HK6.out _, by simp; omega⟩, by simp [intOf]; omega⟩
    · go_wp2_with fail
      go_ret
      exact ⟨rfl, hkp.below (Nat.le_refl _) (fun _ _ => id)⟩
end Go.Proofs.Ytiomeoihekifeaa
