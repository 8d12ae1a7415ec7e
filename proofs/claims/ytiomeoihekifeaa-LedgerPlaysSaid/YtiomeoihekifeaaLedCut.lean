/- The ledger: forget, Cut, Jump. -/
import Derived.Test.YtiomeoihekifeaaLed
import Derived.Test.YtiomeoihekifeaaMapD
import Derived.Test.YtiomeoihekifeaaBlk
namespace Go.Proofs.Ytiomeoihekifeaa
open Go.RowKit

section
variable {F G : Nat → Prop} {w w' : World} {g m c : Nat} {s : LS} {l : List (Int × Req)} {slot : Int}
/-- The closure: is the key below the slot? -/
theorem below_calls (hc : w.cell? ⟨c, 0, none⟩ = some (.int .i64 slot)) (k : Int) (v : Value) :
    Calls Try.prog 67 #[.int .i64 k, v, .pointer (some ⟨c, 0, none⟩)] w fun e w' => e = .returned (.bool (decide (k < slot))) ∧ Keep (fun _ => False) w w' := by
  go_enter Try.func67, Try.ntmps67
  go_wp2_with (first | (refine wpl_boxB (v := v) rfl rfl rfl ?_; intro b1 w1 hg1 hb1 k1 s1; have c1 := k1.cell hc id; clear hc hg1 hb1))
  go_ret
  exact ⟨rfl, k1⟩
theorem reqV_one (r : Req) (A : Option Addr) (n c : Nat) : ∀ u ∈ (reqV r (.slice A n c)).cells.toList, u.oneCell' = true := by
  intro u hu
  have e : (reqV r (.slice A n c)).cells.toList = [.int .i64 r.kind, .string r.name, .int .i64 r.session, .int .i64 r.seq, .int .i64 r.base, .string r.ref, .slice A n c, .string r.path, .int .i64 r.from', .int .i64 r.many, .int .i64 r.member] := rfl
  rw [e] at hu
  simp only [List.mem_cons, List.not_mem_nil, or_false] at hu
  rcases hu with rfl | rfl | rfl | rfl | rfl | rfl | rfl | rfl | rfl | rfl | rfl <;> rfl
theorem reqV_whole (r z : Req) (v u : Value) : spl (reqV z u).cells 0 (reqV r v).cells.toList = (reqV r v).cells := spl_whole _ _ (Nat.le_refl 11)
theorem reqV_info : (Try.prog.info? 30).map (·.size) = some 11 := by kernel_rfl
/-- What is not below the slot. -/
def fromE (l : List (Int × Req)) (slot : Int) : List (Int × Req) := l.filter (fun p => !(decide (p.1 < slot)))
set_option maxRecDepth 20000 in
set_option maxHeartbeats 1600000 in
theorem del_calls (hm : MapI (ReqE G) w m l) (hG : ∀ k, G k → k < w.heap.size ∧ k ≠ m) (hc : w.cell? ⟨c, 0, none⟩ = some (.int .i64 slot)) (hcm : c ≠ m) :
    Calls Try.prog 66 #[.map (some m), .func (.func 67) #[] #[.pointer (some ⟨c, 0, none⟩)]] w fun e w' =>
      e = .returned (.tuple #[]) ∧ MapI (ReqE G) w' m (fromE l slot) ∧ Keep (fun k => k = m) w w' := by
  have hmlt := hm.lt
  have hclt := World.block_lt_of_cell? _ _ hc
  have HC := hid hc
  have HGG := hid hG
  clear hc hG
  go_enter Try.func66, Try.ntmps66
  go_wp2_with (guard_target =~ Go.wpList _ _ _ (Go.Oper.mk _ (Go.Op.range _ _) _ _ _ _ :: _) _ _; refine stopHere ?_)
  refine goOn (wpl_range (b := m) rfl rfl Try.underlying85 rfl hm (fun o a v h => ReqE.keep ((Keep.refl (fun _ => False) _).alloc o) (fun _ _ => id) a v h) ?_)
  intro r w1 hr hit k1 s1
  have HR := hid hr; have K1 := hid k1; have HIT := hid hit
  have hmr : m ≠ r := by omega
  have hcr : c ≠ r := by omega
  clear hr k1 hit hm s1
  go_wp2_with fail
  conv => arg 4; simp [Act.put]
  go_loopw [] (fun wr => ∃ dn l', ItI (ReqE G) wr m r l' dn ∧ Keep (fun q => q = m ∨ q = r) w1 wr ∧ (∀ k ∈ dn, ¬ k < slot) ∧ fromE l' slot = fromE l slot) (fun wr => wr.rangeLeft m r)
  case atStart => exact ⟨[], l, HIT.out, Keep.refl _ _, by simp, rfl⟩
  case round =>
    obtain ⟨dn, l', hit, hkp, hdn, hl⟩ := hrel
    have HKP := hid hkp; have HDN := hid hdn; have HL := hid hl
    clear hkp hdn hl
    go_wp2_with (guard_target =~ Go.wpList _ _ _ (Go.Oper.mk _ (Go.Op.next _ _) _ _ _ _ :: _) _ _; refine stopHere ?_)
    refine goOn (wpl_next rfl rfl rfl hit (fun w' hk a v h => ReqE.keep hk (fun q hq e => by have := HGG.out q hq; have := HR.out; omega) a v h) ?_ ?_)
    · intro hall
      have HALL := hid hall
      have HM := hid hit.map
      clear hall hit
      go_wp2_with fail
      go_end0
      refine ⟨rfl, ?_, (K1.out.mono (fun _ _ q => q.elim)).trans HKP.out (fun b hb e => e.elim id (fun e => by have := HR.out; omega))⟩
      have e1 : fromE l' slot = l' := by
        unfold fromE
        rw [List.filter_eq_self]
        intro p hp
        simpa using HDN.out _ (HALL.out p hp)
      rw [← HL.out, e1]
      exact HM.out
    · intro k x v w4 hka hnk hwf hev hit4 hk4 hless hent hsz
      obtain ⟨u, rfl, hs, hxl⟩ := hev
      obtain ⟨A, cc, rfl⟩ := hs.shape
      have hk14 : Keep (fun q => q = m ∨ q = r) w1 w4 := HKP.out.trans hk4 (fun _ _ e => .inr e)
      have hc4 := hk14.cell (K1.out.cell HC.out id) (fun e => e.elim hcm hcr)
      have HIT4 := hid hit4; have HK14 := hid hk14; have HLESS := hid hless; have HWF := hid hwf; have HC4 := hid hc4; have HKA := hid hka
      clear hit hit4 hk14 hless hwf hc4 hka hnk hk4 hsz hs hxl
      go_wp2_with (first
        | (refine wpl_allocB (z := reqV reqZero (.slice none 0 0)) rfl rfl (by kernel_rfl) ?_; intro b5 w5 hg5 hb5 k5 s5; have K5 := hid k5; have HG5 := hid hg5; clear hg5 k5)
        | (refine wpl_storeB (v := reqV x (.slice A x.changes.length cc)) rfl rfl rfl rfl hb5 reqV_info (Nat.le_refl 11) (reqV_one _ _ _ _) ?_; intro w6 hb6' k6 s6; have hb6 := hb6'; rw [reqV_whole] at hb6; have K6 := hid k6; clear k6 hb6')
        | (refine wpl_loadA (ty := 30) (o := 0) (n := 11) rfl rfl rfl hb6 (by kernel_rfl) (by kernel_rfl) (reqV x (.slice A x.changes.length cc)).cells.toList rfl rfl ?_))
      have k46 : Keep (fun _ => False) w4 w6 := K5.out.trans K6.out (fun b hb e => by have := HG5.out; omega)
      refine (below_calls (k46.cell HC4.out id) k _).mono ?_
      rintro e w7 ⟨rfl, k67⟩
      have k47 : Keep (fun _ => False) w4 w7 := k46.trans k67 (fun _ _ h => h)
      have hE7 : ∀ a v, ReqE G w4 a v → ReqE G w7 a v := ReqE.keep k47 (fun _ _ => id)
      have HIT7 := hid (HIT4.out.keep k47 id id hE7)
      have HLE := hid (left_keep HIT4.out k47 id id)
      have K47 := hid k47
      clear k46 k67 k47 hE7 hb5 hb6
      by_cases hks : k < slot
      · rw [decide_eq_true hks]
        have HKS := hid hks
        clear hks
        go_wp2_with (at_delete; refine stopHere ?_)
        refine goOn (wpl_delete rfl rfl Try.underlying85 Try.underlying3 rfl rfl HWF.out HIT7.out (fun w' hk a v h => ReqE.keep hk (fun q hq e => (HGG.out q hq).2 e) a v h) ?_)
        intro w8 hit8 k8 hle8 s8
        have HIT8 := hid hit8; have K8 := hid k8; have HLE8 := hid hle8
        clear hit8 k8 hle8 s8
        go_wp2_with fail
        refine ⟨⟨_, _, HIT8.out, (HK14.out.trans K47.out (fun _ _ q => q.elim)).trans K8.out (fun _ _ e => .inl e), fun q hq => ?_, ?_⟩, ?_⟩
        · obtain ⟨q1, q2⟩ := List.mem_filter.1 hq
          rcases List.mem_cons.1 q1 with rfl | q1
          · simp at q2
          · exact HDN.out q q1
        · rw [← HL.out]
          exact drop_filter l' k _ (fun p _ hp => by simp only [hp, HKS.out, decide_true, Bool.not_true])
        · have h1 := HLE8.out
          have h2 := HLESS.out
          rw [HLE.out] at h1
          omega
      · rw [decide_eq_false hks]
        have HKS := hid hks
        clear hks
        go_wp2_with fail
        refine ⟨⟨k :: dn, l', HIT7.out, HK14.out.trans K47.out (fun _ _ q => q.elim), fun q hq => ?_, HL.out⟩, ?_⟩
        · rcases List.mem_cons.1 hq with rfl | q1
          · have := HKS.out; omega
          · have := HDN.out q q1; omega
        · rw [HLE.out]
          exact HLESS.out
theorem forget_calls (h : LedAt F w g s) (hF : ∀ k, F k → k < w.heap.size) (slot : Int) :
    Calls Try.prog 50 #[.pointer (some ⟨g, 0, none⟩), .int .i64 slot] w fun e w' =>
      e = .returned (.tuple #[]) ∧ LedAt F w' g ⟨s.base, s.next, fromE s.l slot⟩ ∧ Keep (fun k => F k ∧ k ≠ g) w w' := by
  obtain ⟨m, hg, hm, hgF, hmF, hgm⟩ := h
  have hml := hF m hmF
  have HF := hid hF
  have HM := hid hm
  have HG := hid hg
  have c3 := cell_at hg 3 (.map (some m)) rfl
  clear hm hg hF
  go_enter Try.func50, Try.ntmps50
  go_wp2_with (first | (refine wpl_boxB (v := .int .i64 slot) rfl rfl rfl ?_; intro b1 w1 hg1 hb1 k1 s1; have d3 := k1.cell c3 id; have HG1 := hid hg1; clear c3 hg1))
  have hg1 := HG1.out
  have hc1 := cell_at hb1 0 (.int .i64 slot) rfl
  have hdel := del_calls (HM.out.keep k1 id (ReqE.keep k1 (fun _ _ => id))) (fun k hk => ⟨by have := HF.out k hk.1; omega, hk.2.2⟩) hc1 (by omega)
  refine hdel.mono ?_
  rintro e w2 ⟨rfl, hm2, k2⟩
  clear hdel
  have k12 : Keep (fun k => F k ∧ k ≠ g) w w2 := (k1.mono (fun _ _ q => q.elim)).trans k2 (fun b hb e => by have e : b = m := e; subst e; exact ⟨hmF, fun e => hgm e.symm⟩)
  have HK12 := hid k12; have HM2 := hid hm2
  clear k12 hm2 k1 k2 d3 hb1 hc1
  go_wp2_with fail
  go_end0
  exact ⟨rfl, ⟨m, HK12.out.heap HG.out (fun e => e.2 rfl), HM2.out, hgF, hmF, hgm⟩, HK12.out⟩
theorem LedAt.setBase (h : LedAt F w g s) (n : Int) : LedAt F (w.setCell ⟨g, 1, none⟩ (.int .i64 n)) g ⟨n, s.next, s.l⟩ := by
  obtain ⟨m, h1, h2, h3, h4, h5⟩ := h
  have hk : Keep (fun b => b = g) w (w.setCell ⟨g, 1, none⟩ (.int .i64 n)) := (Keep.refl _ w).setCell _ _ (fun _ => rfl)
  exact ⟨m, by rw [heap_set h1]; rfl, h2.keep hk (fun e => h5 e.symm) (ReqE.keep hk (fun k q e => q.2.1 e)), h3, h4, h5⟩
def cutS (s : LS) (slot : Int) : LS := ⟨max s.base (min slot s.next), s.next, fromE s.l (max s.base (min slot s.next))⟩
def jumpS (s : LS) (slot : Int) : LS := if s.next < slot then ⟨slot, slot, fromE s.l slot⟩ else s
set_option maxRecDepth 20000 in
set_option maxHeartbeats 1600000 in
theorem jump_calls (h : LedAt F w g s) (hF : ∀ k, F k → k < w.heap.size) (slot : Int) :
    Calls Try.prog 27 #[.pointer (some ⟨g, 0, none⟩), .int .i64 slot] w fun e w' => e = .returned (.tuple #[]) ∧ LedAt F w' g (jumpS s slot) ∧ Keep F w w' := by
  have hr := ready_calls h
  have hgF : F g := by obtain ⟨_, _, _, h, _⟩ := h; exact h
  have c1 : w.cell? ⟨g, 1, none⟩ = some (.int .i64 s.base) := by obtain ⟨_, hg, _⟩ := h; exact cell_at hg 1 _ rfl
  have c2 : w.cell? ⟨g, 2, none⟩ = some (.int .i64 s.next) := by obtain ⟨_, hg, _⟩ := h; exact cell_at hg 2 _ rfl
  have f1 : w.frozen? ⟨g, 1, none⟩ = false := by obtain ⟨_, hg, _⟩ := h; exact frozen_at hg 1
  have f2 : w.frozen? ⟨g, 2, none⟩ = false := by obtain ⟨_, hg, _⟩ := h; exact frozen_at hg 2
  have hfor := forget_calls ((h.setBase slot).setNext slot) (fun k hk => by simpa using hF k hk) slot
  have hkp : Keep F w ((w.setCell ⟨g, 1, none⟩ (.int .i64 slot)).setCell ⟨g, 2, none⟩ (.int .i64 slot)) := ((Keep.refl _ w).setCell _ _ (fun _ => hgF)).setCell _ _ (fun _ => hgF)
  have H := hid h
  have HKP := hid hkp
  have HFOR := hid hfor
  clear h hF hkp hfor
  go_enter Try.func27, Try.ntmps27
  go_wp2_with fail
  refine hr.mono ?_
  rintro e w' ⟨rfl, rfl⟩
  clear hr
  by_cases hn : s.next < slot
  · have HJ := hid (show jumpS s slot = ⟨slot, slot, fromE s.l slot⟩ by rw [jumpS, if_pos hn])
    go_wp2_with fail
    refine HFOR.out.mono ?_
    rintro e w' ⟨rfl, hl, hk⟩
    have HLL := hid hl; have HKK := hid hk
    clear hl hk
    go_wp2_with fail
    go_end0
    rw [HJ.out]
    exact ⟨rfl, HLL.out, HKP.out.trans HKK.out (fun _ _ q => q.1)⟩
  · have HJ := hid (show jumpS s slot = s by rw [jumpS, if_neg hn])
    go_wp2_with fail
    go_end0
    rw [HJ.out]
    exact ⟨rfl, H.out, Keep.refl _ _⟩
end
end Go.Proofs.Ytiomeoihekifeaa
