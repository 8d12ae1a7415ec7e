/- The ledger: how it lies, what its methods do. -/
import Derived.Test.YtiomeoihekifeaaReqSame
import Derived.Test.YtiomeoihekifeaaMap
import Derived.Deep.RegionHeld3
import Derived.Carry
import Derived.Deep.RegionWith
namespace Go.Proofs.Ytiomeoihekifeaa
open Go.RowKit

/-- How a request lies that a map holds. -/
def ReqE (F : Nat → Prop) (w : World) (r : Req) (v : Value) : Prop := ∃ u, v = reqV r u ∧ Sl .change w F u r.changes ∧ r.changes.length ≤ 4294967296
theorem ReqE.keep {F S : Nat → Prop} {w w' : World} (hk : Keep S w w') (hd : ∀ k, F k → ¬ S k) (r : Req) (v : Value) (h : ReqE F w r v) : ReqE F w' r v := by
  obtain ⟨u, h1, h2, h3⟩ := h; exact ⟨u, h1, h2.keep hk hd, h3⟩
structure LS where
  base : Int
  next : Int
  l : List (Int × Req)
abbrev LedObj (s : LS) (m : Nat) : Obj := .cells #[.bool true, .int .i64 s.base, .int .i64 s.next, .map (some m)] 87
def LedAt (F : Nat → Prop) (w : World) (g : Nat) (s : LS) : Prop :=
  ∃ m, w.heap[g]? = some (LedObj s m) ∧ MapI (ReqE (fun k => F k ∧ k ≠ g ∧ k ≠ m)) w m s.l ∧ F g ∧ F m ∧ g ≠ m
section
variable {F S : Nat → Prop} {w w' : World} {g : Nat} {s : LS}
theorem LedAt.keep (h : LedAt F w g s) (hk : Keep S w w') (hd : ∀ k, F k → ¬ S k) : LedAt F w' g s := by
  obtain ⟨m, h1, h2, h3, h4, h5⟩ := h
  exact ⟨m, hk.heap h1 (hd g h3), h2.keep hk (hd m h4) (ReqE.keep hk (fun k q => hd k q.1)), h3, h4, h5⟩
theorem LedAt.lt (h : LedAt F w g s) : g < w.heap.size := by obtain ⟨_, h, _⟩ := h; exact lt_heap h
theorem LedAt.drewN (h : LedAt F w g s) (n : Nat) : LedAt F (w.drewN n) g s := h.keep ((Keep.refl (fun _ => False) w).drewN n) (fun _ _ => id)

theorem LedAt.setNext (h : LedAt F w g s) (n : Int) : LedAt F (w.setCell ⟨g, 2, none⟩ (.int .i64 n)) g ⟨s.base, n, s.l⟩ := by
  obtain ⟨m, h1, h2, h3, h4, h5⟩ := h
  have hk : Keep (fun b => b = g) w (w.setCell ⟨g, 2, none⟩ (.int .i64 n)) := (Keep.refl _ w).setCell _ _ (fun _ => rfl)
  exact ⟨m, by rw [heap_set h1]; rfl, h2.keep hk (fun e => h5 e.symm) (ReqE.keep hk (fun k q e => q.2.1 e)), h3, h4, h5⟩
theorem LedAt.wild (h : LedAt F w g s) (o : Obj) : LedAt F (w.alloc o) g s := h.keep ((Keep.refl (fun _ => False) w).alloc o) (fun _ _ => id)
theorem new_calls (next : Int) (hn : 0 ≤ next) :
    Calls Try.prog 12 #[.int .i64 next] w fun e w' => e = .returned (.pointer (some ⟨w.heap.size + 1, 0, none⟩)) ∧ LedAt (NewIn w w') w' (w.heap.size + 1) ⟨next, next, []⟩ ∧ Keep (fun _ => False) w w' := by
  have hmm := @run_makeMap Try.prog
  have hmax : max next 0 = next := by omega
  go_enter Try.func12, Try.ntmps12
  go_wp2_with fail
  go_ret
  refine ⟨rfl, ⟨w.heap.size, ?_, ?_, ⟨by omega, by simp⟩, ⟨by omega, by simp; omega⟩, by omega⟩, ((Keep.refl _ w).alloc _).alloc _⟩
  · have := heap_alloc_new (w.alloc (.map #[] 0)) (LedObj ⟨next, next, []⟩ w.heap.size)
    simpa only [World.size_alloc] using this
  · exact (MapI.new _ w).keep ((Keep.refl (fun _ => False) _).alloc _) id (fun a v h => ReqE.keep ((Keep.refl (fun _ => False) _).alloc _) (fun _ _ => id) a v h)
theorem ready_calls (h : LedAt F w g s) : Calls Try.prog 47 #[.pointer (some ⟨g, 0, none⟩)] w fun e w' => e = .returned (.bool true) ∧ w = w' := by
  obtain ⟨m, hg, _⟩ := h
  have c0 := cell_at hg 0 (.bool true) rfl
  clear hg
  go_enter Try.func47, Try.ntmps47
  go_wp2_with fail
  go_ret
  exact ⟨rfl, rfl⟩
theorem next_calls (h : LedAt F w g s) : Calls Try.prog 18 #[.pointer (some ⟨g, 0, none⟩)] w fun e w' => e = .returned (.int .i64 s.next) ∧ w = w' := by
  have h0 := h
  obtain ⟨m, hg, _⟩ := h
  have c2 := cell_at hg 2 (.int .i64 s.next) rfl
  clear hg
  go_enter Try.func18, Try.ntmps18
  go_wp2_with fail
  refine (ready_calls h0).mono ?_
  rintro e w' ⟨rfl, rfl⟩
  go_wp2_with fail
  go_ret
  exact ⟨rfl, rfl⟩
theorem x_calls (n : Int) : Calls Try.prog 14 #[.int .i64 n] w fun e w' => e = .returned (reqV ⟨3, ByteArray.empty, n, 1, 0, ByteArray.empty, [], ByteArray.empty, 0, 0, 0⟩ (.slice none 0 0)) ∧ Keep (fun _ => False) w w' := by
  go_enter Try.func14, Try.ntmps14
  go_wp2_with fail
  refine bodyPost_ret (v := reqV ⟨3, ByteArray.empty, n, 1, 0, ByteArray.empty, [], ByteArray.empty, 0, 0, 0⟩ (.slice none 0 0)) (by simp [results, Try.results14, go_sem]; rfl) rfl ?_
  exact ⟨rfl, (Keep.refl _ w).alloc _⟩
def reqZero : Req := ⟨0, ByteArray.empty, 0, 0, 0, ByteArray.empty, [], ByteArray.empty, 0, 0, 0⟩
def GetPost (w : World) (s : LS) (k : Int) (e : Ending) (w' : World) : Prop :=
  ∃ v, e = .returned (.tuple #[reqV ((look s.l k).getD reqZero) v, .bool (look s.l k).isSome]) ∧ Sl .change w' (NewIn w w') v ((look s.l k).getD reqZero).changes ∧ Keep (fun _ => False) w w'
theorem get_fin {W w1 wf : World} {k : Int} {o : Option Req} {v : Value} (hl : look s.l k = o) (hs : Sl .change w1 (NewIn W w1) v (o.getD reqZero).changes) (hW : Keep (fun _ => False) w W) (hz : w.heap.size < W.heap.size) (hk : Keep (fun _ => False) W w1)
    (hf : Keep (fun b => b = w.heap.size) w1 wf) : GetPost w s k (.returned (.tuple #[reqV (o.getD reqZero) v, .bool o.isSome])) wf := by
  subst hl
  have h2 := hf.size
  refine ⟨v, rfl, (hs.keep hf (fun k hk e => by have := hk.1; omega)).mono (fun k hk => ⟨by have := hk.1; omega, by have := hk.2; omega⟩), (hW.trans hk (fun _ _ q => q)).trans hf (fun b hb e => by omega)⟩
set_option maxRecDepth 20000 in
set_option maxHeartbeats 800000 in
theorem get_calls (h : LedAt F w g s) (k : Int) (hk : (Lit.int .i64 k).wf = true) : Calls Try.prog 29 #[.pointer (some ⟨g, 0, none⟩), .int .i64 k] w (GetPost w s k) := by
  have h0 := h
  have H := hid h
  obtain ⟨m, hg, hm, hF⟩ := h
  have c3 := cell_at hg 3 (.map (some m)) rfl
  have HM := hid hm
  clear hg hF hm
  go_enter Try.func29, Try.ntmps29
  have hz : ∀ w, (zeroValue 30).run Try.prog w = .ok (reqV reqZero (.slice none 0 0)) w := fun w => by kernel_rfl
  have HB := hid (fun o => (Below.heap_alloc (w.alloc (.cells reqZ 30)) o w.heap.size (by simp)).trans (heap_alloc_new w (.cells reqZ 30)))
  have hkw : Keep (fun _ => False) w (w.alloc (.cells reqZ 30)) := (Keep.refl _ w).alloc _
  have c3' := hkw.cell c3 id
  have hr := ready_calls (h0.keep hkw (fun _ _ => id))
  have hml := (HM.out.keep hkw id (ReqE.keep hkw (fun _ _ => id))).lookup Try.underlying85 Try.underlying3 hk (hz _) true
  simp only [if_true] at hml
  go_wp2_with fail
  refine hr.mono ?_
  rintro e w' ⟨rfl, rfl⟩
  clear hr
  rcases hml with ⟨hl, hrun⟩ | ⟨r, u0, hl, ⟨u, rfl, hu, hul⟩, hrun⟩
  · have HL := hid hl
    clear hl
    go_wp2_with fail
    refine (own_calls (r := reqZero) (v := .slice none 0 0) (F := fun _ => False) ⟨none, 0, rfl, Nat.le_refl _, Nat.zero_le _, .inl rfl⟩ (by simp [reqZero])).mono ?_
    rintro e w1 ⟨v1, rfl, hs1, hk1⟩
    obtain ⟨A1, c1, rfl⟩ := hs1.shape
    have hb1 := hk1.heap (HB.out _) id
    have hf1 := frozen_at hb1
    have z0 := cell_at hb1 0 (.int .i64 0) rfl
    have z1 := cell_at hb1 1 (.string ByteArray.empty) rfl
    have z2 := cell_at hb1 2 (.int .i64 0) rfl
    have z3 := cell_at hb1 3 (.int .i64 0) rfl
    have z4 := cell_at hb1 4 (.int .i64 0) rfl
    have z5 := cell_at hb1 5 (.string ByteArray.empty) rfl
    have z6 := cell_at hb1 6 (.slice none 0 0) rfl
    have z7 := cell_at hb1 7 (.string ByteArray.empty) rfl
    have z8 := cell_at hb1 8 (.int .i64 0) rfl
    have z9 := cell_at hb1 9 (.int .i64 0) rfl
    have z10 := cell_at hb1 10 (.int .i64 0) rfl
    have HS := hid hs1
    have HK := hid hk1
    clear hs1 hb1 hk1
    go_wp2_with fail
    refine bodyPost_ret (v := .tuple #[reqV reqZero (.slice A1 reqZero.changes.length c1), .bool false]) (by simp [results, Try.results29, go_sem, z0, z1, z2, z3, z4, z5, z6, z7, z8, z9, z10]) rfl ?_
    refine get_fin (o := none) HL.out HS.out (((Keep.refl _ w).alloc _).alloc _) (by simp; omega) HK.out ?_
    iterate 11 refine Keep.setCell ?_ _ _ (fun _ => rfl)
    exact Keep.refl _ _
  · have HL := hid hl
    obtain ⟨Au, cu, rfl⟩ := hu.shape
    have HUU := hid (fun o => hu.keep ((Keep.refl (fun _ => False) (w.alloc (.cells reqZ 30))).alloc o) (fun _ _ => id))
    clear hl hu
    go_wp2_with fail
    refine (own_calls (r := r) (HUU.out _) hul).mono ?_
    rintro e w1 ⟨v1, rfl, hs1, hk1⟩
    obtain ⟨A1, c1, rfl⟩ := hs1.shape
    have hb1 := hk1.heap (HB.out _) id
    have hf1 := frozen_at hb1
    have z0 := cell_at hb1 0 (.int .i64 0) rfl
    have z1 := cell_at hb1 1 (.string ByteArray.empty) rfl
    have z2 := cell_at hb1 2 (.int .i64 0) rfl
    have z3 := cell_at hb1 3 (.int .i64 0) rfl
    have z4 := cell_at hb1 4 (.int .i64 0) rfl
    have z5 := cell_at hb1 5 (.string ByteArray.empty) rfl
    have z6 := cell_at hb1 6 (.slice none 0 0) rfl
    have z7 := cell_at hb1 7 (.string ByteArray.empty) rfl
    have z8 := cell_at hb1 8 (.int .i64 0) rfl
    have z9 := cell_at hb1 9 (.int .i64 0) rfl
    have z10 := cell_at hb1 10 (.int .i64 0) rfl
    have HS := hid hs1
    have HK := hid hk1
    clear hs1 hb1 hk1
    go_wp2_with fail
    refine bodyPost_ret (v := .tuple #[reqV r (.slice A1 r.changes.length c1), .bool true]) (by simp [results, Try.results29, go_sem, z0, z1, z2, z3, z4, z5, z6, z7, z8, z9, z10]) rfl ?_
    refine get_fin (o := (some r)) HL.out HS.out (((Keep.refl _ w).alloc _).alloc _) (by simp; omega) HK.out ?_
    iterate 11 refine Keep.setCell ?_ _ _ (fun _ => rfl)
    exact Keep.refl _ _
set_option maxRecDepth 20000 in
set_option maxHeartbeats 800000 in
theorem ready'_calls (h : LedAt F w g s) (hk : (Lit.int .i64 s.next).wf = true) : Calls Try.prog 16 #[.pointer (some ⟨g, 0, none⟩)] w (GetPost w s s.next) := by
  go_enter Try.func16, Try.ntmps16
  have HB := hid (heap_alloc_new w (.cells reqZ 30))
  have hkw : Keep (fun _ => False) w (w.alloc (.cells reqZ 30)) := (Keep.refl _ w).alloc _
  have h1 := h.keep hkw (fun _ _ => id)
  go_wp2_with fail
  refine (next_calls h1).mono ?_
  rintro e w' ⟨rfl, rfl⟩
  go_wp2_with fail
  refine (get_calls h1 s.next hk).mono ?_
  rintro e w1 ⟨v1, rfl, hs1, hk1⟩
  generalize hrr : (look s.l s.next).getD reqZero = rr at *
  generalize hoo : (look s.l s.next).isSome = oo at *
  have HRR := hid hrr
  have HOO := hid hoo
  clear hrr hoo
  obtain ⟨A1, c1, rfl⟩ := hs1.shape
  have hb1 := hk1.heap HB.out id
  have hf1 := frozen_at hb1
  have z0 := cell_at hb1 0 (.int .i64 0) rfl
  have z1 := cell_at hb1 1 (.string ByteArray.empty) rfl
  have z2 := cell_at hb1 2 (.int .i64 0) rfl
  have z3 := cell_at hb1 3 (.int .i64 0) rfl
  have z4 := cell_at hb1 4 (.int .i64 0) rfl
  have z5 := cell_at hb1 5 (.string ByteArray.empty) rfl
  have z6 := cell_at hb1 6 (.slice none 0 0) rfl
  have z7 := cell_at hb1 7 (.string ByteArray.empty) rfl
  have z8 := cell_at hb1 8 (.int .i64 0) rfl
  have z9 := cell_at hb1 9 (.int .i64 0) rfl
  have z10 := cell_at hb1 10 (.int .i64 0) rfl
  have HS := hid hs1
  have HK := hid hk1
  clear hs1 hb1 hk1
  go_wp2_with fail
  refine bodyPost_ret (v := .tuple #[reqV rr (.slice A1 rr.changes.length c1), .bool oo]) (by simp [results, Try.results16, go_sem, z0, z1, z2, z3, z4, z5, z6, z7, z8, z9, z10]) rfl ?_
  rw [← HRR.out, ← HOO.out]
  have hsh := HS.out
  rw [← HRR.out] at hsh
  refine get_fin rfl hsh ((Keep.refl _ w).alloc _) (by simp) HK.out ?_
  iterate 11 refine Keep.setCell ?_ _ _ (fun _ => rfl)
  exact Keep.refl _ _
def stepS (s : LS) : LS := if (look s.l s.next).isSome then ⟨s.base, s.next + 1, s.l⟩ else s
set_option maxRecDepth 20000 in
set_option maxHeartbeats 800000 in
theorem step_calls (h : LedAt F w g s) (hk : (Lit.int .i64 s.next).wf = true) (hk' : (Lit.int .i64 (s.next + 1)).wf = true) : Calls Try.prog 17 #[.pointer (some ⟨g, 0, none⟩)] w fun e w' =>
    e = .returned (.bool (look s.l s.next).isSome) ∧ LedAt F w' g (stepS s) ∧ Keep (fun k => k = g) w w' := by
  go_enter Try.func17, Try.ntmps17
  go_wp2_with fail
  refine (ready'_calls h hk).mono ?_
  rintro e w1 ⟨v1, rfl, hs1, hk1⟩
  have h1 := h.keep hk1 (fun _ _ => id)
  generalize (look s.l s.next).getD reqZero = rr at *
  have hst : ∀ b, (look s.l s.next).isSome = b → stepS s = if b then ⟨s.base, s.next + 1, s.l⟩ else s := fun b h => by rw [stepS, h]
  generalize hoo : (look s.l s.next).isSome = oo at *
  have HST := hid (hst oo rfl)
  have HOO := hid hoo
  clear hst hoo
  obtain ⟨A1, c1, rfl⟩ := hs1.shape
  have hc2 : ∀ o, (w1.alloc o).cell? ⟨g, 2, none⟩ = some (.int .i64 s.next) := fun o => by obtain ⟨_, hg, _⟩ := h1.wild o; exact cell_at hg 2 _ rfl
  have hf2 : ∀ o, (w1.alloc o).frozen? ⟨g, 2, none⟩ = false := fun o => by obtain ⟨_, hg, _⟩ := h1.wild o; exact frozen_at hg 2
  have hww : wrap64 (s.next + 1) = s.next + 1 := by
    simp [Lit.wf, IntKind.min, IntKind.max, IntKind.signed, IntKind.bits] at hk'
    unfold wrap64; omega
  have HW := hid (fun o => (h1.wild o).setNext (s.next + 1))
  have HW0 := hid (fun o => h1.wild o)
  have HK := hid (fun o => (hk1.alloc o).mono (T := fun k => k = g) (fun _ _ q => q.elim))
  clear hk1 h1 hs1
  cases oo
  · go_wp2_with fail
    go_ret
    exact ⟨by rw [HOO.out]; rfl, by rw [HST.out]; exact HW0.out _, HK.out _⟩
  · go_wp2_with fail
    go_ret
    rw [hww]
    exact ⟨by rw [HOO.out]; rfl, by rw [HST.out]; exact HW.out _, (HK.out _).setCell _ _ (fun _ => rfl)⟩

def learnS (s : LS) (k : Int) (r : Req) : Int × LS :=
  if k < 0 then (1, s) else if k < s.base then (11, s) else match look s.l k with
    | some o => (if o = r then 9 else 10, s)
    | none => if k < s.next then (11, s) else (0, ⟨s.base, s.next, putE s.l k r⟩)
def LearnPost (F : Nat → Prop) (w : World) (g : Nat) (s : LS) (k : Int) (r : Req) (e : Ending) (w' : World) : Prop :=
  e = .returned (.int .i64 (learnS s k r).1) ∧ LedAt (Grow F w w') w' g (learnS s k r).2 ∧ Keep F w w'
abbrev reqC (r : Req) (v : Value) : Obj := .cells #[.int .i64 r.kind, .string r.name, .int .i64 r.session, .int .i64 r.seq, .int .i64 r.base, .string r.ref, v, .string r.path, .int .i64 r.from', .int .i64 r.many, .int .i64 r.member] 30
theorem LedAt.mono {G : Nat → Prop} (h : LedAt F w g s) (hFG : ∀ k, F k → G k) : LedAt G w g s := by
  obtain ⟨m, h1, ⟨es, clock, q1, q2, q3, q4, q5⟩, h3, h4, h5⟩ := h
  refine ⟨m, h1, ⟨es, clock, q1, q2, q3, q4, fun i p hp => ?_⟩, hFG _ h3, hFG _ h4, h5⟩
  obtain ⟨e, r1, r2, r3, u, r4, r5, r6⟩ := q5 i p hp
  exact ⟨e, r1, r2, r3, u, r4, r5.mono (fun k hk => ⟨hFG _ hk.1, hk.2⟩), r6⟩
theorem learn_same {k : Int} {r : Req} {n : Int} (h : learnS s k r = (n, s)) (hk : Keep (fun _ => False) w w') (hl : LedAt F w g s) : LearnPost F w g s k r (.returned (.int .i64 n)) w' := by
  refine ⟨by rw [h], ?_, hk.mono (fun _ _ q => q.elim)⟩
  rw [h]
  exact (hl.keep hk (fun _ _ => id)).mono (fun _ => .inl)
theorem learn_put {w W w4 : World} {n m : Nat} {k : Int} {r : Req} {v4 : Value} (hm : MapI (ReqE (fun k => F k ∧ k ≠ g ∧ k ≠ m)) w m s.l) (hg : w.heap[g]? = some (LedObj s m)) (hF0 : F g ∧ F m ∧ g ≠ m) (hF : ∀ k, F k → k < w.heap.size)
    (hkW : Keep (fun _ => False) w W) (hk : (Lit.int .i64 k).wf = true) (hl : r.changes.length ≤ 4294967296) (hP : learnS s k r = (0, ⟨s.base, s.next, putE s.l k r⟩)) (h1 : Sl .change w4 (NewIn (W.drewN n) w4) v4 r.changes) (h2 : Keep (fun _ => False) (W.drewN n) w4) :
    ∃ w5, (Instr.mapUpdate 85 (.map (some m)) (.int .i64 k) (reqV r v4)).run Try.prog w4 = .ok () w5 ∧ LearnPost F w g s k r (.returned (.int .i64 0)) w5 := by
  obtain ⟨hgF, hmF, hgm⟩ := hF0
  have hk4 : Keep (fun _ => False) w w4 := (hkW.drewN n).trans h2 (fun _ _ q => q)
  have hs4 := hk4.size
  have hgl := hF g hgF
  have hml := hF m hmF
  have hWs := hkW.size
  have hm4 : MapI (ReqE (fun q => Grow F w w4 q ∧ q ≠ g ∧ q ≠ m)) w4 m s.l := by
    obtain ⟨es, clock, q1, q2, q3, q4, q5⟩ := hm.keep hk4 id (ReqE.keep hk4 (fun _ _ => id))
    refine ⟨es, clock, q1, q2, q3, q4, fun i p hp => ?_⟩
    obtain ⟨e, r1, r2, r3, u, r4, r5, r6⟩ := q5 i p hp
    exact ⟨e, r1, r2, r3, u, r4, r5.mono (fun k hk => ⟨.inl hk.1, hk.2⟩), r6⟩
  have hE : ReqE (fun q => Grow F w w4 q ∧ q ≠ g ∧ q ≠ m) w4 r (reqV r v4) := ⟨v4, rfl, h1.mono (fun q hq => by
    have := hq.1
    simp only [show (W.drewN n).heap = W.heap from rfl] at this
    exact ⟨.inr ⟨by omega, hq.2⟩, by omega, by omega⟩), hl⟩
  obtain ⟨w5, hrun, hm5, hk5⟩ := hm4.update Try.underlying85 Try.underlying3 hk hE (fun w' hw' a v h => ReqE.keep hw' (fun q hq e => hq.2.2 e) a v h)
  have hs5 := hk5.size
  refine ⟨w5, hrun, by rw [hP], ?_, (hk4.mono (fun _ _ q => q.elim)).trans hk5 (fun q hq e => by have e : q = m := e; subst e; exact hmF)⟩
  rw [hP]
  have h5 : LedAt (Grow F w w4) w5 g ⟨s.base, s.next, putE s.l k r⟩ := ⟨m, hk5.heap (hk4.heap hg id) hgm, hm5, .inl hgF, .inl hmF, hgm⟩
  exact h5.mono (fun q hq => hq.imp id (fun ⟨a, b⟩ => ⟨a, by omega⟩))
set_option maxRecDepth 20000 in
set_option maxHeartbeats 2000000 in
theorem learn_calls {G : Nat → Prop} (h : LedAt F w g s) (k : Int) (hk : (Lit.int .i64 k).wf = true) {r : Req} {v : Value} (hv : Sl .change w G v r.changes) (hl : r.changes.length ≤ 4294967296) (hF : ∀ k, F k → k < w.heap.size) :
    Calls Try.prog 13 #[.pointer (some ⟨g, 0, none⟩), .int .i64 k, reqV r v] w (LearnPost F w g s k r) := by
  obtain ⟨A, c, rfl⟩ := hv.shape
  have hkw : Keep (fun _ => False) w (w.alloc (reqC r (.slice A r.changes.length c))) := (Keep.refl _ w).alloc _
  have hkw2 : ∀ o, Keep (fun _ => False) w ((w.alloc (reqC r (.slice A r.changes.length c))).alloc o) := fun o => hkw.alloc o
  have H := hid h
  obtain ⟨m, hg, hm, hgF, hmF, hgm⟩ := h
  have hz : (zeroValue 30).run Try.prog (w.alloc (reqC r (.slice A r.changes.length c))) = .ok (reqV reqZero (.slice none 0 0)) (w.alloc (reqC r (.slice A r.changes.length c))) := by kernel_rfl
  have hml0 := (hm.keep hkw id (ReqE.keep hkw (fun _ _ => id))).lookup Try.underlying85 Try.underlying3 hk hz true
  obtain ⟨rr, u, ok, hrun, hu, hrl⟩ : ∃ rr u ok, (Instr.lookup 85 (.map (some m)) (.int .i64 k) true).run Try.prog (w.alloc (reqC r (.slice A r.changes.length c))) = .ok (.tuple #[reqV rr u, .bool ok]) (w.alloc (reqC r (.slice A r.changes.length c))) ∧
      Sl .change (w.alloc (reqC r (.slice A r.changes.length c))) F u rr.changes ∧ look s.l k = if ok then some rr else none := by
    rcases hml0 with ⟨q1, q2⟩ | ⟨a, b, q1, ⟨u, rfl, q3, q4⟩, q2⟩
    · exact ⟨reqZero, _, false, q2, ⟨none, 0, rfl, Nat.le_refl _, Nat.zero_le _, .inl rfl⟩, q1⟩
    · exact ⟨a, u, true, q2, q3.mono (fun k hk => hk.1), q1⟩
  obtain ⟨Au, cu, rfl⟩ := hu.shape
  have c1 := cell_at hg 1 (.int .i64 s.base) rfl
  have c2 := cell_at hg 2 (.int .i64 s.next) rfl
  have c3 := cell_at hg 3 (.map (some m)) rfl
  have d1 := fun o => (hkw2 o).cell c1 id
  have d2 := fun o => (hkw2 o).cell c2 id
  have d3 := fun o => (hkw2 o).cell c3 id
  have e3 := hkw.cell c3 id
  have hr := ready_calls (H.out.keep hkw (fun _ _ => id))
  have HVV := hid (fun o => hv.keep (hkw2 o) (fun _ _ => id))
  have HU := hid (fun o => hu.keep ((Keep.refl (fun _ => False) (w.alloc (reqC r (.slice A r.changes.length c)))).alloc o) (fun _ _ => id))
  have HM := hid hm
  have HG := hid hg
  have HFF := hid (And.intro hgF (And.intro hmF hgm))
  have HKW := hid hkw2
  have HRL := hid hrl
  clear hv hg hm hgF hmF hgm hu c1 c2 c3 hkw2 hml0 hz hrl
  by_cases k0 : k < 0
  · have HP := hid (show learnS s k r = (1, s) by rw [learnS, if_pos k0])
    go_enter Try.func13, Try.ntmps13
    go_wp2_with fail
    refine hr.mono ?_
    rintro e w' ⟨rfl, rfl⟩
    go_wp2_with fail
    go_ret
    exact learn_same HP.out (HKW.out _) H.out
  by_cases kb : k < s.base
  · have HP := hid (show learnS s k r = (11, s) by rw [learnS, if_neg k0, if_pos kb])
    go_enter Try.func13, Try.ntmps13
    go_wp2_with fail
    refine hr.mono ?_
    rintro e w' ⟨rfl, rfl⟩
    go_wp2_with fail
    go_ret
    exact learn_same HP.out (HKW.out _) H.out
  cases ok
  case true =>
    have HP := hid (show learnS s k r = (if rr = r then 9 else 10, s) by rw [learnS, if_neg k0, if_neg kb, HRL.out]; rfl)
    go_enter Try.func13, Try.ntmps13
    go_wp2_with fail
    refine hr.mono ?_
    rintro e w' ⟨rfl, rfl⟩
    go_wp2_with fail
    refine (sameR_calls (HU.out _) (HVV.out _)).mono ?_
    rintro e w1 ⟨rfl, hk1⟩
    by_cases hrr : rr = r
    · rw [decide_eq_true hrr]
      rw [if_pos hrr] at HP
      clear hrr
      go_wp2_with fail
      go_ret
      exact learn_same HP.out ((HKW.out _).trans hk1 (fun _ _ => id)) H.out
    · rw [decide_eq_false hrr]
      rw [if_neg hrr] at HP
      clear hrr
      go_wp2_with fail
      go_ret
      exact learn_same HP.out ((HKW.out _).trans hk1 (fun _ _ => id)) H.out
  by_cases kn : k < s.next
  · have HP := hid (show learnS s k r = (11, s) by rw [learnS, if_neg k0, if_neg kb, HRL.out]; simp only [Bool.false_eq_true, if_false]; rw [if_pos kn])
    go_enter Try.func13, Try.ntmps13
    go_wp2_with fail
    refine hr.mono ?_
    rintro e w' ⟨rfl, rfl⟩
    go_wp2_with fail
    go_ret
    exact learn_same HP.out (HKW.out _) H.out
  · have HP := hid (show learnS s k r = (0, ⟨s.base, s.next, putE s.l k r⟩) by rw [learnS, if_neg k0, if_neg kb, HRL.out]; simp only [Bool.false_eq_true, if_false]; rw [if_neg kn])
    go_enter Try.func13, Try.ntmps13
    go_wp2_with fail
    refine hr.mono ?_
    rintro e w' ⟨rfl, rfl⟩
    go_wp2_with fail
    generalize hW : (w.alloc (reqC r (.slice A r.changes.length c))).alloc (reqC rr (.slice Au rr.changes.length cu)) = W
    have hkW : Keep (fun _ => False) w W := by rw [← hW]; exact HKW.out _
    have hvv : ∀ n, Sl .change (W.drewN n) G (.slice A r.changes.length c) r.changes := fun n => by rw [← hW]; exact (HVV.out _).keep ((Keep.refl (fun _ => False) _).drewN n) (fun _ _ => id)
    have hbW : W.heap[w.heap.size]? = some (reqC r (.slice A r.changes.length c)) := by rw [← hW]; exact (Below.heap_alloc _ _ _ (by simp)).trans (heap_alloc_new w _)
    have q0 := cell_at hbW 0 (.int .i64 r.kind) rfl
    have q1 := cell_at hbW 1 (.string r.name) rfl
    have q2 := cell_at hbW 2 (.int .i64 r.session) rfl
    have q3 := cell_at hbW 3 (.int .i64 r.seq) rfl
    have q4 := cell_at hbW 4 (.int .i64 r.base) rfl
    have q5 := cell_at hbW 5 (.string r.ref) rfl
    have q6 := cell_at hbW 6 (.slice A r.changes.length c) rfl
    have q7 := cell_at hbW 7 (.string r.path) rfl
    have q8 := cell_at hbW 8 (.int .i64 r.from') rfl
    have q9 := cell_at hbW 9 (.int .i64 r.many) rfl
    have q10 := cell_at hbW 10 (.int .i64 r.member) rfl
    have D3 := hkW.cell (cell_at HG.out 3 (.map (some m)) rfl) id
    have hupd := fun w4 v4 n (h1 : Sl .change w4 (NewIn (W.drewN n) w4) v4 r.changes) (h2 : Keep (fun _ => False) (W.drewN n) w4) => learn_put HM.out HG.out HFF.out hF hkW hk hl HP.out h1 h2
    have HUPD := hid hupd
    have HKD := hid (fun w4 n (h2 : Keep (fun _ => False) (W.drewN n) w4) => h2.cell (a := ⟨g, 3, none⟩) (v := .map (some m)) D3 id)
    clear hupd hW hbW d1 d2 d3 e3 hr hrun hkw
    go_region_with (first | (go_at_call 49; refine (own_calls (hvv _) hl).mono ?_; rintro e w4 ⟨v4, rfl, hs4, hk4⟩; obtain ⟨A4, c4, rfl⟩ := hs4.shape; have D4 := HKD.out w4 _ hk4; obtain ⟨w5, hrun5, hpost⟩ := HUPD.out w4 _ _ hs4 hk4))
    all_goals
      go_wp2_with fail
      go_ret
      exact hpost
end
end Go.Proofs.Ytiomeoihekifeaa
