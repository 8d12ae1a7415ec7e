/- client: how a client lies; made, Busy, Session, with. client: what it does, as plain functions; sent, round, next, begin. client: round, next, begin. -/
import Derived.Test.YtnekfonnceknoaaMk2
import Derived.Test.YtnekfonnceknoaaMt
import Derived.Deep.RegionHeld3
import Derived.Carry
import Derived.Test.YtnekfonnceknoaaRg
import Derived.Test.YtnekfonnceknoaaCm
namespace Go.Proofs.Ytnekfonnceknoaa
open Go.RowKit
structure CS where
  id : Int
  replicas : Int
  patience : Int
  name : ByteArray
  at_ : Int
  turn : Int
  number : Int
  hinted : Bool
  session : Int
  seq : Int
  busy : Bool
  opening : Bool
  loc : Bool
  moved : Bool
  waited : Int
  wish : Req
  asked : Req
  has : Bool
  told : Req
  verdict : Verdict
def cliCs (s : CS) (vw va vt vk : Value) : List Value :=
  .int .i64 s.id :: .int .i64 s.replicas :: .int .i64 s.patience :: .string s.name :: .int .i64 s.at_ :: .int .i64 s.turn :: .int .i64 s.number :: .bool s.hinted :: .int .i64 s.session :: .int .i64 s.seq :: .bool s.busy :: .bool s.opening :: .bool s.loc :: .bool s.moved :: .int .i64 s.waited :: (reqCs s.wish vw ++ (reqCs s.asked va ++ .bool s.has :: (reqCs s.told vt ++ verdictCs s.verdict vk)))
abbrev CObj (s : CS) (vw va vt vk : Value) : Obj := .cells (cliCs s vw va vt vk).toArray 58
/-- A client in its block; what it holds lies elsewhere. -/
structure CliM (X : Nat → Prop) (w : World) (g : Nat) (s : CS) (vw va vt vk : Value) : Prop where
  obj : w.heap[g]? = some (CObj s vw va vt vk)
  hg : X g
  hX : ∀ k, X k → k < w.heap.size
  hw : Sl .change w (fun k => ¬ X k ∧ k < w.heap.size) vw s.wish.changes
  ha : Sl .change w (fun k => ¬ X k ∧ k < w.heap.size) va s.asked.changes
  ht : Sl .change w (fun k => ¬ X k ∧ k < w.heap.size) vt s.told.changes
  hv : Sl .commit w (fun k => ¬ X k ∧ k < w.heap.size) vk s.verdict.commits
  lw : s.wish.changes.length ≤ 4294967296
  la : s.asked.changes.length ≤ 4294967296
  lt : s.told.changes.length ≤ 4294967296
  hr : 0 < s.replicas
def CliAt (X : Nat → Prop) (w : World) (g : Nat) (s : CS) : Prop := ∃ vw va vt vk, CliM X w g s vw va vt vk
def withR (r : Req) (ses seq : Int) : Req := { r with session := ses, seq := seq }
section
variable {X Y : Nat → Prop} {w w' : World} {g : Nat} {s : CS} {vw va vt vk : Value} {F : Nat → Prop}
theorem slKeepX {α : Type} {r : Rep α} {v : Value} {l : List α} {S : Nat → Prop} (hS : ∀ k, S k → X k) (h : Sl r w (fun k => ¬ X k ∧ k < w.heap.size) v l) (hk : Keep S w w') : Sl r w' (fun k => ¬ X k ∧ k < w'.heap.size) v l :=
  (h.keep hk (fun k q e => q.1 (hS k e))).mono (fun _ q => ⟨q.1, Nat.lt_of_lt_of_le q.2 hk.size⟩)
theorem slKeepG {α : Type} {r : Rep α} {v : Value} {l : List α} (hg : X g) (h : Sl r w (fun k => ¬ X k ∧ k < w.heap.size) v l) (hk : Keep (fun q => q = g) w w') : Sl r w' (fun k => ¬ X k ∧ k < w'.heap.size) v l :=
  slKeepX (S := fun q => q = g) (fun k e => by subst e; exact hg) h hk
/-- The client's cells have changed, its lists have not. -/
theorem CliM.same (h : CliM X w g s vw va vt vk) (hk : Keep (fun q => q = g) w w') {s' : CS} (hobj : w'.heap[g]? = some (CObj s' vw va vt vk)) (h1 : s'.wish = s.wish) (h2 : s'.asked = s.asked) (h3 : s'.told = s.told) (h4 : s'.verdict = s.verdict) (h5 : s'.replicas = s.replicas) : CliM X w' g s' vw va vt vk :=
  ⟨hobj, h.hg, fun k q => Nat.lt_of_lt_of_le (h.hX k q) hk.size, by rw [h1]; exact slKeepG h.hg h.hw hk, by rw [h2]; exact slKeepG h.hg h.ha hk, by rw [h3]; exact slKeepG h.hg h.ht hk, by rw [h4]; exact slKeepG h.hg h.hv hk, by rw [h1]; exact h.lw, by rw [h2]; exact h.la, by rw [h3]; exact h.lt, by rw [h5]; exact h.hr⟩
/-- What is written lies outside. -/
theorem CliM.keepX {S : Nat → Prop} (h : CliM X w g s vw va vt vk) (hk : Keep S w w') (hS : ∀ k, S k → X k) (hg : ¬ S g) : CliM X w' g s vw va vt vk :=
  ⟨hk.heap h.obj hg, h.hg, fun k q => Nat.lt_of_lt_of_le (h.hX k q) hk.size, slKeepX hS h.hw hk, slKeepX hS h.ha hk, slKeepX hS h.ht hk, slKeepX hS h.hv hk, h.lw, h.la, h.lt, h.hr⟩
theorem CliM.keep (h : CliM X w g s vw va vt vk) (hk : Keep (fun _ => False) w w') : CliM X w' g s vw va vt vk := h.keepX hk (fun _ f => f.elim) id
theorem CliAt.keepX {S : Nat → Prop} (h : CliAt X w g s) (hk : Keep S w w') (hS : ∀ k, S k → X k) (hg : ¬ S g) : CliAt X w' g s := by
  obtain ⟨vw, va, vt, vk, h⟩ := h; exact ⟨vw, va, vt, vk, h.keepX hk hS hg⟩
theorem CliAt.keep (h : CliAt X w g s) (hk : Keep (fun _ => False) w w') : CliAt X w' g s := h.keepX hk (fun _ f => f.elim) id
/-- New blocks are set apart. -/
theorem CliM.wide (h : CliM X w g s vw va vt vk) (hk : Keep (fun _ => False) w w') (hXY : ∀ k, X k → Y k) (hY : ∀ k, Y k → X k ∨ (w.heap.size ≤ k ∧ k < w'.heap.size)) : CliM Y w' g s vw va vt vk := by
  have hs := hk.size
  have h1 : ∀ {α : Type} {r : Rep α} {v : Value} {l : List α}, Sl r w (fun k => ¬ X k ∧ k < w.heap.size) v l → Sl r w' (fun k => ¬ Y k ∧ k < w'.heap.size) v l := fun h => (h.keep hk (fun _ _ => id)).mono (fun q hq => ⟨fun hy => by
    rcases hY q hy with e | e
    · exact hq.1 e
    · have := hq.2; omega, by have := hq.2; omega⟩)
  exact ⟨hk.heap h.obj id, hXY _ h.hg, fun k q => by
    rcases hY k q with e | e
    · have := h.hX k e; omega
    · exact e.2, h1 h.hw, h1 h.ha, h1 h.ht, h1 h.hv, h.lw, h.la, h.lt, h.hr⟩
theorem CliAt.wide (h : CliAt X w g s) (hk : Keep (fun _ => False) w w') (hXY : ∀ k, X k → Y k) (hY : ∀ k, Y k → X k ∨ (w.heap.size ≤ k ∧ k < w'.heap.size)) : CliAt Y w' g s := by
  obtain ⟨vw, va, vt, vk, h⟩ := h; exact ⟨vw, va, vt, vk, h.wide hk hXY hY⟩
theorem CliM.less (h : CliM Y w g s vw va vt vk) (hXY : ∀ k, X k → Y k) (hg : X g) : CliM X w g s vw va vt vk := by
  have h1 : ∀ {α : Type} {r : Rep α} {v : Value} {l : List α}, Sl r w (fun k => ¬ Y k ∧ k < w.heap.size) v l → Sl r w (fun k => ¬ X k ∧ k < w.heap.size) v l := fun h => h.mono (fun q hq => ⟨fun hx => hq.1 (hXY q hx), hq.2⟩)
  exact ⟨h.obj, hg, fun k q => h.hX k (hXY k q), h1 h.hw, h1 h.ha, h1 h.ht, h1 h.hv, h.lw, h.la, h.lt, h.hr⟩
theorem CliAt.less (h : CliAt Y w g s) (hXY : ∀ k, X k → Y k) (hg : X g) : CliAt X w g s := by
  obtain ⟨vw, va, vt, vk, h⟩ := h; exact ⟨vw, va, vt, vk, h.less hXY hg⟩
set_option maxRecDepth 20000 in
theorem made_calls (h : CliM X w g s vw va vt vk) : Calls Try.prog 21 #[.pointer (some ⟨g, 0, none⟩)] w fun e w' => e = .returned (.bool true) ∧ w = w' := by
  have c1 := cell_at h.obj 1 (.int .i64 s.replicas) rfl
  have hr := h.hr
  have hd : decide (0 < s.replicas) = true := decide_eq_true hr
  clear h
  go_enter Try.func21, Try.ntmps21
  go_wp2_with fail
  go_ret
  exact ⟨rfl, rfl⟩
set_option maxRecDepth 20000 in
theorem cbusy_calls (h : CliM X w g s vw va vt vk) : Calls Try.prog 13 #[.pointer (some ⟨g, 0, none⟩)] w fun e w' => e = .returned (.bool s.busy) ∧ w = w' := by
  have c1 := cell_at h.obj 10 (.bool s.busy) rfl
  have H := hid h
  clear h
  go_enter Try.func13, Try.ntmps13
  go_wp2_with fail
  refine (made_calls H.out).mono ?_
  rintro e w' ⟨rfl, rfl⟩
  go_wp2_with fail
  go_ret
  exact ⟨rfl, rfl⟩
set_option maxRecDepth 20000 in
theorem csession_calls (h : CliM X w g s vw va vt vk) : Calls Try.prog 12 #[.pointer (some ⟨g, 0, none⟩)] w fun e w' => e = .returned (.tuple #[.int .i64 s.session, .int .i64 s.seq]) ∧ ∃ m, w' = w.drewN m := by
  have c1 := cell_at h.obj 8 (.int .i64 s.session) rfl
  have c2 := cell_at h.obj 9 (.int .i64 s.seq) rfl
  have H := hid h
  clear h
  go_enter Try.func12, Try.ntmps12
  go_wp2_with fail
  refine (made_calls H.out).mono ?_
  rintro e w' ⟨rfl, rfl⟩
  go_wp2_with fail
  go_quiet (fail)
  go_wp2_with fail
  go_ret2
  exact ⟨rfl, _, rfl⟩
set_option maxRecDepth 20000 in
set_option maxHeartbeats 4000000 in
theorem with_calls {r : Req} {v : Value} (hv : Sl .change w F v r.changes) (hl : r.changes.length ≤ 4294967296) (ses seq : Int) :
    Calls Try.prog 23 #[reqV r v, .int .i64 ses, .int .i64 seq] w fun e w' => ∃ A c, e = .returned (reqV (withR r ses seq) (.slice A r.changes.length c)) ∧ Sl .change w' (NewIn w w') (.slice A r.changes.length c) r.changes ∧ Keep (fun _ => False) w w' := by
  obtain ⟨A, c, rfl⟩ := hv.shape
  obtain ⟨n, hn⟩ : ∃ n, n = r.changes.length := ⟨_, rfl⟩
  rw [← hn] at hv ⊢
  have HV := hid hv; have HL := hid hl; have HN := hid hn
  clear hv hl hn
  go_enter Try.func23, Try.ntmps23
  go_wp2_with (first
    | (refine wpl_boxB (v := .agg (reqCs r (.slice A n c)).toArray) rfl rfl rfl ?_; intro g1 w1 hg1 hb1 k1 s1; have HG1 := hid hg1; have HS1 := hid s1; have K1 := hid k1; clear hg1 s1 k1)
    | (refine wpl_allocB (ty := 29) rfl rfl (z := .agg (reqCs reqZ' (.slice none 0 0)).toArray) (by kernel_rfl) ?_; intro g2 w2 hg2 hb2 k2 s2; have HG2 := hid hg2; have HS2 := hid s2; have hb12 := k2.heap hb1 id; have K2 := hid (K1.out.trans k2 (fun _ _ f => f)); clear hg2 s2 k2)
    | (refine wpl_loadA (ty := 29) (o := 0) (n := 11) rfl rfl rfl hb12 (by kernel_rfl) (by kernel_rfl) (reqCs r (.slice A n c)) rfl rfl ?_))
  have hoc := own_calls (r := r) (v := .slice A n c) (by exact HV.out.keep K2.out (fun _ _ => id)) HL.out
  have HOC := hid hoc
  clear hoc
  refine HOC.out.mono ?_
  rintro e w3 ⟨v3, rfl, hs3, k3⟩
  obtain ⟨A3, c3, rfl⟩ := hs3.shape
  rw [← HN.out] at hs3 ⊢
  have hb13 := k3.heap hb12 id
  have hb23 := k3.heap hb2 id
  have HS3 := hid hs3; have K3 := hid (K2.out.trans k3 (fun _ _ f => f)); have HZ3 := hid k3.size
  have HNE := hid (show g2 ≠ g1 by have := HG2.out; have := HS1.out; omega)
  clear hs3 k3 hb1 hb12 hb2 HOC
  go_wp2_with (first
    | (refine wpl_storeB (v := .agg (reqCs r (.slice A3 n c3)).toArray) (o := 0) (b := g1) rfl rfl rfl rfl hb13 (by kernel_rfl) (of_decide_eq_true (by kernel_rfl)) (by simp [reqCs, Value.oneCell', Value.cells]) ?_; intro w4 hb14 k4 s4; have hb24 := k4.heap hb23 HNE.out; have K4 := hid k4; have HS4 := hid s4; clear s4 k4)
    | (refine wpl_storeB (v := .int .i64 ses) (o := 2) (b := g1) rfl rfl rfl rfl hb14 (by kernel_rfl) (of_decide_eq_true (by kernel_rfl)) (by simp [Value.oneCell', Value.cells]) ?_; intro w5 hb15 k5 s5; have hb25 := k5.heap hb24 HNE.out; have K5 := hid (K4.out.trans k5 (fun _ _ q => q)); have HS5 := hid s5; clear s5 k5)
    | (refine wpl_storeB (v := .int .i64 seq) (o := 3) (b := g1) rfl rfl rfl rfl hb15 (by kernel_rfl) (of_decide_eq_true (by kernel_rfl)) (by simp [Value.oneCell', Value.cells]) ?_; intro w6 hb16 k6 s6; have hb26 := k6.heap hb25 HNE.out; have K6 := hid (K5.out.trans k6 (fun _ _ q => q)); have HS6 := hid s6; clear s6 k6)
    | (refine wpl_loadA (ty := 29) (o := 0) (n := 11) rfl rfl rfl hb16 (by kernel_rfl) (by kernel_rfl) (reqCs (withR r ses seq) (.slice A3 n c3)) rfl rfl ?_)
    | (refine wpl_storeB (v := .agg (reqCs (withR r ses seq) (.slice A3 n c3)).toArray) (o := 0) (b := g2) rfl rfl rfl rfl hb26 (by kernel_rfl) (of_decide_eq_true (by kernel_rfl)) (by simp [reqCs, Value.oneCell', Value.cells]) ?_; intro w7 hb7 k7 s7; have K7 := hid k7; clear s7 k7; replace hb7 : w7.heap[g2]? = some (.cells (reqCs (withR r ses seq) (.slice A3 n c3)).toArray 29) := hb7))
  refine bodyPost_ret (res_cell (g := g2) (cs := (reqCs (withR r ses seq) (.slice A3 n c3)).toArray) Try.results23 _ rfl hb7 (by kernel_rfl) (by kernel_rfl)) rfl ?_
  have h1 := HG1.out
  have h2 := HG2.out
  have h3 := HS1.out
  have h4 := HS2.out
  have h5 := HZ3.out
  have kk : Keep (fun q => q = g1 ∨ q = g2) w3 w7 := (K6.out.mono (fun _ _ q => .inl q)).trans K7.out (fun _ _ q => .inr q)
  have hz := kk.size
  refine ⟨A3, c3, rfl, ((HS3.out.keep kk (fun q hq e => ?_)).mono (fun q hq => ⟨?_, ?_⟩)), K3.out.trans kk (fun b hb e => ?_)⟩
  · have := hq.1; have := K2.out.size; omega
  · have := hq.1; have := K2.out.size; omega
  · have := hq.2; omega
  · omega
end
end Go.Proofs.Ytnekfonnceknoaa
namespace Go.Proofs.Ytnekfonnceknoaa
open Go.RowKit Go.Lib
theorem yieldsIf_build {P : Program} {ops : Array Oper} {S : World → Prop} {o : Oper} {a : Act} {ty : TypeId} {parts : Array (Nat × Operand)} (hw : Region.wanted o (yielded ops a.tmps) = true) (ho : o.op = .build ty parts) (cells : Array Value)
    (hc : P.built ty (parts.map fun (i, x) => (i, a.eval x)).toList = some cells) : YieldsIf P ops S o (.agg cells) a := .inl ⟨hw, fun w _ => by
  unfold execOp
  simp only [ho, Sem.run_bind, run_build w ty _ cells hc, Result.andThen_ok]
  rfl⟩
def vdZ' : Verdict := ⟨0, 0, 0, ByteArray.empty, 0, [], 0⟩
/-- What is sent. -/
def sentM (s : CS) : Msg := ⟨if s.loc then 12 else 11, 100 + s.id, s.at_, 0, 0, 0, s.asked, [], [], s.number, vdZ'⟩
def sentS (s : CS) : CS := { s with waited := 0, moved := false }
def nextS (s : CS) : CS := { s with turn := (s.turn + 1).tmod s.replicas, at_ := (s.turn + 1).tmod s.replicas, hinted := false }
def beginS (s : CS) (r : Req) (b : Bool) : CS := { s with busy := true, loc := b, wish := withR r 0 0, number := s.number + 1 }
/-- The numbers of a client; N: how far it has counted at most. -/
structure CInv (N : Int) (s : CS) : Prop where
  id : 0 ≤ s.id ∧ s.id < 100
  rep : 1 ≤ s.replicas ∧ s.replicas ≤ 15
  pat : 1 ≤ s.patience ∧ s.patience ≤ 1048576
  turn : 0 ≤ s.turn ∧ s.turn < s.replicas
  at_ : 0 ≤ s.at_ ∧ s.at_ < s.replicas
  num : 0 ≤ s.number ∧ s.number ≤ N
  seq : 0 ≤ s.seq ∧ s.seq ≤ N
  ses : okI s.session
  wait : 0 ≤ s.waited ∧ s.waited ≤ s.patience
  wish : s.wish.Ok
  asked : s.asked.Ok
  told : s.told.Ok
  verdict : s.verdict.Ok
theorem ok_small {n : Int} (h : -1000000000 ≤ n ∧ n ≤ 1000000000) : okI n := ⟨by omega, by omega⟩
theorem ok0 : okI 0 := ok_small (by omega)
theorem CInv.sentOk {N : Int} {s : CS} (h : CInv N s) (hN : N ≤ 1000000) : (sentM s).Ok :=
  ⟨by unfold sentM; simp only; split <;> exact ok_small (by omega), ok_small (by have := h.id; simp only [sentM]; omega), ok_small (by have := h.at_; have := h.rep; simp only [sentM]; omega), ok0, ok0, ok0, h.asked, ok_small (by have := h.num; simp only [sentM]; omega), ⟨ok0, ok0, ok0, Nat.zero_le _, ok0⟩⟩
theorem withR_ok {r : Req} {a b : Int} (h : r.Ok) (ha : okI a) (hb : okI b) : (withR r a b).Ok := ⟨h.kind, ha, hb, h.base, h.from', h.many, h.member⟩
theorem CInv.sent {N : Int} {s : CS} (h : CInv N s) : CInv N (sentS s) := { h with wait := ⟨by simp only [sentS]; omega, by have := h.pat; simp only [sentS]; omega⟩ }
theorem CInv.next {N : Int} {s : CS} (h : CInv N s) : CInv N (nextS s) := by
  have h1 := h.turn; have h2 := h.rep
  have h3 := Int.tmod_lt_of_pos (s.turn + 1) (show 0 < s.replicas by omega)
  have h4 := Int.tmod_nonneg s.replicas (show 0 ≤ s.turn + 1 by omega)
  exact { h with turn := ⟨h4, h3⟩, at_ := ⟨h4, h3⟩ }
theorem CInv.begin {N : Int} {s : CS} {r : Req} {b : Bool} (h : CInv N s) (hr : r.Ok) : CInv (N + 1) (beginS s r b) :=
  { h with num := ⟨by have := h.num; simp only [beginS]; omega, by have := h.num; simp only [beginS]; omega⟩, seq := ⟨h.seq.1, by have := h.seq; simp only [beginS]; omega⟩, wish := withR_ok hr ok0 ok0 }
theorem CInv.more {N M : Int} {s : CS} (h : CInv N s) (hNM : N ≤ M) : CInv M s := { h with num := ⟨h.num.1, by have := h.num; omega⟩, seq := ⟨h.seq.1, by have := h.seq; omega⟩ }
/-- An answer: a message and whether there is one; what it holds lies apart from the client. -/
def Ans (X : Nat → Prop) (w : World) (g : Nat) (s : CS) (o : Option Msg) (e : Ending) (w' : World) : Prop :=
  ∃ cs, e = .returned (.tuple #[.agg cs.toArray, .bool o.isSome]) ∧ Rep.msg.cells w' (fun k => ¬ X k ∧ k < w'.heap.size) (o.getD msgZ) cs ∧ CliAt X w' g s ∧ Keep (fun q => q = g) w w'
section
variable {X Y : Nat → Prop} {w w' : World} {g : Nat} {s : CS} {vw va vt vk : Value} {F : Nat → Prop} {N : Int}
set_option maxRecDepth 20000 in
set_option maxHeartbeats 8000000 in
theorem sent_calls (h : CliM X w g s vw va vt vk) (hI : CInv N s) (hN : N ≤ 1000000) : Calls Try.prog 25 #[.pointer (some ⟨g, 0, none⟩)] w (Ans X w g (sentS s) (some (sentM s))) := by
  have hgl := lt_heap h.obj
  obtain ⟨A, c, hva⟩ := h.ha.shape
  subst hva
  obtain ⟨n, hn⟩ : ∃ n, n = s.asked.changes.length := ⟨_, rfl⟩
  rw [← hn] at h
  have H := hid h; have HGL := hid hgl; have HN := hid hn; have HOK := hid (hI.sentOk hN)
  have hid1 := hI.id.1
  have hid2 := hI.id.2
  have hw0 : IntKind.i64.wrap (100 + s.id) = 100 + s.id := by simp [IntKind.wrap, IntKind.signed, IntKind.bits]; omega
  have EO := hid (enters_of Try.func32 (by kernel_rfl) rfl)
  have hb := h.obj
  clear h hgl hn hI hN
  go_enter Try.func25, Try.ntmps25
  go_upto_region 2 with (first
    | (refine wpl_allocB (ty := 37) rfl rfl (z := zM) (by kernel_rfl) ?_; intro gm w1 hgm hbm k1 s1; have HGM := hid hgm; have hb1 := k1.heap hb id; have HS1 := hid s1; have K1 := hid k1; have HNE := hid (show g ≠ gm by have := HGL.out; have := HGM.out; omega); clear hgm s1 k1)
    | (refine wpl_storeB (v := .int .i64 0) (o := 14) (b := g) rfl rfl rfl rfl hb1 (by kernel_rfl) (of_decide_eq_true (by kernel_rfl)) (by simp [Value.oneCell', Value.cells]) ?_; intro w2 hb2 k2 s2; have hbm2 := k2.heap hbm (fun q => HNE.out q.symm); have K2 := hid k2; have HS2 := hid s2; clear s2 k2)
    | (refine wpl_storeB (v := .bool false) (o := 13) (b := g) rfl rfl rfl rfl hb2 (by kernel_rfl) (of_decide_eq_true (by kernel_rfl)) (by simp [Value.oneCell', Value.cells]) ?_; intro w3 hb3 k3 s3; have hbm3 := k3.heap hbm2 (fun q => HNE.out q.symm); have K3 := hid (K2.out.trans k3 (fun _ _ q => q)); have HS3 := hid s3; clear s3 k3; replace hb3 : w3.heap[g]? = some (CObj (sentS s) vw (.slice A n c) vt vk) := hb3; replace hbm3 : w3.heap[gm]? = some (.cells zM.cells 37) := hbm3))
  have q12 := cell_at hb3 12 (.bool s.loc) rfl
  have K13 := hid ((K1.out.mono (T := fun q => q = g) (fun _ _ f => f.elim)).trans K3.out (fun _ _ q => q))
  have HM := hid ((H.out.same K13.out hb3 rfl rfl rfl rfl rfl : CliM X w3 g (sentS s) vw (.slice A n c) vt vk))
  have kd : Keep (fun _ => False) w3 w3.drew := (Keep.refl _ _).drew
  have HB30 := hid hb3; have HB3 := hid (kd.heap hb3 id); have HBM := hid (kd.heap hbm3 id); have HMD := hid (HM.out.keep kd)
  have HOWN := hid ((own_calls (r := s.asked) (v := .slice A n c) HMD.out.ha HMD.out.la).mono (R' := fun e w' => ∃ u, e = .returned u ∧ ∃ A3 c3, u = reqV s.asked (.slice A3 n c3) ∧ Sl .change w' (NewIn w3.drew w') (.slice A3 n c3) s.asked.changes ∧ Keep (fun _ => False) w3.drew w') (fun e w' ⟨v', h1, h2, h3⟩ => by
    obtain ⟨A3, c3, rfl⟩ := h2.shape
    rw [← HN.out] at h1 h2
    exact ⟨_, h1, A3, c3, rfl, h2, h3⟩))
  have hS : Keep (fun q => q = gm) w3.drew w3.drew := Keep.refl _ _
  clear hb hb1 hb2 hbm hbm2 hb3 hbm3 kd
  cases hl : s.loc
  case false =>
    rw [hl] at q12
    have HLC := hid (show sentM s = ⟨11, 100 + s.id, s.at_, 0, 0, 0, s.asked, [], [], s.number, vdZ'⟩ from by rw [sentM, hl]; rfl)
    clear hl
    go_wp2_with fail
    refine wp_region_X (fun y => Keep (fun q => q = gm) w3.drew y) [] (by kernel_rfl) hS (fun _ => ?_)
    refine wpAnyX_take (i := 0) [19, 20, 21] (some 15) (v := ?_) rfl (by rfl) (by kernel_rfl) (by kernel_rfl) (by kernel_rfl) (by kernel_rfl) (fun _ _ _ h => h) (Or.inl ⟨by rfl, ?_⟩) hS ?_
    rotate_left
    focus (intro w' hSw; (try dsimp only at hSw); go_simp; try with_reducible rfl)
    simp only [Act.put, List.setIfInBounds_toArray, List.set_cons_zero, List.set_cons_succ]
    refine wpAnyX_take (i := 1) [2, 3, 4, 5, 19, 20, 21] (some 16) (v := ?_) rfl (by rfl) (by kernel_rfl) (by kernel_rfl) (by kernel_rfl) (by kernel_rfl) (fun _ _ _ h => h) (Or.inl ⟨by rfl, ?_⟩) hS ?_
    rotate_left
    focus (intro w' hSw; (try dsimp only at hSw); go_simp; try with_reducible rfl)
    simp only [Act.put, List.setIfInBounds_toArray, List.set_cons_zero, List.set_cons_succ]
    refine wpAnyX_take (i := 2) [3, 4, 5, 19, 20, 21] (some 17) (v := ?_) rfl (by rfl) (by kernel_rfl) (by kernel_rfl) (by kernel_rfl) (by kernel_rfl) (fun _ _ _ h => h) (Or.inl ⟨by rfl, ?_⟩) hS ?_
    rotate_left
    focus (intro w' hSw; (try dsimp only at hSw); go_simp; try with_reducible rfl)
    simp only [Act.put, List.setIfInBounds_toArray, List.set_cons_zero, List.set_cons_succ]
    refine wpAnyX_take (i := 3) [4, 5, 19, 20, 21] (some 18) (v := ?_) rfl (by rfl) (by kernel_rfl) (by kernel_rfl) (by kernel_rfl) (by kernel_rfl) (fun _ _ _ h => h) (Or.inl ⟨by rfl, ?_⟩) hS ?_
    rotate_left
    focus (intro w' hSw; (try dsimp only at hSw); go_simp; try with_reducible rfl)
    simp only [Act.put, List.setIfInBounds_toArray, List.set_cons_zero, List.set_cons_succ]
    refine wpAnyX_take (i := 4) [5, 19, 20, 21] (some 19) (v := _) rfl (by rfl) (by kernel_rfl) (by kernel_rfl) (by kernel_rfl) (by kernel_rfl) (fun _ _ _ h => h) (yieldsIf_cell (v := .int .i64 s.id) (by rfl) rfl (by rfl) (by kernel_rfl) (fun y hy => cell_at (hy.heap HB3.out (fun e => HNE.out e)) 0 _ rfl)) hS ?_
    simp only [Act.put, List.setIfInBounds_toArray, List.set_cons_zero, List.set_cons_succ]
    refine wpAnyX_take (i := 5) [19, 20, 21] (some 20) (v := ?_) rfl (by rfl) (by kernel_rfl) (by kernel_rfl) (by kernel_rfl) (by kernel_rfl) (fun _ _ _ h => h) (Or.inl ⟨by rfl, ?_⟩) hS ?_
    rotate_left
    focus (intro w' hSw; (try dsimp only at hSw); go_simp; try with_reducible rfl)
    simp only [Act.put, List.setIfInBounds_toArray, List.set_cons_zero, List.set_cons_succ]
    refine wpAnyX_take (i := 6) [7, 8, 9, 19, 20, 21] (some 21) (v := ?_) rfl (by rfl) (by kernel_rfl) (by kernel_rfl) (by kernel_rfl) (by kernel_rfl) (fun _ _ _ h => h) (Or.inl ⟨by rfl, ?_⟩) hS ?_
    rotate_left
    focus (intro w' hSw; (try dsimp only at hSw); go_simp; try with_reducible rfl)
    simp only [Act.put, List.setIfInBounds_toArray, List.set_cons_zero, List.set_cons_succ]
    refine wpAnyX_take (i := 7) [8, 9, 19, 20, 21] (some 22) (v := ?_) rfl (by rfl) (by kernel_rfl) (by kernel_rfl) (by kernel_rfl) (by kernel_rfl) (fun _ _ _ h => h) (Or.inl ⟨by rfl, ?_⟩) hS ?_
    rotate_left
    focus (intro w' hSw; (try dsimp only at hSw); go_simp; try with_reducible rfl)
    simp only [Act.put, List.setIfInBounds_toArray, List.set_cons_zero, List.set_cons_succ]
    refine wpAnyX_take (i := 8) [9, 19, 20, 21] (some 23) (v := ?_) rfl (by rfl) (by kernel_rfl) (by kernel_rfl) (by kernel_rfl) (by kernel_rfl) (fun _ _ _ h => h) (Or.inl ⟨by rfl, ?_⟩) hS ?_
    rotate_left
    focus (intro w' hSw; (try dsimp only at hSw); go_simp; try with_reducible rfl)
    simp only [Act.put, List.setIfInBounds_toArray, List.set_cons_zero, List.set_cons_succ]
    refine wpAnyX_take (i := 9) [19, 20, 21] (some 24) (v := _) rfl (by rfl) (by kernel_rfl) (by kernel_rfl) (by kernel_rfl) (by kernel_rfl) (fun _ _ _ h => h) (yieldsIf_cell (v := .int .i64 s.at_) (by rfl) rfl (by rfl) (by kernel_rfl) (fun y hy => cell_at (hy.heap HB3.out (fun e => HNE.out e)) 4 _ rfl)) hS ?_
    simp only [Act.put, List.setIfInBounds_toArray, List.set_cons_zero, List.set_cons_succ]
    refine wpAnyX_take (i := 10) [11, 12, 13, 19, 20, 21] (some 25) (v := ?_) rfl (by rfl) (by kernel_rfl) (by kernel_rfl) (by kernel_rfl) (by kernel_rfl) (fun _ _ _ h => h) (Or.inl ⟨by rfl, ?_⟩) hS ?_
    rotate_left
    focus (intro w' hSw; (try dsimp only at hSw); go_simp; try with_reducible rfl)
    simp only [Act.put, List.setIfInBounds_toArray, List.set_cons_zero, List.set_cons_succ]
    refine wpAnyX_take (i := 11) [12, 13, 19, 20, 21] (some 26) (v := ?_) rfl (by rfl) (by kernel_rfl) (by kernel_rfl) (by kernel_rfl) (by kernel_rfl) (fun _ _ _ h => h) (Or.inl ⟨by rfl, ?_⟩) hS ?_
    rotate_left
    focus (intro w' hSw; (try dsimp only at hSw); go_simp; try with_reducible rfl)
    simp only [Act.put, List.setIfInBounds_toArray, List.set_cons_zero, List.set_cons_succ]
    refine wpAnyX_take (i := 12) [13, 19, 20, 21] (some 27) (v := ?_) rfl (by rfl) (by kernel_rfl) (by kernel_rfl) (by kernel_rfl) (by kernel_rfl) (fun _ _ _ h => h) (Or.inl ⟨by rfl, ?_⟩) hS ?_
    rotate_left
    focus (intro w' hSw; (try dsimp only at hSw); go_simp; try with_reducible rfl)
    simp only [Act.put, List.setIfInBounds_toArray, List.set_cons_zero, List.set_cons_succ]
    refine wpAnyX_take (i := 13) [19, 20, 21] (some 28) (v := _) rfl (by rfl) (by kernel_rfl) (by kernel_rfl) (by kernel_rfl) (by kernel_rfl) (fun _ _ _ h => h) (yieldsIf_cell (v := .int .i64 s.number) (by rfl) rfl (by rfl) (by kernel_rfl) (fun y hy => cell_at (hy.heap HB3.out (fun e => HNE.out e)) 6 _ rfl)) hS ?_
    simp only [Act.put, List.setIfInBounds_toArray, List.set_cons_zero, List.set_cons_succ]
    refine wpAnyX_take (i := 14) [15, 16, 17, 18, 19, 20, 21] (some 29) (v := ?_) rfl (by rfl) (by kernel_rfl) (by kernel_rfl) (by kernel_rfl) (by kernel_rfl) (fun _ _ _ h => h) (Or.inl ⟨by rfl, ?_⟩) hS ?_
    rotate_left
    focus (intro w' hSw; (try dsimp only at hSw); go_simp; try with_reducible rfl)
    simp only [Act.put, List.setIfInBounds_toArray, List.set_cons_zero, List.set_cons_succ]
    refine wpAnyX_take (i := 15) [16, 17, 18, 19, 20, 21] (some 30) (v := ?_) rfl (by rfl) (by kernel_rfl) (by kernel_rfl) (by kernel_rfl) (by kernel_rfl) (fun _ _ _ h => h) (Or.inl ⟨by rfl, ?_⟩) hS ?_
    rotate_left
    focus (intro w' hSw; (try dsimp only at hSw); go_simp; try with_reducible rfl)
    simp only [Act.put, List.setIfInBounds_toArray, List.set_cons_zero, List.set_cons_succ]
    refine wpAnyX_take (i := 16) [17, 18, 19, 20, 21] (some 31) (v := ?_) rfl (by rfl) (by kernel_rfl) (by kernel_rfl) (by kernel_rfl) (by kernel_rfl) (fun _ _ _ h => h) (Or.inl ⟨by rfl, ?_⟩) hS ?_
    rotate_left
    focus (intro w' hSw; (try dsimp only at hSw); go_simp; try with_reducible rfl)
    simp only [Act.put, List.setIfInBounds_toArray, List.set_cons_zero, List.set_cons_succ]
    refine wpAnyX_take (i := 17) [18, 19, 20, 21] (some 32) (v := _) rfl (by rfl) (by kernel_rfl) (by kernel_rfl) (by kernel_rfl) (by kernel_rfl) (fun _ _ _ h => h) (yieldsIf_row (n := 11) (vs := reqCs s.asked (.slice A n c)) (by rfl) rfl (by rfl) (by kernel_rfl) (by kernel_rfl) rfl (fun y hy => range_of (n := 11) (hy.heap HB3.out (fun e => HNE.out e)) _ rfl)) hS ?_
    simp only [Act.put, List.setIfInBounds_toArray, List.set_cons_zero, List.set_cons_succ]
    refine wpAnyX_one (i := 18) (by kernel_rfl) rfl (fun K hK => ?_)
    refine step_call (some 33) (by rfl) (by rfl) rfl EO.out (by rfl) HOWN.out ?_
    rintro u w4 ⟨A3, c3, rfl, hs4, k4⟩
    have HS4 := hid hs4; have K4 := hid k4
    have hS4 : Keep (fun q => q = gm) w3.drew w4 := k4.mono (fun _ _ f => f.elim)
    clear hs4 k4
    refine hK _ _ (hS4) ?_
    clear hK K
    simp only [Act.put, List.setIfInBounds_toArray, List.set_cons_zero, List.set_cons_succ]
    refine wpAnyX_take (i := 19) [20, 21] (some 34) (v := _) rfl (by rfl) (by kernel_rfl) (by kernel_rfl) (by kernel_rfl) (by kernel_rfl) (fun _ _ _ h => h) (yieldsIf_build (by rfl) rfl (msgCs ⟨11, 100 + s.id, s.at_, 0, 0, 0, s.asked, [], [], s.number, vdZ'⟩ (.slice A3 n c3) nilV nilV nilV).toArray (by kernel_rfl)) hS4 ?_
    simp only [Act.put, List.setIfInBounds_toArray, List.set_cons_zero, List.set_cons_succ]
    refine wpAnyX_one (i := 20) (by kernel_rfl) rfl (fun K hK => ?_)
    have hbm4 := K4.out.heap HBM.out id
    refine step_store (none) (by rfl) (v := .agg (msgCs ⟨11, 100 + s.id, s.at_, 0, 0, 0, s.asked, [], [], s.number, vdZ'⟩ (.slice A3 n c3) nilV nilV nilV).toArray) (by rfl) rfl (by rfl) (by rfl) hbm4 (by kernel_rfl) (of_decide_eq_true (by kernel_rfl)) (by simp [msgCs, reqCs, verdictCs, nilV, Value.oneCell', Value.cells]) ?_
    intro w5 hb5 k5 s5
    have K5 := hid k5; have HB5 := hid hb5
    have hS5 : Keep (fun q => q = gm) w3.drew w5 := hS4.trans k5 (fun _ _ e => e)
    clear hb5 k5 s5
    refine hK _ _ (hS5) ?_
    clear hK K
    simp only [Act.put]
    refine wpAnyX_take (i := 21) [] (some 3) (v := ?_) rfl (by rfl) (by kernel_rfl) (by kernel_rfl) (by kernel_rfl) (by kernel_rfl) (fun _ _ _ h => h) (Or.inl ⟨by rfl, ?_⟩) hS5 ?_
    rotate_left
    focus (intro w' hSw; (try dsimp only at hSw); go_simp; try with_reducible rfl)
    simp only [Act.put, List.setIfInBounds_toArray, List.set_cons_zero, List.set_cons_succ]
    refine wpAnyX_done (by kernel_rfl) ?_ _
    go_wp2_with fail
    refine bodyPost_ret (res_cell_tmp (g := gm) (cs := (msgCs ⟨11, 100 + s.id, s.at_, 0, 0, 0, s.asked, [], [], s.number, vdZ'⟩ (.slice A3 n c3) nilV nilV nilV).toArray) (v := .bool true) Try.results25 _ rfl rfl HB5.out (by kernel_rfl) (by kernel_rfl)) rfl ?_
    have e1 := HGM.out; have e2 := HGL.out
    have z13 := K13.out.size; have z4 := K4.out.size; have z5 := K5.out.size
    have zd : w3.drew.heap.size = w3.heap.size := rfl
    have z1 := K1.out.size; have z3 := K3.out.size
    have hgm1 := HS1.out
    have k35 : Keep (fun q => q = gm) w3 w5 := ((Keep.refl (fun _ => False) w3).drew.mono (fun _ _ f => f.elim)).trans hS5 (fun _ _ e => e)
    refine ⟨_, rfl, ?_, ?_, K13.out.trans k35 (fun b hb e => by omega)⟩
    · show Rep.msg.cells w5 _ (sentM s) _
      have hok := HOK.out
      rw [HLC.out] at hok ⊢
      refine msg_mk ((HS4.out.keep K5.out (fun q hq e => by have := hq.1; omega)).mono (fun q hq => ⟨fun hx => by have := hq.1; have := H.out.hX q hx; omega, by have := hq.2; omega⟩) |> fun x => x) (nilSl _ _ _) (nilSl _ _ _) (nilSl _ _ _) hok
    · exact ⟨vw, .slice A n c, vt, vk, H.out.same (K13.out.trans k35 (fun b hb e => by omega)) (k35.heap HB30.out HNE.out) rfl rfl rfl rfl rfl⟩
  case true =>
    rw [hl] at q12
    have HLC := hid (show sentM s = ⟨12, 100 + s.id, s.at_, 0, 0, 0, s.asked, [], [], s.number, vdZ'⟩ from by rw [sentM, hl]; rfl)
    clear hl
    go_wp2_with fail
    refine wp_region_X (fun y => Keep (fun q => q = gm) w3.drew y) [] (by kernel_rfl) hS (fun _ => ?_)
    refine wpAnyX_take (i := 0) [19, 20, 21] (some 15) (v := ?_) rfl (by rfl) (by kernel_rfl) (by kernel_rfl) (by kernel_rfl) (by kernel_rfl) (fun _ _ _ h => h) (Or.inl ⟨by rfl, ?_⟩) hS ?_
    rotate_left
    focus (intro w' hSw; (try dsimp only at hSw); go_simp; try with_reducible rfl)
    simp only [Act.put, List.setIfInBounds_toArray, List.set_cons_zero, List.set_cons_succ]
    refine wpAnyX_take (i := 1) [2, 3, 4, 5, 19, 20, 21] (some 16) (v := ?_) rfl (by rfl) (by kernel_rfl) (by kernel_rfl) (by kernel_rfl) (by kernel_rfl) (fun _ _ _ h => h) (Or.inl ⟨by rfl, ?_⟩) hS ?_
    rotate_left
    focus (intro w' hSw; (try dsimp only at hSw); go_simp; try with_reducible rfl)
    simp only [Act.put, List.setIfInBounds_toArray, List.set_cons_zero, List.set_cons_succ]
    refine wpAnyX_take (i := 2) [3, 4, 5, 19, 20, 21] (some 17) (v := ?_) rfl (by rfl) (by kernel_rfl) (by kernel_rfl) (by kernel_rfl) (by kernel_rfl) (fun _ _ _ h => h) (Or.inl ⟨by rfl, ?_⟩) hS ?_
    rotate_left
    focus (intro w' hSw; (try dsimp only at hSw); go_simp; try with_reducible rfl)
    simp only [Act.put, List.setIfInBounds_toArray, List.set_cons_zero, List.set_cons_succ]
    refine wpAnyX_take (i := 3) [4, 5, 19, 20, 21] (some 18) (v := ?_) rfl (by rfl) (by kernel_rfl) (by kernel_rfl) (by kernel_rfl) (by kernel_rfl) (fun _ _ _ h => h) (Or.inl ⟨by rfl, ?_⟩) hS ?_
    rotate_left
    focus (intro w' hSw; (try dsimp only at hSw); go_simp; try with_reducible rfl)
    simp only [Act.put, List.setIfInBounds_toArray, List.set_cons_zero, List.set_cons_succ]
    refine wpAnyX_take (i := 4) [5, 19, 20, 21] (some 19) (v := _) rfl (by rfl) (by kernel_rfl) (by kernel_rfl) (by kernel_rfl) (by kernel_rfl) (fun _ _ _ h => h) (yieldsIf_cell (v := .int .i64 s.id) (by rfl) rfl (by rfl) (by kernel_rfl) (fun y hy => cell_at (hy.heap HB3.out (fun e => HNE.out e)) 0 _ rfl)) hS ?_
    simp only [Act.put, List.setIfInBounds_toArray, List.set_cons_zero, List.set_cons_succ]
    refine wpAnyX_take (i := 5) [19, 20, 21] (some 20) (v := ?_) rfl (by rfl) (by kernel_rfl) (by kernel_rfl) (by kernel_rfl) (by kernel_rfl) (fun _ _ _ h => h) (Or.inl ⟨by rfl, ?_⟩) hS ?_
    rotate_left
    focus (intro w' hSw; (try dsimp only at hSw); go_simp; try with_reducible rfl)
    simp only [Act.put, List.setIfInBounds_toArray, List.set_cons_zero, List.set_cons_succ]
    refine wpAnyX_take (i := 6) [7, 8, 9, 19, 20, 21] (some 21) (v := ?_) rfl (by rfl) (by kernel_rfl) (by kernel_rfl) (by kernel_rfl) (by kernel_rfl) (fun _ _ _ h => h) (Or.inl ⟨by rfl, ?_⟩) hS ?_
    rotate_left
    focus (intro w' hSw; (try dsimp only at hSw); go_simp; try with_reducible rfl)
    simp only [Act.put, List.setIfInBounds_toArray, List.set_cons_zero, List.set_cons_succ]
    refine wpAnyX_take (i := 7) [8, 9, 19, 20, 21] (some 22) (v := ?_) rfl (by rfl) (by kernel_rfl) (by kernel_rfl) (by kernel_rfl) (by kernel_rfl) (fun _ _ _ h => h) (Or.inl ⟨by rfl, ?_⟩) hS ?_
    rotate_left
    focus (intro w' hSw; (try dsimp only at hSw); go_simp; try with_reducible rfl)
    simp only [Act.put, List.setIfInBounds_toArray, List.set_cons_zero, List.set_cons_succ]
    refine wpAnyX_take (i := 8) [9, 19, 20, 21] (some 23) (v := ?_) rfl (by rfl) (by kernel_rfl) (by kernel_rfl) (by kernel_rfl) (by kernel_rfl) (fun _ _ _ h => h) (Or.inl ⟨by rfl, ?_⟩) hS ?_
    rotate_left
    focus (intro w' hSw; (try dsimp only at hSw); go_simp; try with_reducible rfl)
    simp only [Act.put, List.setIfInBounds_toArray, List.set_cons_zero, List.set_cons_succ]
    refine wpAnyX_take (i := 9) [19, 20, 21] (some 24) (v := _) rfl (by rfl) (by kernel_rfl) (by kernel_rfl) (by kernel_rfl) (by kernel_rfl) (fun _ _ _ h => h) (yieldsIf_cell (v := .int .i64 s.at_) (by rfl) rfl (by rfl) (by kernel_rfl) (fun y hy => cell_at (hy.heap HB3.out (fun e => HNE.out e)) 4 _ rfl)) hS ?_
    simp only [Act.put, List.setIfInBounds_toArray, List.set_cons_zero, List.set_cons_succ]
    refine wpAnyX_take (i := 10) [11, 12, 13, 19, 20, 21] (some 25) (v := ?_) rfl (by rfl) (by kernel_rfl) (by kernel_rfl) (by kernel_rfl) (by kernel_rfl) (fun _ _ _ h => h) (Or.inl ⟨by rfl, ?_⟩) hS ?_
    rotate_left
    focus (intro w' hSw; (try dsimp only at hSw); go_simp; try with_reducible rfl)
    simp only [Act.put, List.setIfInBounds_toArray, List.set_cons_zero, List.set_cons_succ]
    refine wpAnyX_take (i := 11) [12, 13, 19, 20, 21] (some 26) (v := ?_) rfl (by rfl) (by kernel_rfl) (by kernel_rfl) (by kernel_rfl) (by kernel_rfl) (fun _ _ _ h => h) (Or.inl ⟨by rfl, ?_⟩) hS ?_
    rotate_left
    focus (intro w' hSw; (try dsimp only at hSw); go_simp; try with_reducible rfl)
    simp only [Act.put, List.setIfInBounds_toArray, List.set_cons_zero, List.set_cons_succ]
    refine wpAnyX_take (i := 12) [13, 19, 20, 21] (some 27) (v := ?_) rfl (by rfl) (by kernel_rfl) (by kernel_rfl) (by kernel_rfl) (by kernel_rfl) (fun _ _ _ h => h) (Or.inl ⟨by rfl, ?_⟩) hS ?_
    rotate_left
    focus (intro w' hSw; (try dsimp only at hSw); go_simp; try with_reducible rfl)
    simp only [Act.put, List.setIfInBounds_toArray, List.set_cons_zero, List.set_cons_succ]
    refine wpAnyX_take (i := 13) [19, 20, 21] (some 28) (v := _) rfl (by rfl) (by kernel_rfl) (by kernel_rfl) (by kernel_rfl) (by kernel_rfl) (fun _ _ _ h => h) (yieldsIf_cell (v := .int .i64 s.number) (by rfl) rfl (by rfl) (by kernel_rfl) (fun y hy => cell_at (hy.heap HB3.out (fun e => HNE.out e)) 6 _ rfl)) hS ?_
    simp only [Act.put, List.setIfInBounds_toArray, List.set_cons_zero, List.set_cons_succ]
    refine wpAnyX_take (i := 14) [15, 16, 17, 18, 19, 20, 21] (some 29) (v := ?_) rfl (by rfl) (by kernel_rfl) (by kernel_rfl) (by kernel_rfl) (by kernel_rfl) (fun _ _ _ h => h) (Or.inl ⟨by rfl, ?_⟩) hS ?_
    rotate_left
    focus (intro w' hSw; (try dsimp only at hSw); go_simp; try with_reducible rfl)
    simp only [Act.put, List.setIfInBounds_toArray, List.set_cons_zero, List.set_cons_succ]
    refine wpAnyX_take (i := 15) [16, 17, 18, 19, 20, 21] (some 30) (v := ?_) rfl (by rfl) (by kernel_rfl) (by kernel_rfl) (by kernel_rfl) (by kernel_rfl) (fun _ _ _ h => h) (Or.inl ⟨by rfl, ?_⟩) hS ?_
    rotate_left
    focus (intro w' hSw; (try dsimp only at hSw); go_simp; try with_reducible rfl)
    simp only [Act.put, List.setIfInBounds_toArray, List.set_cons_zero, List.set_cons_succ]
    refine wpAnyX_take (i := 16) [17, 18, 19, 20, 21] (some 31) (v := ?_) rfl (by rfl) (by kernel_rfl) (by kernel_rfl) (by kernel_rfl) (by kernel_rfl) (fun _ _ _ h => h) (Or.inl ⟨by rfl, ?_⟩) hS ?_
    rotate_left
    focus (intro w' hSw; (try dsimp only at hSw); go_simp; try with_reducible rfl)
    simp only [Act.put, List.setIfInBounds_toArray, List.set_cons_zero, List.set_cons_succ]
    refine wpAnyX_take (i := 17) [18, 19, 20, 21] (some 32) (v := _) rfl (by rfl) (by kernel_rfl) (by kernel_rfl) (by kernel_rfl) (by kernel_rfl) (fun _ _ _ h => h) (yieldsIf_row (n := 11) (vs := reqCs s.asked (.slice A n c)) (by rfl) rfl (by rfl) (by kernel_rfl) (by kernel_rfl) rfl (fun y hy => range_of (n := 11) (hy.heap HB3.out (fun e => HNE.out e)) _ rfl)) hS ?_
    simp only [Act.put, List.setIfInBounds_toArray, List.set_cons_zero, List.set_cons_succ]
    refine wpAnyX_one (i := 18) (by kernel_rfl) rfl (fun K hK => ?_)
    refine step_call (some 33) (by rfl) (by rfl) rfl EO.out (by rfl) HOWN.out ?_
    rintro u w4 ⟨A3, c3, rfl, hs4, k4⟩
    have HS4 := hid hs4; have K4 := hid k4
    have hS4 : Keep (fun q => q = gm) w3.drew w4 := k4.mono (fun _ _ f => f.elim)
    clear hs4 k4
    refine hK _ _ (hS4) ?_
    clear hK K
    simp only [Act.put, List.setIfInBounds_toArray, List.set_cons_zero, List.set_cons_succ]
    refine wpAnyX_take (i := 19) [20, 21] (some 34) (v := _) rfl (by rfl) (by kernel_rfl) (by kernel_rfl) (by kernel_rfl) (by kernel_rfl) (fun _ _ _ h => h) (yieldsIf_build (by rfl) rfl (msgCs ⟨12, 100 + s.id, s.at_, 0, 0, 0, s.asked, [], [], s.number, vdZ'⟩ (.slice A3 n c3) nilV nilV nilV).toArray (by kernel_rfl)) hS4 ?_
    simp only [Act.put, List.setIfInBounds_toArray, List.set_cons_zero, List.set_cons_succ]
    refine wpAnyX_one (i := 20) (by kernel_rfl) rfl (fun K hK => ?_)
    have hbm4 := K4.out.heap HBM.out id
    refine step_store (none) (by rfl) (v := .agg (msgCs ⟨12, 100 + s.id, s.at_, 0, 0, 0, s.asked, [], [], s.number, vdZ'⟩ (.slice A3 n c3) nilV nilV nilV).toArray) (by rfl) rfl (by rfl) (by rfl) hbm4 (by kernel_rfl) (of_decide_eq_true (by kernel_rfl)) (by simp [msgCs, reqCs, verdictCs, nilV, Value.oneCell', Value.cells]) ?_
    intro w5 hb5 k5 s5
    have K5 := hid k5; have HB5 := hid hb5
    have hS5 : Keep (fun q => q = gm) w3.drew w5 := hS4.trans k5 (fun _ _ e => e)
    clear hb5 k5 s5
    refine hK _ _ (hS5) ?_
    clear hK K
    simp only [Act.put]
    refine wpAnyX_take (i := 21) [] (some 3) (v := ?_) rfl (by rfl) (by kernel_rfl) (by kernel_rfl) (by kernel_rfl) (by kernel_rfl) (fun _ _ _ h => h) (Or.inl ⟨by rfl, ?_⟩) hS5 ?_
    rotate_left
    focus (intro w' hSw; (try dsimp only at hSw); go_simp; try with_reducible rfl)
    simp only [Act.put, List.setIfInBounds_toArray, List.set_cons_zero, List.set_cons_succ]
    refine wpAnyX_done (by kernel_rfl) ?_ _
    go_wp2_with fail
    refine bodyPost_ret (res_cell_tmp (g := gm) (cs := (msgCs ⟨12, 100 + s.id, s.at_, 0, 0, 0, s.asked, [], [], s.number, vdZ'⟩ (.slice A3 n c3) nilV nilV nilV).toArray) (v := .bool true) Try.results25 _ rfl rfl HB5.out (by kernel_rfl) (by kernel_rfl)) rfl ?_
    have e1 := HGM.out; have e2 := HGL.out
    have z13 := K13.out.size; have z4 := K4.out.size; have z5 := K5.out.size
    have zd : w3.drew.heap.size = w3.heap.size := rfl
    have z1 := K1.out.size; have z3 := K3.out.size
    have hgm1 := HS1.out
    have k35 : Keep (fun q => q = gm) w3 w5 := ((Keep.refl (fun _ => False) w3).drew.mono (fun _ _ f => f.elim)).trans hS5 (fun _ _ e => e)
    refine ⟨_, rfl, ?_, ?_, K13.out.trans k35 (fun b hb e => by omega)⟩
    · show Rep.msg.cells w5 _ (sentM s) _
      have hok := HOK.out
      rw [HLC.out] at hok ⊢
      refine msg_mk ((HS4.out.keep K5.out (fun q hq e => by have := hq.1; omega)).mono (fun q hq => ⟨fun hx => by have := hq.1; have := H.out.hX q hx; omega, by have := hq.2; omega⟩) |> fun x => x) (nilSl _ _ _) (nilSl _ _ _) (nilSl _ _ _) hok
    · exact ⟨vw, .slice A n c, vt, vk, H.out.same (K13.out.trans k35 (fun b hb e => by omega)) (k35.heap HB30.out HNE.out) rfl rfl rfl rfl rfl⟩
end
end Go.Proofs.Ytnekfonnceknoaa
namespace Go.Proofs.Ytnekfonnceknoaa
open Go.RowKit Go.Lib
/-- A step without an answer. -/
def Did (X : Nat → Prop) (w : World) (g : Nat) (s : CS) (e : Ending) (w' : World) : Prop := e = .returned (.tuple #[]) ∧ CliAt X w' g s ∧ Keep (fun q => q = g) w w'
section
variable {X Y : Nat → Prop} {w w' : World} {g : Nat} {s : CS} {vw va vt vk : Value} {F : Nat → Prop} {N : Int}
set_option maxRecDepth 20000 in
theorem round_calls : Calls Try.prog 54 #[.pointer (some ⟨g, 0, none⟩)] w fun e w' => ∃ b, e = .returned (.func (.func 73) #[] #[.pointer (some ⟨b, 0, none⟩)]) ∧ w'.cell? ⟨b, 0, none⟩ = some (.pointer (some ⟨g, 0, none⟩)) ∧ Keep (fun _ => False) w w' := by
  go_enter Try.func54, Try.ntmps54
  go_wp2_with (first
    | (refine wpl_boxB (v := .pointer (some ⟨g, 0, none⟩)) rfl rfl rfl ?_; intro g1 w1 hg1 hb1 k1 s1; clear hg1 s1))
  go_ret
  exact ⟨g1, rfl, cell_at hb1 0 _ rfl, k1⟩
set_option maxRecDepth 20000 in
theorem round1_calls {b : Nat} {t r : Int} (hc : w.cell? ⟨b, 0, none⟩ = some (.pointer (some ⟨g, 0, none⟩))) (hr : w.cell? ⟨g, 1, none⟩ = some (.int .i64 r)) (h1 : 1 ≤ r ∧ r ≤ 15) (ht : 0 ≤ t ∧ t < r) :
    Calls Try.prog 73 #[.int .i64 t, .pointer (some ⟨b, 0, none⟩)] w fun e w' => e = .returned (.int .i64 ((t + 1).tmod r)) ∧ Keep (fun _ => False) w w' := by
  have h3 := Int.tmod_lt_of_pos (t + 1) (show 0 < r by omega)
  have h4 := Int.tmod_nonneg r (show 0 ≤ t + 1 by omega)
  have hw1 : IntKind.i64.wrap (t + 1) = t + 1 := by simp [IntKind.wrap, IntKind.signed, IntKind.bits]; omega
  have hw2 : IntKind.i64.wrap ((t + 1).tmod r) = (t + 1).tmod r := by simp [IntKind.wrap, IntKind.signed, IntKind.bits]; omega
  have hz : ¬ r = 0 := by omega
  have hz2 : (r == 0) = false := by simp; omega
  have HE := hid (show (t + 1) % r = (t + 1).tmod r from (Int.tmod_eq_emod_of_nonneg (by omega)).symm)
  have h5 := h1.1; have h6 := h1.2; have h7 := ht.1; have h8 := ht.2
  clear h1 ht
  go_enter Try.func73, Try.ntmps73
  go_wp2_with fail
  go_ret
  exact ⟨by rw [← HE.out]; rfl, (by first | exact Keep.refl _ _ | exact (Keep.refl _ _).drew)⟩
set_option maxRecDepth 20000 in
set_option maxHeartbeats 8000000 in
theorem next_calls (h : CliM X w g s vw va vt vk) (hI : CInv N s) : Calls Try.prog 33 #[.pointer (some ⟨g, 0, none⟩)] w fun e w' => e = .returned (.tuple #[]) ∧ CliM X w' g (nextS s) vw va vt vk ∧ Keep (fun q => q = g) w w' := by
  have ER := hid (enters_of Try.func54 (by kernel_rfl) rfl)
  have E1 := hid (enters_of Try.func73 (by kernel_rfl) rfl)
  have H := hid h; have HI := hid hI
  have HO := hid ((Keep.refl (fun _ => False) w).drew.heap h.obj id)
  have HR := hid ((round_calls (g := g) (w := w.drew)).mono (R' := fun e w' => ∃ u, e = .returned u ∧ ∃ b, u = .func (.func 73) #[] #[.pointer (some ⟨b, 0, none⟩)] ∧ w'.cell? ⟨b, 0, none⟩ = some (.pointer (some ⟨g, 0, none⟩)) ∧ Keep (fun _ => False) w.drew w') (fun e w' ⟨b, h1, h2, h3⟩ => ⟨_, h1, b, rfl, h2, h3⟩))
  have hS : Keep (fun _ => False) w.drew w.drew := Keep.refl _ _
  clear h hI
  go_enter Try.func33, Try.ntmps33
  go_wp2_with fail
  refine wp_region_X (fun y => Keep (fun _ => False) w.drew y) [10] (by kernel_rfl) hS (fun _ => ?_)
  refine wpAnyX_take (i := 0) [8, 9, 10] (some 2) (v := ?_) rfl (by rfl) (by kernel_rfl) (by kernel_rfl) (by kernel_rfl) (by kernel_rfl) (fun _ _ _ h => h) (Or.inl ⟨by rfl, ?_⟩) hS ?_
  rotate_left
  focus (intro w' hSw; (try dsimp only at hSw); go_simp; try with_reducible rfl)
  simp only [Act.put, List.setIfInBounds_toArray, List.set_cons_zero, List.set_cons_succ]
  refine wpAnyX_take (i := 1) [2, 7, 8, 9, 10] (some 3) (v := ?_) rfl (by rfl) (by kernel_rfl) (by kernel_rfl) (by kernel_rfl) (by kernel_rfl) (fun _ _ _ h => h) (Or.inl ⟨by rfl, ?_⟩) hS ?_
  rotate_left
  focus (intro w' hSw; (try dsimp only at hSw); go_simp; try with_reducible rfl)
  simp only [Act.put, List.setIfInBounds_toArray, List.set_cons_zero, List.set_cons_succ]
  refine wpAnyX_take (i := 3) [4, 5, 6, 7, 8, 9, 10] (some 5) (v := ?_) rfl (by rfl) (by kernel_rfl) (by kernel_rfl) (by kernel_rfl) (by kernel_rfl) (fun _ _ _ h => h) (Or.inl ⟨by rfl, ?_⟩) hS ?_
  rotate_left
  focus (intro w' hSw; (try dsimp only at hSw); go_simp; try with_reducible rfl)
  simp only [Act.put, List.setIfInBounds_toArray, List.set_cons_zero, List.set_cons_succ]
  refine wpAnyX_take (i := 4) [5, 6, 7, 8, 9, 10] (some 6) (v := ?_) rfl (by rfl) (by kernel_rfl) (by kernel_rfl) (by kernel_rfl) (by kernel_rfl) (fun _ _ _ h => h) (Or.inl ⟨by rfl, ?_⟩) hS ?_
  rotate_left
  focus (intro w' hSw; (try dsimp only at hSw); go_simp; try with_reducible rfl)
  simp only [Act.put, List.setIfInBounds_toArray, List.set_cons_zero, List.set_cons_succ]
  refine wpAnyX_take (i := 5) [6, 7, 8, 9, 10] (some 7) (v := ?_) rfl (by rfl) (by kernel_rfl) (by kernel_rfl) (by kernel_rfl) (by kernel_rfl) (fun _ _ _ h => h) (Or.inl ⟨by rfl, ?_⟩) hS ?_
  rotate_left
  focus (intro w' hSw; (try dsimp only at hSw); go_simp; try with_reducible rfl)
  simp only [Act.put, List.setIfInBounds_toArray, List.set_cons_zero, List.set_cons_succ]
  refine wpAnyX_take (i := 6) [7, 8, 9, 10] (some 8) (v := _) rfl (by rfl) (by kernel_rfl) (by kernel_rfl) (by kernel_rfl) (by kernel_rfl) (fun _ _ _ h => h) (yieldsIf_cell (v := .int .i64 s.turn) (by rfl) rfl (by rfl) (by kernel_rfl) (fun y hy => cell_at (hy.heap HO.out id) 5 _ rfl)) hS ?_
  simp only [Act.put, List.setIfInBounds_toArray, List.set_cons_zero, List.set_cons_succ]
  refine wpAnyX_one (i := 2) (by kernel_rfl) rfl (fun K hK => ?_)
  refine step_call (some 4) (by rfl) (by rfl) rfl ER.out (by rfl) HR.out ?_
  rintro u w2 ⟨b, rfl, hcb, k2⟩
  have HCB := hid hcb; have K2 := hid k2
  clear hcb
  refine hK _ _ (k2) ?_
  clear hK K
  simp only [Act.put, List.setIfInBounds_toArray, List.set_cons_zero, List.set_cons_succ]
  refine wpAnyX_one (i := 7) (by kernel_rfl) rfl (fun K hK => ?_)
  have HR1 := hid ((round1_calls (t := s.turn) (r := s.replicas) HCB.out (cell_at (K2.out.heap HO.out id) 1 _ rfl) HI.out.rep HI.out.turn).mono (R' := fun e w' => ∃ u, e = .returned u ∧ (u = .int .i64 ((s.turn + 1).tmod s.replicas) ∧ Keep (fun _ => False) w2 w')) (fun e w' h => ⟨_, h.1, rfl, h.2⟩))
  refine step_callV (some 9) (by rfl) (by rfl) rfl E1.out (by rfl) (by rfl) HR1.out ?_
  rintro u w3 ⟨rfl, k3⟩
  have K3 := hid (K2.out.trans k3 (fun _ _ f => f))
  clear k3
  refine hK _ _ (K3.out) ?_
  clear hK K
  simp only [Act.put, List.setIfInBounds_toArray, List.set_cons_zero, List.set_cons_succ]
  refine wpAnyX_take (i := 8) [9, 10] (some 10) (v := ?_) rfl (by rfl) (by kernel_rfl) (by kernel_rfl) (by kernel_rfl) (by kernel_rfl) (fun _ _ _ h => h) (Or.inl ⟨by rfl, ?_⟩) K3.out ?_
  rotate_left
  focus (intro w' hSw; (try dsimp only at hSw); go_simp; try with_reducible rfl)
  simp only [Act.put, List.setIfInBounds_toArray, List.set_cons_zero, List.set_cons_succ]
  refine wpAnyX_take (i := 9) [10] (some 11) (v := ?_) rfl (by rfl) (by kernel_rfl) (by kernel_rfl) (by kernel_rfl) (by kernel_rfl) (fun _ _ _ h => h) (Or.inl ⟨by rfl, ?_⟩) K3.out ?_
  rotate_left
  focus (intro w' hSw; (try dsimp only at hSw); go_simp; try with_reducible rfl)
  simp only [Act.put, List.setIfInBounds_toArray, List.set_cons_zero, List.set_cons_succ]
  refine wpAnyX_oneX (i := 10) (by kernel_rfl) rfl (by kernel_rfl) (fun K hK => ?_)
  have ho3 := K3.out.heap HO.out id
  refine step_store (none) (by rfl) (v := .int .i64 ((s.turn + 1).tmod s.replicas)) (by rfl) rfl (by rfl) (by rfl) ho3 (by kernel_rfl) (of_decide_eq_true (by kernel_rfl)) (by simp [Value.oneCell', Value.cells]) ?_
  intro w4 hb4 k4 s4
  have K4 := hid k4
  replace hb4 : w4.heap[g]? = some (CObj { s with turn := (s.turn + 1).tmod s.replicas } vw va vt vk) := hb4
  refine hK _ _ ?_
  clear hK K
  simp only [Act.put]
  refine wpAnyX_done (by kernel_rfl) ?_ _
  have c5 := cell_at hb4 5 (.int .i64 ((s.turn + 1).tmod s.replicas)) rfl
  clear k2 k4 s4 ho3 hS
  go_wp2_with (first
    | (refine wpl_storeB (v := .int .i64 ((s.turn + 1).tmod s.replicas)) (o := 4) (b := g) rfl rfl rfl rfl hb4 (by kernel_rfl) (of_decide_eq_true (by kernel_rfl)) (by simp [Value.oneCell', Value.cells]) ?_; intro w5 hb5 k5 s5; have K5 := hid (K4.out.trans k5 (fun _ _ q => q)); clear s5 k5)
    | (refine wpl_storeB (v := .bool false) (o := 7) (b := g) rfl rfl rfl rfl hb5 (by kernel_rfl) (of_decide_eq_true (by kernel_rfl)) (by simp [Value.oneCell', Value.cells]) ?_; intro w6 hb6 k6 s6; have K6 := hid (K5.out.trans k6 (fun _ _ q => q)); clear s6 k6; replace hb6 : w6.heap[g]? = some (CObj (nextS s) vw va vt vk) := hb6))
  go_end0
  have kk : Keep (fun q => q = g) w w6 := (((Keep.refl (fun _ => False) w).drew.trans K3.out (fun _ _ f => f)).mono (fun _ _ f => f.elim)).trans K6.out (fun _ _ q => q)
  exact ⟨rfl, H.out.same kk hb6 rfl rfl rfl rfl rfl, kk⟩
set_option maxRecDepth 20000 in
set_option maxHeartbeats 8000000 in
theorem begin_calls {r : Req} {v : Value} {b : Bool} (h : CliM X w g s vw va vt vk) (hI : CInv N s) (hN : N < 1000000) (hv : Sl .change w F v r.changes) (hl : r.changes.length ≤ 4294967296) :
    Calls Try.prog 24 #[.pointer (some ⟨g, 0, none⟩), reqV r v, .bool b] w fun e w' => e = .returned (.tuple #[]) ∧ (∃ vw', CliM X w' g (beginS s r b) vw' va vt vk) ∧ Keep (fun q => q = g) w w' := by
  obtain ⟨A, c, rfl⟩ := hv.shape
  obtain ⟨n, hn⟩ : ∃ n, n = r.changes.length := ⟨_, rfl⟩
  rw [← hn] at hv hl ⊢
  have H := hid h; have HV := hid hv; have HN := hid hn; have HL := hid hl
  have hgl := lt_heap h.obj
  have hb := h.obj
  have hnm := hI.num
  have hw0 : IntKind.i64.wrap (s.number + 1) = s.number + 1 := by simp [IntKind.wrap, IntKind.signed, IntKind.bits]; omega
  clear h hv hn hl hI hnm
  go_enter Try.func24, Try.ntmps24
  go_wp2_with (first
    | (refine wpl_boxB (v := reqV r (.slice A n c)) rfl rfl rfl ?_; intro g1 w1 hg1 hb1 k1 s1; have HG1 := hid hg1; have HS1 := hid s1; have K1 := hid k1; have hbg1 := k1.heap hb id; clear hg1 s1 k1)
    | (refine wpl_loadA (ty := 29) (o := 0) (n := 11) rfl rfl rfl hb1 (by kernel_rfl) (by kernel_rfl) (reqCs r (.slice A n c)) rfl rfl ?_))
  have hwc := with_calls (r := r) (v := .slice A n c) (by exact HV.out.keep K1.out (fun _ _ => id)) (by rw [← HN.out]; exact HL.out) 0 0
  have HWC := hid hwc
  clear hwc
  refine HWC.out.mono ?_
  rintro e w2 ⟨A2, c2, rfl, hs2, k2⟩
  rw [← HN.out] at hs2 ⊢
  have hb2 := k2.heap hbg1 id
  have HS2 := hid hs2; have K2 := hid (K1.out.trans k2 (fun _ _ f => f)); have Z2 := hid k2.size
  clear hs2 k2 HWC hb hbg1 hb1
  go_wp2_with (first
    | (refine wpl_storeB (v := .bool true) (o := 10) (b := g) rfl rfl rfl rfl hb2 (by kernel_rfl) (of_decide_eq_true (by kernel_rfl)) (by simp [Value.oneCell', Value.cells]) ?_; intro w3 hb3 k3 s3; have K3 := hid k3; clear s3 k3)
    | (refine wpl_storeB (v := .bool b) (o := 12) (b := g) rfl rfl rfl rfl hb3 (by kernel_rfl) (of_decide_eq_true (by kernel_rfl)) (by simp [Value.oneCell', Value.cells]) ?_; intro w4 hb4 k4 s4; have K4 := hid (K3.out.trans k4 (fun _ _ q => q)); clear s4 k4)
    | (refine wpl_storeB (v := reqV (withR r 0 0) (.slice A2 n c2)) (o := 15) (b := g) rfl rfl rfl rfl hb4 (by kernel_rfl) (of_decide_eq_true (by kernel_rfl)) (by simp [Value.oneCell', Value.cells]) ?_; intro w5 hb5 k5 s5; have K5 := hid (K4.out.trans k5 (fun _ _ q => q)); clear s5 k5; replace hb5 : w5.heap[g]? = some (CObj { s with busy := true, loc := b, wish := withR r 0 0 } (.slice A2 n c2) va vt vk) := hb5; have c6 := cell_at hb5 6 (.int .i64 s.number) rfl)
    | (refine wpl_storeB (v := .int .i64 (s.number + 1)) (o := 6) (b := g) rfl rfl rfl rfl hb5 (by kernel_rfl) (of_decide_eq_true (by kernel_rfl)) (by simp [Value.oneCell', Value.cells]) ?_; intro w6 hb6 k6 s6; have K6 := hid (K5.out.trans k6 (fun _ _ q => q)); clear s6 k6; replace hb6 : w6.heap[g]? = some (CObj (beginS s r b) (.slice A2 n c2) va vt vk) := hb6))
  go_end0
  have z1 := K1.out.size; have z2 := Z2.out; have z6 := K6.out.size
  have kk : Keep (fun q => q = g) w w6 := (K2.out.mono (fun _ _ f => f.elim)).trans K6.out (fun _ _ q => q)
  have hs6 := (HS2.out.keep K6.out (fun q hq e => by have := hq.1; omega)).mono (G := fun k => ¬ X k ∧ k < w6.heap.size) (fun q hq => ⟨fun hx => by have := hq.1; have := H.out.hX q hx; omega, by have := hq.2; omega⟩)
  exact ⟨rfl, ⟨_, hb6, H.out.hg, fun k q => Nat.lt_of_lt_of_le (H.out.hX k q) kk.size, hs6, slKeepG H.out.hg H.out.ha kk, slKeepG H.out.hg H.out.ht kk, slKeepG H.out.hg H.out.hv kk, by have := HL.out; rw [HN.out] at this; exact this, H.out.la, H.out.lt, H.out.hr⟩, kk⟩
end
end Go.Proofs.Ytnekfonnceknoaa
