/- wapentakelaw23.ClientWaits: the walk. -/
import Derived.Test.YtnekfonnceknoaaClA
import Derived.Test.YtnekfonnceknoaaMsgSmall
import Derived.Test.YtnekfonnceknoaaMsgIs
import Derived.Test.YtnekfonnceknoaaLoop
namespace Go.Proofs.Ytnekfonnceknoaa
open Go.RowKit Go.Lib
theorem wpl_loadW {P : Program} {ops : Array Oper} {rest : List Oper} {op : Oper} {a : Act} {w : World} {Q : Exit → Act → World → Prop} {ty e : TypeId} {x : Operand} {b o n : Nat} {C : Array Value} {fz : Nat × Nat}
    (hgw : Region.wanted op (yielded ops a.tmps) = true) (ho : op.op = .load ty x) (hx : a.eval x = .pointer (some ⟨b, o, none⟩)) (hb : w.heap[b]? = some (.cells C e fz))
    (hd : (P.underlying ty).map TypeDesc.isRow = some true) (hi : (P.info? ty).map (·.size) = some n) (vs : List Value) (hvs : (C.toList.drop o).take n = vs) (hn : vs.length = n)
    (h : wpList P ops Q rest (a.put op.dst (.agg vs.toArray)) w) : wpList P ops Q (op :: rest) a w := by
  obtain ⟨d, hu, hd⟩ : ∃ d, P.underlying ty = some d ∧ d.isRow = true := by
    cases hq : P.underlying ty with
    | none => simp [hq] at hd
    | some d => exact ⟨d, rfl, by simpa [hq] using hd⟩
  refine wpList_step fun K hK => ?_
  rw [if_pos hgw]
  refine wp_load_mid ty x ho b o hx vs d (fun j v hv => ?_) hu hd (by rw [hi, hn]) (hK _ _ h)
  rw [cell_of_row w b (o + j) C e fz hb]
  rw [← hvs, List.getElem?_take] at hv
  split at hv
  · rw [List.getElem?_drop] at hv
    simpa using hv
  · cases hv
theorem and31 (x : Int) : 0 ≤ bits .and .i64 x 31 ∧ bits .and .i64 x 31 ≤ 31 := by
  have h : (BitVec.ofInt 64 x &&& BitVec.ofInt 64 31).toNat ≤ 31 := by
    rw [BitVec.toNat_and]
    exact Nat.le_trans Nat.and_le_right (by decide)
  show 0 ≤ IntKind.i64.wrap ((BitVec.ofInt 64 x &&& BitVec.ofInt 64 31).toNat : Int) ∧ IntKind.i64.wrap ((BitVec.ofInt 64 x &&& BitVec.ofInt 64 31).toNat : Int) ≤ 31
  generalize (BitVec.ofInt 64 x &&& BitVec.ofInt 64 31).toNat = n at *
  simp [IntKind.wrap, IntKind.signed, IntKind.bits]
  omega
theorem and15 (x : Int) : 0 ≤ bits .and .u8 x 15 ∧ bits .and .u8 x 15 ≤ 15 := by
  have h : (BitVec.ofInt 8 x &&& BitVec.ofInt 8 15).toNat ≤ 15 := by
    rw [BitVec.toNat_and]
    exact Nat.le_trans Nat.and_le_right (by decide)
  show 0 ≤ IntKind.u8.wrap ((BitVec.ofInt 8 x &&& BitVec.ofInt 8 15).toNat : Int) ∧ IntKind.u8.wrap ((BitVec.ofInt 8 x &&& BitVec.ofInt 8 15).toNat : Int) ≤ 15
  generalize (BitVec.ofInt 8 x &&& BitVec.ofInt 8 15).toNat = n at *
  simp [IntKind.wrap, IntKind.signed, IntKind.bits]
  omega
theorem smallM_any {G : Nat → Prop} {w : World} {m : Msg} {ms : List Value} (h : Rep.msg.cells w G m ms) : Calls Try.prog 15 #[.agg ms.toArray] w fun e w' => e = .returned (.bool (smallM m)) ∧ Keep (fun _ => False) w w' := by
  obtain ⟨vc, vv, vi, vk, rfl, h1, h2, h3, h4, _⟩ := msg_cells h
  exact smallM_calls h1 h2 h3 h4
theorem smallM_vfew {m : Msg} (h : smallM m = true) : m.verdict.Few := by
  simp only [smallM, smallV, smallB, Bool.and_eq_true, decide_eq_true_iff, List.all_eq_true, comReq] at h
  obtain ⟨h1, h2, h3, ⟨h4, h5, h6⟩, h7⟩ := h
  exact ⟨by omega, fun x hx => Nat.le_trans (show x.changes.length ≤ 200 from of_decide_eq_true (h6 x hx).1) (by omega)⟩
theorem msg_ok {w : World} {F : Nat → Prop} {m : Msg} {cs : List Value} (h : Rep.msg.cells w F m cs) : m.Ok := by
  obtain ⟨vc, vv, vi, vk, rfl, h1, h2, h3, h4, hok⟩ := msg_cells h
  exact hok
/-- A box of one's own has been laid and filled. -/
theorem CliAt.newbox {X : Nat → Prop} {w w1 w2 : World} {g gb : Nat} {s : CS} (h : CliAt X w g s) (k1 : Keep (fun _ => False) w w1) (hb : gb = w.heap.size) (hl : gb < w1.heap.size) (k2 : Keep (fun q => q = gb) w1 w2) : CliAt X w2 g s := by
  obtain ⟨_, _, _, _, hm⟩ := h
  have hg := hm.hg
  have hgl := hm.hX g hg
  exact (((CliM.at hm).wide (Y := fun k => X k ∨ k = gb) k1 (fun _ e => .inl e) (fun k e => e.imp id (fun e => by subst e; omega))).keepX k2 (fun _ e => .inr e) (by omega)).less (fun _ e => .inl e) hg
/-- A client that waits to be told its session. -/
structure Wt (p : Int) (s : CS) : Prop where
  busy : s.busy = true
  opening : s.opening = true
  number : s.number = 1
  loc : s.loc = false
  pat : s.patience = p
  id : s.id = 1
  inv : CInv 1 s
theorem Wt.start {p : Int} (h : 1 ≤ p ∧ p ≤ 1048576) : askF (newS 1 xN 3 p) hR = (sentS (askS (newS 1 xN 3 p) hR), some (sentM (askS (newS 1 xN 3 p) hR))) ∧ Wt p (sentS (askS (newS 1 xN 3 p) hR)) := by
  have hn : ¬ ((newS 1 xN 3 p).busy = true ∨ hR.kind < 2 ∨ 8 ≤ hR.kind ∨ ¬ mayR (withR hR (newS 1 xN 3 p).session ((newS 1 xN 3 p).seq + 1))) := fun q => by
    rcases q with q | q | q | q
    · cases q
    · exact absurd q (by decide)
    · exact absurd q (by decide)
    · exact q (show mayR (withR hR 0 (0 + 1)) from by decide +kernel)
  refine ⟨by rw [askF, if_neg hn], ⟨rfl, rfl, rfl, rfl, rfl, rfl, ?_⟩⟩
  · exact ((newS_inv (id := 1) (name := xN) (rep := 3) (pat := p) (by omega) (by omega) h).ask0 hR_ok (by omega)).sent
theorem Wt.deaf {p : Int} {s : CS} {m : Msg} (h : Wt p s) (hm : m.number ≠ 1) : handleF s m = (s, none) := by
  rw [handleF, if_pos (.inr (.inr (.inr (by rw [h.number]; exact hm))))]
theorem Wt.less {p : Int} {s : CS} {b : Int} (h : Wt p s) (hb : 0 ≤ b) (hlt : b < p - s.waited) : tickF s b = ({ s with waited := s.waited + b }, none) ∧ Wt p { s with waited := s.waited + b } := by
  have hi := h.inv.tick (b := b)
  have he : tickF s b = ({ s with waited := s.waited + b }, none) := by
    rw [tickF, if_neg (fun q => q.elim (by omega) (fun e => by rw [h.busy] at e; cases e)), if_pos (by rw [h.pat]; exact hlt)]
  rw [he] at hi
  exact ⟨he, ⟨h.busy, h.opening, h.number, h.loc, h.pat, h.id, hi⟩⟩
theorem Wt.again {p : Int} {s : CS} {b : Int} (h : Wt p s) (hb : 0 ≤ b) (hge : ¬ b < p - s.waited) : ∃ s1 m, tickF s b = (sentS s1, some m) ∧ Wt p (sentS s1) := by
  have hi := h.inv.tick (b := b)
  have he : tickF s b = (sentS (if s.moved then s else nextS s), some (sentM (if s.moved then s else nextS s))) := by
    rw [tickF, if_neg (fun q => q.elim (by omega) (fun e => by rw [h.busy] at e; cases e)), if_neg (by rw [h.pat]; exact hge), if_neg (by rw [h.loc]; exact Bool.false_ne_true)]
  rw [he] at hi
  refine ⟨_, _, he, ?_⟩
  cases hm : s.moved
  · simp only [hm, Bool.false_eq_true, if_false] at hi ⊢
    exact ⟨h.busy, h.opening, h.number, h.loc, h.pat, h.id, hi⟩
  · simp only [hm, if_true] at hi ⊢
    exact ⟨h.busy, h.opening, h.number, h.loc, h.pat, h.id, hi⟩
theorem Wt.tell1 {p : Int} {s : CS} (h : Wt p s) : handleF s (repM 13 0 101 1 0 (vd3 1 3 0)) = (sentS (openedS s (vd3 1 3 0)), some (sentM (openedS s (vd3 1 3 0)))) := by
  rw [handleF, if_neg (fun q => ?_), if_pos (show (repM 13 0 101 1 0 (vd3 1 3 0)).kind = 13 from rfl), if_pos h.opening]
  · exact if_pos (show (1 : Int) = 1 from rfl)
  · rcases q with q | q | q | q
    · rw [h.busy] at q; cases q
    · exact absurd q (by decide +kernel)
    · exact q (by rw [h.id]; rfl)
    · exact q (by rw [h.number]; rfl)
theorem Wt.tell2 {p : Int} {s : CS} (h : Wt p s) : handleF (sentS (openedS s (vd3 1 3 0))) (repM 13 0 101 2 0 (vd3 8 0 0)) = (tellS (sentS (openedS s (vd3 1 3 0))) (vd3 8 0 0), none) := by
  rw [handleF, if_neg (fun q => ?_), if_pos (show (repM 13 0 101 2 0 (vd3 8 0 0)).kind = 13 from rfl), if_neg (show ¬ ((sentS (openedS s (vd3 1 3 0))).opening = true) from Bool.false_ne_true)]
  · rfl
  · rcases q with q | q | q | q
    · have : s.busy = false := q
      rw [h.busy] at this; cases this
    · exact absurd q (by decide +kernel)
    · exact q (by show (101 : Int) = 100 + s.id; rw [h.id]; rfl)
    · exact q (by show (2 : Int) = s.number + 1; rw [h.number]; rfl)
theorem tick_told {s : CS} {b : Int} (h : s.busy = false) : tickF s b = (s, none) := by rw [tickF, if_pos (.inr h)]
end Go.Proofs.Ytnekfonnceknoaa
