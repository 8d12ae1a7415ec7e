/- wapentakeref9.CopyRequest; wapentakeref3.CopyCommit, CopyCommits, CopyVerdict; wapentakeref11.CopyVotes. -/
import Derived.Test.YthlgnilgjeebaaaGrown
import Derived.Test.YthlgnilgjeebaaaBlk
import Derived.Test.YthlgnilgjeebaaaMsgT
namespace Go.Proofs.Ythlgnilgjeebaaa
open Go.RowKit
def reqZ' : Req := ⟨0, ByteArray.empty, 0, 0, 0, ByteArray.empty, [], ByteArray.empty, 0, 0, 0⟩
theorem T_V : SlT Try.prog 28 36 (.agg (voteCs ⟨0, 0, reqZ'⟩ (.slice none 0 0)).toArray) 13 144 := SlT.mk' Try.underlying28 (by kernel_rfl) rfl (by decide)
theorem T_C : SlT Try.prog 32 86 (.agg #[.string ByteArray.empty, .bool false, .int .u64 0]) 3 32 := SlT.mk' Try.underlying32 (by kernel_rfl) rfl (by decide)
section
variable {F G S : Nat → Prop} {w w' : World}
/-- Cells in a new block, as the row of one element that an append takes. -/
theorem row_n (w : World) (d : List Value) (e : TypeId) : Row (fun k => k = w.heap.size) (w.alloc (.cells d.toArray e)) (.slice (some ⟨w.heap.size, 0, none⟩) 1 1) 1 d.length d :=
  ⟨_, _, rfl, by omega, Nat.le_refl _, by decide, .inr ⟨w.heap.size, 0, rfl, rfl, by simp, fun j u hu => by
    rw [Nat.zero_add, cell_of_row _ _ j d.toArray e (0, 0) (heap_alloc_new w _)]
    simpa using hu⟩⟩
/-- A list of changes in memory of its own. -/
def OwnC (w w' : World) (A : Option Addr) (n c : Nat) (l : List Change) : Prop :=
  Sl .change w' (NewIn w w') (.slice A n c) l ∧ (∃ cs, w'.ownsRow 0 86 3 (.slice A n c) n cs) ∧ ∀ b, (Value.slice A n c).ownBlock = some b → w.heap.size ≤ b
set_option maxRecDepth 20000 in
set_option maxHeartbeats 1600000 in
theorem copyReq_calls {r : Req} {v : Value} (hv : Sl .change w F v r.changes) (hl : r.changes.length ≤ 4294967296) :
    Calls Try.prog 57 #[.agg (reqCs r v).toArray] w fun e w' => ∃ A c, e = .returned (.agg (reqCs r (.slice A r.changes.length c)).toArray) ∧ OwnC w w' A r.changes.length c r.changes ∧ Keep (fun _ => False) w w' := by
  obtain ⟨A, c, rfl⟩ := hv.shape
  have HV := hid hv
  clear hv
  obtain ⟨n, hn⟩ : ∃ n, n = r.changes.length := ⟨_, rfl⟩
  rw [← hn] at HV hl ⊢
  have HN := hid hn
  clear hn
  go_enter Try.func57, Try.ntmps57
  go_wp2_with (first
    | (refine wpl_boxB (v := .agg (reqCs r (.slice A n c)).toArray) rfl rfl rfl ?_; intro g w1 hg hb1 k1 s1; have HG := hid hg; clear hg)
    | (refine wpl_allocB (z := .agg (reqCs reqZ' (.slice none 0 0)).toArray) rfl rfl (by kernel_rfl) ?_; intro g2 w2 hg2 hb2 k2 s2; have HG2 := hid hg2; have HS2 := hid s2; clear hg2 s2; have hb1 := k2.heap hb1 id; have c6 := fun o => cell_at (heap_alloc hb1 o) 6 (.slice A n c) rfl)
    | (at_builtin; refine stopHere ?_))
  have k02 := k1.trans k2 (fun _ _ q => q)
  have ka : Keep (fun _ => False) w2 (w2.alloc (.cells #[] 86)) := (Keep.refl _ w2).alloc _
  obtain ⟨cs, hrow, hparts⟩ := ((HV.out.keep k02 (fun _ _ => id)).keep ka (fun _ _ => id)).parts
  have HP := hid hparts
  have h1c := row_one (r := Rep.change) (by decide) change_one (by have := hrow; obtain ⟨_, _, _, q, _⟩ := this; exact q) hparts
  rw [← HN.out] at hrow
  clear hparts
  refine goOn (wpl_app (v := .slice (some ⟨w2.heap.size, 0, none⟩) 0 0) rfl rfl T_C rfl (owns_emp w2 86 3) rfl hrow h1c (by omega) (by omega) ?_)
  intro A3 c3 w3 ho3 hk3 hn3
  simp only [Nat.zero_add, List.nil_append] at ho3 hk3 hn3 ⊢
  have k3 := keep_emp2 hk3
  replace hb1 := k3.heap hb1 id
  replace hb2 := k3.heap hb2 id
  have HO3 := hid ho3; have HN3 := hid hn3
  have hz3 := k3.size
  clear ho3 hn3 hk3 ka hrow h1c c6
  go_wp2_with (first
    | (refine wpl_loadA rfl rfl rfl hb1 (by kernel_rfl) (by kernel_rfl) (reqCs r (.slice A3 n c3)) rfl rfl ?_)
    | (refine wpl_storeB (v := .slice A3 n c3) rfl rfl rfl rfl hb1 (by kernel_rfl) (by simp [reqCs, Value.cells]) (by simp [Value.oneCell', Value.cells]) ?_; intro w4 hb4 k4 s4; replace hb1 := hb4; replace hb2 := k4.heap hb2 (fun e => by have := HG2.out; omega))
    | (refine wpl_storeB (v := .agg (reqCs r (.slice A3 n c3)).toArray) rfl rfl rfl rfl hb2 (by kernel_rfl) (by simp [reqCs, Value.cells]) (by simp [Value.oneCell', reqCs, Value.cells]) ?_; intro w5 hb5 k5 s5))
  refine bodyPost_ret (res_cell (g := g2) (cs := (reqCs r (.slice A3 n c3)).toArray) Try.results57 _ rfl hb5 (by kernel_rfl) (by kernel_rfl)) rfl ?_
  have e1 := HG.out
  have e2 := HG2.out
  have e3 := HS2.out
  have hnew : ∀ b, (Value.slice A3 n c3).ownBlock = some b → w2.heap.size ≤ b := fun b hb => by
    rcases HN3.out b hb with q | q
    · simp only [Value.ownBlock, Option.some.injEq] at q; omega
    · have q : w2.heap.size + 1 ≤ b := by simpa using q
      omega
  have k35 : Keep (fun q => q = g ∨ q = g2) w3 w5 := (k4.mono (fun _ _ e => .inl e)).trans k5 (fun _ _ e => .inr e)
  have hs4 := k4.size
  have hs5 := k5.size
  have ho5 := k35.owns HO3.out (fun b hb e => by have := hnew b hb; omega)
  refine ⟨_, _, rfl, ⟨?_, ⟨cs, ho5⟩, fun b hb => by have := hnew b hb; omega⟩, (k02.trans k3 (fun _ _ q => q)).trans k35 (fun b hb e => by omega)⟩
  have hp5 : Parts .change w5 (NewIn w w5) cs r.changes := fun i x hx => HP.out i x hx
  have hr5 : Row (NewIn w w5) w5 (.slice A3 n c3) n 3 cs := (Row.ofOwn ho5).mono (fun b hb => ⟨by have := hnew b hb.symm; omega, own_lt' ho5 b hb.symm⟩)
  exact hp5.sl (F := NewIn w w5) (by rw [← HN.out]; exact hr5) (fun _ h => h)
end
end Go.Proofs.Ythlgnilgjeebaaa
