/- net.All, and that the changes of what it tells may be written. -/
import Derived.Test.YtofljidmdabkcaaNb
import Derived.Test.YtofljidmdabkcaaOwnW
namespace Go.Proofs.Ytofljidmdabkcaa
open Go.RowKit Go.Lib
/-- The changes of the first k messages of a row of messages' cells may be written; they lie from B on, not in the row's own block. -/
def WrRow (w : World) (v : Value) (B : Nat) (ds : List Value) (k : Nat) : Prop :=
  ∀ i, i < k → ∃ A n c, ds[i * 27 + 12]? = some (.slice A n c) ∧ n ≤ 4294967296 ∧ Wr w A n 3 48 ∧ ∀ b, A = some ⟨b, 0, none⟩ → B ≤ b ∧ b < w.heap.size ∧ v.ownBlock ≠ some b
section
variable {S : Nat → Prop} {w w' w1 w2 wa : World} {v : Value} {B k : Nat} {ds : List Value}
theorem WrRow.zero : WrRow w v B ds 0 := fun i hi => by omega
theorem WrRow.keep (h : WrRow w v B ds k) (hk : Keep S w w') (hS : ∀ b, B ≤ b → b < w.heap.size → v.ownBlock ≠ some b → ¬ S b) : WrRow w' v B ds k := fun i hi => by
  obtain ⟨A, n, c, h1, hn, h2, h3⟩ := h i hi
  exact ⟨A, n, c, h1, hn, h2.keep hk (fun b hb => hS b (h3 b hb).1 (h3 b hb).2.1 (h3 b hb).2.2), fun b hb => ⟨(h3 b hb).1, Nat.lt_of_lt_of_le (h3 b hb).2.1 hk.size, (h3 b hb).2.2⟩⟩
theorem WrRow.set (h : WrRow w v B ds k) (b o : Nat) (u : Value) : WrRow (w.setCell ⟨b, o, none⟩ u) v B ds k := fun i hi => by
  obtain ⟨A, n, c, h1, hn, h2, h3⟩ := h i hi
  exact ⟨A, n, c, h1, hn, h2.set b o u, fun q hq => ⟨(h3 q hq).1, by simpa using (h3 q hq).2.1, (h3 q hq).2.2⟩⟩
/-- One message more. -/
theorem WrRow.more {A A2 : Option Addr} {c c2 : Nat} {x : Msg} {vs : List Value} {Ax Av Ai Ak : Option Addr} {nx cx nv cv ni ci nk ck : Nat} (h : WrRow w (.slice A k c) B ds k) (hl : ds.length = k * 27) (hnx : nx ≤ 4294967296) (hB : B ≤ w.heap.size) (hob : ∀ b, (Value.slice A k c).ownBlock = some b → b < w.heap.size)
    (hk1 : Keep (fun _ => False) w w1) (hx : SlW w1 (fun b => w.heap.size ≤ b ∧ b < w1.heap.size) Ax nx cx x.value.changes) (hvs : vs = msgCs x (.slice Ax nx cx) (.slice Av nv cv) (.slice Ai ni ci) (.slice Ak nk ck)) (hka : Keep (fun _ => False) w1 wa)
    (hk2 : Keep (fun q => some q = (Value.slice A k c).ownBlock) wa w2) (hn : SameOrNew wa (.slice A k c) (.slice A2 (k + 1) c2)) : WrRow w2 (.slice A2 (k + 1) c2) B (ds ++ vs) (k + 1) := fun i hi => by
  have s1 := hk1.size; have sa := hka.size; have s2 := hk2.size
  have hne : ∀ b, b < wa.heap.size → (Value.slice A k c).ownBlock ≠ some b → (Value.slice A2 (k + 1) c2).ownBlock ≠ some b := fun b hb hne e => by
    rcases hn b e with q | q
    · exact hne q
    · omega
  by_cases hik : i < k
  · obtain ⟨A', n, c', h1, hn', h2, h3⟩ := h i hik
    have hkw : Keep (fun q => some q = (Value.slice A k c).ownBlock) w w2 := ((hk1.trans hka (fun _ _ f => f)).mono (fun _ _ f => f.elim)).trans hk2 (fun _ _ e => e)
    have hlt := (List.getElem?_eq_some_iff.1 h1).1
    exact ⟨A', n, c', by rw [List.getElem?_append_left hlt]; exact h1, hn', h2.keep hkw (fun b hb e => (h3 b hb).2.2 e.symm), fun b hb => ⟨(h3 b hb).1, by have := (h3 b hb).2.1; omega, hne b (by have := (h3 b hb).2.1; omega) (h3 b hb).2.2⟩⟩
  · obtain rfl : i = k := by omega
    have hk12 : Keep (fun q => some q = (Value.slice A i c).ownBlock) w1 w2 := (hka.mono (fun _ _ f => f.elim)).trans hk2 (fun _ _ e => e)
    have h2 := hx.keep hk12 (fun b hb e => by have := hob b e.symm; have := hb.1; omega)
    refine ⟨Ax, nx, cx, ?_, hnx, h2.wr, fun b hb => ?_⟩
    · rw [List.getElem?_append_right (by omega), hl, Nat.add_sub_cancel_left, hvs]
      rfl
    · have q := hx.own b hb
      have q1 := q.1
      have q2 := q.2
      exact ⟨by omega, by omega, hne b (by omega) (fun e => by have := hob b e; omega)⟩
end
section
variable {F : Nat → Prop} {w w' : World} {g : Nat} {most : Int} {L : List Msg} {B : Nat} {E : Nat → Prop}
def AllW (w : World) (n : Nat) (e : Ending) (w' : World) : Prop :=
  ∃ A c ds, e = .returned (.slice A n c) ∧ w'.ownsRow 0 32 27 (.slice A n c) n ds ∧ (∀ b, (Value.slice A n c).ownBlock = some b → NewIn w w' b) ∧ WrRow w' (.slice A n c) w.heap.size ds n ∧ Keep (fun _ => False) w w'
set_option maxRecDepth 20000 in
set_option maxHeartbeats 4000000 in
theorem nall_w (h : NetAt 56 F w g most L) : Calls Try.prog 13 #[.pointer (some ⟨g, 0, none⟩)] w (AllW w L.length) := by
  have hle := h.le
  obtain ⟨v, cs, hst⟩ := h
  obtain ⟨A, c, rfl⟩ := hst.shape
  have hobj := cell_at hst.obj 1 (.slice A L.length c) rfl
  have hrow := Row.ofOwn hst.row
  obtain ⟨n, hn⟩ : ∃ n, n = L.length := ⟨_, rfl⟩
  rw [← hn] at hobj hrow hle
  have HN := hid hn; have HS := hid hst; have HR := hid hrow
  have z0 := lt_heap hst.obj
  clear hn hst hrow
  go_enter Try.func13, Try.ntmps13
  go_wp2_with fail
  have HO := hid hobj
  clear hobj
  go_loopw [3, 13] (fun v i wr => ∃ (k : Nat) (ds : List Value), k ≤ n ∧ i = .int .i64 k ∧ GrownP .msg 32 w.heap.size wr v k (L.take k) ds ∧ WrRow wr v w.heap.size ds k ∧ Keep (fun _ => False) w wr) (fun _ i _ => n - (intOf i).toNat)
  case atStart => exact ⟨0, [], Nat.zero_le _, rfl, GrownP.nil, WrRow.zero, Keep.refl _ _⟩
  case round =>
    obtain ⟨k, ds, hk, rfl, hg, hwr, hkp⟩ := hrel
    obtain ⟨B, cc, rfl⟩ := own_slice hg.1
    have HG := hid hg; have HKP := hid hkp; have HWR := hid hwr
    have zr := hkp.size
    clear hg hkp hwr
    by_cases hlt : k < n
    · obtain ⟨x, hx⟩ : ∃ x, L[k]? = some x := ⟨L[k]'(by rw [← HN.out]; exact hlt), List.getElem?_eq_getElem _⟩
      have hxm := HS.out.parts k x hx
      have hsz : Rep.msg.size = 27 := rfl
      rw [hsz] at hxm
      obtain ⟨xs, hxs⟩ : ∃ xs, xs = (cs.drop (k * 27)).take 27 := ⟨_, rfl⟩
      rw [← hxs] at hxm
      have HLX := hid (MsgL.of hxm)
      have hst := HS.out
      rcases hst.row.2 with ⟨_, h00⟩ | ⟨b, cap, cur, he, _, hgb, hnc, hcm, hcs, htk⟩
      · have := HN.out; omega
      simp only [Value.slice.injEq, true_and] at he
      obtain ⟨rfl, rfl⟩ := he
      have hcell : ∀ j u, xs[j]? = some u → wr.cell? ⟨b, k * 27 + j, none⟩ = some u := fun j u hu => by
        refine HKP.out.cell ?_ id
        refine (World.ownsRow.cells hst.row (g := b) rfl (k * 27 + j) u ?_ : _).trans rfl |> fun q => by rw [Addr.add_lit, Nat.zero_add] at q; exact q
        rw [hxs, List.getElem?_take] at hu
        split at hu
        · rwa [List.getElem?_drop] at hu
        · cases hu
      have hfx : x.Fits := hst.fits x (List.mem_of_getElem? hx)
      have hi1 : (0 : Int) ≤ (k : Int) := by omega
      have hi2 : (k : Int) < (n : Int) := by omega
      obtain ⟨dM, hu, hd⟩ : ∃ d, Try.prog.underlying 32 = some d ∧ d.isRow = true := ⟨_, Try.underlying32, rfl⟩
      have hinf : (Try.prog.info? 32).map (·.size) = some xs.length := by rw [HLX.out.len]; kernel_rfl
      have HU := hid hu; have HD := hid hd; have HIN := hid hinf; have HCE := hid hcell; have HFX := hid hfx
      have HXM := hid (Rep.msg.keep hxm HKP.out (fun _ _ => id)); have HLT := hid hst.lt
      have HTK := hid (show L.take k ++ [x] = L.take (k + 1) by rw [List.take_add_one, hx]; rfl)
      clear hu hd hinf hcell hfx hxm hst hxs hgb hnc hcm hcs htk hsz hx
      go_wp2_with (first
        | (refine wpList_load_mid rfl _ _ rfl b (k * 27) rfl xs dM HCE.out HU.out HD.out HIN.out ?_)
        | (refine wpl_allocB (z := zM) rfl rfl (by kernel_rfl) ?_; intro g5 w1 hg5 hb5 k1 s1; have HG5 := hid hg5; have K1 := hid k1; clear hg5 k1 s1)
        | (refine wpl_storeB (v := .agg xs.toArray) (b := g5) rfl rfl rfl rfl hb5 HLX.out.info HLX.out.fit HLX.out.oneA ?_; intro w2 hb5' k2 s2; replace hb5' := hb5'.trans (HLX.out.whole rfl); have K2 := hid k2; clear k2 s2)
        | (refine wpl_loadA (ty := 32) (o := 0) (n := 27) rfl rfl rfl hb5' (by kernel_rfl) (by kernel_rfl) xs HLX.out.take HLX.out.len ?_))
      have e5 := HG5.out
      have kr2 : Keep (fun _ => False) wr w2 := K1.out.trans K2.out (fun b hb e => by omega)
      have z2 := kr2.size
      have KR2 := hid kr2
      obtain ⟨vc, vv, vi, vk, hxs2, p1, p2, p3, p4, p5⟩ := msg_cells (Rep.msg.keep HXM.out kr2 (fun _ _ => id))
      have hown := ownM_w p1 p2 p3 p4 (fun q hq => by have := HLT.out q hq.1; omega) p5 HFX.out.c HFX.out.v HFX.out.i HFX.out.k HFX.out.vc HFX.out.kc
      rw [← hxs2] at hown
      clear p1 p2 p3 p4 p5 hxs2
      clear kr2 hb5 hb5'
      refine hown.mono ?_
      clear hown
      rintro e w3 ⟨Ax, cx, Av, Ai, Ak, cv, ci, ck, rfl, hv3, hw3, k3⟩
      obtain ⟨vs, hvs⟩ : ∃ vs, vs = msgCs x (.slice Ax x.value.changes.length cx) (.slice Av x.votes.length cv) (.slice Ai x.image.length ci) (.slice Ak x.verdict.commits.length ck) := ⟨_, rfl⟩
      rw [← hvs] at hv3 ⊢
      have HVS := hid hvs; have HW3 := hid hw3
      have HV3 := hid hv3; have K3 := hid k3; have HLV := hid (MsgL.of hv3)
      clear hv3 k3 hvs hw3
      go_wp2_with (first
        | (refine wpl_sliceOne (v := .agg vs.toArray) (z := zM) rfl rfl Try.underlying45 (n := 27) (by kernel_rfl) (by decide) (by decide) rfl (by simp [Value.cells, HLV.out.len]) ?_; intro g7 w4 hg7 hb7 k4 s4; have K4 := hid k4; clear hg7 k4 s4)
        | (at_builtin; refine stopHere ?_))
      have hrow7 : Row (fun q => q = g7) w4 (.slice (some ⟨g7, 0, none⟩) 1 1) 1 27 vs := by have := row_at (w := w4) (d := vs) hb7; rwa [HLV.out.len] at this
      have k34 : Keep (fun _ => False) wr w4 := (KR2.out.trans K3.out (fun _ _ f => f)).trans K4.out (fun _ _ f => f)
      have hown4 := k34.owns HG.out.1 (fun _ _ => id)
      refine goOn (wpl_app (v := .slice B k cc) rfl rfl T_M rfl hown4 rfl hrow7 HLV.out.one (by omega) (by omega) ?_)
      intro A6 c6 w5 ho5 k5 hn5
      have hmore := HG.out.more zr (KR2.out.trans K3.out (fun _ _ f => f)) (Rep.msg.mono HV3.out (fun q hq => ⟨by have := hq.1; omega, hq.2⟩)) K4.out ho5 k5 hn5
      have hwm := HWR.out.more (x := x) (nx := x.value.changes.length) (cx := cx) (Ax := Ax) HG.out.1.1 HFX.out.c zr (fun b hb => own_lt' HG.out.1 b hb) (KR2.out.trans K3.out (fun _ _ f => f)) (HW3.out.mono (fun q hq => ⟨by have := hq.1; omega, hq.2⟩)) HVS.out K4.out k5 hn5
      have HWM := hid hwm
      clear hwm
      rw [HTK.out] at hmore
      have hownb := HG.out.2.2.2
      have hkf : Keep (fun _ => False) w w5 := HKP.out.trans hmore.2 (fun q hq e => by have := hownb q e.symm; omega)
      have HM := hid hmore.1; have HKF := hid hkf
      clear ho5 k5 hn5 hmore hkf hown4 hrow7 hb7 k34
      go_wp2_with fail
      exact ⟨⟨k + 1, _, by omega, by simp, HM.out, HWM.out, HKF.out⟩, by simp [intOf]; omega⟩
    · obtain rfl : k = n := by omega
      go_wp2_with fail
      go_ret
      have hob := HG.out.2.2.2
      exact ⟨B, cc, ds, by rw [← HN.out]; rfl, by rw [← HN.out]; exact HG.out.1, fun b hb => by rw [← HN.out] at hb; exact ⟨hob b hb, own_lt' HG.out.1 b hb⟩, by rw [← HN.out]; exact HWR.out, HKP.out⟩
theorem NetQ.allW (h : NetQ B E w g most L) : Calls Try.prog 13 #[.pointer (some ⟨g, 0, none⟩)] w (AllW w L.length) := by
  obtain ⟨F, h1, h2, h3⟩ := h
  exact nall_w h1
end
end Go.Proofs.Ytofljidmdabkcaa
