/- The tally: those, Further, Ready. -/
import Derived.Test.YthlgnilgjeebaaaTalK
import Derived.Test.YthlgnilgjeebaaaMostZ
namespace Go.Proofs.Ythlgnilgjeebaaa
open Go.RowKit Go.MapKept Go.Sort Go.Shelf
section
variable {F G S : Nat → Prop} {w w' : World} {g m1 m2 m3 : Nat} {s : TS} {vm : Value} {M : List Int}
theorem index_nil (f : Value) : Calls Try.prog 70 #[.slice none 0 0, f] w fun e w' => e = .returned (.int .i64 (-1)) ∧ w = w' := by
  go_enter Try.func70, Try.ntmps70
  go_wp2_with fail
  go_loopw [8] (fun i wr => i = .int .i64 0 ∧ w = wr) (fun _ _ => 0)
  case atStart => exact ⟨rfl, rfl⟩
  case round =>
    obtain ⟨rfl, rfl⟩ := hrel
    go_wp2_with fail
    go_ret
    exact ⟨rfl, rfl⟩
theorem del_nil (f : Value) : Calls Try.prog 62 #[.slice none 0 0, f] w fun e w' => e = .returned (.slice none 0 0) ∧ w = w' := by
  go_enter Try.func62, Try.ntmps62
  go_wp2_with fail
  refine (index_nil f).mono ?_
  rintro e w' ⟨rfl, rfl⟩
  go_wp2_with fail
  go_ret
  exact ⟨rfl, rfl⟩
/-- Those promises whose bases are above a slot, or are not. -/
def byR (s : TS) (ab : Bool) (slot : Int) : List Int := (keysS s.pr).filter (fun k => soB ab slot (prAt s k))
theorem soF_enters : ∀ args w, (callFunc 63 args).run Try.prog w = .ok (.enter 63 args) w := enters_of Try.func63 (by kernel_rfl) rfl
/-- What DeleteFunc makes of a gathered list. -/
theorem del_calls {u : Value} {l : List Int} {w0 : World} (hg : Gat w0 w u l) (hwf : ∀ x ∈ l, (Lit.int .i64 x).wf = true) (hl : l.length ≤ 1000000) (h : TalM F w g s m1 m2 m3) (ab : Bool) {b1 b2 bs : Nat} {slot : Int}
    (hb1 : w.cell? ⟨b1, 0, none⟩ = some (.pointer (some ⟨g, 0, none⟩))) (hb2 : w.cell? ⟨b2, 0, none⟩ = some (.func (.func (soF ab)) #[] #[.pointer (some ⟨bs, 0, none⟩)])) (hbs : w.cell? ⟨bs, 0, none⟩ = some (.int .i64 slot))
    (hF : ∀ k, F k → k < w0.heap.size) (h1 : b1 < w0.heap.size) (h2 : b2 < w0.heap.size) (h3 : bs < w0.heap.size) :
    Calls Try.prog 62 #[u, .func (.func 63) #[] #[.pointer (some ⟨b2, 0, none⟩), .pointer (some ⟨b1, 0, none⟩)]] w fun e w' => ∃ u', e = .returned u' ∧ Row (NewIn w0 w') w' u' (l.filter (fun k => soB ab slot (prAt s k))).length 1 ((l.filter (fun k => soB ab slot (prAt s k))).map I64) ∧ Keep (fun k => w0.heap.size ≤ k) w w' := by
  have hsz := hg.kp.size
  rcases hg.own.2 with ⟨rfl, hn⟩ | ⟨blk, cap, cur, rfl, _, hblk, hnc, hcapm, hcs, htake⟩
  · have hl0 : l = [] := List.eq_nil_of_length_eq_zero (by first | exact hn | simpa using hn)
    subst hl0
    refine (del_nil _).mono ?_
    rintro e w' ⟨rfl, rfl⟩
    exact ⟨_, rfl, Row.nil _ _ _, Keep.refl _ _⟩
  · have hblt := lt_heap hblk
    have hbnew : w0.heap.size ≤ blk := hg.new blk (by simp [Value.ownBlock])
    obtain ⟨d, hd⟩ := toW l hwf
    have hdl : d.length = l.length := by rw [← hd, List.length_map]
    have hH : Holds encW w blk 0 d.toArray := by
      intro j hj
      have hj' : j < d.length := by simpa using hj
      refine ⟨?_, free_at hblk _⟩
      have hc := hg.own.cells (g := blk) (by simp [Value.ownBlock]) j (I64 (l.getD j 0)) (by rw [List.getElem?_map, List.getElem?_eq_getElem (by omega)]; simp [List.getD, List.getElem?_eq_getElem (show j < l.length by omega)])
      rw [Addr.add_lit] at hc
      rw [hc]
      simp only [encW]
      congr 2
      have : l[j]? = some (d[j]).1 := by rw [← hd, List.getElem?_map, List.getElem?_eq_getElem hj']; rfl
      simp [List.getD, this, getElem!_pos d.toArray j hj]
    have hpred : PredAt Try.prog 63 #[.pointer (some ⟨b2, 0, none⟩), .pointer (some ⟨b1, 0, none⟩)] encW (fun x => !soB ab slot (prAt s x.1)) w := fun W x hb => by
      have kk : Keep (fun _ => False) w W := ⟨hb.os, hb.tape, hb.output, hb.size, fun k hk _ => hb.block k hk⟩
      exact those1_gives (h.keep kk (fun _ _ => id)) ab (kk.cell hb1 id) (kk.cell hb2 id) (kk.cell hbs id) x
    have hover : PredOver Try.prog 63 #[.pointer (some ⟨b2, 0, none⟩), .pointer (some ⟨b1, 0, none⟩)] encW (fun x => !soB ab slot (prAt s x.1)) blk 0 d.toArray.size w := fun n os dk x _ => by
      have k1 := keep_putRowG encW w blk 0 n dk
      have kk : Keep (fun k => k = blk) w (sortWorld encW w blk 0 n dk os) := k1.trans (keep_grow _ os) (fun _ _ f => f.elim)
      exact those1_gives (h.keep kk (fun k hk e => by have := hF k hk; omega)) ab (kk.cell hb1 (fun e => by have e : b1 = blk := e; omega)) (kk.cell hb2 (fun e => by have e : b2 = blk := e; omega)) (kk.cell hbs (fun e => by have e : bs = blk := e; omega)) x
    have hc := AnyE.slices_DeleteFunc Try.delA encW (fun _ => rfl) (fun x => !soB ab slot (prAt s x.1)) 63 #[.pointer (some ⟨b2, 0, none⟩), .pointer (some ⟨b1, 0, none⟩)] soF_enters (default : W64) (fun w => by kernel_rfl) blk 0 cap d.toArray w hpred hover hH (by simp; omega) (by simp; omega)
    have e1 : d.toArray.size = l.length := by simpa using hdl
    rw [e1] at hc
    refine Calls.mono hc ?_
    rintro e w' ⟨rfl, q, rfl⟩
    have hfl : ((d.filter fun x => !!soB ab slot (prAt s x.1)).map (·.1)) = l.filter (fun k => soB ab slot (prAt s k)) := by
      simp only [Bool.not_not]
      rw [filterW d (fun k => soB ab slot (prAt s k)), hd]
    generalize hfd : (d.filter fun x => !!soB ab slot (prAt s x.1)) = fd at *
    have hfdl : fd.length = (l.filter (fun k => soB ab slot (prAt s k))).length := by rw [← hfl, List.length_map]
    have hle : fd.length ≤ l.length := by rw [hfdl]; exact List.length_filter_le _ _
    have hk := keep_putRowG encW w blk 0 q (fd ++ List.replicate (l.length - fd.length) (default : W64)).toArray
    have hp := Go.Sort.holds_putRow encW (Go.Sort.ahead w q) blk 0 d.toArray (fd ++ List.replicate (l.length - fd.length) (default : W64)).toArray hH (by simp; omega)
    refine ⟨_, rfl, ?_, hk.mono (fun k _ e => by have e : k = blk := e; omega)⟩
    rw [← hfl, List.length_map]
    refine ⟨_, _, rfl, by simp, by omega, hcapm, .inr ⟨blk, 0, rfl, ⟨hbnew, by have := hk.size; omega⟩, by have := hk.size; omega, fun j v hv => ?_⟩⟩
    rw [List.map_map, List.getElem?_map] at hv
    obtain ⟨x, hx, rfl⟩ := Option.map_eq_some_iff.1 hv
    have hj := (List.getElem?_eq_some_iff.1 hx).1
    have := (hp j (by simp; omega)).1
    rw [this]
    have hx2 : (fd ++ List.replicate (l.length - fd.length) (default : W64))[j]? = some x := by rw [List.getElem?_append_left hj, hx]
    have hj2 := (List.getElem?_eq_some_iff.1 hx2).1
    rw [getElem!_pos _ j (by simpa using hj2)]
    have : (fd ++ List.replicate (l.length - fd.length) (default : W64))[j] = x := by
      have h0 := List.getElem?_eq_getElem hj2
      rw [hx2] at h0
      exact (Option.some.inj h0).symm
    simp only [List.getElem_toArray, this]
    rfl
set_option maxRecDepth 20000 in
theorem those_calls (h : TalAt F w g s) (hl : s.pr.length ≤ 1000000) (hF : ∀ k, F k → k < w.heap.size) (ab : Bool) {bs : Nat} {slot : Int} (hbs : w.cell? ⟨bs, 0, none⟩ = some (.int .i64 slot)) :
    Calls Try.prog 47 #[.pointer (some ⟨g, 0, none⟩), .func (.func (soF ab)) #[] #[.pointer (some ⟨bs, 0, none⟩)]] w fun e w' => ∃ u', e = .returned u' ∧ Row (NewIn w w') w' u' (byR s ab slot).length 1 ((byR s ab slot).map I64) ∧ Keep (fun _ => False) w w' := by
  obtain ⟨fv, hfv⟩ : ∃ fv, fv = soF ab := ⟨_, rfl⟩
  rw [← hfv]
  have HFV := hid hfv
  clear hfv
  go_enter Try.func47, Try.ntmps47
  go_wp2_with (first
    | (refine wpl_boxB (v := .pointer (some ⟨g, 0, none⟩)) rfl rfl rfl ?_; intro b1 w1 hg1 hb1 k1 s1; have HG1 := hid hg1; have HS1 := hid s1; clear hg1 s1; replace hb1 : w1.heap[b1]? = some (.cells #[.pointer (some ⟨g, 0, none⟩)] 25) := hb1)
    | (refine wpl_boxB (v := .func (.func fv) #[] #[.pointer (some ⟨bs, 0, none⟩)]) rfl rfl rfl ?_; intro b2 w2 hg2 hb2 k2 s2; have HG2 := hid hg2; have HS2 := hid s2; clear hg2 s2; replace hb2 : w2.heap[b2]? = some (.cells #[.func (.func fv) #[] #[.pointer (some ⟨bs, 0, none⟩)]] 64) := hb2; have c1 := cell_at (k2.heap hb1 id) 0 _ rfl))
  have k12 : Keep (fun _ => False) w w2 := k1.trans k2 (fun _ _ q => q)
  have h2 := h.keep k12 (fun _ _ => id)
  have K12 := hid k12
  have hs12 := hid (show w2.heap.size = w.heap.size + 2 by have := HS1.out; have := HS2.out; have := HG1.out; have := HG2.out; omega)
  have hb1' := k2.heap hb1 id
  clear k1 k2 k12 hb1
  refine (promised_calls h2 hl).mono ?_
  rintro e w3 ⟨u3, rfl, hg3⟩
  obtain ⟨m1, m2, m3, hm⟩ := h2.keep hg3.kp (fun _ _ => id)
  have hwf : ∀ x ∈ keysS s.pr, (Lit.int .i64 x).wf = true := hm.pr.wfs
  have hdel := del_calls (ab := ab) (slot := slot) hg3 hwf (by rw [keysS_length]; exact hl) hm (b1 := b1) (b2 := b2) (bs := bs) (hg3.kp.cell (cell_at hb1' 0 _ rfl) id) (by rw [← HFV.out]; exact hg3.kp.cell (cell_at hb2 0 _ rfl) id) (hg3.kp.cell (K12.out.cell hbs id) id)
    (fun k hk => by have := hF k hk; have := K12.out.size; omega) (lt_heap hb1') (lt_heap hb2) (by have h9 : bs < w.heap.size := World.block_lt_of_cell? _ _ hbs; have := K12.out.size; omega)
  have hg3k := hid hg3.kp
  have c3 := hg3.kp.cell c1 id
  have hsz3 := hid hg3.kp.size
  clear hm hg3 hwf
  go_wp2_with fail
  refine Calls.mono hdel ?_
  rintro e w4 ⟨u4, rfl, hr4, hk4⟩
  have HR4 := hid hr4; have HK4 := hid hk4
  clear hr4 hk4 hdel
  go_wp2_with fail
  go_ret
  have hs4 := HK4.out.size
  have hs2' := hs12.out
  have hs3' := hsz3.out
  exact ⟨_, rfl, HR4.out.mono (fun k hk => ⟨by have := hk.1; omega, hk.2⟩), (K12.out.trans hg3k.out (fun _ _ q => q)).trans HK4.out (fun b hb q => by omega)⟩
theorem further_calls (h : TalAt F w g s) (hl : s.pr.length ≤ 1000000) (hF : ∀ k, F k → k < w.heap.size) (slot : Int) :
    Calls Try.prog 19 #[.pointer (some ⟨g, 0, none⟩), .int .i64 slot] w fun e w' => ∃ u', e = .returned u' ∧ Row (NewIn w w') w' u' (byR s true slot).length 1 ((byR s true slot).map I64) ∧ Keep (fun _ => False) w w' := by
  go_enter Try.func19, Try.ntmps19
  go_wp2_with (first
    | (refine wpl_boxB (v := .int .i64 slot) rfl rfl rfl ?_; intro b1 w1 hg1 hb1 k1 s1; have HG1 := hid hg1; have HS1 := hid s1; clear hg1 s1; replace hb1 : w1.heap[b1]? = some (.cells #[.int .i64 slot] 3) := hb1))
  refine (those_calls (h.keep k1 (fun _ _ => id)) hl (fun k hk => by have := hF k hk; have := k1.size; omega) true (cell_at hb1 0 _ rfl)).mono ?_
  rintro e w2 ⟨u2, rfl, hr2, hk2⟩
  have HR := hid hr2; have HK := hid (k1.trans hk2 (fun _ _ q => q)); have K1 := hid k1
  clear hr2 hk2 hb1 k1
  go_wp2_with fail
  go_ret
  exact ⟨_, rfl, HR.out.mono (fun k hk => ⟨by have := hk.1; have := K1.out.size; omega, hk.2⟩), HK.out⟩
def readyB (s : TS) (slot : Int) (M : List Int) : Bool := mostB M (byR s false slot)
theorem tready_calls (h : TalAt F w g s) (hl : s.pr.length ≤ 1000000) (hF : ∀ k, F k → k < w.heap.size) (slot : Int) (hM : Row G w vm M.length 1 (M.map I64)) (hml : M.length ≤ 1000000) :
    Calls Try.prog 23 #[.pointer (some ⟨g, 0, none⟩), .int .i64 slot, vm] w fun e w' => e = .returned (.bool (readyB s slot M)) ∧ Keep (fun _ => False) w w' := by
  obtain ⟨A, c, rfl⟩ := hM.shape
  have HM := hid hM
  clear hM
  generalize hr : readyB s slot M = r
  have HR := hid hr
  clear hr
  go_enter Try.func23, Try.ntmps23
  go_wp2_with (first
    | (refine wpl_boxB (v := .int .i64 slot) rfl rfl rfl ?_; intro b1 w1 hg1 hb1 k1 s1; have HG1 := hid hg1; have HS1 := hid s1; clear hg1 s1; replace hb1 : w1.heap[b1]? = some (.cells #[.int .i64 slot] 3) := hb1))
  have h1 := h.keep k1 (fun _ _ => id)
  refine (made_calls h1).mono ?_
  rintro e w' ⟨rfl, rfl⟩
  go_wp2_with fail
  refine (those_calls h1 hl (fun k hk => by have := hF k hk; have := k1.size; omega) false (cell_at hb1 0 _ rfl)).mono ?_
  rintro e w2 ⟨u2, rfl, hr2, hk2⟩
  have hk02 := k1.trans hk2 (fun _ _ q => q)
  have HR2 := hid hr2; have HK := hid hk02
  clear hr2 hk2 hb1 k1 h1 hk02
  go_wp2_with fail
  refine (most_any (HM.out.keep HK.out (fun _ _ => id)) hml HR2.out).mono ?_
  rintro e w3 ⟨rfl, hk3⟩
  have HK3 := hid (HK.out.trans hk3 (fun _ _ q => q))
  clear hk3
  have hrr : mostB M (byR s false slot) = r := HR.out
  rw [hrr]
  go_wp2_with fail
  go_ret
  exact ⟨rfl, HK3.out⟩
end
end Go.Proofs.Ythlgnilgjeebaaa
