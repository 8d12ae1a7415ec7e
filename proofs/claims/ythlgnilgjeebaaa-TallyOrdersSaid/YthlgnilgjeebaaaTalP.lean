/- The tally: Promise. -/
import Derived.Test.YthlgnilgjeebaaaTalW
import Derived.Test.YthlgnilgjeebaaaCopyM
namespace Go.Proofs.Ythlgnilgjeebaaa
open Go.RowKit Go.MapKept
def goodS (x : Int) : Bool := decide (0 ≤ x ∧ x ≤ 1099511627776)
def putB (b : List (Int × Vote)) (x : Vote) : Bool := match look b x.slot with | some o => decide (o.ballot < x.ballot) | none => true
def stepV (p : List (Int × Vote) × Int) (x : Vote) : List (Int × Vote) × Int :=
  if goodS x.slot then (if putB p.1 x then putE p.1 x.slot x else p.1, if p.2 ≤ x.slot then x.slot + 1 else p.2) else p
def promB (s : TS) (id : Int) : Bool := repB id && (look s.pr id).isNone
def promS (s : TS) (id base : Int) (l : List Vote) : TS :=
  if promB s id then { s with pr := putE s.pr id base, best := (l.foldl stepV (s.best, s.top)).1, top := (l.foldl stepV (s.best, s.top)).2 } else s
section
variable {F G S : Nat → Prop} {w w' : World} {g m1 m2 m3 : Nat} {s : TS}
theorem TalM.setTop (h : TalM F w g s m1 m2 m3) (n : Int) : TalM F (w.setCell ⟨g, 4, none⟩ (.int .i64 n)) g { s with top := n } m1 m2 m3 := by
  have hk : Keep (fun b => b = g) w (w.setCell ⟨g, 4, none⟩ (.int .i64 n)) := (Keep.refl _ w).setCell _ _ (fun _ => rfl)
  exact { h with
    obj := by rw [heap_set h.obj]; rfl
    pr := h.pr.keep hk (fun e => h.g1 e.symm) (fun _ _ q => q)
    best := h.best.keep hk (fun e => h.g2 e.symm) (VotE.keep hk (fun k q e => q.2.1 e))
    vt := h.vt.keep hk (fun e => h.g3 e.symm) (fun _ _ q => q) }
theorem put_pr (h : TalM F w g s m1 m2 m3) {id base : Int} (hk : (Lit.int .i64 id).wf = true) :
    ∃ wd, (Instr.mapUpdate 59 (.map (some m1)) (.int .i64 id) (.int .i64 base)).run Try.prog w = .ok () wd ∧ TalM F wd g { s with pr := putE s.pr id base } m1 m2 m3 ∧ Keep (fun k => k = m1) w wd := by
  obtain ⟨wd, h1, h2, h3⟩ := h.pr.update Try.underlying59 Try.underlying3 hk (a := base) (v := .int .i64 base) rfl (fun _ _ _ _ q => q)
  exact ⟨wd, h1, { h with
    obj := h3.heap h.obj h.g1
    pr := h2
    best := h.best.keep h3 (fun e => h.d12 e.symm) (VotE.keep h3 (fun k q => q.2.2.1))
    vt := h.vt.keep h3 (fun e => h.d13 e.symm) (fun _ _ q => q) }, h3⟩
theorem put_vote (h : TalM F w g s m1 m2 m3) {x : Vote} {u : Value} (hu : Sl .change w (fun k => F k ∧ k ≠ g ∧ k ≠ m1 ∧ k ≠ m2 ∧ k ≠ m3) u x.value.changes) (hl : x.value.changes.length ≤ 4294967296) (hk : (Lit.int .i64 x.slot).wf = true) :
    ∃ wd, (Instr.mapUpdate 60 (.map (some m2)) (.int .i64 x.slot) (.agg (voteCs x u).toArray)).run Try.prog w = .ok () wd ∧ TalM F wd g { s with best := putE s.best x.slot x } m1 m2 m3 ∧ Keep (fun k => k = m2) w wd := by
  obtain ⟨wd, h1, h2, h3⟩ := h.best.update Try.underlying60 Try.underlying3 hk (a := x) (v := .agg (voteCs x u).toArray) ⟨u, rfl, hu, hl⟩ (fun w' hw' a v h => VotE.keep hw' (fun q hq e => hq.2.2.2.1 e) a v h)
  exact ⟨wd, h1, { h with
    obj := h3.heap h.obj h.g2
    pr := h.pr.keep h3 h.d12 (fun _ _ q => q)
    best := h2
    vt := h.vt.keep h3 (fun e => h.d23 e.symm) (fun _ _ q => q) }, h3⟩
theorem pr_look2 (h : TalM F w g s m1 m2 m3) (k : Int) (hk : (Lit.int .i64 k).wf = true) :
    (Instr.lookup 59 (.map (some m1)) (.int .i64 k) true).run Try.prog w = .ok (.tuple #[.int .i64 ((look s.pr k).getD 0), .bool (look s.pr k).isSome]) w := by
  have hz : (zeroValue 3).run Try.prog w = .ok (.int .i64 0) w := by kernel_rfl
  rcases h.pr.lookup Try.underlying59 Try.underlying3 hk hz true with ⟨hl, hrun⟩ | ⟨x, u0, hl, rfl, hrun⟩
  · rw [hl]; exact hrun
  · rw [hl]; exact hrun
/-- What a map's entries are, whatever else the world holds. -/
theorem MapI.fix {α : Type} {E : World → α → Value → Prop} {b : Nat} {l : List (Int × α)} (h : MapI E w b l) : ∃ l2 : List (Int × (α × Value)), l2.map (fun p => (p.1, p.2.1)) = l ∧ (∀ p ∈ l2, E w p.2.1 p.2.2) ∧
    ∀ w' : World, w'.heap[b]? = w.heap[b]? → MapI (fun _ (a : α × Value) v => v = a.2) w' b l2 := by
  obtain ⟨es, clock, h1, h2, h3, h4, h5⟩ := h
  have key : ∀ (l : List (Int × α)) (k : Nat), (∀ (i : Nat) (p : Int × α), l[i]? = some p → ∃ e : MapEntry, es[k + i]? = some e ∧ e.key = .int .i64 p.1 ∧ (Lit.int .i64 p.1).wf = true ∧ E w p.2 e.val) →
      ∃ l2 : List (Int × (α × Value)), l2.map (fun p => (p.1, p.2.1)) = l ∧ (∀ p ∈ l2, E w p.2.1 p.2.2) ∧ ∀ (i : Nat) (p : Int × (α × Value)), l2[i]? = some p → ∃ e : MapEntry, es[k + i]? = some e ∧ e.key = .int .i64 p.1 ∧ (Lit.int .i64 p.1).wf = true ∧ e.val = p.2.2 := by
    intro l
    induction l with
    | nil => intro k _; exact ⟨[], rfl, by simp, by simp⟩
    | cons q l ih =>
      intro k hq
      obtain ⟨l2, r1, r2, r3⟩ := ih (k + 1) (fun i p hp => by
        have := hq (i + 1) p (by simpa using hp)
        rw [show k + 1 + i = k + (i + 1) by omega]
        exact this)
      obtain ⟨e, e1, e2, e3, e4⟩ := hq 0 q rfl
      refine ⟨(q.1, (q.2, e.val)) :: l2, by simp [r1], fun p hp => ?_, fun i p hp => ?_⟩
      · rcases List.mem_cons.1 hp with rfl | hp
        · exact e4
        · exact r2 p hp
      · cases i with
        | zero =>
          simp only [List.getElem?_cons_zero, Option.some.injEq] at hp
          subst hp
          exact ⟨e, e1, e2, e3, rfl⟩
        | succ i =>
          obtain ⟨e', q1, q2⟩ := r3 i p (by simpa using hp)
          exact ⟨e', by rw [show k + (i + 1) = k + 1 + i by omega]; exact q1, q2⟩
  obtain ⟨l2, r1, r2, r3⟩ := key l 0 (fun i p hp => by rw [Nat.zero_add]; exact h5 i p hp)
  refine ⟨l2, r1, r2, fun w' hw => ⟨es, clock, hw.trans h1, h2, by rw [h3, ← r1, List.length_map], ?_, fun i p hp => ?_⟩⟩
  · have : l2.map Prod.fst = l.map Prod.fst := by rw [← r1, List.map_map]; rfl
    rw [this]; exact h4
  · obtain ⟨e, q1, q2, q3, q4⟩ := r3 i p hp
    rw [Nat.zero_add] at q1
    exact ⟨e, q1, q2, q3, q4⟩
theorem look_map {α β : Type} (f : α → β) (l : List (Int × α)) (k : Int) : look (l.map (fun p => (p.1, f p.2))) k = (look l k).map f := by
  induction l with
  | nil => rfl
  | cons p l ih =>
    rw [List.map_cons, look_cons, look_cons, ih]
    split <;> rfl
/-- What stands at a slot, as a lookup tells it in whatever world that has the map. -/
theorem best_look2 (h : TalM F w g s m1 m2 m3) (k : Int) (hk : (Lit.int .i64 k).wf = true) :
    ∃ x A c ok, (∀ w' : World, w'.heap[m2]? = w.heap[m2]? → (Instr.lookup 60 (.map (some m2)) (.int .i64 k) true).run Try.prog w' = .ok (.tuple #[.agg (voteCs x (.slice A x.value.changes.length c)).toArray, .bool ok]) w') ∧ look s.best k = (if ok then some x else none) := by
  obtain ⟨l2, r1, r2, r3⟩ := h.best.fix
  have hlk : look s.best k = (look l2 k).map Prod.fst := by rw [← r1]; exact look_map (fun a : Vote × Value => a.1) l2 k
  cases hq : look l2 k with
  | none =>
    refine ⟨votZ, none, 0, false, fun w' hw => ?_, by rw [hlk, hq]; rfl⟩
    have hz : (zeroValue 36).run Try.prog w' = .ok (.agg (voteCs votZ (.slice none 0 0)).toArray) w' := by kernel_rfl
    rcases (r3 w' hw).lookup Try.underlying60 Try.underlying3 hk hz true with ⟨hl, hrun⟩ | ⟨x, u0, hl, _⟩
    · exact hrun
    · rw [hq] at hl; cases hl
  | some p =>
    obtain ⟨u, hu1, hu2, _⟩ := r2 _ (look_mem hq)
    obtain ⟨A, c, rfl⟩ := hu2.shape
    refine ⟨p.1, A, c, true, fun w' hw => ?_, by rw [hlk, hq]; rfl⟩
    have hz : (zeroValue 36).run Try.prog w' = .ok (.agg (voteCs votZ (.slice none 0 0)).toArray) w' := by kernel_rfl
    rcases (r3 w' hw).lookup Try.underlying60 Try.underlying3 hk hz true with ⟨hl, _⟩ | ⟨x, u0, hl, hv, hrun⟩
    · rw [hq] at hl; cases hl
    · rw [hq] at hl
      obtain rfl := Option.some.inj hl
      rw [hv, hu1] at hrun
      exact hrun
theorem stepV_next {l : List Vote} {k : Nat} {x : Vote} (h : l[k]? = some x) (b : List (Int × Vote)) (n : Int) : (l.take (k + 1)).foldl stepV (b, n) = stepV ((l.take k).foldl stepV (b, n)) x := by
  rw [List.take_add_one, h, List.foldl_append]; rfl
/-- Where a promise stands, votes of a list heard. -/
def PInv (F : Nat → Prop) (w : World) (g m1 m2 m3 : Nat) (s : TS) (l : List Vote) (wr : World) : Prop :=
  TalM (Grow F w wr) wr g { s with best := (l.foldl stepV (s.best, s.top)).1, top := (l.foldl stepV (s.best, s.top)).2 } m1 m2 m3 ∧ Keep F w wr
theorem prom_fin {id base : Int} {l : List Vote} {wr : World} (hb : promB s id = true) (h : PInv F w g m1 m2 m3 { s with pr := putE s.pr id base } l wr) : TalAt (Grow F w wr) wr g (promS s id base l) ∧ Keep F w wr := by
  rw [promS, if_pos hb]; exact ⟨⟨m1, m2, m3, h.1⟩, h.2⟩
set_option maxRecDepth 20000 in
set_option maxHeartbeats 4000000 in
theorem promise_calls (h : TalAt F w g s) (hF : ∀ k, F k → k < w.heap.size) (id base : Int) {v : Value} {l : List Vote} (hv : Sl .vote w G v l) (hd : ∀ k, G k → ¬ F k) (hG : ∀ k, G k → k < w.heap.size) (hm : ∀ x ∈ l, x.value.changes.length ≤ 4294967296) :
    Calls Try.prog 13 #[.pointer (some ⟨g, 0, none⟩), .int .i64 id, .int .i64 base, v] w fun e w' => e = .returned (.bool (promB s id)) ∧ TalAt (Grow F w w') w' g (promS s id base l) ∧ Keep F w w' := by
  obtain ⟨A0, c0, rfl⟩ := hv.shape
  have H := hid h
  have hsame : promB s id = false → TalAt (Grow F w w) w g (promS s id base l) ∧ Keep F w w := fun hb => by
    rw [promS, hb]; exact ⟨H.out.mono (fun _ q => .inl q), Keep.refl _ _⟩
  have HSAME := hid hsame
  clear hsame
  by_cases hr : repB id = true
  case neg =>
    have hr : repB id = false := by simpa using hr
    have hb : promB s id = false := by simp [promB, hr]
    rw [hb]
    have HB := hid hb
    clear hb hv hd hm
    generalize hln : l.length = n at *
    go_enter Try.func13, Try.ntmps13
    go_wp2_with fail
    refine (made_calls H.out).mono ?_
    rintro e w' ⟨rfl, rfl⟩
    go_wp2_with fail
    refine (trep_calls id).mono ?_
    rintro e w' ⟨rfl, rfl⟩
    rw [hr]
    go_wp2_with fail
    go_ret
    exact ⟨rfl, HSAME.out HB.out⟩
  obtain ⟨m1, m2, m3, hm0⟩ := h
  have hlk := pr_look2 hm0 id (rep_ok hr).wf
  have c2 := cell_at hm0.obj 2 (.map (some m1)) rfl
  by_cases hs : (look s.pr id).isSome = true
  case pos =>
    have hb : promB s id = false := by simp [promB, hr]; exact hs
    rw [hb]
    have HB := hid hb
    rw [hs] at hlk
    generalize (look s.pr id).getD 0 = bb at *
    clear hb hv hd hm hm0 hs
    generalize hln : l.length = n at *
    go_enter Try.func13, Try.ntmps13
    go_wp2_with fail
    refine (made_calls H.out).mono ?_
    rintro e w' ⟨rfl, rfl⟩
    go_wp2_with fail
    refine (trep_calls id).mono ?_
    rintro e w' ⟨rfl, rfl⟩
    rw [hr]
    go_wp2_with fail
    go_ret
    exact ⟨rfl, HSAME.out HB.out⟩
  have hs : (look s.pr id).isSome = false := by simpa using hs
  have hb : promB s id = true := by simp [promB, hr]; simpa using hs
  rw [hb]
  rw [hs] at hlk
  obtain ⟨w1, hu1, hm1, hk1⟩ := put_pr hm0 (base := base) (rep_ok hr).wf
  generalize (look s.pr id).getD 0 = bb at *
  have HB := hid hb
  have hf1 : ∀ b, b = m1 → F b := fun b e => by rw [e]; exact hm0.f1
  have hvw : Sl .vote w1 G (.slice A0 l.length c0) l := hv.keep hk1 (fun k q e => hd k q (hf1 k e))
  have hP0 : PInv F w g m1 m2 m3 { s with pr := putE s.pr id base } [] w1 := ⟨hm1.mono (fun _ => .inl), hk1.mono (fun b _ e => hf1 b e)⟩
  have HV := hid hvw; have HM := hid hm; have HP0 := hid hP0; have HD := hid hd; have HF := hid hF; have HG := hid hG; have HK1 := hid hk1; have HFM := hid (And.intro hm0.f1 (And.intro hm0.f2 (And.intro hm0.f3 hm0.fg)))
  obtain ⟨n, hn⟩ : ∃ n, n = l.length := ⟨_, rfl⟩
  rw [← hn] at HV ⊢
  have HN := hid hn
  clear hb hs hv hvw hP0 hm hd hF hG hm1 hk1 hf1 hn hm0 HSAME
  go_enter Try.func13, Try.ntmps13
  go_wp2_with fail
  refine (made_calls H.out).mono ?_
  rintro e w' ⟨rfl, rfl⟩
  go_wp2_with fail
  refine (trep_calls id).mono ?_
  rintro e w' ⟨rfl, rfl⟩
  rw [hr]
  clear hr
  go_wp2_with fail
  clear hlk hu1 c2
  have hcap : n ≤ 9223372036854775807 := by obtain ⟨_, _, he, h1, h2, _⟩ := HV.out; rw [← HN.out] at h1; unfold maxLen at h2; omega
  go_loopw [41] (fun i wr => ∃ k : Nat, k ≤ n ∧ i = .int .i64 k ∧ PInv F w g m1 m2 m3 { s with pr := putE s.pr id base } (l.take k) wr ∧ Keep F w1 wr) (fun i _ => n - (intOf i).toNat)
  case atStart => exact ⟨0, Nat.zero_le _, rfl, HP0.out, Keep.refl _ _⟩
  case round =>
    obtain ⟨k, hk, rfl, hp, hkp⟩ := hrel
    by_cases hlt : k < n
    · obtain ⟨x, hx⟩ : ∃ x, l[k]? = some x := ⟨l[k]'(by rw [← HN.out]; exact hlt), by simp [show k < l.length by rw [← HN.out]; exact hlt]⟩
      have hvk := HV.out.keep hkp HD.out
      obtain ⟨b, off, rfl, hGb, es, hes, hcell⟩ := hvk.elem hx
      obtain ⟨v1, rfl, hs1, hok1⟩ := vote_cells hes
      have hxl := HM.out x (List.mem_of_getElem? hx)
      obtain ⟨A1, c1, rfl⟩ := hs1.shape
      have hsz : Rep.vote.size = 13 := rfl
      rw [hsz] at hcell
      obtain ⟨nx, hnx⟩ : ∃ nx, nx = x.value.changes.length := ⟨_, rfl⟩
      rw [← hnx] at hcell hs1 hxl
      have p0 : wr.cell? ⟨b, off + k * 13, none⟩ = some (.int .i64 x.slot) := hcell 0 _ rfl
      have p1 : wr.cell? ⟨b, off + k * 13 + 1, none⟩ = some (.int .i64 x.ballot) := hcell 1 _ rfl
      have p2 : wr.cell? ⟨b, off + k * 13 + 2, none⟩ = some (.int .i64 x.value.kind) := hcell 2 _ rfl
      have p3 : wr.cell? ⟨b, off + k * 13 + 3, none⟩ = some (.string x.value.name) := hcell 3 _ rfl
      have p4 : wr.cell? ⟨b, off + k * 13 + 4, none⟩ = some (.int .i64 x.value.session) := hcell 4 _ rfl
      have p5 : wr.cell? ⟨b, off + k * 13 + 5, none⟩ = some (.int .i64 x.value.seq) := hcell 5 _ rfl
      have p6 : wr.cell? ⟨b, off + k * 13 + 6, none⟩ = some (.int .i64 x.value.base) := hcell 6 _ rfl
      have p7 : wr.cell? ⟨b, off + k * 13 + 7, none⟩ = some (.string x.value.ref) := hcell 7 _ rfl
      have p8 : wr.cell? ⟨b, off + k * 13 + 8, none⟩ = some (.slice A1 nx c1) := hcell 8 _ rfl
      have p9 : wr.cell? ⟨b, off + k * 13 + 9, none⟩ = some (.string x.value.path) := hcell 9 _ rfl
      have p10 : wr.cell? ⟨b, off + k * 13 + 10, none⟩ = some (.int .i64 x.value.from') := hcell 10 _ rfl
      have p11 : wr.cell? ⟨b, off + k * 13 + 11, none⟩ = some (.int .i64 x.value.many) := hcell 11 _ rfl
      have p12 : wr.cell? ⟨b, off + k * 13 + 12, none⟩ = some (.int .i64 x.value.member) := hcell 12 _ rfl
      have HX := hid hx; have HKP := hid hkp; have HOK := hid hok1; have HNX := hid hnx; have HS1 := hid hs1; have HP := hid hp; have HXL := hid hxl; have HGB := hid hGb
      clear hcell hs1 hes hx hp hkp hvk hok1 hsz hnx hxl hGb
      go_upto_region 10 with fail
      have hg12 := heap_alloc_new wr (.cells (voteCs x (.slice A1 nx c1)).toArray 36)
      have ka : Keep (fun _ => False) wr (wr.alloc (.cells (voteCs x (.slice A1 nx c1)).toArray 36)) := (Keep.refl _ wr).alloc _
      have hsa : (wr.alloc (.cells (voteCs x (.slice A1 nx c1)).toArray 36)).heap.size = wr.heap.size + 1 := by simp
      change Code.wp _ _ _ _ (wr.alloc (.cells (voteCs x (.slice A1 nx c1)).toArray 36))
      generalize wr.alloc (.cells (voteCs x (.slice A1 nx c1)).toArray 36) = wa at *
      obtain ⟨gd, hgd⟩ : ∃ gd, gd = wr.heap.size := ⟨_, rfl⟩
      rw [← hgd] at hg12 hsa ⊢
      have HGD := hid hgd; have HSA := hid hsa; have KA := hid ka
      clear p0 p1 p2 p3 p4 p5 p6 p7 p8 p9 p10 p11 p12 hgd hsa ka
      have q0 := cell_at hg12 0 (.int .i64 x.slot) rfl
      have q1 := cell_at hg12 1 (.int .i64 x.ballot) rfl
      obtain ⟨bk, hbk⟩ : ∃ bk, bk = ((l.take k).foldl stepV (s.best, s.top)).1 := ⟨_, rfl⟩
      obtain ⟨tk, htk⟩ : ∃ tk, tk = ((l.take k).foldl stepV (s.best, s.top)).2 := ⟨_, rfl⟩
      have hnx1 : (l.take (k + 1)).foldl stepV (s.best, s.top) = stepV (bk, tk) x := by rw [stepV_next HX.out, hbk, htk]
      have FIN : Hid (∀ (wf : World) (b' : List (Int × Vote)) (t' : Int), stepV (bk, tk) x = (b', t') → TalM (Grow F w wf) wf g { s with pr := putE s.pr id base, best := b', top := t' } m1 m2 m3 → Keep F wr wf →
          ∃ k' : Nat, k' ≤ n ∧ (Value.int .i64 ((k : Int) + 1)) = .int .i64 k' ∧ PInv F w g m1 m2 m3 { s with pr := putE s.pr id base } (l.take k') wf ∧ Keep F w1 wf) := hid (fun wf b' t' he hT hK =>
        ⟨k + 1, by omega, by simp, ⟨by simp only [hnx1, he]; exact hT, HP.out.2.trans hK (fun _ _ q => q)⟩, HKP.out.trans hK (fun _ _ q => q)⟩)
      obtain ⟨hmk, hkr⟩ := HP.out
      simp only [← hbk, ← htk] at hmk
      have hma := hmk.keep KA.out (fun _ _ => _root_.id)
      have hga : ∀ q, Grow F w wr q → Grow F w wa q := fun q hq => hq.imp _root_.id (fun ⟨a, b⟩ => ⟨a, by have := HSA.out; have := HGD.out; omega⟩)
      have HMA := hid hma; have HGA := hid hga
      clear hbk htk hnx1 hmk hkr hma hga
      by_cases h0 : x.slot < 0
      case pos =>
        have hst : stepV (bk, tk) x = (bk, tk) := by rw [stepV, if_neg]; simp [goodS]; omega
        have HST := hid hst
        clear hst
        go_wp2_with fail
        exact ⟨FIN.out _ _ _ HST.out (HMA.out.mono HGA.out) (KA.out.mono (fun _ _ f => f.elim)), by simp [intOf]; omega⟩
      by_cases h1 : 1099511627776 < x.slot
      case pos =>
        have hst : stepV (bk, tk) x = (bk, tk) := by rw [stepV, if_neg]; simp [goodS]; omega
        have HST := hid hst
        clear hst
        go_wp2_with fail
        exact ⟨FIN.out _ _ _ HST.out (HMA.out.mono HGA.out) (KA.out.mono (fun _ _ f => f.elim)), by simp [intOf]; omega⟩
      have hwf : (Lit.int .i64 x.slot).wf = true := okI.wf ⟨by omega, by omega⟩
      have hgood : goodS x.slot = true := by simp [goodS]; omega
      obtain ⟨xo, Ao, co, ok, hlk, hbl⟩ := best_look2 HMA.out x.slot hwf
      have hn2 : m2 < wa.heap.size := HMA.out.best.lt
      have hlkA := hlk wa.drew rfl
      have hlkB : ∀ o, _ := fun o => hlk (wa.alloc o).drew (Below.heap_alloc _ _ _ hn2)
      have c3 := cell_at HMA.out.obj 3 (.map (some m2)) rfl
      have c3a := fun o => (Keep.refl (fun _ => False) wa |>.alloc o).cell c3 _root_.id
      have q0a := fun o => (Keep.refl (fun _ => False) wa |>.alloc o).cell q0 _root_.id
      obtain ⟨no, hno⟩ : ∃ no, no = xo.value.changes.length := ⟨_, rfl⟩
      rw [← hno] at hlkA hlkB
      simp only [voteCs, reqCs] at hlkA hlkB
      have HNO := hid hno; have HBL := hid hbl; have HLK := hid hlk
      clear hno hbl hlk
      have HGLT := hid (lt_heap HMA.out.obj)
      have HGW := hid (show g < w.heap.size from H.out.lt)
      have hwr : IntKind.i64.wrap (x.slot + 1) = x.slot + 1 := by rw [IntKind.wrap_i64]; omega
      have HHLK := hid hlkA
      have HGLT := hid (lt_heap HMA.out.obj)
      have HGW := hid (show g < w.heap.size from H.out.lt)
      have hwr : IntKind.i64.wrap (x.slot + 1) = x.slot + 1 := by rw [IntKind.wrap_i64]; omega
      have HHLK := hid hlkA
      have HGLT := hid (lt_heap HMA.out.obj)
      have HGW := hid (show g < w.heap.size from H.out.lt)
      have hwr : IntKind.i64.wrap (x.slot + 1) = x.slot + 1 := by rw [IntKind.wrap_i64]; omega
      have HHLK := hid hlkA
      go_upto_region 11 with fail
      go_region
      have hg13 := heap_alloc_new wa (.cells #[.int .i64 xo.slot, .int .i64 xo.ballot, .int .i64 xo.value.kind, .string xo.value.name, .int .i64 xo.value.session, .int .i64 xo.value.seq, .int .i64 xo.value.base, .string xo.value.ref, .slice Ao no co, .string xo.value.path, .int .i64 xo.value.from', .int .i64 xo.value.many, .int .i64 xo.value.member] 36)
      have hg12' : (wa.alloc (.cells #[.int .i64 xo.slot, .int .i64 xo.ballot, .int .i64 xo.value.kind, .string xo.value.name, .int .i64 xo.value.session, .int .i64 xo.value.seq, .int .i64 xo.value.base, .string xo.value.ref, .slice Ao no co, .string xo.value.path, .int .i64 xo.value.from', .int .i64 xo.value.many, .int .i64 xo.value.member] 36)).drew.heap[gd]? = _ := heap_alloc hg12 _
      have kab : Keep (fun _ => False) wa (wa.alloc (.cells #[.int .i64 xo.slot, .int .i64 xo.ballot, .int .i64 xo.value.kind, .string xo.value.name, .int .i64 xo.value.session, .int .i64 xo.value.seq, .int .i64 xo.value.base, .string xo.value.ref, .slice Ao no co, .string xo.value.path, .int .i64 xo.value.from', .int .i64 xo.value.many, .int .i64 xo.value.member] 36)).drew := ((Keep.refl _ wa).alloc _).drew
      change Exit.then _ _ _ _ (wa.alloc (.cells #[.int .i64 xo.slot, .int .i64 xo.ballot, .int .i64 xo.value.kind, .string xo.value.name, .int .i64 xo.value.session, .int .i64 xo.value.seq, .int .i64 xo.value.base, .string xo.value.ref, .slice Ao no co, .string xo.value.path, .int .i64 xo.value.from', .int .i64 xo.value.many, .int .i64 xo.value.member] 36)).drew
      replace hg13 : (wa.alloc (.cells #[.int .i64 xo.slot, .int .i64 xo.ballot, .int .i64 xo.value.kind, .string xo.value.name, .int .i64 xo.value.session, .int .i64 xo.value.seq, .int .i64 xo.value.base, .string xo.value.ref, .slice Ao no co, .string xo.value.path, .int .i64 xo.value.from', .int .i64 xo.value.many, .int .i64 xo.value.member] 36)).drew.heap[wa.heap.size]? = _ := hg13
      have hsb : (wa.alloc (.cells #[.int .i64 xo.slot, .int .i64 xo.ballot, .int .i64 xo.value.kind, .string xo.value.name, .int .i64 xo.value.session, .int .i64 xo.value.seq, .int .i64 xo.value.base, .string xo.value.ref, .slice Ao no co, .string xo.value.path, .int .i64 xo.value.from', .int .i64 xo.value.many, .int .i64 xo.value.member] 36)).drew.heap.size = wa.heap.size + 1 := by simp [World.drew]
      generalize (wa.alloc (.cells #[.int .i64 xo.slot, .int .i64 xo.ballot, .int .i64 xo.value.kind, .string xo.value.name, .int .i64 xo.value.session, .int .i64 xo.value.seq, .int .i64 xo.value.base, .string xo.value.ref, .slice Ao no co, .string xo.value.path, .int .i64 xo.value.from', .int .i64 xo.value.many, .int .i64 xo.value.member] 36)).drew = wb at *
      obtain ⟨ge, hge⟩ : ∃ ge, ge = wa.heap.size := ⟨_, rfl⟩
      rw [← hge] at hg13 hsb hn2 ⊢
      have HGE := hid hge; have HSB := hid hsb; have KAB := hid kab; have HBT := hid (HMA.out.keep kab (fun _ _ => _root_.id))
      clear hge hsb kab hlkA hlkB c3 c3a q0a q0 q1 hg12
      have q0 := cell_at hg12' 0 (.int .i64 x.slot) rfl
      have q1 := cell_at hg12' 1 (.int .i64 x.ballot) rfl
      have o1 := cell_at hg13 1 (.int .i64 xo.ballot) rfl
      by_cases hput : ok = true ∧ ¬ xo.ballot < x.ballot
      · obtain ⟨rfl, hle⟩ := hput
        have hdb : decide (xo.ballot < x.ballot) = false := by simpa using hle
        have HPUT := hid (show putB bk x = false by rw [putB, show look bk x.slot = some xo from HBL.out]; exact hdb)
        clear hle
        go_upto_region 15 with fail
        have hT : TalM (Grow F w wb) wb g { s with pr := putE s.pr id base, best := bk, top := tk } m1 m2 m3 := HBT.out.mono (fun q hq => hq.imp _root_.id (fun ⟨a, b⟩ => ⟨a, by have := HSB.out; have := HGE.out; have := HSA.out; have := HGD.out; omega⟩))
        have HT := hid hT
        have KX := hid (show Keep F wr wb from (KA.out.trans KAB.out (fun _ _ q => q)).mono (fun _ _ f => f.elim))
        clear hT
        generalize wb = wx at *
        by_cases ht : tk ≤ x.slot
        · have hd : decide (tk ≤ x.slot) = true := by simpa using ht
          have hst : stepV (bk, tk) x = (bk, x.slot + 1) := by rw [stepV, if_pos hgood, HPUT.out]; simp [ht]
          have HST := hid hst
          have c4 := cell_at HT.out.obj 4 (.int .i64 tk) rfl
          have f4 := free_at HT.out.obj 4
          clear ht hst
          go_quiet (fail)
          go_wp2_with fail
          have hts := (HT.out.keep ((Keep.refl (fun _ => False) wx).drewN nq) (fun _ _ => _root_.id)).setTop (x.slot + 1)
          refine ⟨FIN.out _ _ _ HST.out ?_ ?_, by simp [intOf]; omega⟩
          · first | exact hts.mono (fun q hq => hq.imp _root_.id (fun ⟨a, b⟩ => ⟨a, by simpa using b⟩)) | (rw [hwr]; exact hts.mono (fun q hq => hq.imp _root_.id (fun ⟨a, b⟩ => ⟨a, by simpa using b⟩)))
          · exact (KX.out.drewN nq).setCell _ _ (fun hb => by
              exact HFM.out.2.2.2)
        · have hd : decide (tk ≤ x.slot) = false := by simpa using ht
          have hst : stepV (bk, tk) x = (bk, tk) := by rw [stepV, if_pos hgood, HPUT.out]; simp [ht]
          have HST := hid hst
          have c4 := cell_at HT.out.obj 4 (.int .i64 tk) rfl
          clear ht hst
          go_quiet (fail)
          go_wp2_with fail
          refine ⟨FIN.out _ _ _ HST.out ?_ (KX.out.drewN nq), by simp [intOf]; omega⟩
          exact (HT.out.keep ((Keep.refl (fun _ => False) wx).drewN nq) (fun _ _ => _root_.id)).mono (fun q hq => hq)
      · have hput' : putB bk x = true := by
          rw [putB, show look bk x.slot = (if ok then some xo else none) from HBL.out]
          cases ok
          · rfl
          · simp only [true_and, Classical.not_not] at hput
            simpa using hput
        have HPUT := hid hput'
        have hok : ok = false ∨ (ok = true ∧ decide (xo.ballot < x.ballot) = true) := by
          cases ok
          · exact .inl rfl
          · refine .inr ⟨rfl, ?_⟩
            simp only [true_and, Classical.not_not] at hput
            simpa using hput
        have HSB1 := hid (HS1.out.keep (KA.out.trans KAB.out (fun _ _ q => q)) (fun _ _ => _root_.id))
        clear hput hput'
        rcases hok with rfl | ⟨rfl, hdb⟩
        all_goals
          go_upto_region 13 with fail
          go_wp2_with (first | (refine wpl_loadA rfl rfl rfl hg12' (by kernel_rfl) (by kernel_rfl) (reqCs x.value (.slice A1 nx c1)) rfl rfl ?_))
          have ho := own_calls (r := x.value) (v := .slice A1 nx c1) HSB1.out (by have := HXL.out; have := HNX.out; omega)
          refine ho.mono ?_
          rintro e w4 ⟨v4, rfl, hs4, hk4⟩
          obtain ⟨A4, c4', rfl⟩ := hs4.shape
          have hb4 := hk4.heap hg12' _root_.id
          have HS4 := hid hs4; have HK4 := hid hk4
          clear hs4 hk4 ho hg12' hg13 q0 q1 o1
          rw [← HNX.out]
          go_upto_region 14 with (first
            | (refine wpl_storeB (v := .agg (reqCs x.value (.slice A4 nx c4')).toArray) rfl rfl rfl rfl hb4 (by kernel_rfl) (by simp [reqCs, voteCs, Value.cells]) (by simp [reqCs, Value.oneCell', Value.cells]) ?_; intro w5 hb5 k5 s5; have HS5 := hid s5; have K5 := hid k5; clear s5 k5; replace hb5 : w5.heap[gd]? = some (.cells (voteCs x (.slice A4 nx c4')).toArray 36) := hb5))
          have p0 := cell_at hb5 0 (.int .i64 x.slot) rfl
          have p1 := cell_at hb5 1 (.int .i64 x.ballot) rfl
          have p2 := cell_at hb5 2 (.int .i64 x.value.kind) rfl
          have p3 := cell_at hb5 3 (.string x.value.name) rfl
          have p4 := cell_at hb5 4 (.int .i64 x.value.session) rfl
          have p5 := cell_at hb5 5 (.int .i64 x.value.seq) rfl
          have p6 := cell_at hb5 6 (.int .i64 x.value.base) rfl
          have p7 := cell_at hb5 7 (.string x.value.ref) rfl
          have p8 := cell_at hb5 8 (.slice A4 nx c4') rfl
          have p9 := cell_at hb5 9 (.string x.value.path) rfl
          have p10 := cell_at hb5 10 (.int .i64 x.value.from') rfl
          have p11 := cell_at hb5 11 (.int .i64 x.value.many) rfl
          have p12 := cell_at hb5 12 (.int .i64 x.value.member) rfl
          have hgdn : wr.heap.size ≤ gd := by have := HGD.out; omega
          have kb5 : Keep (fun q => q = gd) wb w5.drew := ((HK4.out.mono (fun _ _ f => f.elim)).trans K5.out (fun _ _ q => q)).drew
          have hsz5 : wb.heap.size ≤ w5.heap.size := kb5.size
          have hgrd : ∀ q, Grow F w wr q → ¬ q = gd := fun q hq e => by
            rcases hq with hq | hq
            · have := HF.out q hq; have := HP.out.2.size; omega
            · have := hq.2; omega
          have hT5 := (HBT.out.keep kb5 hgrd).mono (G := Grow F w w5.drew) (fun q hq => hq.imp _root_.id (fun ⟨a, b⟩ => ⟨a, by have := HSB.out; have := HGE.out; have := HSA.out; have := HGD.out; have h9 : w5.drew.heap.size = w5.heap.size := rfl; omega⟩))
          have hm2lt : m2 < wr.heap.size ∧ m1 < wr.heap.size ∧ m3 < wr.heap.size ∧ g < wr.heap.size := by
            have hh : ∀ q, Grow F w wr q → q < wr.heap.size := fun q hq => by
              rcases hq with hq | hq
              · have := HF.out q hq; have := HP.out.2.size; omega
              · exact hq.2
            exact ⟨hh _ HMA.out.f2, hh _ HMA.out.f1, hh _ HMA.out.f3, hh _ HMA.out.fg⟩
          have hsl5 : Sl .change w5.drew (fun q => Grow F w w5.drew q ∧ q ≠ g ∧ q ≠ m1 ∧ q ≠ m2 ∧ q ≠ m3) (.slice A4 x.value.changes.length c4') x.value.changes := by
            refine (HS4.out.keep K5.out.drew (fun q hq e => by have := hq.1; have := HSB.out; have := HGE.out; have := HSA.out; omega)).mono (fun q hq => ?_)
            have e1 := hq.1
            have e2 := hq.2
            have e3 := HS5.out
            have e4 := HSB.out; have e5 := HGE.out; have e6 := HSA.out; have e7 := HP.out.2.size
            have h9 : w5.drew.heap.size = w5.heap.size := rfl
            exact ⟨.inr ⟨by omega, by omega⟩, by omega, by omega, by omega, by omega⟩
          obtain ⟨wd, hupd, hTd, hkd⟩ := put_vote hT5 (x := x) hsl5 (by have := HXL.out; have := HNX.out; omega) hwf
          rw [← HNX.out] at hupd
          simp only [voteCs, reqCs] at hupd
          have c3 := cell_at hT5.obj 3 (.map (some m2)) rfl
          replace c3 : w5.cell? ⟨g, 3, none⟩ = some (.map (some m2)) := c3
          have hkx : Keep F wr wd := by
            exact (((KA.out.trans KAB.out (fun _ _ q => q)).mono (T := F) (fun _ _ f => f.elim)).trans kb5 (fun b hb e => by omega)).trans hkd (fun b hb e => by have e : b = m2 := e; subst e; exact HFM.out.2.1)
          have hq0d : wd.cell? ⟨gd, 0, none⟩ = some (.int .i64 x.slot) := hkd.cell (a := ⟨gd, 0, none⟩) (w := w5.drew) p0 (fun e => by have e : gd = m2 := e; omega)
          have HT := hid (hTd.mono (G := Grow F w wd) (fun q hq => hq.imp _root_.id (fun ⟨a, b⟩ => ⟨a, by have := hkd.size; omega⟩)))
          have KX := hid hkx
          clear hT5 hsl5 hTd hkx hgrd kb5 hsz5
          go_region
          all_goals
            clear p0 p1 p2 p3 p4 p5 p6 p7 p8 p9 p10 p11 p12 hupd hb5 hkd c3 hm2lt
            go_upto_region 15 with fail
            generalize wd = wx at *
            by_cases ht : tk ≤ x.slot
            · have hd : decide (tk ≤ x.slot) = true := by simpa using ht
              have hst : stepV (bk, tk) x = (putE bk x.slot x, x.slot + 1) := by rw [stepV, if_pos hgood, HPUT.out]; simp [ht]
              have HST := hid hst
              have c4 := cell_at HT.out.obj 4 (.int .i64 tk) rfl
              have f4 := free_at HT.out.obj 4
              clear ht hst
              go_quiet (fail)
              go_wp2_with fail
              have hts := (HT.out.keep ((Keep.refl (fun _ => False) wx).drewN nq) (fun _ _ => _root_.id)).setTop (x.slot + 1)
              refine ⟨FIN.out _ _ _ HST.out ?_ ?_, by simp [intOf]; omega⟩
              · first | exact hts.mono (fun q hq => hq.imp _root_.id (fun ⟨a, b⟩ => ⟨a, by simpa using b⟩)) | (rw [hwr]; exact hts.mono (fun q hq => hq.imp _root_.id (fun ⟨a, b⟩ => ⟨a, by simpa using b⟩)))
              · exact (KX.out.drewN nq).setCell _ _ (fun hb => by
                  exact HFM.out.2.2.2)
            · have hd : decide (tk ≤ x.slot) = false := by simpa using ht
              have hst : stepV (bk, tk) x = (putE bk x.slot x, tk) := by rw [stepV, if_pos hgood, HPUT.out]; simp [ht]
              have HST := hid hst
              have c4 := cell_at HT.out.obj 4 (.int .i64 tk) rfl
              clear ht hst
              go_quiet (fail)
              go_wp2_with fail
              refine ⟨FIN.out _ _ _ HST.out ?_ (KX.out.drewN nq), by simp [intOf]; omega⟩
              exact (HT.out.keep ((Keep.refl (fun _ => False) wx).drewN nq) (fun _ _ => _root_.id)).mono (fun q hq => hq)
    · obtain rfl : k = n := by omega
      have e1 : l.take k = l := List.take_of_length_le (by rw [HN.out]; exact Nat.le_refl _)
      rw [e1] at hp
      have HP := hid hp
      clear hp hkp e1
      go_wp2_with fail
      go_ret
      exact ⟨rfl, prom_fin HB.out HP.out⟩
end
end Go.Proofs.Ythlgnilgjeebaaa
