/- wapentakelaw16: Deed, room. -/
import Derived.Test.YthlgnilgjeebaaaMsgT
import Derived.Test.YthlgnilgjeebaaaBlk
import Derived.Test.YthlgnilgjeebaaaSlc
import Derived.Carry
namespace Go.Proofs.Ythlgnilgjeebaaa
open Go.RowKit Go.ChangeShapes Go.WideShapes Go.ChangeAt
theorem opens_vote : Opens Try.prog Rep.vote 36 :=
  Opens.as (Opens.struct Try.underlying36 (by kernel_rfl) (.cons rfl opens_int (.cons rfl opens_int (.one rfl opens_req)))) _ (fun p => ⟨p.1, p.2.1, p.2.2⟩) (fun _ => rfl)
theorem opens_votes : Opens Try.prog Rep.vote.slice 28 := Opens.slice Try.underlying28 (by kernel_rfl) opens_vote (by decide)
structure TDeed where
  do_ : Int
  id : Int
  base : Int
  slot : Int
  v : List Vote
def Rep.tdeed : Rep TDeed := (Rep.pair .int (.pair .int (.pair .int (.pair .int Rep.vote.slice)))).as fun d => (d.do_, d.id, d.base, d.slot, d.v)
theorem opens_tdeed : Opens Try.prog Rep.tdeed 30 :=
  Opens.as (Opens.struct Try.underlying30 (by kernel_rfl) (.cons rfl opens_int (.cons rfl opens_int (.cons rfl opens_int (.cons rfl opens_int (.one rfl opens_votes)))))) _ (fun p => ⟨p.1, p.2.1, p.2.2.1, p.2.2.2.1, p.2.2.2.2⟩) (fun _ => rfl)
theorem opens_tdeeds : Opens Try.prog Rep.tdeed.slice 22 := Opens.slice Try.underlying22 (by kernel_rfl) opens_tdeed (by decide)
def deedCs (d : TDeed) (v : Value) : List Value := [.int .i64 d.do_, .int .i64 d.id, .int .i64 d.base, .int .i64 d.slot, v]
theorem tdeed_cells {w : World} {F : Nat → Prop} {d : TDeed} {cs : List Value} (h : Rep.tdeed.cells w F d cs) : ∃ v, cs = deedCs d v ∧ Sl .vote w F v d.v ∧ okI d.do_ ∧ okI d.id ∧ okI d.base ∧ okI d.slot := by
  obtain ⟨_, _, rfl, ⟨rfl, h0⟩, _, _, rfl, ⟨rfl, h1⟩, _, _, rfl, ⟨rfl, h2⟩, _, _, rfl, ⟨rfl, h3⟩, ⟨v, rfl, hv⟩⟩ := h
  exact ⟨v, rfl, hv, h0, h1, h2, h3⟩
theorem all_false {α : Type} {l : List α} {p : α → Bool} {k : Nat} {x : α} (hx : l[k]? = some x) (hp : p x = false) : l.all p = false := by
  rw [List.all_eq_false]
  exact ⟨x, List.mem_of_getElem? hx, by simp [hp]⟩
theorem all_true {α : Type} {l : List α} {p : α → Bool} {k : Nat} (hk : l.length ≤ k) (hp : (l.take k).all p = true) : l.all p = true := by
  rwa [List.take_of_length_le hk] at hp
theorem take_all {α : Type} {l : List α} {p : α → Bool} {k : Nat} {x : α} (hx : l[k]? = some x) (h : (l.take k).all p = true) (hp : p x = true) : (l.take (k + 1)).all p = true := by
  rw [List.take_add_one, hx, List.all_append, h]; simp [hp]
theorem elem_cells7 {α : Type} {r : Rep α} {w : World} {F : Nat → Prop} {n : Nat} {v : Value} {l : List α} (h : Sl r w F v l) (hn : n = l.length) {i : Nat} {x : α} (hx : l[i]? = some x) : ∃ A c b off cs, v = .slice A n c ∧ A = some ⟨b, off, none⟩ ∧ F b ∧ r.cells w F x cs ∧ ∀ k u, cs[k]? = some u → w.cell? ⟨b, off + i * r.size + k, none⟩ = some u := by
  obtain ⟨A, c, rfl⟩ := h.shape
  obtain ⟨b, off, hA, hbl, cs, hcs, hcell⟩ := h.elem hx
  exact ⟨A, c, b, off, cs, by rw [hn], hA, hbl, hcs, hcell⟩
theorem Sl.cap {α : Type} {r : Rep α} {w : World} {F : Nat → Prop} {v : Value} {l : List α} (h : Sl r w F v l) : l.length ≤ 9223372036854775807 := by
  obtain ⟨_, _, _, q1, q2, _⟩ := h; unfold maxLen at q2; omega
def votesOk (v : List Vote) : Bool := v.all (fun x => decide (x.value.changes.length ≤ 30))
def deedOk (d : TDeed) : Bool := decide (d.v.length ≤ 50) && votesOk d.v
def roomT (l : List TDeed) : Bool := decide (l.length ≤ 100) && l.all deedOk
section
variable {F : Nat → Prop} {w : World} {l : List TDeed}
set_option maxRecDepth 20000 in
set_option maxHeartbeats 4000000 in
theorem room16_calls {v : Value} (hv : Sl .tdeed w F v l) : Calls Try.prog 9 #[v] w fun e w' => e = .returned (.bool (roomT l)) ∧ w = w' := by
  have hmax := hv.cap
  obtain ⟨A, c, rfl⟩ := hv.shape
  have HV := hid hv
  obtain ⟨n, hn⟩ : ∃ n, n = l.length := ⟨_, rfl⟩
  rw [← hn] at HV hmax ⊢
  have HN := hid hn
  obtain ⟨sb, hsb⟩ : ∃ sb, sb = roomT l := ⟨_, rfl⟩
  rw [← hsb]
  have HSB := hid hsb
  clear hv hn hsb
  by_cases b0 : 100 < n
  · have hb : sb = false := by
      rw [HSB.out]
      simp only [roomT, Bool.and_eq_false_iff, decide_eq_false_iff_not]
      rw [← HN.out]; omega
    subst hb
    go_enter Try.func9, Try.ntmps9
    go_wp2_with fail
    go_ret
    exact ⟨rfl, rfl⟩
  go_enter Try.func9, Try.ntmps9
  go_wp2_with fail
  go_loopw [3] (fun i wr => ∃ k : Nat, k ≤ n ∧ i = .int .i64 k ∧ (l.take k).all deedOk = true ∧ w = wr) (fun i _ => n - (intOf i).toNat)
  case atStart => exact ⟨0, Nat.zero_le _, rfl, rfl, rfl⟩
  case round =>
    obtain ⟨k, hk, rfl, hall, rfl⟩ := hrel
    have HALL := hid hall
    clear hall
    by_cases hlt : k < n
    · obtain ⟨x, hx⟩ : ∃ x, l[k]? = some x := ⟨l[k]'(by rw [← HN.out]; exact hlt), by simp [show k < l.length by rw [← HN.out]; exact hlt]⟩
      obtain ⟨A', c', b, off, cs, he, rfl, _, hcs, hcell⟩ := elem_cells7 HV.out HN.out hx
      simp only [Value.slice.injEq, true_and] at he
      obtain ⟨rfl, rfl⟩ := he
      obtain ⟨vc, rfl, hvc, _⟩ := tdeed_cells hcs
      obtain ⟨Ac, cc, rfl⟩ := hvc.shape
      have hsz : Rep.tdeed.size = 5 := rfl
      rw [hsz] at hcell
      have d4 := hcell 4 (.slice Ac x.v.length cc) rfl
      obtain ⟨nc, hnc⟩ : ∃ nc, nc = x.v.length := ⟨_, rfl⟩
      have hncm := hvc.cap
      rw [← hnc] at d4 hncm hvc
      have HX := hid hx; have HNC := hid hnc; have HVC := hid hvc
      clear hcell hcs hx hsz hvc hnc
      by_cases h50 : 50 < nc
      · have hb : sb = false := by
          have hd : deedOk x = false := by rw [deedOk, ← HNC.out, decide_eq_false (by omega)]; rfl
          rw [HSB.out]
          simp only [roomT, all_false HX.out hd, Bool.and_false]
        subst hb
        go_wp2_with fail
        go_ret
        exact ⟨rfl, rfl⟩
      · go_wp2_with fail
        go_loopw [4] (fun i wr => ∃ j : Nat, j ≤ nc ∧ i = .int .i64 j ∧ (x.v.take j).all (fun x => decide (x.value.changes.length ≤ 30)) = true ∧ w = wr) (fun i _ => nc - (intOf i).toNat)
        case atStart => exact ⟨0, Nat.zero_le _, rfl, rfl, rfl⟩
        case round =>
          obtain ⟨j, hj, rfl, hallj, rfl⟩ := hrel
          have HALLJ := hid hallj
          clear hallj
          by_cases hjt : j < nc
          · obtain ⟨y, hy⟩ : ∃ y, x.v[j]? = some y := ⟨x.v[j]'(by rw [← HNC.out]; exact hjt), by simp [show j < x.v.length by rw [← HNC.out]; exact hjt]⟩
            obtain ⟨A2, c2, b2, off2, cs2, he2, rfl, _, hcs2, hcell2⟩ := elem_cells7 HVC.out HNC.out hy
            simp only [Value.slice.injEq, true_and] at he2
            obtain ⟨rfl, rfl⟩ := he2
            obtain ⟨v2, rfl, hv2, _⟩ := vote_cells hcs2
            obtain ⟨A3, c3, rfl⟩ := hv2.shape
            have hsz2 : Rep.vote.size = 13 := rfl
            rw [hsz2] at hcell2
            have d8 := hcell2 8 (.slice A3 y.value.changes.length c3) rfl
            obtain ⟨n3, hn3⟩ : ∃ n3, n3 = y.value.changes.length := ⟨_, rfl⟩
            have hn3m := hv2.cap
            rw [← hn3] at d8 hn3m
            have HY := hid hy; have HN3 := hid hn3
            clear hcell2 hcs2 hy hsz2 hv2 hn3
            by_cases h30 : 30 < n3
            · have hb : sb = false := by
                have hd : deedOk x = false := by
                  rw [deedOk, votesOk, all_false HY.out (decide_eq_false (by rw [← HN3.out]; omega)), Bool.and_false]
                rw [HSB.out]
                simp only [roomT, all_false HX.out hd, Bool.and_false]
              subst hb
              go_wp2_with fail
              go_ret
              exact ⟨rfl, rfl⟩
            · have HT := hid (take_all (p := fun x : Vote => decide (x.value.changes.length ≤ 30)) HY.out HALLJ.out (decide_eq_true (by rw [← HN3.out]; omega)))
              go_wp2_with fail
              exact ⟨⟨j + 1, by omega, by simp, HT.out, trivial⟩, by simp [intOf]; omega⟩
          · have hd : deedOk x = true := by
              rw [deedOk, votesOk, all_true (by rw [← HNC.out]; omega) HALLJ.out, Bool.and_true]
              exact decide_eq_true (by rw [← HNC.out]; omega)
            have HT := hid (take_all (p := deedOk) HX.out HALL.out hd)
            clear hd
            go_wp2_with fail
            exact ⟨⟨k + 1, by omega, by simp, HT.out, trivial⟩, by simp [intOf]; omega⟩
    · have hb : sb = true := by
        rw [HSB.out]
        simp only [roomT, all_true (l := l) (k := k) (by rw [← HN.out]; omega) HALL.out, Bool.and_true, decide_eq_true_iff]
        rw [← HN.out]; omega
      subst hb
      go_wp2_with fail
      go_ret
      exact ⟨rfl, rfl⟩
end
end Go.Proofs.Ythlgnilgjeebaaa
