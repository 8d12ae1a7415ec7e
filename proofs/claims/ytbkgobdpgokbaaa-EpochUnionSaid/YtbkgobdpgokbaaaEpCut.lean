/- epoch.Clone, epoch.Cut. -/
import Derived.Test.YtbkgobdpgokbaaaEpN
import Derived.Deep.RegionHeld3
import Derived.Deep.RegionWith
namespace Go.Proofs.Ytbkgobdpgokbaaa
open Go.RowKit
section
variable {F G S : Nat → Prop} {w w' : World} {v vm : Value} {L : List Ep} {M : List Int} {g B : Nat} {al : Int}
theorem EpRow.drop : ∀ {L : List Ep} {cs : List Value}, EpRow w G L cs → ∀ i, EpRow w G (L.drop i) (cs.drop (i * 2))
  | [], _, h, i => by subst h; simp [EpRow]
  | _ :: _, _, h, 0 => by simpa using h
  | x :: L, _, ⟨vm, r, h1, h2, h3, h4, h⟩, i + 1 => by
    subst h1
    rw [show (i + 1) * 2 = i * 2 + 1 + 1 by omega]
    simpa using EpRow.drop h i
theorem EpSl.drop {b off n c : Nat} (h : EpSl F G w (.slice (some ⟨b, off, none⟩) n c) L) {i : Nat} (hi : i < L.length) : EpSl F G w (.slice (some ⟨b, off + i * 2, none⟩) (n - i) (c - i)) (L.drop i) := by
  obtain ⟨cs, ⟨A', c', he, hl, hnc, hcm, h0 | ⟨b', off', hA, hF, hb, hc⟩⟩, h2⟩ := h
  · omega
  · simp only [Value.slice.injEq] at he
    obtain ⟨rfl, rfl, rfl⟩ := he
    simp only [Option.some.injEq, Addr.mk.injEq, and_true] at hA
    obtain ⟨rfl, rfl⟩ := hA
    refine ⟨cs.drop (i * 2), ⟨_, _, by rw [List.length_drop], by rw [List.length_drop, List.length_drop, hl, Nat.sub_mul], by rw [List.length_drop]; omega, by omega, .inr ⟨b, off + i * 2, rfl, hF, hb, fun j u hu => ?_⟩⟩, h2.drop i⟩
    rw [List.getElem?_drop] at hu
    have := hc _ _ hu
    rwa [← Nat.add_assoc] at this
theorem EpOwn.boxed (hO : EpOwn (fun b => B ≤ b) (fun b => B ≤ b ∧ b < w.heap.size ∧ some b ≠ v.ownBlock) w v L) (hB : B ≤ w.heap.size) (hok : EOk al L) :
    EpAt (fun k => B ≤ k ∧ k < (w.alloc (EpO al v)).heap.size) (w.alloc (EpO al v)) w.heap.size al L := by
  have ka := (Keep.refl (fun _ => False) w).alloc (EpO al v)
  have hs : (w.alloc (EpO al v)).heap.size = w.heap.size + 1 := by simp
  obtain ⟨cs, q1, q2, q3⟩ := hO
  refine ⟨v, _, heap_alloc_new w _, ⟨cs, ownsAlloc q1 _, q2.keep ka (fun _ _ => id), fun b hb => ?_⟩, fun b hb => ⟨⟨hb.1, by rw [hs]; omega⟩, by omega, by rw [hs]; omega⟩, ⟨hB, by rw [hs]; omega⟩, hok⟩
  have h1 := own_lt' q1 b hb
  exact ⟨⟨⟨(q3 b hb).1, by rw [hs]; omega⟩, by omega⟩, (q3 b hb).2⟩
theorem EpOwn.put {v0 : Value} {C : Nat} (hO : EpOwn (fun b => C ≤ b) (fun b => C ≤ b ∧ b < w.heap.size ∧ some b ≠ v.ownBlock) w v L) (hg : w.heap[g]? = some (EpO al v0)) (hB : B ≤ g) (hC : g < C) (hok : EOk al L) :
    EpAt (fun k => B ≤ k ∧ k < (w.setCell ⟨g, 1, none⟩ v).heap.size) (w.setCell ⟨g, 1, none⟩ v) g al L := by
  have ks : Keep (fun k => k = g) w (w.setCell ⟨g, 1, none⟩ v) := (Keep.refl _ w).setCell _ _ (fun _ => rfl)
  have hs := ks.size
  have hgl := lt_heap hg
  obtain ⟨cs, q1, q2, q3⟩ := hO
  refine ⟨v, _, ?_, ⟨cs, ks.owns q1 (fun b hb e => by have := (q3 b hb).1; omega), q2.keep ks (fun b hb e => by have := hb.1; omega), fun b hb => ?_⟩, fun b hb => ⟨⟨by have := hb.1; omega, by have := hb.2.1; omega⟩, by have := hb.1; omega, by have := hb.2.1; omega⟩, ⟨hB, by omega⟩, hok⟩
  · rw [heap_set hg]; rfl
  · have h1 := own_lt' q1 b hb
    have h2 := (q3 b hb).1
    exact ⟨⟨⟨by omega, by omega⟩, by omega⟩, (q3 b hb).2⟩
theorem EOk.mono {L2 : List Ep} (h : EOk al L) (h0 : 0 < L2.length) (hs : ∀ x ∈ L2, x ∈ L) : EOk al L2 := ⟨h.1, h.2.1, h0, fun x hx => h.2.2.2 x (hs x hx)⟩
/-- own, of what lies below. -/
theorem own_in (h : EpSl F F w v L) (hF : ∀ k, F k → k < w.heap.size) (hok : EOk al L) (hl : L.length ≤ 100000) {w' : World} (hk : Keep (fun _ => False) w w') :
    Calls Try.prog 41 #[v] w' fun e w'' => ∃ A c, e = .returned (.slice A L.length c) ∧ EpOwn (fun b => w.heap.size ≤ b) (fun b => w.heap.size ≤ b ∧ b < w''.heap.size ∧ some b ≠ (Value.slice A L.length c).ownBlock) w'' (.slice A L.length c) L ∧ Keep (fun _ => False) w w'' := by
  have hs := hk.size
  refine (ownE (h.keepF hk) (fun k hk => by have := hF k hk; omega) (fun x hx => by have := (hok.2.2.2 x hx).1; exact ⟨this.1, by have := this.2.1; omega⟩) (by omega)).mono ?_
  rintro e w'' ⟨v', he, hO, hk2⟩
  obtain ⟨A, c, rfl⟩ := hO.sl.shape
  obtain ⟨cs, q1, q2, q3⟩ := hO
  exact ⟨A, c, he, ⟨cs, q1, q2.mono (fun b hb => ⟨by omega, hb.2⟩), fun b hb => ⟨by have := (q3 b hb).1; omega, fun q => q.2.2 hb.symm⟩⟩, hk.trans hk2 (fun _ _ h => h)⟩
set_option maxRecDepth 20000 in
set_option maxHeartbeats 1600000 in
theorem eclone_calls (h : EpAt F w g al L) (hF : ∀ k, F k → k < w.heap.size) (hl : L.length ≤ 100000) : Calls Try.prog 18 #[.pointer (some ⟨g, 0, none⟩)] w fun e w' => ∃ g', e = .returned (.pointer (some ⟨g', 0, none⟩)) ∧ EpAt (fun k => w.heap.size ≤ k ∧ k < w'.heap.size) w' g' al L ∧ Keep (fun _ => False) w w' := by
  have hmade := emade_calls h
  have hok := h.ok
  obtain ⟨v, hg, hs⟩ := h.val
  have hown := fun w' (hk : Keep (fun _ => False) w w') => own_in hs hF hok hl hk
  obtain ⟨A, c, rfl⟩ := hs.shape
  have c0 := cell_at hg 0 (.int .i64 al) rfl
  have c1 := cell_at hg 1 (.slice A L.length c) rfl
  obtain ⟨n, hn⟩ : ∃ n, n = L.length := ⟨_, rfl⟩
  rw [← hn] at c1 hown
  have HOK := hid hok
  clear hg hs h hF hok hn hl
  go_enter Try.func18, Try.ntmps18
  go_wp2_with fail
  refine hmade.mono ?_
  rintro e w' ⟨rfl, rfl⟩
  clear hmade
  have kd : Keep (fun _ => False) w w.drew := (Keep.refl _ w).drew
  have HC := hid (fun w' (hk : Keep (fun _ => False) w w') => (⟨hk.cell c0 id, hk.cell c1 id⟩ : w'.cell? ⟨g, 0, none⟩ = some (.int .i64 al) ∧ w'.cell? ⟨g, 1, none⟩ = some (.slice A n c)))
  go_wp2_with fail
  go_region_held3 (fun w' => w'.cell? ⟨g, 0, none⟩ = some (.int .i64 al) ∧ w'.cell? ⟨g, 1, none⟩ = some (.slice A n c)) (first | exact HC.out _ (by assumption) | exact HC.out _ (Keep.alloc (by assumption) _)) (first
    | (go_at_call 41; with_reducible refine (hown _ (by assumption)).mono ?_; rintro e w5 ⟨A5, c5, rfl, hO5, k5⟩))
  go_wp2_with fail
  go_ret
  exact ⟨_, rfl, hO5.boxed k5.size HOK.out, k5.alloc _⟩
set_option maxRecDepth 20000 in
set_option maxHeartbeats 1600000 in
/-- Cut at a slot. -/
theorem ecut_calls (h : EpAt (fun k => B ≤ k ∧ k < w.heap.size) w g al L) (slot : Int) (hl : L.length ≤ 100000) : Calls Try.prog 19 #[.pointer (some ⟨g, 0, none⟩), .int .i64 slot] w fun e w' => e = .returned (.tuple #[]) ∧ EpAt (fun k => B ≤ k ∧ k < w'.heap.size) w' g al (L.drop (atP L slot L.length)) ∧ Keep (fun k => B ≤ k) w w' := by
  have hmade := emade_calls h
  have hat := fun w' (hk : Keep (fun _ => False) w w') => eat_calls (h.keepF hk) slot (by omega)
  have hok := h.ok
  have hgB := h.inF
  obtain ⟨v, hg, hs⟩ := h.val
  obtain ⟨i, hi⟩ : ∃ i, i = atP L slot L.length := ⟨_, rfl⟩
  have hil := atP_lt L slot L.length hok.2.2.1
  rw [← hi] at hil hat ⊢
  obtain ⟨A, c, rfl⟩ := hs.shape
  obtain ⟨b, off, vm, rfl, _⟩ := hs.elem (atE_mem hok.2.2.1 slot)
  have hnc : L.length ≤ c := by
    obtain ⟨_, ⟨_, _, he, _, h1, _⟩, _⟩ := hs
    simp only [Value.slice.injEq] at he; omega
  have hok2 : EOk al (L.drop i) := hok.mono (by rw [List.length_drop]; omega) (fun x hx => List.mem_of_mem_drop hx)
  have hown := fun w' (hk : Keep (fun _ => False) w w') => own_in (hs.drop hil) (fun k hk => hk.2) hok2 (by rw [List.length_drop]; omega) hk
  have hcm : c ≤ maxLen := by
    obtain ⟨_, ⟨_, _, he, _, _, h1, _⟩, _⟩ := hs
    simp only [Value.slice.injEq] at he; omega
  have c1 := cell_at hg 1 (.slice (some ⟨b, off, none⟩) L.length c) rfl
  have HST := hid (fun w' (hk : Keep (fun _ => False) w w') => (⟨cell_at (hk.heap hg id) 1 _ rfl, free_at (hk.heap hg id) 1⟩ : w'.cell? ⟨g, 1, none⟩ = some (.slice (some ⟨b, off, none⟩) L.length c) ∧ w'.frozen? ⟨g, 1, none⟩ = false))
  have HG := hid hg
  have hld : (L.drop i).length = L.length - i := List.length_drop
  rw [hld] at hown
  obtain ⟨n, hn⟩ : ∃ n, n = L.length := ⟨_, rfl⟩
  rw [← hn] at c1 hown hil hnc HG HST
  have HOK := hid hok2
  have HGB := hid hgB
  clear hs h hok hok2 hn hg hi hl hld hgB
  go_enter Try.func19, Try.ntmps19
  go_wp2_with fail
  refine hmade.mono ?_
  rintro e w' ⟨rfl, rfl⟩
  clear hmade
  have kd : Keep (fun _ => False) w w.drew := (Keep.refl _ w).drew
  have hi0 : (0 : Int) ≤ (i : Int) := by omega
  have hin : (i : Int) ≤ (n : Int) := by omega
  have hin2 : (i : Int) < (n : Int) := by omega
  unfold maxLen at hcm
  go_wp2_with fail
  have hci : ¬ c = i := by omega
  go_region_with (first
    | (go_at_call 39; refine (hat _ (by assumption)).mono ?_; rintro e w4 ⟨rfl, k4'⟩; have k4 := kd.trans k4' (fun _ _ h => h); have q1 := k4.cell c1 id)
    | (go_at_call 41; (try rw [if_neg hci]); with_reducible refine (hown _ (by assumption)).mono ?_; rintro e w5 ⟨A5, c5, rfl, hO5, k5⟩; obtain ⟨p1, p2⟩ := HST.out _ k5))
  all_goals (
    go_wp2_with fail
    go_end0
    exact ⟨rfl, hO5.put (k5.heap HG.out id) HGB.out.1 HGB.out.2 HOK.out, (k5.mono (fun _ _ h => h.elim)).setCell _ _ (fun _ => HGB.out.1)⟩)
end
end Go.Proofs.Ytbkgobdpgokbaaa
