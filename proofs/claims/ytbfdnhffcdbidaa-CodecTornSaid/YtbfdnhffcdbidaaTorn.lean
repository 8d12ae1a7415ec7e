/- wapentakelaw1.CodecTorn: the walk. -/
import Derived.Test.YtbfdnhffcdbidaaFrame2
import Derived.Test.YtbfdnhffcdbidaaTornPure
import Derived.Test.YtbfdnhffcdbidaaL1
namespace Go.Proofs.Ytbfdnhffcdbidaa
open Go.RowKit

/-- A store into a row. -/
theorem Row.set {F : Nat → Prop} {w : World} {b n c i : Nat} {l : List UInt8} (h : Row F w (.slice (some ⟨b, 0, none⟩) n c) n 1 (l.map U8)) (hn : l.length = n) (hi : i < n) (x : UInt8) :
    Row F (w.setCell ⟨b, i, none⟩ (U8 x)) (.slice (some ⟨b, 0, none⟩) n c) n 1 ((l.set i x).map U8) := by
  obtain ⟨A', c', he, hl, hnc, hc, hA⟩ := h
  simp only [Value.slice.injEq, true_and] at he
  obtain ⟨rfl, rfl⟩ := he
  refine ⟨_, _, rfl, by simp; omega, hnc, hc, ?_⟩
  rcases hA with hA | ⟨b', off', hA, hF, hb, hcell⟩
  · exact .inl hA
  · simp only [Option.some.injEq, Addr.mk.injEq, and_true] at hA
    obtain ⟨rfl, rfl⟩ := hA
    refine .inr ⟨b, 0, rfl, hF, by simpa using hb, fun j u hu => ?_⟩
    simp only [Nat.zero_add] at hcell ⊢
    rw [List.getElem?_map, List.getElem?_set] at hu
    by_cases hj : i = j
    · subst hj
      rw [if_pos rfl, if_pos (by rw [hn]; exact hi)] at hu
      simp only [Option.map_some, Option.some.injEq] at hu
      subst hu
      exact World.cell?_setCell_same _ _ _ (hcell i (U8 (l[i]'(by rw [hn]; exact hi))) (by rw [List.getElem?_map, List.getElem?_eq_getElem (by rw [hn]; exact hi)]; rfl))
    · rw [if_neg hj] at hu
      rw [World.cell?_setCell_other _ _ _ _ (fun e => hj (by simp at e))]
      exact hcell j u (by rw [List.getElem?_map]; exact hu)

theorem own_at {w : World} {base e size n : Nat} {v : Value} {xs : List Value} (h : w.ownsRow base e size v n xs) (hn : 0 < n) : ∃ g c, v = .slice (some ⟨g, 0, none⟩) n c ∧ n ≤ c ∧ c ≤ maxLen := by
  rcases h.2 with ⟨rfl, rfl⟩ | ⟨g, cap, cur, rfl, _, _, hc, hm, _⟩
  · omega
  · exact ⟨g, cap, rfl, hc, hm⟩
theorem flip_byte (a : UInt8) {k : Nat} (hk : k < 8) : ∃ c : UInt8, c ≠ a ∧ bits .xor .u8 (a.toNat : Int) (2 ^ k % 256) = (c.toNat : Int) := by
  have ha := a.toNat_lt
  have h2 : (2 : Nat) ^ k < 256 := Nat.pow_lt_pow_right (by decide) (m := k) (n := 8) hk
  have h3 : (2 : Int) ^ k % 256 = ((2 ^ k : Nat) : Int) := by
    rw [show ((2 : Int) ^ k) = ((2 ^ k : Nat) : Int) by simp]
    generalize (2 : Nat) ^ k = q at *
    omega
  have hx : a.toNat ^^^ 2 ^ k < 256 := Nat.xor_lt_two_pow (n := 8) ha (by omega)
  refine ⟨UInt8.ofNat (a.toNat ^^^ 2 ^ k), fun e => ?_, ?_⟩
  · have e1 := congrArg UInt8.toNat e
    rw [UInt8.toNat_ofNat', Nat.mod_eq_of_lt (by omega)] at e1
    have e2 : a.toNat ^^^ 2 ^ k = a.toNat ^^^ 0 := by rw [e1, Nat.xor_zero]
    have := xor_lc e2
    have := Nat.pow_pos (n := k) (by decide : 0 < 2)
    omega
  · rw [h3, u8_xor_nat _ _ ha h2, UInt8.toNat_ofNat', Nat.mod_eq_of_lt (by omega)]
theorem turn_at {a L : Int} (hL : 0 < L) : 0 ≤ (a.tmod L + L).tmod L ∧ (a.tmod L + L).tmod L < L := by
  have h1 := Int.lt_tmod_of_pos a hL
  have h2 := Int.tmod_lt_of_pos a hL
  exact ⟨Int.tmod_nonneg _ (by omega), Int.tmod_lt_of_pos _ hL⟩

set_option maxRecDepth 20000 in
set_option maxHeartbeats 1000000 in
theorem torn_calls {w : World} {vb v : Value} {body more : List UInt8} (hb : Row (fun k => k < w.heap.size) w vb body.length 1 (body.map U8)) (_hbl : body.length ≤ 140737488351232) (a : Int) (_ha : (Lit.int .i64 a).wf = true)
    (hv : Row (fun k => k < w.heap.size) w v more.length 1 (more.map U8)) (_hvl : more.length ≤ 140737488351232) :
    Calls Try.prog 7 #[vb, .int .i64 a, v] w fun e w' => e = .returned (.bool true) ∧ Below w.heap.size w w' := by
  have T : SlT Try.prog 22 5 (.int .u8 0) 1 1 := SlT.mk' Try.underlying22 (by kernel_rfl) rfl (by decide)
  obtain ⟨A, c, rfl⟩ := hv.shape
  obtain ⟨Ab, cb, rfl⟩ := hb.shape
  have HV := hid hv
  have HB := hid hb
  obtain ⟨n, hn⟩ : ∃ n, n = more.length := ⟨_, rfl⟩
  obtain ⟨nb, hnb⟩ : ∃ nb, nb = body.length := ⟨_, rfl⟩
  rw [← hn, ← hnb]
  have HN := hid hn
  have HNB := hid hnb
  clear hv hn hb hnb
  go_enter Try.func7, Try.ntmps7
  go_wp2_with fail
  refine (awake_calls w).mono ?_
  rintro e w1 ⟨rfl, hk1⟩
  have HV1 := hid (HV.out.keep hk1 (fun _ _ => id))
  have HB1 := hid (HB.out.keep hk1 (fun _ _ => id))
  have hs1 := hk1.size
  by_cases h1 : 5000 < nb
  · go_wp2
    go_ret
    exact ⟨rfl, hk1.below (Nat.le_refl _) (fun _ _ => id)⟩
  by_cases h2 : 5000 < n
  · go_wp2
    go_ret
    exact ⟨rfl, hk1.below (Nat.le_refl _) (fun _ _ => id)⟩
  have hl1 : body.length ≤ 5000 := by rw [← HNB.out]; omega
  have HL1 := hid hl1
  clear hl1
  go_wp2_with fail
  rw [HNB.out]
  refine (frame_calls HB1.out HL1.out (fun k hk => by omega)).mono ?_
  rw [← HNB.out]
  rintro e w2 ⟨v2, rfl, ho2, hn2, hk2⟩
  have hfl := frame_len body
  rw [← HNB.out] at hfl
  rw [hfl] at ho2
  have HFL := hid hfl
  have hs2 := hk2.size
  have HV2 := hid (HV1.out.keep hk2 (fun _ _ => id))
  have HB2 := hid (HB1.out.keep hk2 (fun _ _ => id))
  obtain ⟨g2, c2, rfl, hc2, hc2'⟩ := own_at ho2 (by omega)
  unfold maxLen at hc2'
  obtain ⟨L, hL⟩ : ∃ L, L = nb + 12 := ⟨_, rfl⟩
  rw [← hL] at ho2 hn2 hc2 ⊢
  have g1 : ((L : Int) != (nb : Int) + 12) = false := by simp; omega
  have g20 : ¬ L = 0 := by omega
  have g21 : ((L : Int) == 0) = false := by simp; omega
  have g3 : L ≤ 5012 := by omega
  have HL := hid hL
  clear hL hfl
  obtain ⟨t0, t1⟩ := turn_at (a := a) (L := (L : Int)) (by omega)
  have h6 := Int.lt_tmod_of_pos a (show (0 : Int) < L by omega)
  have h7 := Int.tmod_lt_of_pos a (show (0 : Int) < L by omega)
  have hwr : wrap64 (a.tmod L + L) = a.tmod L + L := by unfold wrap64; omega
  obtain ⟨k, hk⟩ : ∃ k : Nat, (a.tmod L + L).tmod L = k := ⟨_, (Int.toNat_of_nonneg t0).symm⟩
  rw [hk] at t0 t1
  have hkL : k < L := by omega
  clear t0 t1 h6 h7
  obtain ⟨f, hf⟩ : ∃ f, f = frameOf body := ⟨_, rfl⟩
  rw [← hf] at ho2
  have hfl : f.length = L := by rw [hf, HFL.out, HL.out]
  have hrow := Row.ofOwn ho2
  have hrk : Row (fun b => some b = (Value.slice (some ⟨g2, 0, none⟩) L c2).ownBlock) w2 (.slice (some ⟨g2, 0, none⟩) k c2) k 1 ((f.take k).map U8) := by
    rw [← hfl] at hrow ⊢
    exact hrow.upto (by omega)
  have hlk : (f.take k).length = k := by rw [List.length_take]; omega
  have u1 := unframe_cut body HL1.out (k := k) (by have := HL.out; have := HNB.out; omega)
  rw [← hf] at u1
  have HF := hid hf
  clear hf
  go_wp2_with fail
  refine (unframe_calls (l := f.take k) (by rw [hlk]; exact hrk) (by omega)).mono ?_
  rintro e w3 ⟨v3, rfl, ho3, hn3, hk3⟩
  rw [u1]
  obtain ⟨A3, c3, rfl⟩ := own_slice ho3
  clear ho3 hn3 hrk u1
  generalize (unframe (List.take k f)).2.1 = q1 at *
  have hs3 := hk3.size
  have hrow3 := hrow.keep hk3 (fun _ _ => id)
  go_wp2_with fail
  refine (copy_calls (a := f) (by rw [hfl]; exact hrow3) (by omega)).mono ?_
  rintro e w4 ⟨v4, rfl, ho4, hn4, hk4⟩
  have hs4 := hk4.size
  have hrow4 := hid (hrow3.keep hk4 (fun _ _ => id))
  have HV4 := hid ((HV2.out.keep hk3 (fun _ _ => id)).keep hk4 (fun _ _ => id))
  have HB4 := hid ((HB2.out.keep hk3 (fun _ _ => id)).keep hk4 (fun _ _ => id))
  rw [hfl] at ho4
  obtain ⟨A4, c4, rfl⟩ := own_slice ho4
  have hRn := HV4.out
  rw [← HN.out] at hRn
  go_wp2_with (at_builtin; refine stopHere ?_)
  refine goOn (wpl_app (v := .slice A4 L c4) rfl rfl T rfl ho4 rfl hRn (by simp [U8, Value.oneCell']) (by omega) (by omega) ?_)
  intro A5 c5 w5 ho5 hk5 hn5
  have hs5 := hk5.size
  have hold5 : ∀ k, k < w3.heap.size → ¬ some k = (Value.slice A4 L c4).ownBlock := fun k hk q => by have := (hn4 k q.symm).1; omega
  rw [← List.map_append] at ho5
  have hl5 : (f ++ more).length = L + n := by rw [List.length_append, hfl, HN.out]
  have u2 : unframe (f ++ more) = (body, L, 0) := by rw [HF.out, unframe_more body HL1.out, HL.out, HNB.out]
  have hr5 := Row.ofOwn ho5
  clear hRn ho4
  go_wp2_with fail
  refine (unframe_calls (l := f ++ more) (by rw [hl5]; exact hr5) (by omega)).mono ?_
  rintro e w6 ⟨v6, rfl, ho6, hn6, hk6⟩
  rw [u2] at ho6 ⊢
  simp only at ho6 ⊢
  have hs6 := hk6.size
  obtain ⟨A6, c6, rfl⟩ := own_slice ho6
  have hrow6 := (hrow4.out.keep hk5 (fun q hq e => hold5 q (by obtain ⟨_, h⟩ := hrow3; have := own_lt' ho2 q hq.symm; omega) e)).keep hk6 (fun _ _ => id)
  have hB6 := hid ((HB4.out.keep hk5 (fun q hq e => hold5 q (by omega) e)).keep hk6 (fun _ _ => id))
  clear hr5 ho5 u2 hrow4
  go_wp2_with fail
  refine (copy_calls (a := f) (by rw [hfl]; exact hrow6) (by omega)).mono ?_
  rintro e w7 ⟨v7, rfl, ho7, hn7, hk7⟩
  have hs7 := hk7.size
  rw [hfl] at ho7
  obtain ⟨g7, c7, rfl, hc7, hc7'⟩ := own_at ho7 (by omega)
  have hrow7 := Row.ofOwn ho7
  have hcell : w7.cell? ⟨g7, k, none⟩ = some (.int .u8 ((f.getD k 0).toNat : Int)) := by
    obtain ⟨_, _, he, _, _, _, hA⟩ := hrow7
    simp only [Value.slice.injEq, true_and] at he
    obtain ⟨rfl, rfl⟩ := he
    rcases hA with hA | ⟨b', off', hA, hF, hb, hcell⟩
    · omega
    · simp only [Option.some.injEq, Addr.mk.injEq, and_true] at hA
      obtain ⟨rfl, rfl⟩ := hA
      have := hcell k (U8 (f.getD k 0)) (by simp [show k < f.length by omega])
      simpa [U8] using this
  have hfz : w7.frozen? ⟨g7, k, none⟩ = false := by
    rcases ho7.2 with ⟨h, _⟩ | ⟨g, cap, cur, h, _, hg, _⟩
    · simp at h
    · simp only [Value.slice.injEq, Option.some.injEq, Addr.mk.injEq, and_true, true_and] at h
      obtain ⟨rfl, _⟩ := h
      simp [World.frozen?, hg]
  obtain ⟨s, hs⟩ : ∃ s : Nat, (n : Int).tmod 8 = s ∧ s < 8 := ⟨n % 8, by rw [Int.tmod_eq_emod_of_nonneg (by omega)]; omega, by omega⟩
  obtain ⟨hsm, hs8⟩ := hs
  obtain ⟨x, hx, hxe⟩ := flip_byte (f.getD k 0) hs8
  have hset := hrow7.set hfl hkL x
  have u3 := unframe_turn body HL1.out (k := k) (c := x) (by have := HL.out; have := HNB.out; omega) (by rw [← HF.out]; exact hx)
  rw [← HF.out] at u3
  have hls : (f.set k x).length = L := by simp [hfl]
  have HX := hid hxe
  generalize (f.getD k 0).toNat = y at *
  have hUx : Value.int .u8 (bits .xor .u8 (y : Int) (2 ^ s % 256)) = U8 x := congrArg (Value.int .u8) HX.out
  have HUX := hid hUx
  clear hx hxe hUx
  go_wp2_with fail
  rw [HUX.out]
  refine (unframe_calls (l := f.set k x) (by rw [hls]; exact hset) (by omega)).mono ?_
  rintro e w8 ⟨v8, rfl, ho8, hn8, hk8⟩
  rw [u3]
  obtain ⟨A8, c8, rfl⟩ := own_slice ho8
  generalize (unframe (f.set k x)).2.1 = q8 at *
  have hg7 : w6.heap.size ≤ g7 := (hn7 g7 rfl).1
  have hk78 : Keep (fun b => b = g7) w6 w8 := ((hk7.mono (T := fun b => b = g7) (fun _ _ q => q.elim)).setCell _ _ (fun _ => rfl)).trans hk8 (fun _ _ q => q.elim)
  have ho68 := hk78.owns ho6 (fun q hq e => by have e : q = g7 := e; have := own_lt' ho6 q hq; omega)
  have hB8 := hB6.out.keep hk78 (fun q hq e => by have e : q = g7 := e; omega)
  have hkp : Keep (fun _ => False) w w8 := (((((((hk1.trans hk2 (fun _ _ => id)).trans hk3 (fun _ _ => id)).trans hk4 (fun _ _ => id)).trans hk5 (fun b hb q => hold5 b (by omega) q)).trans hk6 (fun _ _ => id))).trans hk78 (fun q hq e => by have e : q = g7 := e; omega))
  have hr6 := Row.ofOwn ho68
  rw [← HNB.out] at hr6 hB8 ⊢
  clear hB6 hset hrow7 hcell ho7 ho8
  go_wp2_with fail
  refine (same_calls (a := body) (b := body) (by rw [← HNB.out]; exact hr6) (by rw [← HNB.out]; exact hB8)).mono ?_
  rintro e w9 ⟨rfl, hk9⟩
  simp only [decide_true]
  go_wp2
  go_ret
  exact ⟨rfl, (hkp.trans hk9 (fun _ _ => id)).below (Nat.le_refl _) (fun _ _ => id)⟩
end Go.Proofs.Ytbfdnhffcdbidaa
