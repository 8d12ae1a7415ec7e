/- TallyOrders, the plain law. -/
import Derived.Test.YthlgnilgjeebaaaTalQ
namespace Go.Proofs.Ythlgnilgjeebaaa
open Go.RowKit
def keepV (x : Vote) : Vote := ⟨x.slot, x.ballot, reqX x.ballot⟩
def keepD (d : TDeed) : TDeed := ⟨0, d.id, d.base, 0, d.v.map keepV⟩
def oStep (K : List TDeed) (d : TDeed) : List TDeed := if d.id ∈ K.map (·.id) then K else K ++ [keepD d]
def oK (l : List TDeed) : List TDeed := l.foldl oStep []
theorem oK_next {l : List TDeed} {k : Nat} {d : TDeed} (h : l[k]? = some d) : oK (l.take (k + 1)) = oStep (oK (l.take k)) d := by
  rw [oK, List.take_add_one, h, List.foldl_append]; rfl
def votB (d : TDeed) : Prop := ∀ x ∈ d.v, x.value = reqX x.ballot
theorem oK_inv : ∀ (l K : List TDeed), (K.map (·.id)).Nodup → (∀ d ∈ K, votB d) → ((l.foldl oStep K).map (·.id)).Nodup ∧ ∀ d ∈ l.foldl oStep K, votB d
  | [], K, h1, h2 => ⟨h1, h2⟩
  | d :: l, K, h1, h2 => by
    rw [List.foldl_cons]
    refine oK_inv l _ ?_ ?_
    · rw [oStep]
      split
      · exact h1
      · rename_i hn
        rw [List.map_append, List.nodup_append]
        refine ⟨h1, by simp, fun a ha b hb e => ?_⟩
        simp only [List.map_cons, List.map_nil, List.mem_singleton] at hb
        subst e
        exact hn (by rw [hb] at ha; exact ha)
    · rw [oStep]
      split
      · exact h2
      · intro e he
        rcases List.mem_append.1 he with q | q
        · exact h2 e q
        · simp only [List.mem_singleton] at q
          subst q
          intro x hx
          obtain ⟨y, _, rfl⟩ := List.mem_map.1 hx
          rfl
theorem oK_len (l : List TDeed) : ∀ k, (oK (l.take k)).length ≤ k
  | 0 => by simp [oK]
  | k + 1 => by
    have ih := oK_len l k
    cases h : l[k]? with
    | none =>
      have : l.take (k + 1) = l.take k := by rw [List.take_add_one, h]; simp
      rw [this]; omega
    | some d =>
      rw [oK_next h, oStep]
      split
      · omega
      · rw [List.length_append]; simp; omega
/-- What one hears. -/
def hearS (s : TS) (d : TDeed) : TS := promS s d.id d.base d.v
def hearR (r : RS) (d : TDeed) : RS := rpromS r d.id d.base d.v
def hS9 (K : List TDeed) : TS := K.foldl hearS ⟨9, 0, [], [], 0, []⟩
def hR9 (K : List TDeed) : RS := K.foldl hearR ⟨9, 0, [], []⟩
theorem TRel.new9 : TRel 0 ⟨9, 0, [], [], 0, []⟩ ⟨9, 0, [], []⟩ :=
  ⟨rfl, rfl, fun _ _ _ => by simp [vtAt, lookP_nil], by simp, by simp, rfl, by simp, by simp, fun k => by simp [vtAt, lookP_nil], by simp⟩
def chOk (K : List TDeed) : Prop := ∀ d ∈ K, ∀ x ∈ d.v, x.value.changes.length ≤ 4294967296
theorem hear_rel : ∀ (K : List TDeed) (s : TS) (r : RS), TRel 0 s r → chOk K → TRel 0 (K.foldl hearS s) (K.foldl hearR r)
  | [], _, _, h, _ => h
  | d :: K, s, r, h, hc => hear_rel K _ _ (h.prom d.id d.base d.v (hc d (by simp))) (fun e he => hc e (by simp [he]))
def okD (d : TDeed) : Bool := repB d.id
def toP (d : TDeed) : TProm := ⟨d.id, d.base, d.v⟩
theorem hear_P : ∀ (K : List TDeed) (s : TS) (r : RS), TRel 0 s r → chOk K → (K.map (·.id)).Nodup → (∀ d ∈ K, d.id ∉ r.P.map (·.id)) → (K.foldl hearR r).P = r.P ++ (K.filter okD).map toP
  | [], _, r, _, _, _, _ => by simp
  | d :: K, s, r, h, hc, hn, hd => by
    rw [List.map_cons, List.nodup_cons] at hn
    rw [List.foldl_cons, List.filter_cons]
    have hrel := h.prom d.id d.base d.v (hc d (by simp))
    have hcK : chOk K := fun e he => hc e (by simp [he])
    by_cases ho : okD d = true
    · have hb : rpromB r d.id = true := by
        rw [← h.promB, Go.Proofs.Ythlgnilgjeebaaa.promB, show repB d.id = true from ho, Bool.true_and]
        have : look s.pr d.id = none := by
          cases hq : look s.pr d.id with
          | none => rfl
          | some a =>
            have hm := (look_isSome s.pr d.id).1 (by rw [hq]; rfl)
            rw [h.pr, List.map_map] at hm
            exact absurd hm (hd d (by simp))
        rw [this]; rfl
      have hP : (hearR r d).P = r.P ++ [toP d] := by rw [hearR, rpromS, if_pos hb]; rfl
      rw [if_pos ho, hear_P K _ (hearR r d) hrel hcK hn.2 (fun e he => ?_), hP]
      · simp
      · rw [hP, List.map_append, List.mem_append]
        rintro (q | q)
        · exact hd e (by simp [he]) q
        · simp only [List.map_cons, List.map_nil, List.mem_singleton] at q
          exact hn.1 (by rw [← show e.id = d.id from q]; exact List.mem_map.2 ⟨e, he, rfl⟩)
    · have hb : rpromB r d.id = false := by
        rw [rpromB, show repB d.id = false by simpa [okD] using ho]; rfl
      have hP : hearR r d = r := by rw [hearR, rpromS, hb]; rfl
      rw [if_neg ho, hear_P K _ (hearR r d) hrel hcK hn.2 (fun e he => by rw [hP]; exact hd e (by simp [he])), hP]
theorem hS9_rel {K : List TDeed} (hc : chOk K) : TRel 0 (hS9 K) (hR9 K) := hear_rel K _ _ TRel.new9 hc
theorem hR9_P {K : List TDeed} (hc : chOk K) (hn : (K.map (·.id)).Nodup) : (hR9 K).P = (K.filter okD).map toP := by
  rw [hR9, hear_P K _ _ TRel.new9 hc hn (by simp)]; simp
theorem hR9_rev {K : List TDeed} (hc : chOk K) (hn : (K.map (·.id)).Nodup) : (hR9 K.reverse).P = (hR9 K).P.reverse := by
  rw [hR9_P hc hn, hR9_P (K := K.reverse) (fun d hd => hc d (by simpa using hd)) (by rw [List.map_reverse]; exact (List.reverse_perm _).symm.nodup hn), List.filter_reverse, List.map_reverse]
theorem gth_one {β : Type} (q : Int → β → Bool) (P Q : List β) (h : ∀ n, (P.filter (q n)).length ≤ 1) (hp : P.Perm Q) (n : Nat) : gth q P n = gth q Q n := by
  rw [gth_up q P h, gth_up q Q (fun n => by rw [← (hp.filter _).length_eq]; exact h n)]
  refine upIds_congr (fun x _ _ => ?_)
  rw [Bool.eq_iff_iff, List.any_eq_true, List.any_eq_true]
  exact ⟨fun ⟨p, h1, h2⟩ => ⟨p, hp.mem_iff.1 h1, h2⟩, fun ⟨p, h1, h2⟩ => ⟨p, hp.mem_iff.2 h1, h2⟩⟩
def bPick (slot : Int) (p : Option Int) (y : Vote) : Option Int :=
  if (y.slot == slot) && goodS slot then (match p with | none => some y.ballot | some b => some (max b y.ballot)) else p
theorem vPick_bal (slot : Int) (p : Option Vote) (y : Vote) : (vPick slot p y).map (·.ballot) = bPick slot (p.map (·.ballot)) y := by
  rw [vPick, pickB.eq_def, bPick.eq_def]
  cases h1 : (y.slot == slot) with
  | false => rfl
  | true =>
    cases h2 : goodS slot with
    | false => rfl
    | true =>
      cases p with
      | none => rfl
      | some x =>
        show Option.map (fun x => x.ballot) (if decide (x.ballot < y.ballot) = true then some y else some x) = some (max x.ballot y.ballot)
        by_cases hlt : x.ballot < y.ballot
        · rw [if_pos (by simpa using hlt)]; simp; omega
        · rw [if_neg (by simpa using hlt)]; simp; omega
theorem vPick_fold (slot : Int) : ∀ (l : List Vote) (p : Option Vote), (l.foldl (vPick slot) p).map (·.ballot) = l.foldl (bPick slot) (p.map (·.ballot))
  | [], _ => rfl
  | y :: l, p => by rw [List.foldl_cons, List.foldl_cons, vPick_fold slot l, vPick_bal]
theorem vPick_val (slot : Int) : ∀ (l : List Vote) (p : Option Vote), (∀ x ∈ l, x.value = reqX x.ballot) → (∀ x, p = some x → x.value = reqX x.ballot) → ∀ x, l.foldl (vPick slot) p = some x → x.value = reqX x.ballot
  | [], _, _, h, x, hx => h x hx
  | y :: l, p, hl, h, x, hx => by
    rw [List.foldl_cons] at hx
    refine vPick_val slot l _ (fun z hz => hl z (by simp [hz])) (fun z hz => ?_) x hx
    rw [vPick] at hz
    split at hz
    · simp only [Option.some.injEq] at hz; subst hz; exact hl y (by simp)
    · exact h z hz
theorem max3 (b x y : Int) : max (max b x) y = max (max b y) x := by omega
theorem bPick_comm (slot : Int) (p : Option Int) (x y : Vote) : bPick slot (bPick slot p x) y = bPick slot (bPick slot p y) x := by
  simp only [bPick.eq_def]
  cases (x.slot == slot) <;> cases (y.slot == slot) <;> cases goodS slot <;> cases p <;> first
    | rfl
    | exact congrArg some (Int.max_comm _ _)
    | exact congrArg some (max3 _ _ _)
theorem topStep_comm (t : Int) (x y : Vote) : topStep (topStep t x) y = topStep (topStep t y) x := by
  unfold topStep
  cases goodS x.slot <;> cases goodS y.slot <;> simp <;> omega
theorem foldl_perm {α β : Type} {f : β → α → β} (hc : ∀ b x y, f (f b x) y = f (f b y) x) {l m : List α} (h : l.Perm m) : ∀ b, l.foldl f b = m.foldl f b := by
  induction h with
  | nil => intro b; rfl
  | cons x _ ih => intro b; exact ih _
  | swap x y l => intro b; simp only [List.foldl_cons]; rw [hc]
  | trans _ _ h1 h2 => intro b; rw [h1, h2]
theorem flat_perm {α β : Type} (f : α → List β) {l m : List α} (h : l.Perm m) : (l.flatMap f).Perm (m.flatMap f) := by
  induction h with
  | nil => exact .refl _
  | cons x _ ih => simp only [List.flatMap_cons]; exact ih.append_left _
  | swap x y l => simp only [List.flatMap_cons, ← List.append_assoc]; exact List.perm_append_comm.append_right _
  | trans _ _ h1 h2 => exact h1.trans h2
/-- The same, in whatever order. -/
structure OSame (slot : Int) (s t : TS) : Prop where
  val : valR s slot = valR t slot
  some : (look s.best slot).isSome = (look t.best slot).isSome
  top : s.top = t.top
  base : baseR s = baseR t
  further : byR s true slot = byR t true slot
  promised : keysS s.pr = keysS t.pr
theorem orders_same {K : List TDeed} (hc : chOk K) (hn : (K.map (·.id)).Nodup) (hv : ∀ d ∈ K, votB d) (slot : Int) : OSame slot (hS9 K) (hS9 K.reverse) := by
  have hcr : chOk K.reverse := fun d hd => hc d (by simpa using hd)
  have h1 := hS9_rel hc
  have h2 := hS9_rel hcr
  have hP := hR9_rev hc hn
  have hPP := hR9_P hc hn
  have hperm : (hR9 K).P.Perm (hR9 K.reverse).P := by rw [hP]; exact (List.reverse_perm _).symm
  have hfl : ((hR9 K).P.flatMap (·.v)).Perm ((hR9 K.reverse).P.flatMap (·.v)) := flat_perm _ hperm
  have hvv : ∀ x ∈ (hR9 K).P.flatMap (·.v), x.value = reqX x.ballot := fun x hx => by
    obtain ⟨p, hp, hxp⟩ := List.mem_flatMap.1 hx
    rw [hPP] at hp
    obtain ⟨d, hd, rfl⟩ := List.mem_map.1 hp
    exact hv d (List.mem_filter.1 hd).1 x hxp
  have hvv2 : ∀ x ∈ (hR9 K.reverse).P.flatMap (·.v), x.value = reqX x.ballot := fun x hx => hvv x (hfl.mem_iff.2 hx)
  have hb : (look (hS9 K).best slot).map (·.ballot) = (look (hS9 K.reverse).best slot).map (·.ballot) := by
    rw [h1.val, h2.val, rvalR, rvalR, vPick_fold, vPick_fold]
    exact foldl_perm (bPick_comm slot) hfl _
  have q1 : ∀ x, look (hS9 K).best slot = some x → x.value = reqX x.ballot := fun x hx => vPick_val slot _ none hvv (by simp) x (by rw [h1.val] at hx; exact hx)
  have q2 : ∀ x, look (hS9 K.reverse).best slot = some x → x.value = reqX x.ballot := fun x hx => vPick_val slot _ none hvv2 (by simp) x (by rw [h2.val] at hx; exact hx)
  refine ⟨?_, ?_, ?_, ?_, ?_, ?_⟩
  · rw [valR, valR]
    revert hb q1 q2
    cases look (hS9 K).best slot <;> cases look (hS9 K.reverse).best slot
    · intro _ _ _; rfl
    · intro hb; simp at hb
    · intro hb; simp at hb
    · rename_i x y
      intro hb q1 q2
      simp only [Option.map_some, Option.some.injEq] at hb
      show x.value = y.value
      rw [q1 x rfl, q2 y rfl, hb]
  · revert hb
    cases look (hS9 K).best slot <;> cases look (hS9 K.reverse).best slot <;> simp
  · rw [h1.top, h2.top, rtopR, rtopR, h1.rf, h2.rf]
    exact foldl_perm topStep_comm hfl _
  · rw [h1.base, h2.base, rbaseR, rbaseR]
    by_cases h0 : (hR9 K).P = []
    · rw [if_pos h0, if_pos (by rw [hP, h0]; rfl)]
    · rw [if_neg h0, if_neg (by rw [hP]; simpa using h0)]
      exact maxOf_perm (hperm.map _)
  · rw [h1.by_, h2.by_]
    exact gth_one _ _ _ (h1.one _) hperm 15
  · rw [h1.promised, h2.promised]
    exact gth_one _ _ _ (fun n => by have := h1.one (fun _ => true) n; simpa using this) hperm 15
end Go.Proofs.Ythlgnilgjeebaaa
