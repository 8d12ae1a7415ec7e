/- Requests, votes, commits, verdicts, messages: how they read. -/
import Derived.Test.YtofljidmdabkcaaReq
import Derived.Test.YtofljidmdabkcaaOpenR
namespace Go.Proofs.Ytofljidmdabkcaa
open Go.RowKit

/-- A number of 64 bits. -/
def okI (n : Int) : Prop := -9223372036854775808 ≤ n ∧ n ≤ 9223372036854775807
theorem okI.wf {n : Int} (h : okI n) : (Lit.int .i64 n).wf = true := by
  obtain ⟨h1, h2⟩ := h
  simp [Lit.wf, IntKind.min, IntKind.max, IntKind.signed, IntKind.bits]; omega
structure Vote where
  slot : Int
  ballot : Int
  value : Req
structure Commit where
  rev : Int
  base : Int
  ref : ByteArray
  changes : List Change
deriving DecidableEq
structure Verdict where
  code : Int
  session : Int
  rev : Int
  path : ByteArray
  digest : Nat
  commits : List Commit
  member : Int
deriving DecidableEq
structure Msg where
  kind : Int
  from' : Int
  to : Int
  ballot : Int
  slot : Int
  time : Int
  value : Req
  votes : List Vote
  image : List UInt8
  number : Int
  verdict : Verdict
def Rep.req : Rep Req := (Rep.pair .int (.pair .str (.pair .int (.pair .int (.pair .int (.pair .str (.pair Rep.change.slice (.pair .str (.pair .int (.pair .int .int)))))))))).as fun r => (r.kind, r.name, r.session, r.seq, r.base, r.ref, r.changes, r.path, r.from', r.many, r.member)
def Rep.vote : Rep Vote := (Rep.pair .int (.pair .int .req)).as fun v => (v.slot, v.ballot, v.value)
def Rep.commit : Rep Commit := (Rep.pair .int (.pair .int (.pair .str Rep.change.slice))).as fun c => (c.rev, c.base, c.ref, c.changes)
def Rep.verdict : Rep Verdict := (Rep.pair .int (.pair .int (.pair .int (.pair .str (.pair .u64 (.pair Rep.commit.slice .int)))))).as fun v => (v.code, v.session, v.rev, v.path, v.digest, v.commits, v.member)
def Rep.msg : Rep Msg := (Rep.pair .int (.pair .int (.pair .int (.pair .int (.pair .int (.pair .int (.pair .req (.pair Rep.vote.slice (.pair (Rep.slice .u8) (.pair .int .verdict)))))))))).as fun m => (m.kind, m.from', m.to, m.ballot, m.slot, m.time, m.value, m.votes, m.image, m.number, m.verdict)

def reqCs (r : Req) (v : Value) : List Value := [.int .i64 r.kind, .string r.name, .int .i64 r.session, .int .i64 r.seq, .int .i64 r.base, .string r.ref, v, .string r.path, .int .i64 r.from', .int .i64 r.many, .int .i64 r.member]
def voteCs (x : Vote) (v : Value) : List Value := .int .i64 x.slot :: .int .i64 x.ballot :: reqCs x.value v
def commitCs (c : Commit) (v : Value) : List Value := [.int .i64 c.rev, .int .i64 c.base, .string c.ref, v]
def verdictCs (x : Verdict) (v : Value) : List Value := [.int .i64 x.code, .int .i64 x.session, .int .i64 x.rev, .string x.path, .int .u64 x.digest, v, .int .i64 x.member]
def msgCs (m : Msg) (vc vv vi vk : Value) : List Value := .int .i64 m.kind :: .int .i64 m.from' :: .int .i64 m.to :: .int .i64 m.ballot :: .int .i64 m.slot :: .int .i64 m.time :: (reqCs m.value vc ++ vv :: vi :: .int .i64 m.number :: verdictCs m.verdict vk)

structure Req.Ok (r : Req) : Prop where
  kind : okI r.kind
  session : okI r.session
  seq : okI r.seq
  base : okI r.base
  from' : okI r.from'
  many : okI r.many
  member : okI r.member
structure Vote.Ok (x : Vote) : Prop where
  slot : okI x.slot
  ballot : okI x.ballot
  value : x.value.Ok
structure Commit.Ok (c : Commit) : Prop where
  rev : okI c.rev
  base : okI c.base
structure Verdict.Ok (x : Verdict) : Prop where
  code : okI x.code
  session : okI x.session
  rev : okI x.rev
  digest : x.digest ≤ 18446744073709551615
  member : okI x.member
structure Msg.Ok (m : Msg) : Prop where
  kind : okI m.kind
  from' : okI m.from'
  to : okI m.to
  ballot : okI m.ballot
  slot : okI m.slot
  time : okI m.time
  value : m.value.Ok
  number : okI m.number
  verdict : m.verdict.Ok

section
variable {w : World} {F : Nat → Prop} {cs : List Value}
theorem req_cells {r : Req} (h : Rep.req.cells w F r cs) : ∃ v, cs = reqCs r v ∧ Sl .change w F v r.changes ∧ r.Ok := by
  obtain ⟨_, _, rfl, ⟨rfl, h0⟩, _, _, rfl, rfl, _, _, rfl, ⟨rfl, h1⟩, _, _, rfl, ⟨rfl, h2⟩, _, _, rfl, ⟨rfl, h3⟩, _, _, rfl, rfl, _, _, rfl, ⟨v, rfl, hv⟩, _, _, rfl, rfl, _, _, rfl, ⟨rfl, h4⟩, _, _, rfl, ⟨rfl, h5⟩, ⟨rfl, h6⟩⟩ := h
  exact ⟨v, rfl, hv, h0, h1, h2, h3, h4, h5, h6⟩
theorem req_mk {r : Req} {v : Value} (hv : Sl .change w F v r.changes) (h : r.Ok) : Rep.req.cells w F r (reqCs r v) :=
  ⟨_, _, rfl, ⟨rfl, h.kind⟩, _, _, rfl, rfl, _, _, rfl, ⟨rfl, h.session⟩, _, _, rfl, ⟨rfl, h.seq⟩, _, _, rfl, ⟨rfl, h.base⟩, _, _, rfl, rfl, _, _, rfl, ⟨v, rfl, hv⟩, _, _, rfl, rfl, _, _, rfl, ⟨rfl, h.from'⟩, _, _, rfl, ⟨rfl, h.many⟩, ⟨rfl, h.member⟩⟩
theorem vote_cells {x : Vote} (h : Rep.vote.cells w F x cs) : ∃ v, cs = voteCs x v ∧ Sl .change w F v x.value.changes ∧ x.Ok := by
  obtain ⟨_, _, rfl, ⟨rfl, h0⟩, _, _, rfl, ⟨rfl, h1⟩, h2⟩ := h
  obtain ⟨v, rfl, h3, h4⟩ := req_cells h2
  exact ⟨v, rfl, h3, h0, h1, h4⟩
theorem vote_mk {x : Vote} {v : Value} (hv : Sl .change w F v x.value.changes) (h : x.Ok) : Rep.vote.cells w F x (voteCs x v) :=
  ⟨_, _, rfl, ⟨rfl, h.slot⟩, _, _, rfl, ⟨rfl, h.ballot⟩, req_mk hv h.value⟩
theorem commit_cells {x : Commit} (h : Rep.commit.cells w F x cs) : ∃ v, cs = commitCs x v ∧ Sl .change w F v x.changes ∧ x.Ok := by
  obtain ⟨_, _, rfl, ⟨rfl, h0⟩, _, _, rfl, ⟨rfl, h1⟩, _, _, rfl, rfl, ⟨v, rfl, hv⟩⟩ := h
  exact ⟨v, rfl, hv, h0, h1⟩
theorem commit_mk {x : Commit} {v : Value} (hv : Sl .change w F v x.changes) (h : x.Ok) : Rep.commit.cells w F x (commitCs x v) :=
  ⟨_, _, rfl, ⟨rfl, h.rev⟩, _, _, rfl, ⟨rfl, h.base⟩, _, _, rfl, rfl, ⟨v, rfl, hv⟩⟩
theorem verdict_cells {x : Verdict} (h : Rep.verdict.cells w F x cs) : ∃ v, cs = verdictCs x v ∧ Sl .commit w F v x.commits ∧ x.Ok := by
  obtain ⟨_, _, rfl, ⟨rfl, h0⟩, _, _, rfl, ⟨rfl, h1⟩, _, _, rfl, ⟨rfl, h2⟩, _, _, rfl, rfl, _, _, rfl, ⟨rfl, h3⟩, _, _, rfl, ⟨v, rfl, hv⟩, ⟨rfl, h4⟩⟩ := h
  exact ⟨v, rfl, hv, h0, h1, h2, h3, h4⟩
theorem verdict_mk {x : Verdict} {v : Value} (hv : Sl .commit w F v x.commits) (h : x.Ok) : Rep.verdict.cells w F x (verdictCs x v) :=
  ⟨_, _, rfl, ⟨rfl, h.code⟩, _, _, rfl, ⟨rfl, h.session⟩, _, _, rfl, ⟨rfl, h.rev⟩, _, _, rfl, rfl, _, _, rfl, ⟨rfl, h.digest⟩, _, _, rfl, ⟨v, rfl, hv⟩, ⟨rfl, h.member⟩⟩
theorem msg_cells {m : Msg} (h : Rep.msg.cells w F m cs) : ∃ vc vv vi vk, cs = msgCs m vc vv vi vk ∧ Sl .change w F vc m.value.changes ∧ Sl .vote w F vv m.votes ∧ Sl .u8 w F vi m.image ∧ Sl .commit w F vk m.verdict.commits ∧ m.Ok := by
  obtain ⟨_, _, rfl, ⟨rfl, h0⟩, _, _, rfl, ⟨rfl, h1⟩, _, _, rfl, ⟨rfl, h2⟩, _, _, rfl, ⟨rfl, h3⟩, _, _, rfl, ⟨rfl, h4⟩, _, _, rfl, ⟨rfl, h5⟩, _, _, rfl, h6, _, _, rfl, ⟨vv, rfl, hv⟩, _, _, rfl, ⟨vi, rfl, hi⟩, _, _, rfl, ⟨rfl, h7⟩, h8⟩ := h
  obtain ⟨vc, rfl, hc, h6⟩ := req_cells h6
  obtain ⟨vk, rfl, hk, h8⟩ := verdict_cells h8
  exact ⟨vc, vv, vi, vk, rfl, hc, hv, hi, hk, h0, h1, h2, h3, h4, h5, h6, h7, h8⟩
theorem msg_mk {m : Msg} {vc vv vi vk : Value} (hc : Sl .change w F vc m.value.changes) (hv : Sl .vote w F vv m.votes) (hi : Sl .u8 w F vi m.image) (hk : Sl .commit w F vk m.verdict.commits) (h : m.Ok) : Rep.msg.cells w F m (msgCs m vc vv vi vk) :=
  ⟨_, _, rfl, ⟨rfl, h.kind⟩, _, _, rfl, ⟨rfl, h.from'⟩, _, _, rfl, ⟨rfl, h.to⟩, _, _, rfl, ⟨rfl, h.ballot⟩, _, _, rfl, ⟨rfl, h.slot⟩, _, _, rfl, ⟨rfl, h.time⟩, _, _, rfl, req_mk hc h.value, _, _, rfl, ⟨vv, rfl, hv⟩, _, _, rfl, ⟨vi, rfl, hi⟩, _, _, rfl, ⟨rfl, h.number⟩, verdict_mk hk h.verdict⟩
theorem sl_one (v : Value) (h : ∃ A n c, v = .slice A n c) : v.oneCell' = true := by obtain ⟨A, n, c, rfl⟩ := h; rfl
theorem req_one (x : Req) (d : List Value) (h : Rep.req.cells w F x d) : ∀ u ∈ d, u.oneCell' = true := by
  obtain ⟨v, rfl, hv, _⟩ := req_cells h
  obtain ⟨A, c, rfl⟩ := hv.shape
  simp [reqCs, Value.oneCell']
theorem vote_one (x : Vote) (d : List Value) (h : Rep.vote.cells w F x d) : ∀ u ∈ d, u.oneCell' = true := by
  obtain ⟨v, rfl, hv, _⟩ := vote_cells h
  obtain ⟨A, c, rfl⟩ := hv.shape
  simp [voteCs, reqCs, Value.oneCell']
theorem commit_one (x : Commit) (d : List Value) (h : Rep.commit.cells w F x d) : ∀ u ∈ d, u.oneCell' = true := by
  obtain ⟨v, rfl, hv, _⟩ := commit_cells h
  obtain ⟨A, c, rfl⟩ := hv.shape
  simp [commitCs, Value.oneCell']
theorem msg_one (x : Msg) (d : List Value) (h : Rep.msg.cells w F x d) : ∀ u ∈ d, u.oneCell' = true := by
  obtain ⟨vc, vv, vi, vk, rfl, hc, hv, hi, hk, _⟩ := msg_cells h
  obtain ⟨A, c, rfl⟩ := hc.shape
  obtain ⟨A, c, rfl⟩ := hv.shape
  obtain ⟨A, c, rfl⟩ := hi.shape
  obtain ⟨A, c, rfl⟩ := hk.shape
  simp [msgCs, reqCs, verdictCs, Value.oneCell']
end
theorem opens_change : Opens Try.prog Rep.change 48 :=
  Opens.as (Opens.struct Try.underlying48 (by kernel_rfl) (.cons rfl (Opens.str Try.underlying9 (by kernel_rfl)) (.cons rfl (Opens.bool Try.underlying4 (by kernel_rfl)) (.one rfl (Opens.u64 Try.underlying27 (by kernel_rfl))))))
    _ (fun p => ⟨p.1, p.2.1, p.2.2⟩) (fun _ => rfl)
theorem opens_changes : Opens Try.prog Rep.change.slice 22 := Opens.slice Try.underlying22 (by kernel_rfl) opens_change (by decide)
theorem opens_int : Opens Try.prog Rep.int 3 := Opens.int Try.underlying3 (by kernel_rfl)
theorem opens_str : Opens Try.prog Rep.str 9 := Opens.str Try.underlying9 (by kernel_rfl)
theorem opens_req : Opens Try.prog Rep.req 24 :=
  Opens.as (Opens.struct Try.underlying24 (by kernel_rfl) (.cons rfl opens_int (.cons rfl opens_str (.cons rfl opens_int (.cons rfl opens_int (.cons rfl opens_int (.cons rfl opens_str (.cons rfl opens_changes (.cons rfl opens_str (.cons rfl opens_int (.cons rfl opens_int (.one rfl opens_int))))))))))))
    _ (fun p => ⟨p.1, p.2.1, p.2.2.1, p.2.2.2.1, p.2.2.2.2.1, p.2.2.2.2.2.1, p.2.2.2.2.2.2.1, p.2.2.2.2.2.2.2.1, p.2.2.2.2.2.2.2.2.1, p.2.2.2.2.2.2.2.2.2.1, p.2.2.2.2.2.2.2.2.2.2⟩) (fun _ => rfl)
end Go.Proofs.Ytofljidmdabkcaa
