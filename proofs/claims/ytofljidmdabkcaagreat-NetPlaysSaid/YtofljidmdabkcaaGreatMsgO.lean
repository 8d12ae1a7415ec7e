/- How votes, commits, verdicts, messages that came in read. -/
import Derived.Test.YtofljidmdabkcaaGreatMt
namespace Go.Proofs.YtofljidmdabkcaaGreat
open Go.RowKit
theorem opens_vote : Opens Tryz.prog Rep.vote 70 :=
  Opens.as (Opens.struct Tryz.underlying70 (by kernel_rfl) (.cons rfl opens_int (.cons rfl opens_int (.one rfl opens_req)))) _ (fun p => ⟨p.1, p.2.1, p.2.2⟩) (fun _ => rfl)
theorem opens_votes : Opens Tryz.prog Rep.vote.slice 35 := Opens.slice Tryz.underlying35 (by kernel_rfl) opens_vote (by decide)
theorem opens_commit : Opens Tryz.prog Rep.commit 81 :=
  Opens.as (Opens.struct Tryz.underlying81 (by kernel_rfl) (.cons rfl opens_int (.cons rfl opens_int (.cons rfl opens_str (.one rfl opens_changes))))) _ (fun p => ⟨p.1, p.2.1, p.2.2.1, p.2.2.2⟩) (fun _ => rfl)
theorem opens_commits : Opens Tryz.prog Rep.commit.slice 38 := Opens.slice Tryz.underlying38 (by kernel_rfl) opens_commit (by decide)
theorem opens_verdict : Opens Tryz.prog Rep.verdict 40 :=
  Opens.as (Opens.struct Tryz.underlying40 (by kernel_rfl) (.cons rfl opens_int (.cons rfl opens_int (.cons rfl opens_int (.cons rfl opens_str (.cons rfl (Opens.u64 Tryz.underlying37 (by kernel_rfl)) (.cons rfl opens_commits (.one rfl opens_int))))))))
    _ (fun p => ⟨p.1, p.2.1, p.2.2.1, p.2.2.2.1, p.2.2.2.2.1, p.2.2.2.2.2.1, p.2.2.2.2.2.2⟩) (fun _ => rfl)
theorem opens_bytes : Opens Tryz.prog (Rep.slice .u8) 36 := Opens.slice Tryz.underlying36 (by kernel_rfl) (Opens.u8 Tryz.underlying5 (by kernel_rfl)) (by decide)
theorem opens_msg : Opens Tryz.prog Rep.msg 42 :=
  Opens.as (Opens.struct Tryz.underlying42 (by kernel_rfl) (.cons rfl opens_int (.cons rfl opens_int (.cons rfl opens_int (.cons rfl opens_int (.cons rfl opens_int (.cons rfl opens_int (.cons rfl opens_req (.cons rfl opens_votes (.cons rfl opens_bytes (.cons rfl opens_int (.one rfl opens_verdict))))))))))))
    _ (fun p => ⟨p.1, p.2.1, p.2.2.1, p.2.2.2.1, p.2.2.2.2.1, p.2.2.2.2.2.1, p.2.2.2.2.2.2.1, p.2.2.2.2.2.2.2.1, p.2.2.2.2.2.2.2.2.1, p.2.2.2.2.2.2.2.2.2.1, p.2.2.2.2.2.2.2.2.2.2⟩) (fun _ => rfl)
end Go.Proofs.YtofljidmdabkcaaGreat
