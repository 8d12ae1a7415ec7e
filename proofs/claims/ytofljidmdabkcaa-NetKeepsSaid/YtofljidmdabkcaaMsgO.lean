/- How votes, commits, verdicts, messages that came in read. -/
import Derived.Test.YtofljidmdabkcaaMt
namespace Go.Proofs.Ytofljidmdabkcaa
open Go.RowKit
theorem opens_vote : Opens Try.prog Rep.vote 43 :=
  Opens.as (Opens.struct Try.underlying43 (by kernel_rfl) (.cons rfl opens_int (.cons rfl opens_int (.one rfl opens_req)))) _ (fun p => ⟨p.1, p.2.1, p.2.2⟩) (fun _ => rfl)
theorem opens_votes : Opens Try.prog Rep.vote.slice 25 := Opens.slice Try.underlying25 (by kernel_rfl) opens_vote (by decide)
theorem opens_commit : Opens Try.prog Rep.commit 73 :=
  Opens.as (Opens.struct Try.underlying73 (by kernel_rfl) (.cons rfl opens_int (.cons rfl opens_int (.cons rfl opens_str (.one rfl opens_changes))))) _ (fun p => ⟨p.1, p.2.1, p.2.2.1, p.2.2.2⟩) (fun _ => rfl)
theorem opens_commits : Opens Try.prog Rep.commit.slice 28 := Opens.slice Try.underlying28 (by kernel_rfl) opens_commit (by decide)
theorem opens_verdict : Opens Try.prog Rep.verdict 30 :=
  Opens.as (Opens.struct Try.underlying30 (by kernel_rfl) (.cons rfl opens_int (.cons rfl opens_int (.cons rfl opens_int (.cons rfl opens_str (.cons rfl (Opens.u64 Try.underlying27 (by kernel_rfl)) (.cons rfl opens_commits (.one rfl opens_int))))))))
    _ (fun p => ⟨p.1, p.2.1, p.2.2.1, p.2.2.2.1, p.2.2.2.2.1, p.2.2.2.2.2.1, p.2.2.2.2.2.2⟩) (fun _ => rfl)
theorem opens_bytes : Opens Try.prog (Rep.slice .u8) 26 := Opens.slice Try.underlying26 (by kernel_rfl) (Opens.u8 Try.underlying5 (by kernel_rfl)) (by decide)
theorem opens_msg : Opens Try.prog Rep.msg 32 :=
  Opens.as (Opens.struct Try.underlying32 (by kernel_rfl) (.cons rfl opens_int (.cons rfl opens_int (.cons rfl opens_int (.cons rfl opens_int (.cons rfl opens_int (.cons rfl opens_int (.cons rfl opens_req (.cons rfl opens_votes (.cons rfl opens_bytes (.cons rfl opens_int (.one rfl opens_verdict))))))))))))
    _ (fun p => ⟨p.1, p.2.1, p.2.2.1, p.2.2.2.1, p.2.2.2.2.1, p.2.2.2.2.2.1, p.2.2.2.2.2.2.1, p.2.2.2.2.2.2.2.1, p.2.2.2.2.2.2.2.2.1, p.2.2.2.2.2.2.2.2.2.1, p.2.2.2.2.2.2.2.2.2.2⟩) (fun _ => rfl)
end Go.Proofs.Ytofljidmdabkcaa
