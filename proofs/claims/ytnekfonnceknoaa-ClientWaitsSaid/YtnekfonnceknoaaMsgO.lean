/- How votes, commits, verdicts, messages that came in read. -/
import Derived.Test.YtnekfonnceknoaaMt
namespace Go.Proofs.Ytnekfonnceknoaa
open Go.RowKit
theorem opens_vote : Opens Try.prog Rep.vote 76 :=
  Opens.as (Opens.struct Try.underlying76 (by kernel_rfl) (.cons rfl opens_int (.cons rfl opens_int (.one rfl opens_req)))) _ (fun p => ⟨p.1, p.2.1, p.2.2⟩) (fun _ => rfl)
theorem opens_votes : Opens Try.prog Rep.vote.slice 30 := Opens.slice Try.underlying30 (by kernel_rfl) opens_vote (by decide)
theorem opens_commit : Opens Try.prog Rep.commit 69 :=
  Opens.as (Opens.struct Try.underlying69 (by kernel_rfl) (.cons rfl opens_int (.cons rfl opens_int (.cons rfl opens_str (.one rfl opens_changes))))) _ (fun p => ⟨p.1, p.2.1, p.2.2.1, p.2.2.2⟩) (fun _ => rfl)
theorem opens_commits : Opens Try.prog Rep.commit.slice 33 := Opens.slice Try.underlying33 (by kernel_rfl) opens_commit (by decide)
theorem opens_verdict : Opens Try.prog Rep.verdict 35 :=
  Opens.as (Opens.struct Try.underlying35 (by kernel_rfl) (.cons rfl opens_int (.cons rfl opens_int (.cons rfl opens_int (.cons rfl opens_str (.cons rfl (Opens.u64 Try.underlying32 (by kernel_rfl)) (.cons rfl opens_commits (.one rfl opens_int))))))))
    _ (fun p => ⟨p.1, p.2.1, p.2.2.1, p.2.2.2.1, p.2.2.2.2.1, p.2.2.2.2.2.1, p.2.2.2.2.2.2⟩) (fun _ => rfl)
theorem opens_bytes : Opens Try.prog (Rep.slice .u8) 31 := Opens.slice Try.underlying31 (by kernel_rfl) (Opens.u8 Try.underlying5 (by kernel_rfl)) (by decide)
theorem opens_msg : Opens Try.prog Rep.msg 37 :=
  Opens.as (Opens.struct Try.underlying37 (by kernel_rfl) (.cons rfl opens_int (.cons rfl opens_int (.cons rfl opens_int (.cons rfl opens_int (.cons rfl opens_int (.cons rfl opens_int (.cons rfl opens_req (.cons rfl opens_votes (.cons rfl opens_bytes (.cons rfl opens_int (.one rfl opens_verdict))))))))))))
    _ (fun p => ⟨p.1, p.2.1, p.2.2.1, p.2.2.2.1, p.2.2.2.2.1, p.2.2.2.2.2.1, p.2.2.2.2.2.2.1, p.2.2.2.2.2.2.2.1, p.2.2.2.2.2.2.2.2.1, p.2.2.2.2.2.2.2.2.2.1, p.2.2.2.2.2.2.2.2.2.2⟩) (fun _ => rfl)
end Go.Proofs.Ytnekfonnceknoaa
