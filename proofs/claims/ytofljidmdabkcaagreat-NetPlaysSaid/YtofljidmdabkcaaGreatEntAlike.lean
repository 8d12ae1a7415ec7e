/- A verdict's cells. -/
import Derived.Test.YtofljidmdabkcaaGreatMt
import Derived.Test.YtofljidmdabkcaaGreatReqSame
import Derived.Test.YtofljidmdabkcaaGreatMsgSmall
import Derived.Test.YtofljidmdabkcaaGreatCp
namespace Go.Proofs.YtofljidmdabkcaaGreat
open Go.RowKit
def cmZ : Commit := ⟨0, 0, ByteArray.empty, []⟩
abbrev vdV (x : Verdict) (v : Value) : Value := .agg #[.int .i64 x.code, .int .i64 x.session, .int .i64 x.rev, .string x.path, .int .u64 x.digest, v, .int .i64 x.member]
end Go.Proofs.YtofljidmdabkcaaGreat
