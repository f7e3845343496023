/- Valid functions: program and reference. No condition but that the bars lie in memory. -/
import Derived.Test.YtedihfcbpgogoaaJ
import Derived.Test.YtedihfcbpgogoaaM
import Derived.Test.YtedihfcbpgogoaaM2
import Derived.Test.YtedihfcbpgogoaaM3
namespace Go.Proofs.Ytedihfcbpgogoaa
open Go.RowKit
theorem rvalidF_any {w : World} {f : Fn} {a : Option Addr} {n cap : Nat} (h : BarS w a n cap f.ba) :
    Calls Try.prog 40 #[.agg #[.int .i64 f.pa, .int .i64 f.sl, .int .i64 f.ve, .int .i64 f.de, .bool f.br, .bool f.pf, .bool f.hp, .int .i64 f.sp, .int .i64 f.pn, .int .i64 f.vc, .slice a n cap]] w (VPost (vF f) w) := by
  by_cases hv : vH f
  · rcases hv.threeR with n3 | n3 | n3
    · exact rvalidF_yes1 h hv n3
    · exact rvalidF_yes2 h hv n3
    · exact rvalidF_yes3 h hv n3
  · exact rvalidF_no hv
end Go.Proofs.Ytedihfcbpgogoaa
