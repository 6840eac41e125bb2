/- The calls whose answers are known, for the diary's walks. -/
import Derived.Test.YtoddncakdnmloaaStTbl
import Derived.Test.YtoddncakdnmloaaVx22
namespace Go.Proofs.Ytoddncakdnmloaa.diary
open Go Go.Vx
abbrev tbl : FuncId → List AV → AMem → Option (AV × AMem) := stats.tbl
theorem tbl_none {f : FuncId} (h : f ≠ 6 ∧ f ≠ 22) (a : List AV) : ∀ M, tbl f a M = none := stats.tbl_none h a
end Go.Proofs.Ytoddncakdnmloaa.diary
