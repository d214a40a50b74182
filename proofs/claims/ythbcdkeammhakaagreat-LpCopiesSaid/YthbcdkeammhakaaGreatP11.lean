/- Chapter 13: StP. -/
import Derived.Test.YthbcdkeammhakaaGreatP01
import Derived.Test.YthbcdkeammhakaaGreatRows
set_option maxRecDepth 100000
set_option maxHeartbeats 16000000
namespace Go.Proofs.YthbcdkeammhakaaGreat
open Go.RowKit
structure St where
 s0 : Int
 s1 : Int
 s2 : Int
 s3 : Int
deriving DecidableEq
def St.cells (s : St) : List Value := [.int .i64 s.s0, .int .i64 s.s1, .int .i64 s.s2, .int .i64 s.s3]
def St.val (s : St) : Value := .agg #[.int .i64 s.s0, .int .i64 s.s1, .int .i64 s.s2, .int .i64 s.s3]
end Go.Proofs.YthbcdkeammhakaaGreat
