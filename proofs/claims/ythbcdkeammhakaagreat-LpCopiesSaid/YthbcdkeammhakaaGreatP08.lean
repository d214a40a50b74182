/- Chapter 13: PMsgs. -/
import Derived.Test.YthbcdkeammhakaaGreatP07
set_option maxRecDepth 100000
set_option maxHeartbeats 16000000
namespace Go.Proofs.YthbcdkeammhakaaGreat
open Go.RowKit Go.ChangeShapes Go.WideShapes Go.ChangeAt
abbrev Msg := Ev × Bool
end Go.Proofs.YthbcdkeammhakaaGreat
