/- Which operations look at no memory. -/
import Derived.Test.YtgjklaobjnjhpaaGreatPeCore
namespace Go.Proofs.YtgjklaobjnjhpaaGreatPe
open Go

def isPure : IOp → Bool
  | .mov _ | .smov _ | .nilchk _ | .pick .. | .build .. | .bin .. | .eqs .. | .not _ | .conv .. | .iface .. | .off .. | .field .. | .idx .. | .sidx .. | .ssub .. | .lsub .. | .ext .. | .len _ | .slen _ | .sdata _ | .mkfn .. => true
  | _ => false

end Go.Proofs.YtgjklaobjnjhpaaGreatPe
