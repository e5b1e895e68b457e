/- A walk: how many bits a number has (math/bits.Len64). -/
import Derived.Test.YtipnglidepfkbaaJoY
import Derived.Lib.BitFns
namespace Go.Proofs.Ytipnglidepfkbaa
open Go.RowKit

attribute [local go_sem ↓] Go.wp_at_zero Go.wp_at_succ

end Go.Proofs.Ytipnglidepfkbaa
