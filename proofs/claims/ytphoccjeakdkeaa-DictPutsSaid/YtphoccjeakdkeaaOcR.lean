/- Walks: a value that may not be, boxed; which values may be. -/
import Derived.Test.YtphoccjeakdkeaaOcP
namespace Go.Proofs.Ytphoccjeakdkeaa
open Go.RowKit

attribute [local go_sem ↓] Go.wp_at_zero Go.wp_at_succ

end Go.Proofs.Ytphoccjeakdkeaa
