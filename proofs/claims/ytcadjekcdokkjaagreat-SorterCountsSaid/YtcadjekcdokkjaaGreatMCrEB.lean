/- The sum by a table of bytes is the sum bit by bit; a sum tells every burst of up to 32 bits. A sum tells every burst: bits turned within 32 leave no page whole. -/
import Derived.Test.YtcadjekcdokkjaaGreatMBaCr
namespace Go.Proofs.YtcadjekcdokkjaaGreat
set_option linter.unusedVariables false
set_option linter.unusedSimpArgs false
namespace Crc
end Crc
end Go.Proofs.YtcadjekcdokkjaaGreat
namespace Go.Proofs.YtcadjekcdokkjaaGreat
set_option linter.unusedVariables false
set_option linter.unusedSimpArgs false
namespace Crc
end Crc
end Go.Proofs.YtcadjekcdokkjaaGreat
