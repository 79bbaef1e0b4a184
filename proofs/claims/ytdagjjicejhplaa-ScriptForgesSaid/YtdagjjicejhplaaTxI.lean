/- Walks of strings.IndexByte and of text.Token. -/
import Derived.Test.YtdagjjicejhplaaPb
import Derived.Test.YtdagjjicejhplaaTxS
import Derived.Lib.Bytealg
namespace Go.Proofs.Ytdagjjicejhplaa
set_option linter.unusedVariables false
set_option linter.unusedSimpArgs false
open Go.RowKit Px Tx
end Go.Proofs.Ytdagjjicejhplaa
