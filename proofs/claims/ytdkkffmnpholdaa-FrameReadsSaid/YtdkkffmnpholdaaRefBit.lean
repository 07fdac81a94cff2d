/- The references' Bit and Power: what each comes to. -/
import Derived.Test.YtdkkffmnpholdaaProg
import Derived.Test.YtdkkffmnpholdaaMem
import Derived.Test.YtdkkffmnpholdaaNum
import Derived.Deep.LoopGhost
namespace Go.Proofs.Ytdkkffmnpholdaa
open Go.RowKit

end Go.Proofs.Ytdkkffmnpholdaa
