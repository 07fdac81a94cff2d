/- fit.held, fit.Low, and the references' Bit and Power: what each comes to. -/
import Derived.Test.YtpjcfelknkddfaaDoorProg
import Derived.Test.YtpjcfelknkddfaaDoorMem
import Derived.Test.YtpjcfelknkddfaaDoorNum
import Derived.Deep.QuietTactic
import Derived.BigQuiet
import Derived.Deep.LoopGhost
namespace Go.Proofs.YtpjcfelknkddfaaDoor
open Go.RowKit

end Go.Proofs.YtpjcfelknkddfaaDoor
