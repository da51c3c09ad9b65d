/- What the functions of the seat do, from label to label. -/
import Derived.Test.YtonfcbadaebjnaaAf
namespace Go.Am
open Go
set_option maxRecDepth 100000
end Go.Am
