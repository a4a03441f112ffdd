/- The core: what is asked of the tables that the program's start lays. Here: nothing. -/
import Derived.Calls
namespace Go.Proofs.YtgagmcbeobkfoaaB
open Go
def Tabs (tb : Nat → Option Obj) : Prop := True
end Go.Proofs.YtgagmcbeobkfoaaB
