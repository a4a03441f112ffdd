/- The core: what is asked of the tables that the program's start lays. Here: nothing. -/
import Derived.Calls
namespace Go.Proofs.YtjjepjfjikefiaaB
open Go
def Tabs (_ : Nat → Option Obj) : Prop := True
end Go.Proofs.YtjjepjfjikefiaaB
