/- The core: what is asked of the tables that the program's start lays: the powers of ten that the library keeps. -/
import Derived.Calls
import Derived.Test.YtfjnckjkpkhbdaaGreatDoorRows
import Derived.Lib.ItoaNum
namespace Go.Proofs.YtfjnckjkpkhbdaaGreatDoorB
open Go Go.Proofs.YtfjnckjkpkhbdaaGreatDoor
/-- the third of the listed variables -/
noncomputable def powName : String := (Rows.fnExactWriteModelRow.laid.map (·.1)).getD 2 default
def Tabs (tb : Nat → Option Obj) : Prop := ∀ w : World, (∀ k o, tb k = some o → w.heap[k]? = some o) → w.var? Tryz.prog powName = some (Lib.pow10Tab.map fun z => Value.int .u64 z).toArray
theorem tabs_pow {tb : Nat → Option Obj} {w : World} (ht : Tabs tb) (hw : ∀ k o, tb k = some o → w.heap[k]? = some o) : w.var? Tryz.prog powName = some (Lib.pow10Tab.map fun z => Value.int .u64 z).toArray := ht w hw
end Go.Proofs.YtfjnckjkpkhbdaaGreatDoorB
