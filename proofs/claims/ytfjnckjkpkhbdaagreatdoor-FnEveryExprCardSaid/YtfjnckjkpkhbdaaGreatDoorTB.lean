/- The core: what is asked of the tables that the program's start lays: the powers of ten that the library keeps, its two errors of numbers, the length up to which it searches at once. -/
import Derived.Calls
import Derived.Test.YtfjnckjkpkhbdaaGreatDoorRows
import Derived.Lib.ItoaNum
namespace Go.Proofs.YtfjnckjkpkhbdaaGreatDoorB
open Go Go.Proofs.YtfjnckjkpkhbdaaGreatDoor
/-- the third of the listed variables -/
noncomputable def powName : String := (Rows.fnEveryExprRow.laid.map (·.1)).getD 2 default
def isErr (w : World) (g : Nat) : Prop := ∃ ev, w.cell? ⟨g, 0, none⟩ = some ev ∧ (ev = .nilIface ∨ ∃ te pe, ev = .iface te pe)
def Tabs (tb : Nat → Option Obj) : Prop := ∀ w : World, (∀ k o, tb k = some o → w.heap[k]? = some o) → w.var? Tryz.prog powName = some (Lib.pow10Tab.map fun z => Value.int .u64 z).toArray ∧ (∃ m, w.cell? ⟨1, 0, none⟩ = some (.int .i64 m)) ∧ isErr w 2 ∧ isErr w 3
theorem tabs_pow {tb : Nat → Option Obj} {w : World} (ht : Tabs tb) (hw : ∀ k o, tb k = some o → w.heap[k]? = some o) : w.var? Tryz.prog powName = some (Lib.pow10Tab.map fun z => Value.int .u64 z).toArray := (ht w hw).1
theorem tabs_max {tb : Nat → Option Obj} {w : World} (ht : Tabs tb) (hw : ∀ k o, tb k = some o → w.heap[k]? = some o) : ∃ m, w.cell? ⟨1, 0, none⟩ = some (.int .i64 m) := (ht w hw).2.1
theorem tabs_err {tb : Nat → Option Obj} {w : World} (ht : Tabs tb) (hw : ∀ k o, tb k = some o → w.heap[k]? = some o) : isErr w 2 ∧ isErr w 3 := (ht w hw).2.2
end Go.Proofs.YtfjnckjkpkhbdaaGreatDoorB
