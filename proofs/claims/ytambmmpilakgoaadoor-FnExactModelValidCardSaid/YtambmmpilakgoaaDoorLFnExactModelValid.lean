/- PRINTED BY A PROGRAM OF THIS CLAIM'S AUTHOR (wip/gen): the contracts of Go's library that the functions call. -/
import Derived.Test.YtambmmpilakgoaaDoorB37
import Derived.Test.YtambmmpilakgoaaDoorShelf
import Derived.Test.YtambmmpilakgoaaDoorChecked
set_option maxRecDepth 100000
namespace Go.Proofs.YtambmmpilakgoaaDoorB
open Go Go.Shelf Go.RowKit
theorem enter104 : ∀ args w, (callFunc 104 args).run Tryd.prog w = .ok (.enter 104 args) w := fun args w => run_enter (c := (Tryd.f104.body).getD .skip) Tryd.func104 (by kernel_rfl) (by kernel_rfl) args w
namespace lib_Trim
abbrev pin : Tpl := ⟨[slotD 0 (.str), slotD 1 (.str)], []⟩
abbrev pout : Tpl := ⟨[slotD 0 (.str)], []⟩
abbrev PI := (List UInt8) × (List UInt8) × Unit
abbrev PO := (List UInt8) × Unit
abbrev impl : PI → Option PO := trimI
theorem con : Con Tryd.prog 104 2 1 0 pin pout impl := con_trim enter104 Tryd.lays160 (by kernel_rfl) rfl
end lib_Trim
end Go.Proofs.YtambmmpilakgoaaDoorB
