/- PRINTED BY A PROGRAM OF THIS CLAIM'S AUTHOR (wip/gen): the contracts of Go's library that the functions call. -/
import Derived.Test.YtambmmpilakgoaaDoorB34
import Derived.Test.YtambmmpilakgoaaDoorShelf
import Derived.Test.YtambmmpilakgoaaDoorChecked
set_option linter.unusedVariables false
set_option maxRecDepth 100000
namespace Go.Proofs.YtambmmpilakgoaaDoorB
open Go Go.Shelf Go.RowKit
theorem enter63 : ∀ args w, (callFunc 63 args).run Tryd.prog w = .ok (.enter 63 args) w := fun args w => run_enter (c := (Tryd.f63.body).getD .skip) Tryd.func63 (by kernel_rfl) (by kernel_rfl) args w
namespace lib_Itoa
abbrev pin : Tpl := ⟨[slotD 0 (.int .i64)], []⟩
abbrev pout : Tpl := ⟨[slotD 0 (.str)], []⟩
abbrev PI := Int × Unit
abbrev PO := (List UInt8) × Unit
abbrev impl : PI → Option PO := itoaI
theorem con : Con Tryd.prog 63 1 1 0 pin pout impl := con_itoa enter63 (fun n h0 h1 w hq => Any.strconv_Itoa Tryd.laysM171 n h0 h1 w hq) (fun tb w ht hw => tabs_pow ht hw)
end lib_Itoa
end Go.Proofs.YtambmmpilakgoaaDoorB
