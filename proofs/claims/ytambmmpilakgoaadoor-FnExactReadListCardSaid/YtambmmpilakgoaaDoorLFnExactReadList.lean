/- PRINTED BY A PROGRAM OF THIS CLAIM'S AUTHOR (wip/gen): the contracts of Go's library that the functions call. -/
import Derived.Test.YtambmmpilakgoaaDoorB38
import Derived.Test.YtambmmpilakgoaaDoorShelf
import Derived.Test.YtambmmpilakgoaaDoorChecked
set_option linter.unusedVariables false
set_option maxRecDepth 100000
namespace Go.Proofs.YtambmmpilakgoaaDoorB
open Go Go.Shelf Go.RowKit
theorem enter96 : ∀ args w, (callFunc 96 args).run Tryd.prog w = .ok (.enter 96 args) w := fun args w => run_enter (c := (Tryd.f96.body).getD .skip) Tryd.func96 (by kernel_rfl) (by kernel_rfl) args w
namespace lib_Split
abbrev pin : Tpl := ⟨[slotD 0 (.str), slotD 1 (.str)], []⟩
abbrev pout : Tpl := ⟨[slotD 0 (.sl .str)], []⟩
abbrev PI := (List UInt8) × (List UInt8) × Unit
abbrev PO := (List (List UInt8)) × Unit
abbrev impl : PI → Option PO := splitI
theorem con : Con Tryd.prog 96 2 1 0 pin pout impl := con_split enter96 Tryd.lays146 (by kernel_rfl) rfl (fun tb w ht hw => tabs_max ht hw)
end lib_Split
theorem enter142 : ∀ args w, (callFunc 142 args).run Tryd.prog w = .ok (.enter 142 args) w := fun args w => run_enter (c := (Tryd.f142.body).getD .skip) Tryd.func142 (by kernel_rfl) (by kernel_rfl) args w
namespace lib_Atoi
abbrev pin : Tpl := ⟨[slotD 0 (.str)], []⟩
abbrev pout : Tpl := ⟨[slotD 0 (.int .i64), slotE 1], []⟩
abbrev PI := (List UInt8) × Unit
abbrev PO := Int × Bool × Unit
abbrev impl : PI → Option PO := atoiI
theorem con : Con Tryd.prog 142 1 2 0 pin pout impl := con_atoi enter142 Tryd.laysC172 rfl (fun tb w ht hw => tabs_err ht hw)
end lib_Atoi
theorem enter63 : ∀ args w, (callFunc 63 args).run Tryd.prog w = .ok (.enter 63 args) w := fun args w => run_enter (c := (Tryd.f63.body).getD .skip) Tryd.func63 (by kernel_rfl) (by kernel_rfl) args w
namespace lib_Itoa
abbrev pin : Tpl := ⟨[slotD 0 (.int .i64)], []⟩
abbrev pout : Tpl := ⟨[slotD 0 (.str)], []⟩
abbrev PI := Int × Unit
abbrev PO := (List UInt8) × Unit
abbrev impl : PI → Option PO := itoaI
theorem con : Con Tryd.prog 63 1 1 0 pin pout impl := con_itoa enter63 (fun n h0 h1 w hq => Any.strconv_Itoa Tryd.laysM171 n h0 h1 w hq) (fun tb w ht hw => tabs_pow ht hw)
end lib_Itoa
end Go.Proofs.YtambmmpilakgoaaDoorB
