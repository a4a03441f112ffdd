/- PRINTED BY A PROGRAM OF THIS CLAIM'S AUTHOR (wip/gen): the contracts of Go's library that the functions call. -/
import Derived.Test.YtambmmpilakgoaaDoorB37
import Derived.Test.YtambmmpilakgoaaDoorShelf
import Derived.Test.YtambmmpilakgoaaDoorChecked
set_option maxRecDepth 100000
namespace Go.Proofs.YtambmmpilakgoaaDoorB
open Go Go.Shelf Go.RowKit
theorem enter63 : ∀ args w, (callFunc 63 args).run Tryd.prog w = .ok (.enter 63 args) w := fun args w => run_enter (c := (Tryd.f63.body).getD .skip) Tryd.func63 (by kernel_rfl) (by kernel_rfl) args w
namespace lib_Itoa
abbrev pin : Tpl := ⟨[slotD 0 (.int .i64)], []⟩
abbrev pout : Tpl := ⟨[slotD 0 (.str)], []⟩
abbrev PI := Int × Unit
abbrev PO := (List UInt8) × Unit
abbrev impl : PI → Option PO := itoaI
theorem con : Con Tryd.prog 63 1 1 0 pin pout impl := con_itoa enter63 (fun n h0 h1 w hq => Any.strconv_Itoa Tryd.laysM171 n h0 h1 w hq) (fun tb w ht hw => tabs_pow ht hw)
end lib_Itoa
theorem enter75 : ∀ args w, (callFunc 75 args).run Tryd.prog w = .ok (.enter 75 args) w := fun args w => run_enter (c := (Tryd.f75.body).getD .skip) Tryd.func75 (by kernel_rfl) (by kernel_rfl) args w
namespace lib_Join
abbrev pin : Tpl := ⟨[slotD 0 (.sl .str), slotD 1 (.str)], []⟩
abbrev pout : Tpl := ⟨[slotD 0 (.str)], []⟩
abbrev PI := (List (List UInt8)) × (List UInt8) × Unit
abbrev PO := (List UInt8) × Unit
abbrev impl : PI → Option PO := joinI
theorem con : Con Tryd.prog 75 2 1 0 pin pout impl := con_join enter75 Tryd.lays156 Tryd.Builder_Extra_156 rfl
end lib_Join
theorem enter104 : ∀ args w, (callFunc 104 args).run Tryd.prog w = .ok (.enter 104 args) w := fun args w => run_enter (c := (Tryd.f104.body).getD .skip) Tryd.func104 (by kernel_rfl) (by kernel_rfl) args w
namespace lib_Trim
abbrev pin : Tpl := ⟨[slotD 0 (.str), slotD 1 (.str)], []⟩
abbrev pout : Tpl := ⟨[slotD 0 (.str)], []⟩
abbrev PI := (List UInt8) × (List UInt8) × Unit
abbrev PO := (List UInt8) × Unit
abbrev impl : PI → Option PO := trimI
theorem con : Con Tryd.prog 104 2 1 0 pin pout impl := con_trim enter104 Tryd.lays160 (by kernel_rfl) rfl
end lib_Trim
end Go.Proofs.YtambmmpilakgoaaDoorB
