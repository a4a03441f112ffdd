/- PRINTED BY A PROGRAM OF THIS CLAIM'S AUTHOR (wip/gen): the contracts of Go's library that the functions call. -/
import Derived.Test.YtgagmcbeobkfoaaDoorB34
import Derived.Test.YtgagmcbeobkfoaaDoorShelf
import Derived.Test.YtgagmcbeobkfoaaDoorChecked
set_option maxRecDepth 100000
namespace Go.Proofs.YtgagmcbeobkfoaaDoorB
open Go Go.Shelf Go.RowKit
theorem enter11 : ∀ args w, (callFunc 11 args).run Tryd.prog w = .ok (.enter 11 args) w := fun args w => run_enter (c := (Tryd.f11.body).getD .skip) Tryd.func11 (by kernel_rfl) (by kernel_rfl) args w
namespace lib_Itoa
abbrev pin : Tpl := ⟨[slotD 0 (.int .i64)], []⟩
abbrev pout : Tpl := ⟨[slotD 0 (.str)], []⟩
abbrev PI := Int × Unit
abbrev PO := (List UInt8) × Unit
abbrev impl : PI → Option PO := itoaI
theorem con : Con Tryd.prog 11 1 1 0 pin pout impl := con_itoa enter11 (fun n h0 h1 w hq => Any.strconv_Itoa Tryd.laysM171 n h0 h1 w hq) (fun tb w ht hw => tabs_pow ht hw)
end lib_Itoa
theorem enter12 : ∀ args w, (callFunc 12 args).run Tryd.prog w = .ok (.enter 12 args) w := fun args w => run_enter (c := (Tryd.f12.body).getD .skip) Tryd.func12 (by kernel_rfl) (by kernel_rfl) args w
namespace lib_Join
abbrev pin : Tpl := ⟨[slotD 0 (.sl .str), slotD 1 (.str)], []⟩
abbrev pout : Tpl := ⟨[slotD 0 (.str)], []⟩
abbrev PI := (List (List UInt8)) × (List UInt8) × Unit
abbrev PO := (List UInt8) × Unit
abbrev impl : PI → Option PO := joinI
theorem con : Con Tryd.prog 12 2 1 0 pin pout impl := con_join enter12 Tryd.lays156 Tryd.Builder_Extra_156 rfl
end lib_Join
end Go.Proofs.YtgagmcbeobkfoaaDoorB
