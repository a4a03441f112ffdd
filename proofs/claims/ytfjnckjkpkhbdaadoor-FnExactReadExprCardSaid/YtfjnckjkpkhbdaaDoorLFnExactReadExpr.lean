/- PRINTED BY A PROGRAM OF THIS CLAIM'S AUTHOR (wip/gen): the contracts of Go's library that the functions call. -/
import Derived.Test.YtfjnckjkpkhbdaaDoorB38
import Derived.Test.YtfjnckjkpkhbdaaDoorShelf
import Derived.Test.YtfjnckjkpkhbdaaDoorChecked
set_option linter.unusedVariables false
set_option maxRecDepth 100000
namespace Go.Proofs.YtfjnckjkpkhbdaaDoorB
open Go Go.Shelf Go.RowKit
theorem enter45 : ∀ args w, (callFunc 45 args).run Tryd.prog w = .ok (.enter 45 args) w := fun args w => run_enter (c := (Tryd.f45.body).getD .skip) Tryd.func45 (by kernel_rfl) (by kernel_rfl) args w
namespace lib_Trim
abbrev pin : Tpl := ⟨[slotD 0 (.str), slotD 1 (.str)], []⟩
abbrev pout : Tpl := ⟨[slotD 0 (.str)], []⟩
abbrev PI := (List UInt8) × (List UInt8) × Unit
abbrev PO := (List UInt8) × Unit
abbrev impl : PI → Option PO := trimI
theorem con : Con Tryd.prog 45 2 1 0 pin pout impl := con_trim enter45 Tryd.lays160 (by kernel_rfl) rfl
end lib_Trim
theorem enter48 : ∀ args w, (callFunc 48 args).run Tryd.prog w = .ok (.enter 48 args) w := fun args w => run_enter (c := (Tryd.f48.body).getD .skip) Tryd.func48 (by kernel_rfl) (by kernel_rfl) args w
namespace lib_IndexByte
abbrev pin : Tpl := ⟨[slotD 0 (.str), slotD 1 (.int .u8)], []⟩
abbrev pout : Tpl := ⟨[slotD 0 (.int .i64)], []⟩
abbrev PI := (List UInt8) × Int × Unit
abbrev PO := Int × Unit
abbrev impl : PI → Option PO := indexByteI
theorem con : Con Tryd.prog 48 2 1 0 pin pout impl := con_indexByte enter48 Tryd.lays137 rfl
end lib_IndexByte
theorem enter46 : ∀ args w, (callFunc 46 args).run Tryd.prog w = .ok (.enter 46 args) w := fun args w => run_enter (c := (Tryd.f46.body).getD .skip) Tryd.func46 (by kernel_rfl) (by kernel_rfl) args w
namespace lib_Atoi
abbrev pin : Tpl := ⟨[slotD 0 (.str)], []⟩
abbrev pout : Tpl := ⟨[slotD 0 (.int .i64), slotE 1], []⟩
abbrev PI := (List UInt8) × Unit
abbrev PO := Int × Bool × Unit
abbrev impl : PI → Option PO := atoiI
theorem con : Con Tryd.prog 46 1 2 0 pin pout impl := con_atoi enter46 Tryd.laysC172 rfl (fun tb w ht hw => tabs_err ht hw)
end lib_Atoi
theorem enter47 : ∀ args w, (callFunc 47 args).run Tryd.prog w = .ok (.enter 47 args) w := fun args w => run_enter (c := (Tryd.f47.body).getD .skip) Tryd.func47 (by kernel_rfl) (by kernel_rfl) args w
namespace lib_Itoa
abbrev pin : Tpl := ⟨[slotD 0 (.int .i64)], []⟩
abbrev pout : Tpl := ⟨[slotD 0 (.str)], []⟩
abbrev PI := Int × Unit
abbrev PO := (List UInt8) × Unit
abbrev impl : PI → Option PO := itoaI
theorem con : Con Tryd.prog 47 1 1 0 pin pout impl := con_itoa enter47 (fun n h0 h1 w hq => Any.strconv_Itoa Tryd.laysM171 n h0 h1 w hq) (fun tb w ht hw => tabs_pow ht hw)
end lib_Itoa
end Go.Proofs.YtfjnckjkpkhbdaaDoorB
