/- PRINTED BY A PROGRAM OF THIS CLAIM'S AUTHOR (wip/gen): the contracts of Go's library that the functions call. -/
import Derived.Test.YtfjnckjkpkhbdaaGreatDoorB38
import Derived.Test.YtfjnckjkpkhbdaaGreatDoorShelf
import Derived.Test.YtfjnckjkpkhbdaaGreatDoorChecked
set_option linter.unusedVariables false
set_option maxRecDepth 100000
namespace Go.Proofs.YtfjnckjkpkhbdaaGreatDoorB
open Go Go.Shelf Go.RowKit
theorem enter105 : ∀ args w, (callFunc 105 args).run Tryz.prog w = .ok (.enter 105 args) w := fun args w => run_enter (c := (Tryz.f105.body).getD .skip) Tryz.func105 (by kernel_rfl) (by kernel_rfl) args w
namespace lib_Trim
abbrev pin : Tpl := ⟨[slotD 0 (.str), slotD 1 (.str)], []⟩
abbrev pout : Tpl := ⟨[slotD 0 (.str)], []⟩
abbrev PI := (List UInt8) × (List UInt8) × Unit
abbrev PO := (List UInt8) × Unit
abbrev G := PI → Option PO
abbrev impl : PI → Option PO := trimI
theorem con : Con Tryz.prog 105 2 1 0 pin pout impl := con_trim enter105 Tryz.lays160 (by kernel_rfl) rfl
end lib_Trim
theorem enter179 : ∀ args w, (callFunc 179 args).run Tryz.prog w = .ok (.enter 179 args) w := fun args w => run_enter (c := (Tryz.f179.body).getD .skip) Tryz.func179 (by kernel_rfl) (by kernel_rfl) args w
namespace lib_IndexByte
abbrev pin : Tpl := ⟨[slotD 0 (.str), slotD 1 (.int .u8)], []⟩
abbrev pout : Tpl := ⟨[slotD 0 (.int .i64)], []⟩
abbrev PI := (List UInt8) × Int × Unit
abbrev PO := Int × Unit
abbrev G := PI → Option PO
abbrev impl : PI → Option PO := indexByteI
theorem con : Con Tryz.prog 179 2 1 0 pin pout impl := con_indexByte enter179 Tryz.lays137 rfl
end lib_IndexByte
theorem enter123 : ∀ args w, (callFunc 123 args).run Tryz.prog w = .ok (.enter 123 args) w := fun args w => run_enter (c := (Tryz.f123.body).getD .skip) Tryz.func123 (by kernel_rfl) (by kernel_rfl) args w
namespace lib_Atoi
abbrev pin : Tpl := ⟨[slotD 0 (.str)], []⟩
abbrev pout : Tpl := ⟨[slotD 0 (.int .i64), slotE 1], []⟩
abbrev PI := (List UInt8) × Unit
abbrev PO := Int × Bool × Unit
abbrev G := PI → Option PO
abbrev impl : PI → Option PO := atoiI
theorem con : Con Tryz.prog 123 1 2 0 pin pout impl := con_atoi enter123 Tryz.laysC172 rfl (fun tb w ht hw => tabs_err ht hw)
end lib_Atoi
theorem enter45 : ∀ args w, (callFunc 45 args).run Tryz.prog w = .ok (.enter 45 args) w := fun args w => run_enter (c := (Tryz.f45.body).getD .skip) Tryz.func45 (by kernel_rfl) (by kernel_rfl) args w
namespace lib_Itoa
abbrev pin : Tpl := ⟨[slotD 0 (.int .i64)], []⟩
abbrev pout : Tpl := ⟨[slotD 0 (.str)], []⟩
abbrev PI := Int × Unit
abbrev PO := (List UInt8) × Unit
abbrev G := PI → Option PO
abbrev impl : PI → Option PO := itoaI
theorem con : Con Tryz.prog 45 1 1 0 pin pout impl := con_itoa enter45 (fun n h0 h1 w hq => Any.strconv_Itoa Tryz.laysM171 n h0 h1 w hq) (fun tb w ht hw => tabs_pow ht hw)
end lib_Itoa
end Go.Proofs.YtfjnckjkpkhbdaaGreatDoorB
