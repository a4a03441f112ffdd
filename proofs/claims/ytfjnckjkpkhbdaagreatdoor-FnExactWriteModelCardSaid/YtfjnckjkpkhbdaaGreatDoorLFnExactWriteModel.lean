/- PRINTED BY A PROGRAM OF THIS CLAIM'S AUTHOR (wip/gen): the contracts of Go's library that the functions call. -/
import Derived.Test.YtfjnckjkpkhbdaaGreatDoorB37
import Derived.Test.YtfjnckjkpkhbdaaGreatDoorShelf
import Derived.Test.YtfjnckjkpkhbdaaGreatDoorChecked
set_option linter.unusedVariables false
set_option maxRecDepth 100000
namespace Go.Proofs.YtfjnckjkpkhbdaaGreatDoorB
open Go Go.Shelf Go.RowKit
theorem enter105 : ∀ args w, (callFunc 105 args).run Tryz.prog w = .ok (.enter 105 args) w := fun args w => run_enter (c := (Tryz.f105.body).getD .skip) Tryz.func105 (by kernel_rfl) (by kernel_rfl) args w
namespace lib_Trim
abbrev pin : Tpl := ⟨[slotD 0 (.str), slotD 1 (.str)], []⟩
abbrev pout : Tpl := ⟨[slotD 0 (.str)], []⟩
abbrev PI := (List UInt8) × (List UInt8) × Unit
abbrev PO := (List UInt8) × Unit
abbrev impl : PI → Option PO := trimI
theorem con : Con Tryz.prog 105 2 1 0 pin pout impl := con_trim enter105 Tryz.lays160 (by kernel_rfl) rfl
end lib_Trim
theorem enter45 : ∀ args w, (callFunc 45 args).run Tryz.prog w = .ok (.enter 45 args) w := fun args w => run_enter (c := (Tryz.f45.body).getD .skip) Tryz.func45 (by kernel_rfl) (by kernel_rfl) args w
namespace lib_Itoa
abbrev pin : Tpl := ⟨[slotD 0 (.int .i64)], []⟩
abbrev pout : Tpl := ⟨[slotD 0 (.str)], []⟩
abbrev PI := Int × Unit
abbrev PO := (List UInt8) × Unit
abbrev impl : PI → Option PO := itoaI
theorem con : Con Tryz.prog 45 1 1 0 pin pout impl := con_itoa enter45 (fun n h0 h1 w hq => Any.strconv_Itoa Tryz.laysM171 n h0 h1 w hq) (fun tb w ht hw => tabs_pow ht hw)
end lib_Itoa
theorem enter44 : ∀ args w, (callFunc 44 args).run Tryz.prog w = .ok (.enter 44 args) w := fun args w => run_enter (c := (Tryz.f44.body).getD .skip) Tryz.func44 (by kernel_rfl) (by kernel_rfl) args w
theorem enter46 : ∀ args w, (callFunc 46 args).run Tryz.prog w = .ok (.enter 46 args) w := fun args w => run_enter (c := (Tryz.f46.body).getD .skip) Tryz.func46 (by kernel_rfl) (by kernel_rfl) args w
theorem enter47 : ∀ args w, (callFunc 47 args).run Tryz.prog w = .ok (.enter 47 args) w := fun args w => run_enter (c := (Tryz.f47.body).getD .skip) Tryz.func47 (by kernel_rfl) (by kernel_rfl) args w
abbrev bldW : FuncId := 44
abbrev bldL : FuncId := 46
abbrev bldS : FuncId := 47
abbrev bldT : TypeId := 84
abbrev bldE : TypeId := 5
theorem bld_ok {R : Type} {nt : Nat} {rest : Hand R} (h : HandF Tryz.prog nt rest) : HandF Tryz.prog nt (bldHd bldW bldL bldS bldT bldE rest) :=
  bldHd_ok (ρ := Tryz.lays156_ren) { Tryz.lays156 with } (fun b p ao n cap w h => bld_len Tryz.lays170 b p ao n cap w h) (fun b p v l w h1 h2 h3 => bld_string Tryz.lays169 Tryz.Builder_Extra_169 b p v l w h1 h2 h3) Tryz.Builder_Extra_156 rfl rfl rfl enter44 enter46 enter47 h
end Go.Proofs.YtfjnckjkpkhbdaaGreatDoorB
