/- PRINTED BY A PROGRAM OF THIS CLAIM'S AUTHOR (wip/gen): the contracts of Go's library that the functions call. -/
import Derived.Test.YtambmmpilakgoaaDoorB34
import Derived.Test.YtambmmpilakgoaaDoorShelf
import Derived.Test.YtambmmpilakgoaaDoorChecked
set_option maxRecDepth 100000
namespace Go.Proofs.YtambmmpilakgoaaDoorB
open Go Go.Shelf Go.RowKit
theorem enter63 : ∀ args w, (callFunc 63 args).run Tryd.prog w = .ok (.enter 63 args) w := fun args w => run_enter (c := (Tryd.f63.body).getD .skip) Tryd.func63 (by kernel_rfl) (by kernel_rfl) args w
namespace lib_Itoa
abbrev pin : Tpl := ⟨[slotD 0 (.int .i64)], []⟩
abbrev pout : Tpl := ⟨[slotD 0 (.str)], []⟩
abbrev PI := Int × Unit
abbrev PO := (List UInt8) × Unit
abbrev impl : PI → Option PO := itoaI
theorem con : Con Tryd.prog 63 1 1 0 pin pout impl := con_itoa enter63 (fun n h0 h1 w hq => Any.strconv_Itoa Tryd.laysM171 n h0 h1 w hq) (fun tb w ht hw => tabs_pow ht hw)
end lib_Itoa
theorem enter62 : ∀ args w, (callFunc 62 args).run Tryd.prog w = .ok (.enter 62 args) w := fun args w => run_enter (c := (Tryd.f62.body).getD .skip) Tryd.func62 (by kernel_rfl) (by kernel_rfl) args w
theorem enter64 : ∀ args w, (callFunc 64 args).run Tryd.prog w = .ok (.enter 64 args) w := fun args w => run_enter (c := (Tryd.f64.body).getD .skip) Tryd.func64 (by kernel_rfl) (by kernel_rfl) args w
theorem enter65 : ∀ args w, (callFunc 65 args).run Tryd.prog w = .ok (.enter 65 args) w := fun args w => run_enter (c := (Tryd.f65.body).getD .skip) Tryd.func65 (by kernel_rfl) (by kernel_rfl) args w
abbrev bldW : FuncId := 62
abbrev bldL : FuncId := 64
abbrev bldS : FuncId := 65
abbrev bldT : TypeId := 97
abbrev bldE : TypeId := 5
theorem bld_ok {R : Type} {nt : Nat} {rest : Hand R} (h : HandF Tryd.prog nt rest) : HandF Tryd.prog nt (bldHd bldW bldL bldS bldT bldE rest) :=
  bldHd_ok (ρ := Tryd.lays156_ren) { Tryd.lays156 with } (fun b p ao n cap w h => bld_len Tryd.lays170 b p ao n cap w h) (fun b p v l w h1 h2 h3 => bld_string Tryd.lays169 Tryd.Builder_Extra_169 b p v l w h1 h2 h3) Tryd.Builder_Extra_156 rfl rfl rfl enter62 enter64 enter65 h
end Go.Proofs.YtambmmpilakgoaaDoorB
