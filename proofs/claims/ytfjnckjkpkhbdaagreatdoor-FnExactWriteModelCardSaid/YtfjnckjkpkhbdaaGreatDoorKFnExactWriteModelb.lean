/- PRINTED BY A PROGRAM OF THIS CLAIM'S AUTHOR (wip/gen): functions of the given program, their parts, their contracts. -/
import Derived.Test.YtfjnckjkpkhbdaaGreatDoorKFnExactWriteModela
set_option linter.unusedVariables false
set_option linter.unusedSimpArgs false
set_option maxRecDepth 100000
namespace Go.Proofs.YtfjnckjkpkhbdaaGreatDoorB
open Go

/-! ### loop.example/wholecheck/spec.WriteModel -/
namespace spec_WriteModel
noncomputable abbrev c0 : Code := (Tryz.f9.body).getD .skip
noncomputable abbrev pin : Tpl := ⟨[⟨0, true, [.d (.prod (.sl .str) (.prod (.prod (.sl (.prod (.int .i64) (.prod (.int .i64) (.last (.int .i64))))) (.last (.sl (.prod (.sl (.prod (.int .i64) (.prod (.int .i64) (.prod (.int .i64) (.last (.int .i64)))))) (.prod (.sl (.int .i64)) (.last (.sl (.sl (.prod (.int .i64) (.prod (.int .i64) (.prod (.int .i64) (.last (.int .i64))))))))))))) (.last (.sl (.sl (.prod (.int .i64) (.prod (.int .i64) (.prod (.int .i64) (.last (.int .i64))))))))))]⟩], []⟩
noncomputable abbrev pout : Tpl := ⟨[⟨0, false, [.d .str]⟩], []⟩
noncomputable abbrev p5 : Tpl := ⟨[⟨1, false, [.ptr 3000000 0]⟩, ⟨3, false, [.d .str]⟩, ⟨4, false, [.d (.int .i64)]⟩], [(3000000, .box [.d (.sl .str), .d (.sl (.prod (.int .i64) (.prod (.int .i64) (.last (.int .i64))))), .d (.sl (.prod (.sl (.prod (.int .i64) (.prod (.int .i64) (.prod (.int .i64) (.last (.int .i64)))))) (.prod (.sl (.int .i64)) (.last (.sl (.sl (.prod (.int .i64) (.prod (.int .i64) (.prod (.int .i64) (.last (.int .i64))))))))))), .d (.sl (.sl (.prod (.int .i64) (.prod (.int .i64) (.prod (.int .i64) (.last (.int .i64)))))))])]⟩
noncomputable def T5 : List Item := (find 5 c0 []).getD []
noncomputable abbrev p8 : Tpl := ⟨[⟨1, false, [.ptr 3000000 0]⟩, ⟨3, false, [.d .str]⟩, ⟨4, false, [.d (.int .i64)]⟩, ⟨5, false, [.ptr 3000001 0]⟩], [(3000000, .box [.d (.sl .str), .d (.sl (.prod (.int .i64) (.prod (.int .i64) (.last (.int .i64))))), .d (.sl (.prod (.sl (.prod (.int .i64) (.prod (.int .i64) (.prod (.int .i64) (.last (.int .i64)))))) (.prod (.sl (.int .i64)) (.last (.sl (.sl (.prod (.int .i64) (.prod (.int .i64) (.prod (.int .i64) (.last (.int .i64))))))))))), .d (.sl (.sl (.prod (.int .i64) (.prod (.int .i64) (.prod (.int .i64) (.last (.int .i64)))))))]), (3000001, .box [.d (.int .i64), .d (.int .i64), .d (.int .i64)])]⟩
noncomputable def T8 : List Item := (find 8 c0 []).getD []
noncomputable abbrev p10 : Tpl := ⟨[⟨1, false, [.ptr 3000000 0]⟩, ⟨3, false, [.d .str]⟩, ⟨6, false, [.d (.int .i64)]⟩], [(3000000, .box [.d (.sl .str), .d (.sl (.prod (.int .i64) (.prod (.int .i64) (.last (.int .i64))))), .d (.sl (.prod (.sl (.prod (.int .i64) (.prod (.int .i64) (.prod (.int .i64) (.last (.int .i64)))))) (.prod (.sl (.int .i64)) (.last (.sl (.sl (.prod (.int .i64) (.prod (.int .i64) (.prod (.int .i64) (.last (.int .i64))))))))))), .d (.sl (.sl (.prod (.int .i64) (.prod (.int .i64) (.prod (.int .i64) (.last (.int .i64)))))))])]⟩
noncomputable def T10 : List Item := (find 10 c0 []).getD []
noncomputable abbrev p15 : Tpl := ⟨[⟨1, false, [.ptr 3000000 0]⟩, ⟨3, false, [.d .str]⟩, ⟨6, false, [.d (.int .i64)]⟩, ⟨7, false, [.ptr 3000001 0]⟩, ⟨8, false, [.d (.int .i64)]⟩], [(3000000, .box [.d (.sl .str), .d (.sl (.prod (.int .i64) (.prod (.int .i64) (.last (.int .i64))))), .d (.sl (.prod (.sl (.prod (.int .i64) (.prod (.int .i64) (.prod (.int .i64) (.last (.int .i64)))))) (.prod (.sl (.int .i64)) (.last (.sl (.sl (.prod (.int .i64) (.prod (.int .i64) (.prod (.int .i64) (.last (.int .i64))))))))))), .d (.sl (.sl (.prod (.int .i64) (.prod (.int .i64) (.prod (.int .i64) (.last (.int .i64)))))))]), (3000001, .box [.d (.sl (.prod (.int .i64) (.prod (.int .i64) (.prod (.int .i64) (.last (.int .i64)))))), .d (.sl (.int .i64)), .d (.sl (.sl (.prod (.int .i64) (.prod (.int .i64) (.prod (.int .i64) (.last (.int .i64)))))))])]⟩
noncomputable def T15 : List Item := (find 15 c0 []).getD []
noncomputable abbrev p17 : Tpl := ⟨[⟨1, false, [.ptr 3000000 0]⟩, ⟨3, false, [.d .str]⟩, ⟨6, false, [.d (.int .i64)]⟩, ⟨7, false, [.ptr 3000001 0]⟩, ⟨8, false, [.d (.int .i64)]⟩], [(3000000, .box [.d (.sl .str), .d (.sl (.prod (.int .i64) (.prod (.int .i64) (.last (.int .i64))))), .d (.sl (.prod (.sl (.prod (.int .i64) (.prod (.int .i64) (.prod (.int .i64) (.last (.int .i64)))))) (.prod (.sl (.int .i64)) (.last (.sl (.sl (.prod (.int .i64) (.prod (.int .i64) (.prod (.int .i64) (.last (.int .i64))))))))))), .d (.sl (.sl (.prod (.int .i64) (.prod (.int .i64) (.prod (.int .i64) (.last (.int .i64)))))))]), (3000001, .box [.d (.sl (.prod (.int .i64) (.prod (.int .i64) (.prod (.int .i64) (.last (.int .i64)))))), .d (.sl (.int .i64)), .d (.sl (.sl (.prod (.int .i64) (.prod (.int .i64) (.prod (.int .i64) (.last (.int .i64)))))))])]⟩
noncomputable def T17 : List Item := (find 17 c0 []).getD []
noncomputable abbrev p20 : Tpl := ⟨[⟨1, false, [.ptr 3000000 0]⟩, ⟨3, false, [.d .str]⟩, ⟨9, false, [.d (.int .i64)]⟩], [(3000000, .box [.d (.sl .str), .d (.sl (.prod (.int .i64) (.prod (.int .i64) (.last (.int .i64))))), .d (.sl (.prod (.sl (.prod (.int .i64) (.prod (.int .i64) (.prod (.int .i64) (.last (.int .i64)))))) (.prod (.sl (.int .i64)) (.last (.sl (.sl (.prod (.int .i64) (.prod (.int .i64) (.prod (.int .i64) (.last (.int .i64))))))))))), .d (.sl (.sl (.prod (.int .i64) (.prod (.int .i64) (.prod (.int .i64) (.last (.int .i64)))))))])]⟩
noncomputable def T20 : List Item := (find 20 c0 []).getD []
noncomputable abbrev p22 : Tpl := ⟨[⟨1, false, [.ptr 3000000 0]⟩, ⟨3, false, [.d .str]⟩, ⟨9, false, [.d (.int .i64)]⟩], [(3000000, .box [.d (.sl .str), .d (.sl (.prod (.int .i64) (.prod (.int .i64) (.last (.int .i64))))), .d (.sl (.prod (.sl (.prod (.int .i64) (.prod (.int .i64) (.prod (.int .i64) (.last (.int .i64)))))) (.prod (.sl (.int .i64)) (.last (.sl (.sl (.prod (.int .i64) (.prod (.int .i64) (.prod (.int .i64) (.last (.int .i64))))))))))), .d (.sl (.sl (.prod (.int .i64) (.prod (.int .i64) (.prod (.int .i64) (.last (.int .i64)))))))])]⟩
noncomputable def T22 : List Item := (find 22 c0 []).getD []
noncomputable abbrev PI := ((List (List UInt8)) × ((List (Int × Int × Int)) × List ((List (Int × Int × Int × Int)) × (List Int) × List (List (Int × Int × Int × Int)))) × List (List (Int × Int × Int × Int))) × Unit
noncomputable abbrev PO := (List UInt8) × Unit
noncomputable abbrev P5 := (List UInt8) × Int × (List (List UInt8)) × (List (Int × Int × Int)) × (List ((List (Int × Int × Int × Int)) × (List Int) × List (List (Int × Int × Int × Int)))) × (List (List (Int × Int × Int × Int))) × Unit
noncomputable abbrev P8 := (List UInt8) × Int × (List (List UInt8)) × (List (Int × Int × Int)) × (List ((List (Int × Int × Int × Int)) × (List Int) × List (List (Int × Int × Int × Int)))) × (List (List (Int × Int × Int × Int))) × Int × Int × Int × Unit
noncomputable abbrev P10 := (List UInt8) × Int × (List (List UInt8)) × (List (Int × Int × Int)) × (List ((List (Int × Int × Int × Int)) × (List Int) × List (List (Int × Int × Int × Int)))) × (List (List (Int × Int × Int × Int))) × Unit
noncomputable abbrev P15 := (List UInt8) × Int × Int × (List (List UInt8)) × (List (Int × Int × Int)) × (List ((List (Int × Int × Int × Int)) × (List Int) × List (List (Int × Int × Int × Int)))) × (List (List (Int × Int × Int × Int))) × (List (Int × Int × Int × Int)) × (List Int) × (List (List (Int × Int × Int × Int))) × Unit
noncomputable abbrev P17 := (List UInt8) × Int × Int × (List (List UInt8)) × (List (Int × Int × Int)) × (List ((List (Int × Int × Int × Int)) × (List Int) × List (List (Int × Int × Int × Int)))) × (List (List (Int × Int × Int × Int))) × (List (Int × Int × Int × Int)) × (List Int) × (List (List (Int × Int × Int × Int))) × Unit
noncomputable abbrev P20 := (List UInt8) × Int × (List (List UInt8)) × (List (Int × Int × Int)) × (List ((List (Int × Int × Int × Int)) × (List Int) × List (List (Int × Int × Int × Int)))) × (List (List (Int × Int × Int × Int))) × Unit
noncomputable abbrev P22 := (List UInt8) × Int × (List (List UInt8)) × (List (Int × Int × Int)) × (List ((List (Int × Int × Int × Int)) × (List Int) × List (List (Int × Int × Int × Int)))) × (List (List (Int × Int × Int × Int))) × Unit
noncomputable abbrev rs : List ResultVar := [.tmp 2]
noncomputable def F0 (J5 : P5 → Option PO) (Gspec_ModelValid : spec_ModelValid.PI → Option spec_ModelValid.PO) (x0 : (List (List UInt8)) × ((List (Int × Int × Int)) × List ((List (Int × Int × Int × Int)) × (List Int) × List (List (Int × Int × Int × Int)))) × List (List (Int × Int × Int × Int))) : Option PO :=
  Option.bind (Gspec_ModelValid (x0, ())) fun y0 =>
  bif !y0.1 then
    some ([], ())
  else
    J5 ([], 0, x0.1, x0.2.1.1, x0.2.1.2, x0.2.2, ())
noncomputable def F5 (J8 : P8 → Option PO) (J10 : P10 → Option PO) (t3 : List UInt8) (t4 : Int) (b0_0 : List (List UInt8)) (b0_1 : List (Int × Int × Int)) (b0_2 : List ((List (Int × Int × Int × Int)) × (List Int) × List (List (Int × Int × Int × Int)))) (b0_3 : List (List (Int × Int × Int × Int))) : Option PO :=
  bif decide (t4 < (b0_0.length : Int)) then
    bif inb t4 b0_1.length then
      J8 (t3, t4, b0_0, b0_1, b0_2, b0_3, (b0_1.getD t4.toNat (0, 0, 0)).1, (b0_1.getD t4.toNat (0, 0, 0)).2.1, (b0_1.getD t4.toNat (0, 0, 0)).2.2, ())
    else
      none
  else
    J10 (t3, 0, b0_0, b0_1, b0_2, b0_3, ())
noncomputable def F8 (J5 : P5 → Option PO) (Gspec_l40Dec : spec_l40Dec.PI → Option spec_l40Dec.PO) (t3 : List UInt8) (t4 : Int) (b0_0 : List (List UInt8)) (b0_1 : List (Int × Int × Int)) (b0_2 : List ((List (Int × Int × Int × Int)) × (List Int) × List (List (Int × Int × Int × Int)))) (b0_3 : List (List (Int × Int × Int × Int))) (b1_0 : Int) (b1_1 : Int) (b1_2 : Int) : Option PO :=
  bif decide (t3.length + ([118, 97, 114, 32] : List UInt8).length ≤ 140737488355328) then
    bif inb t4 b0_0.length then
      bif decide ((t3 ++ ([118, 97, 114, 32] : List UInt8)).length + (b0_0.getD t4.toNat []).length ≤ 140737488355328) then
        bif decide (((t3 ++ ([118, 97, 114, 32] : List UInt8)) ++ (b0_0.getD t4.toNat [])).length + ([32] : List UInt8).length ≤ 140737488355328) then
          Option.bind (Gspec_l40Dec (b1_0, ())) fun y1 =>
          bif decide ((((t3 ++ ([118, 97, 114, 32] : List UInt8)) ++ (b0_0.getD t4.toNat [])) ++ ([32] : List UInt8)).length + y1.1.length ≤ 140737488355328) then
            bif decide (((((t3 ++ ([118, 97, 114, 32] : List UInt8)) ++ (b0_0.getD t4.toNat [])) ++ ([32] : List UInt8)) ++ y1.1).length + ([32] : List UInt8).length ≤ 140737488355328) then
              Option.bind (Gspec_l40Dec (b1_1, ())) fun y2 =>
              bif decide ((((((t3 ++ ([118, 97, 114, 32] : List UInt8)) ++ (b0_0.getD t4.toNat [])) ++ ([32] : List UInt8)) ++ y1.1) ++ ([32] : List UInt8)).length + y2.1.length ≤ 140737488355328) then
                bif decide (((((((t3 ++ ([118, 97, 114, 32] : List UInt8)) ++ (b0_0.getD t4.toNat [])) ++ ([32] : List UInt8)) ++ y1.1) ++ ([32] : List UInt8)) ++ y2.1).length + ([32] : List UInt8).length ≤ 140737488355328) then
                  Option.bind (Gspec_l40Dec (b1_2, ())) fun y3 =>
                  bif decide ((((((((t3 ++ ([118, 97, 114, 32] : List UInt8)) ++ (b0_0.getD t4.toNat [])) ++ ([32] : List UInt8)) ++ y1.1) ++ ([32] : List UInt8)) ++ y2.1) ++ ([32] : List UInt8)).length + y3.1.length ≤ 140737488355328) then
                    bif decide (((((((((t3 ++ ([118, 97, 114, 32] : List UInt8)) ++ (b0_0.getD t4.toNat [])) ++ ([32] : List UInt8)) ++ y1.1) ++ ([32] : List UInt8)) ++ y2.1) ++ ([32] : List UInt8)) ++ y3.1).length + ([10] : List UInt8).length ≤ 140737488355328) then
                      J5 (((((((((t3 ++ ([118, 97, 114, 32] : List UInt8)) ++ (b0_0.getD t4.toNat [])) ++ ([32] : List UInt8)) ++ y1.1) ++ ([32] : List UInt8)) ++ y2.1) ++ ([32] : List UInt8)) ++ y3.1) ++ ([10] : List UInt8), wI (t4 + 1), b0_0, b0_1, b0_2, b0_3, ())
                    else
                      none
                  else
                    none
                else
                  none
              else
                none
            else
              none
          else
            none
        else
          none
      else
        none
    else
      none
  else
    none
noncomputable def F10 (J15 : P15 → Option PO) (J20 : P20 → Option PO) (Gspec_WriteExpr : spec_WriteExpr.PI → Option spec_WriteExpr.PO) (t3 : List UInt8) (t6 : Int) (b0_0 : List (List UInt8)) (b0_1 : List (Int × Int × Int)) (b0_2 : List ((List (Int × Int × Int × Int)) × (List Int) × List (List (Int × Int × Int × Int)))) (b0_3 : List (List (Int × Int × Int × Int))) : Option PO :=
  bif decide (t6 < (b0_2.length : Int)) then
    bif inb t6 b0_2.length then
      bif decide (t3.length + ([114, 117, 108, 101, 32] : List UInt8).length ≤ 140737488355328) then
        Option.bind (Gspec_WriteExpr (b0_0, (b0_2.getD t6.toNat ([], [], [])).1, ())) fun y4 =>
        bif decide ((t3 ++ ([114, 117, 108, 101, 32] : List UInt8)).length + y4.1.length ≤ 140737488355328) then
          J15 ((t3 ++ ([114, 117, 108, 101, 32] : List UInt8)) ++ y4.1, t6, 0, b0_0, b0_1, b0_2, b0_3, (b0_2.getD t6.toNat ([], [], [])).1, (b0_2.getD t6.toNat ([], [], [])).2.1, (b0_2.getD t6.toNat ([], [], [])).2.2, ())
        else
          none
      else
        none
    else
      none
  else
    J20 (t3, 0, b0_0, b0_1, b0_2, b0_3, ())
noncomputable def F15 (J10 : P10 → Option PO) (J17 : P17 → Option PO) (t3 : List UInt8) (t6 : Int) (t8 : Int) (b0_0 : List (List UInt8)) (b0_1 : List (Int × Int × Int)) (b0_2 : List ((List (Int × Int × Int × Int)) × (List Int) × List (List (Int × Int × Int × Int)))) (b0_3 : List (List (Int × Int × Int × Int))) (b1_0 : List (Int × Int × Int × Int)) (b1_1 : List Int) (b1_2 : List (List (Int × Int × Int × Int))) : Option PO :=
  bif decide (t8 < (b1_1.length : Int)) then
    J17 (t3, t6, t8, b0_0, b0_1, b0_2, b0_3, b1_0, b1_1, b1_2, ())
  else
    bif decide (t3.length + ([10] : List UInt8).length ≤ 140737488355328) then
      J10 (t3 ++ ([10] : List UInt8), wI (t6 + 1), b0_0, b0_1, b0_2, b0_3, ())
    else
      none
noncomputable def F17 (J15 : P15 → Option PO) (Gspec_WriteExpr : spec_WriteExpr.PI → Option spec_WriteExpr.PO) (t3 : List UInt8) (t6 : Int) (t8 : Int) (b0_0 : List (List UInt8)) (b0_1 : List (Int × Int × Int)) (b0_2 : List ((List (Int × Int × Int × Int)) × (List Int) × List (List (Int × Int × Int × Int)))) (b0_3 : List (List (Int × Int × Int × Int))) (b1_0 : List (Int × Int × Int × Int)) (b1_1 : List Int) (b1_2 : List (List (Int × Int × Int × Int))) : Option PO :=
  bif decide (t3.length + ([32, 59, 32] : List UInt8).length ≤ 140737488355328) then
    bif inb t8 b1_1.length then
      bif inb (b1_1.getD t8.toNat 0) b0_0.length then
        bif decide ((t3 ++ ([32, 59, 32] : List UInt8)).length + (b0_0.getD (b1_1.getD t8.toNat 0).toNat []).length ≤ 140737488355328) then
          bif decide (((t3 ++ ([32, 59, 32] : List UInt8)) ++ (b0_0.getD (b1_1.getD t8.toNat 0).toNat [])).length + ([32, 61, 32] : List UInt8).length ≤ 140737488355328) then
            bif inb t8 b1_2.length then
              Option.bind (Gspec_WriteExpr (b0_0, b1_2.getD t8.toNat [], ())) fun y5 =>
              bif decide ((((t3 ++ ([32, 59, 32] : List UInt8)) ++ (b0_0.getD (b1_1.getD t8.toNat 0).toNat [])) ++ ([32, 61, 32] : List UInt8)).length + y5.1.length ≤ 140737488355328) then
                J15 ((((t3 ++ ([32, 59, 32] : List UInt8)) ++ (b0_0.getD (b1_1.getD t8.toNat 0).toNat [])) ++ ([32, 61, 32] : List UInt8)) ++ y5.1, t6, wI (t8 + 1), b0_0, b0_1, b0_2, b0_3, b1_0, b1_1, b1_2, ())
              else
                none
            else
              none
          else
            none
        else
          none
      else
        none
    else
      none
  else
    none
noncomputable def F20 (J22 : P22 → Option PO) (t3 : List UInt8) (t9 : Int) (b0_0 : List (List UInt8)) (b0_1 : List (Int × Int × Int)) (b0_2 : List ((List (Int × Int × Int × Int)) × (List Int) × List (List (Int × Int × Int × Int)))) (b0_3 : List (List (Int × Int × Int × Int))) : Option PO :=
  bif decide (t9 < (b0_3.length : Int)) then
    J22 (t3, t9, b0_0, b0_1, b0_2, b0_3, ())
  else
    bif decide ((t3.length : Int) > 4000) then
      some ([], ())
    else
      some (t3, ())
noncomputable def F22 (J20 : P20 → Option PO) (Gspec_WriteExpr : spec_WriteExpr.PI → Option spec_WriteExpr.PO) (t3 : List UInt8) (t9 : Int) (b0_0 : List (List UInt8)) (b0_1 : List (Int × Int × Int)) (b0_2 : List ((List (Int × Int × Int × Int)) × (List Int) × List (List (Int × Int × Int × Int)))) (b0_3 : List (List (Int × Int × Int × Int))) : Option PO :=
  bif decide (t3.length + ([103, 111, 97, 108, 32] : List UInt8).length ≤ 140737488355328) then
    bif inb t9 b0_3.length then
      Option.bind (Gspec_WriteExpr (b0_0, b0_3.getD t9.toNat [], ())) fun y6 =>
      bif decide ((t3 ++ ([103, 111, 97, 108, 32] : List UInt8)).length + y6.1.length ≤ 140737488355328) then
        bif decide (((t3 ++ ([103, 111, 97, 108, 32] : List UInt8)) ++ y6.1).length + ([10] : List UInt8).length ≤ 140737488355328) then
          J20 (((t3 ++ ([103, 111, 97, 108, 32] : List UInt8)) ++ y6.1) ++ ([10] : List UInt8), wI (t9 + 1), b0_0, b0_1, b0_2, b0_3, ())
        else
          none
      else
        none
    else
      none
  else
    none
noncomputable def hd {R : Type} (Gspec_ModelValid : spec_ModelValid.PI → Option spec_ModelValid.PO) (Gspec_WriteExpr : spec_WriteExpr.PI → Option spec_WriteExpr.PO) (Gspec_l40Dec : spec_l40Dec.PI → Option spec_l40Dec.PO) : Hand R := (handAt 39 [37, 42, 47] true ⟨1, 1, 0, spec_l40Dec.pin, spec_l40Dec.pout, Gspec_l40Dec⟩ (handAt 38 [11] true ⟨1, 1, 1, spec_ModelValid.pin, spec_ModelValid.pout, Gspec_ModelValid⟩ (handAt 15 [70, 99, 119] true ⟨2, 1, 2, spec_WriteExpr.pin, spec_WriteExpr.pout, Gspec_WriteExpr⟩ handNil)))
noncomputable def pg (Gspec_ModelValid : spec_ModelValid.PI → Option spec_ModelValid.PO) (Gspec_WriteExpr : spec_WriteExpr.PI → Option spec_WriteExpr.PO) (Gspec_l40Dec : spec_l40Dec.PI → Option spec_l40Dec.PO) (J5 : List Item → P5 → Option PO) (J8 : List Item → P8 → Option PO) (J10 : List Item → P10 → Option PO) (J15 : List Item → P15 → Option PO) (J17 : List Item → P17 → Option PO) (J20 : List Item → P20 → Option PO) (J22 : List Item → P22 → Option PO) : Prog PO := { nt := 126, np := 1, tb := tabOf tab, hd := hd Gspec_ModelValid Gspec_WriteExpr Gspec_l40Dec, cuts := cutsOf [(5, cut p5 J5), (8, cut p8 J8), (10, cut p10 J10), (15, cut p15 J15), (17, cut p17 J17), (20, cut p20 J20), (22, cut p22 J22)], fin := endOf (tabOf tab) rs 1 pout }
noncomputable def q : FuncId → Bool := fun f => hasId [15, 38, 39] f
theorem seg0 (Gspec_ModelValid : spec_ModelValid.PI → Option spec_ModelValid.PO) (Gspec_WriteExpr : spec_WriteExpr.PI → Option spec_WriteExpr.PO) (Gspec_l40Dec : spec_l40Dec.PI → Option spec_l40Dec.PO) (J5 : List Item → P5 → Option PO) (J8 : List Item → P8 → Option PO) (J10 : List Item → P10 → Option PO) (J15 : List Item → P15 → Option PO) (J17 : List Item → P17 → Option PO) (J20 : List Item → P20 → Option PO) (J22 : List Item → P22 → Option PO) (x0 : (List (List UInt8)) × ((List (Int × Int × Int)) × List ((List (Int × Int × Int × Int)) × (List Int) × List (List (Int × Int × Int × Int)))) × List (List (Int × Int × Int × Int))) : arun (pg Gspec_ModelValid Gspec_WriteExpr Gspec_l40Dec J5 J8 J10 J15 J17 J20 J22) 5000 [.code c0] (mk pin (x0, ())) = F0 (J5 T5) Gspec_ModelValid x0 := by kernel_rfl
theorem seg5 (Gspec_ModelValid : spec_ModelValid.PI → Option spec_ModelValid.PO) (Gspec_WriteExpr : spec_WriteExpr.PI → Option spec_WriteExpr.PO) (Gspec_l40Dec : spec_l40Dec.PI → Option spec_l40Dec.PO) (J5 : List Item → P5 → Option PO) (J8 : List Item → P8 → Option PO) (J10 : List Item → P10 → Option PO) (J15 : List Item → P15 → Option PO) (J17 : List Item → P17 → Option PO) (J20 : List Item → P20 → Option PO) (J22 : List Item → P22 → Option PO) (t3 : List UInt8) (t4 : Int) (b0_0 : List (List UInt8)) (b0_1 : List (Int × Int × Int)) (b0_2 : List ((List (Int × Int × Int × Int)) × (List Int) × List (List (Int × Int × Int × Int)))) (b0_3 : List (List (Int × Int × Int × Int))) : arun1 (pg Gspec_ModelValid Gspec_WriteExpr Gspec_l40Dec J5 J8 J10 J15 J17 J20 J22) 5000 T5 (mk p5 (t3, t4, b0_0, b0_1, b0_2, b0_3, ())) = F5 (J8 T8) (J10 T10) t3 t4 b0_0 b0_1 b0_2 b0_3 := by kernel_rfl
theorem seg8 (Gspec_ModelValid : spec_ModelValid.PI → Option spec_ModelValid.PO) (Gspec_WriteExpr : spec_WriteExpr.PI → Option spec_WriteExpr.PO) (Gspec_l40Dec : spec_l40Dec.PI → Option spec_l40Dec.PO) (J5 : List Item → P5 → Option PO) (J8 : List Item → P8 → Option PO) (J10 : List Item → P10 → Option PO) (J15 : List Item → P15 → Option PO) (J17 : List Item → P17 → Option PO) (J20 : List Item → P20 → Option PO) (J22 : List Item → P22 → Option PO) (t3 : List UInt8) (t4 : Int) (b0_0 : List (List UInt8)) (b0_1 : List (Int × Int × Int)) (b0_2 : List ((List (Int × Int × Int × Int)) × (List Int) × List (List (Int × Int × Int × Int)))) (b0_3 : List (List (Int × Int × Int × Int))) (b1_0 : Int) (b1_1 : Int) (b1_2 : Int) : arunQ (pg Gspec_ModelValid Gspec_WriteExpr Gspec_l40Dec J5 J8 J10 J15 J17 J20 J22) q [] [] 5000 T8 (mk p8 (t3, t4, b0_0, b0_1, b0_2, b0_3, b1_0, b1_1, b1_2, ())) = List.replicate (arunQ (pg Gspec_ModelValid Gspec_WriteExpr Gspec_l40Dec J5 J8 J10 J15 J17 J20 J22) q [] [] 5000 T8 (mk p8 (t3, t4, b0_0, b0_1, b0_2, b0_3, b1_0, b1_1, b1_2, ()))).length (F8 (J5 T5) Gspec_l40Dec t3 t4 b0_0 b0_1 b0_2 b0_3 b1_0 b1_1 b1_2) := by kernel_rfl
theorem seg10 (Gspec_ModelValid : spec_ModelValid.PI → Option spec_ModelValid.PO) (Gspec_WriteExpr : spec_WriteExpr.PI → Option spec_WriteExpr.PO) (Gspec_l40Dec : spec_l40Dec.PI → Option spec_l40Dec.PO) (J5 : List Item → P5 → Option PO) (J8 : List Item → P8 → Option PO) (J10 : List Item → P10 → Option PO) (J15 : List Item → P15 → Option PO) (J17 : List Item → P17 → Option PO) (J20 : List Item → P20 → Option PO) (J22 : List Item → P22 → Option PO) (t3 : List UInt8) (t6 : Int) (b0_0 : List (List UInt8)) (b0_1 : List (Int × Int × Int)) (b0_2 : List ((List (Int × Int × Int × Int)) × (List Int) × List (List (Int × Int × Int × Int)))) (b0_3 : List (List (Int × Int × Int × Int))) : arun1 (pg Gspec_ModelValid Gspec_WriteExpr Gspec_l40Dec J5 J8 J10 J15 J17 J20 J22) 5000 T10 (mk p10 (t3, t6, b0_0, b0_1, b0_2, b0_3, ())) = F10 (J15 T15) (J20 T20) Gspec_WriteExpr t3 t6 b0_0 b0_1 b0_2 b0_3 := by kernel_rfl
theorem seg15 (Gspec_ModelValid : spec_ModelValid.PI → Option spec_ModelValid.PO) (Gspec_WriteExpr : spec_WriteExpr.PI → Option spec_WriteExpr.PO) (Gspec_l40Dec : spec_l40Dec.PI → Option spec_l40Dec.PO) (J5 : List Item → P5 → Option PO) (J8 : List Item → P8 → Option PO) (J10 : List Item → P10 → Option PO) (J15 : List Item → P15 → Option PO) (J17 : List Item → P17 → Option PO) (J20 : List Item → P20 → Option PO) (J22 : List Item → P22 → Option PO) (t3 : List UInt8) (t6 : Int) (t8 : Int) (b0_0 : List (List UInt8)) (b0_1 : List (Int × Int × Int)) (b0_2 : List ((List (Int × Int × Int × Int)) × (List Int) × List (List (Int × Int × Int × Int)))) (b0_3 : List (List (Int × Int × Int × Int))) (b1_0 : List (Int × Int × Int × Int)) (b1_1 : List Int) (b1_2 : List (List (Int × Int × Int × Int))) : arun1 (pg Gspec_ModelValid Gspec_WriteExpr Gspec_l40Dec J5 J8 J10 J15 J17 J20 J22) 5000 T15 (mk p15 (t3, t6, t8, b0_0, b0_1, b0_2, b0_3, b1_0, b1_1, b1_2, ())) = F15 (J10 T10) (J17 T17) t3 t6 t8 b0_0 b0_1 b0_2 b0_3 b1_0 b1_1 b1_2 := by kernel_rfl
theorem seg17 (Gspec_ModelValid : spec_ModelValid.PI → Option spec_ModelValid.PO) (Gspec_WriteExpr : spec_WriteExpr.PI → Option spec_WriteExpr.PO) (Gspec_l40Dec : spec_l40Dec.PI → Option spec_l40Dec.PO) (J5 : List Item → P5 → Option PO) (J8 : List Item → P8 → Option PO) (J10 : List Item → P10 → Option PO) (J15 : List Item → P15 → Option PO) (J17 : List Item → P17 → Option PO) (J20 : List Item → P20 → Option PO) (J22 : List Item → P22 → Option PO) (t3 : List UInt8) (t6 : Int) (t8 : Int) (b0_0 : List (List UInt8)) (b0_1 : List (Int × Int × Int)) (b0_2 : List ((List (Int × Int × Int × Int)) × (List Int) × List (List (Int × Int × Int × Int)))) (b0_3 : List (List (Int × Int × Int × Int))) (b1_0 : List (Int × Int × Int × Int)) (b1_1 : List Int) (b1_2 : List (List (Int × Int × Int × Int))) : arunQ (pg Gspec_ModelValid Gspec_WriteExpr Gspec_l40Dec J5 J8 J10 J15 J17 J20 J22) q [] [] 5000 T17 (mk p17 (t3, t6, t8, b0_0, b0_1, b0_2, b0_3, b1_0, b1_1, b1_2, ())) = List.replicate (arunQ (pg Gspec_ModelValid Gspec_WriteExpr Gspec_l40Dec J5 J8 J10 J15 J17 J20 J22) q [] [] 5000 T17 (mk p17 (t3, t6, t8, b0_0, b0_1, b0_2, b0_3, b1_0, b1_1, b1_2, ()))).length (F17 (J15 T15) Gspec_WriteExpr t3 t6 t8 b0_0 b0_1 b0_2 b0_3 b1_0 b1_1 b1_2) := by kernel_rfl
theorem seg20 (Gspec_ModelValid : spec_ModelValid.PI → Option spec_ModelValid.PO) (Gspec_WriteExpr : spec_WriteExpr.PI → Option spec_WriteExpr.PO) (Gspec_l40Dec : spec_l40Dec.PI → Option spec_l40Dec.PO) (J5 : List Item → P5 → Option PO) (J8 : List Item → P8 → Option PO) (J10 : List Item → P10 → Option PO) (J15 : List Item → P15 → Option PO) (J17 : List Item → P17 → Option PO) (J20 : List Item → P20 → Option PO) (J22 : List Item → P22 → Option PO) (t3 : List UInt8) (t9 : Int) (b0_0 : List (List UInt8)) (b0_1 : List (Int × Int × Int)) (b0_2 : List ((List (Int × Int × Int × Int)) × (List Int) × List (List (Int × Int × Int × Int)))) (b0_3 : List (List (Int × Int × Int × Int))) : arun1 (pg Gspec_ModelValid Gspec_WriteExpr Gspec_l40Dec J5 J8 J10 J15 J17 J20 J22) 5000 T20 (mk p20 (t3, t9, b0_0, b0_1, b0_2, b0_3, ())) = F20 (J22 T22) t3 t9 b0_0 b0_1 b0_2 b0_3 := by kernel_rfl
theorem seg22 (Gspec_ModelValid : spec_ModelValid.PI → Option spec_ModelValid.PO) (Gspec_WriteExpr : spec_WriteExpr.PI → Option spec_WriteExpr.PO) (Gspec_l40Dec : spec_l40Dec.PI → Option spec_l40Dec.PO) (J5 : List Item → P5 → Option PO) (J8 : List Item → P8 → Option PO) (J10 : List Item → P10 → Option PO) (J15 : List Item → P15 → Option PO) (J17 : List Item → P17 → Option PO) (J20 : List Item → P20 → Option PO) (J22 : List Item → P22 → Option PO) (t3 : List UInt8) (t9 : Int) (b0_0 : List (List UInt8)) (b0_1 : List (Int × Int × Int)) (b0_2 : List ((List (Int × Int × Int × Int)) × (List Int) × List (List (Int × Int × Int × Int)))) (b0_3 : List (List (Int × Int × Int × Int))) : arunQ (pg Gspec_ModelValid Gspec_WriteExpr Gspec_l40Dec J5 J8 J10 J15 J17 J20 J22) q [] [] 5000 T22 (mk p22 (t3, t9, b0_0, b0_1, b0_2, b0_3, ())) = List.replicate (arunQ (pg Gspec_ModelValid Gspec_WriteExpr Gspec_l40Dec J5 J8 J10 J15 J17 J20 J22) q [] [] 5000 T22 (mk p22 (t3, t9, b0_0, b0_1, b0_2, b0_3, ()))).length (F22 (J20 T20) Gspec_WriteExpr t3 t9 b0_0 b0_1 b0_2 b0_3) := by kernel_rfl
noncomputable def L22 (J20 : P20 → Option PO) : P22 → Option PO := fun x => F22 J20 spec_WriteExpr.impl x.1 x.2.1 x.2.2.1 x.2.2.2.1 x.2.2.2.2.1 x.2.2.2.2.2.1
noncomputable def L20 : P20 → Option PO := lfp fun J20 x => F20 (L22 J20) x.1 x.2.1 x.2.2.1 x.2.2.2.1 x.2.2.2.2.1 x.2.2.2.2.2.1
noncomputable def L17 (J10 : P10 → Option PO) (J15 : P15 → Option PO) : P17 → Option PO := fun x => F17 J15 spec_WriteExpr.impl x.1 x.2.1 x.2.2.1 x.2.2.2.1 x.2.2.2.2.1 x.2.2.2.2.2.1 x.2.2.2.2.2.2.1 x.2.2.2.2.2.2.2.1 x.2.2.2.2.2.2.2.2.1 x.2.2.2.2.2.2.2.2.2.1
noncomputable def L15 (J10 : P10 → Option PO) : P15 → Option PO := lfp fun J15 x => F15 J10 (L17 J10 J15) x.1 x.2.1 x.2.2.1 x.2.2.2.1 x.2.2.2.2.1 x.2.2.2.2.2.1 x.2.2.2.2.2.2.1 x.2.2.2.2.2.2.2.1 x.2.2.2.2.2.2.2.2.1 x.2.2.2.2.2.2.2.2.2.1
noncomputable def L10 : P10 → Option PO := lfp fun J10 x => F10 (L15 J10) L20 spec_WriteExpr.impl x.1 x.2.1 x.2.2.1 x.2.2.2.1 x.2.2.2.2.1 x.2.2.2.2.2.1
noncomputable def L8 (J5 : P5 → Option PO) : P8 → Option PO := fun x => F8 J5 spec_l40Dec.impl x.1 x.2.1 x.2.2.1 x.2.2.2.1 x.2.2.2.2.1 x.2.2.2.2.2.1 x.2.2.2.2.2.2.1 x.2.2.2.2.2.2.2.1 x.2.2.2.2.2.2.2.2.1
noncomputable def L5 : P5 → Option PO := lfp fun J5 x => F5 (L8 J5) L10 x.1 x.2.1 x.2.2.1 x.2.2.2.1 x.2.2.2.2.1 x.2.2.2.2.2.1
noncomputable def impl : PI → Option PO := fun x => F0 L5 spec_ModelValid.impl x.1
theorem F22_le {J20 J20' : P20 → Option PO} (h20 : OLe J20 J20') {Gspec_WriteExpr : spec_WriteExpr.PI → Option spec_WriteExpr.PO} (t3 : List UInt8) (t9 : Int) (b0_0 : List (List UInt8)) (b0_1 : List (Int × Int × Int)) (b0_2 : List ((List (Int × Int × Int × Int)) × (List Int) × List (List (Int × Int × Int × Int)))) (b0_3 : List (List (Int × Int × Int × Int))) : OptLe (F22 J20 Gspec_WriteExpr t3 t9 b0_0 b0_1 b0_2 b0_3) (F22 J20' Gspec_WriteExpr t3 t9 b0_0 b0_1 b0_2 b0_3) := by unfold F22; exact .cond (.cond (.bind (.refl _) fun _ => .cond (.cond (.of h20 _) (.refl _)) (.refl _)) (.refl _)) (.refl _)
theorem F20_le {J22 J22' : P22 → Option PO} (h22 : OLe J22 J22') (t3 : List UInt8) (t9 : Int) (b0_0 : List (List UInt8)) (b0_1 : List (Int × Int × Int)) (b0_2 : List ((List (Int × Int × Int × Int)) × (List Int) × List (List (Int × Int × Int × Int)))) (b0_3 : List (List (Int × Int × Int × Int))) : OptLe (F20 J22 t3 t9 b0_0 b0_1 b0_2 b0_3) (F20 J22' t3 t9 b0_0 b0_1 b0_2 b0_3) := by unfold F20; exact .cond (.of h22 _) (.refl _)
theorem F17_le {J15 J15' : P15 → Option PO} (h15 : OLe J15 J15') {Gspec_WriteExpr : spec_WriteExpr.PI → Option spec_WriteExpr.PO} (t3 : List UInt8) (t6 : Int) (t8 : Int) (b0_0 : List (List UInt8)) (b0_1 : List (Int × Int × Int)) (b0_2 : List ((List (Int × Int × Int × Int)) × (List Int) × List (List (Int × Int × Int × Int)))) (b0_3 : List (List (Int × Int × Int × Int))) (b1_0 : List (Int × Int × Int × Int)) (b1_1 : List Int) (b1_2 : List (List (Int × Int × Int × Int))) : OptLe (F17 J15 Gspec_WriteExpr t3 t6 t8 b0_0 b0_1 b0_2 b0_3 b1_0 b1_1 b1_2) (F17 J15' Gspec_WriteExpr t3 t6 t8 b0_0 b0_1 b0_2 b0_3 b1_0 b1_1 b1_2) := by unfold F17; exact .cond (.cond (.cond (.cond (.cond (.cond (.bind (.refl _) fun _ => .cond (.of h15 _) (.refl _)) (.refl _)) (.refl _)) (.refl _)) (.refl _)) (.refl _)) (.refl _)
theorem F15_le {J10 J10' : P10 → Option PO} (h10 : OLe J10 J10') {J17 J17' : P17 → Option PO} (h17 : OLe J17 J17') (t3 : List UInt8) (t6 : Int) (t8 : Int) (b0_0 : List (List UInt8)) (b0_1 : List (Int × Int × Int)) (b0_2 : List ((List (Int × Int × Int × Int)) × (List Int) × List (List (Int × Int × Int × Int)))) (b0_3 : List (List (Int × Int × Int × Int))) (b1_0 : List (Int × Int × Int × Int)) (b1_1 : List Int) (b1_2 : List (List (Int × Int × Int × Int))) : OptLe (F15 J10 J17 t3 t6 t8 b0_0 b0_1 b0_2 b0_3 b1_0 b1_1 b1_2) (F15 J10' J17' t3 t6 t8 b0_0 b0_1 b0_2 b0_3 b1_0 b1_1 b1_2) := by unfold F15; exact .cond (.of h17 _) (.cond (.of h10 _) (.refl _))
theorem F10_le {J15 J15' : P15 → Option PO} (h15 : OLe J15 J15') {J20 J20' : P20 → Option PO} (h20 : OLe J20 J20') {Gspec_WriteExpr : spec_WriteExpr.PI → Option spec_WriteExpr.PO} (t3 : List UInt8) (t6 : Int) (b0_0 : List (List UInt8)) (b0_1 : List (Int × Int × Int)) (b0_2 : List ((List (Int × Int × Int × Int)) × (List Int) × List (List (Int × Int × Int × Int)))) (b0_3 : List (List (Int × Int × Int × Int))) : OptLe (F10 J15 J20 Gspec_WriteExpr t3 t6 b0_0 b0_1 b0_2 b0_3) (F10 J15' J20' Gspec_WriteExpr t3 t6 b0_0 b0_1 b0_2 b0_3) := by unfold F10; exact .cond (.cond (.cond (.bind (.refl _) fun _ => .cond (.of h15 _) (.refl _)) (.refl _)) (.refl _)) (.of h20 _)
theorem F8_le {J5 J5' : P5 → Option PO} (h5 : OLe J5 J5') {Gspec_l40Dec : spec_l40Dec.PI → Option spec_l40Dec.PO} (t3 : List UInt8) (t4 : Int) (b0_0 : List (List UInt8)) (b0_1 : List (Int × Int × Int)) (b0_2 : List ((List (Int × Int × Int × Int)) × (List Int) × List (List (Int × Int × Int × Int)))) (b0_3 : List (List (Int × Int × Int × Int))) (b1_0 : Int) (b1_1 : Int) (b1_2 : Int) : OptLe (F8 J5 Gspec_l40Dec t3 t4 b0_0 b0_1 b0_2 b0_3 b1_0 b1_1 b1_2) (F8 J5' Gspec_l40Dec t3 t4 b0_0 b0_1 b0_2 b0_3 b1_0 b1_1 b1_2) := by unfold F8; exact .cond (.cond (.cond (.cond (.bind (.refl _) fun _ => .cond (.cond (.bind (.refl _) fun _ => .cond (.cond (.bind (.refl _) fun _ => .cond (.cond (.of h5 _) (.refl _)) (.refl _)) (.refl _)) (.refl _)) (.refl _)) (.refl _)) (.refl _)) (.refl _)) (.refl _)) (.refl _)
theorem F5_le {J8 J8' : P8 → Option PO} (h8 : OLe J8 J8') {J10 J10' : P10 → Option PO} (h10 : OLe J10 J10') (t3 : List UInt8) (t4 : Int) (b0_0 : List (List UInt8)) (b0_1 : List (Int × Int × Int)) (b0_2 : List ((List (Int × Int × Int × Int)) × (List Int) × List (List (Int × Int × Int × Int)))) (b0_3 : List (List (Int × Int × Int × Int))) : OptLe (F5 J8 J10 t3 t4 b0_0 b0_1 b0_2 b0_3) (F5 J8' J10' t3 t4 b0_0 b0_1 b0_2 b0_3) := by unfold F5; exact .cond (.cond (.of h8 _) (.refl _)) (.of h10 _)
theorem L22_eq (J20 : P20 → Option PO) (t3 : List UInt8) (t9 : Int) (b0_0 : List (List UInt8)) (b0_1 : List (Int × Int × Int)) (b0_2 : List ((List (Int × Int × Int × Int)) × (List Int) × List (List (Int × Int × Int × Int)))) (b0_3 : List (List (Int × Int × Int × Int))) : L22 J20 (t3, t9, b0_0, b0_1, b0_2, b0_3, ()) = F22 J20 spec_WriteExpr.impl t3 t9 b0_0 b0_1 b0_2 b0_3 := rfl
theorem L22_le {J20 J20' : P20 → Option PO} (h20 : OLe J20 J20') : OLe (L22 J20) (L22 J20') := fun x => F22_le h20 x.1 x.2.1 x.2.2.1 x.2.2.2.1 x.2.2.2.2.1 x.2.2.2.2.2.1
theorem L20_mono : OMono fun J20 (x : P20) => F20 (L22 J20) x.1 x.2.1 x.2.2.1 x.2.2.2.1 x.2.2.2.2.1 x.2.2.2.2.2.1 := fun J J' h20 x => F20_le (L22_le h20) x.1 x.2.1 x.2.2.1 x.2.2.2.1 x.2.2.2.2.1 x.2.2.2.2.2.1
theorem L20_eq (t3 : List UInt8) (t9 : Int) (b0_0 : List (List UInt8)) (b0_1 : List (Int × Int × Int)) (b0_2 : List ((List (Int × Int × Int × Int)) × (List Int) × List (List (Int × Int × Int × Int)))) (b0_3 : List (List (Int × Int × Int × Int))) : L20 (t3, t9, b0_0, b0_1, b0_2, b0_3, ()) = F20 (L22 (L20)) t3 t9 b0_0 b0_1 b0_2 b0_3 := congrFun (lfp_eq (L20_mono)) _
theorem L17_eq (J10 : P10 → Option PO) (J15 : P15 → Option PO) (t3 : List UInt8) (t6 : Int) (t8 : Int) (b0_0 : List (List UInt8)) (b0_1 : List (Int × Int × Int)) (b0_2 : List ((List (Int × Int × Int × Int)) × (List Int) × List (List (Int × Int × Int × Int)))) (b0_3 : List (List (Int × Int × Int × Int))) (b1_0 : List (Int × Int × Int × Int)) (b1_1 : List Int) (b1_2 : List (List (Int × Int × Int × Int))) : L17 J10 J15 (t3, t6, t8, b0_0, b0_1, b0_2, b0_3, b1_0, b1_1, b1_2, ()) = F17 J15 spec_WriteExpr.impl t3 t6 t8 b0_0 b0_1 b0_2 b0_3 b1_0 b1_1 b1_2 := rfl
theorem L17_le {J10 J10' : P10 → Option PO} (h10 : OLe J10 J10') {J15 J15' : P15 → Option PO} (h15 : OLe J15 J15') : OLe (L17 J10 J15) (L17 J10' J15') := fun x => F17_le h15 x.1 x.2.1 x.2.2.1 x.2.2.2.1 x.2.2.2.2.1 x.2.2.2.2.2.1 x.2.2.2.2.2.2.1 x.2.2.2.2.2.2.2.1 x.2.2.2.2.2.2.2.2.1 x.2.2.2.2.2.2.2.2.2.1
theorem L15_mono (J10 : P10 → Option PO) : OMono fun J15 (x : P15) => F15 J10 (L17 J10 J15) x.1 x.2.1 x.2.2.1 x.2.2.2.1 x.2.2.2.2.1 x.2.2.2.2.2.1 x.2.2.2.2.2.2.1 x.2.2.2.2.2.2.2.1 x.2.2.2.2.2.2.2.2.1 x.2.2.2.2.2.2.2.2.2.1 := fun J J' h15 x => F15_le (fun _ _ h => h) (L17_le (fun _ _ h => h) h15) x.1 x.2.1 x.2.2.1 x.2.2.2.1 x.2.2.2.2.1 x.2.2.2.2.2.1 x.2.2.2.2.2.2.1 x.2.2.2.2.2.2.2.1 x.2.2.2.2.2.2.2.2.1 x.2.2.2.2.2.2.2.2.2.1
theorem L15_eq (J10 : P10 → Option PO) (t3 : List UInt8) (t6 : Int) (t8 : Int) (b0_0 : List (List UInt8)) (b0_1 : List (Int × Int × Int)) (b0_2 : List ((List (Int × Int × Int × Int)) × (List Int) × List (List (Int × Int × Int × Int)))) (b0_3 : List (List (Int × Int × Int × Int))) (b1_0 : List (Int × Int × Int × Int)) (b1_1 : List Int) (b1_2 : List (List (Int × Int × Int × Int))) : L15 J10 (t3, t6, t8, b0_0, b0_1, b0_2, b0_3, b1_0, b1_1, b1_2, ()) = F15 J10 (L17 J10 (L15 J10)) t3 t6 t8 b0_0 b0_1 b0_2 b0_3 b1_0 b1_1 b1_2 := congrFun (lfp_eq (L15_mono J10)) _
theorem L15_le {J10 J10' : P10 → Option PO} (h10 : OLe J10 J10') : OLe (L15 J10) (L15 J10') := lfp_le (L15_mono J10') fun J x => F15_le h10 (L17_le h10 (fun _ _ h => h)) x.1 x.2.1 x.2.2.1 x.2.2.2.1 x.2.2.2.2.1 x.2.2.2.2.2.1 x.2.2.2.2.2.2.1 x.2.2.2.2.2.2.2.1 x.2.2.2.2.2.2.2.2.1 x.2.2.2.2.2.2.2.2.2.1
theorem L10_mono : OMono fun J10 (x : P10) => F10 (L15 J10) L20 spec_WriteExpr.impl x.1 x.2.1 x.2.2.1 x.2.2.2.1 x.2.2.2.2.1 x.2.2.2.2.2.1 := fun J J' h10 x => F10_le (L15_le h10) (fun _ _ h => h) x.1 x.2.1 x.2.2.1 x.2.2.2.1 x.2.2.2.2.1 x.2.2.2.2.2.1
theorem L10_eq (t3 : List UInt8) (t6 : Int) (b0_0 : List (List UInt8)) (b0_1 : List (Int × Int × Int)) (b0_2 : List ((List (Int × Int × Int × Int)) × (List Int) × List (List (Int × Int × Int × Int)))) (b0_3 : List (List (Int × Int × Int × Int))) : L10 (t3, t6, b0_0, b0_1, b0_2, b0_3, ()) = F10 (L15 (L10)) (L20) spec_WriteExpr.impl t3 t6 b0_0 b0_1 b0_2 b0_3 := congrFun (lfp_eq (L10_mono)) _
theorem L8_eq (J5 : P5 → Option PO) (t3 : List UInt8) (t4 : Int) (b0_0 : List (List UInt8)) (b0_1 : List (Int × Int × Int)) (b0_2 : List ((List (Int × Int × Int × Int)) × (List Int) × List (List (Int × Int × Int × Int)))) (b0_3 : List (List (Int × Int × Int × Int))) (b1_0 : Int) (b1_1 : Int) (b1_2 : Int) : L8 J5 (t3, t4, b0_0, b0_1, b0_2, b0_3, b1_0, b1_1, b1_2, ()) = F8 J5 spec_l40Dec.impl t3 t4 b0_0 b0_1 b0_2 b0_3 b1_0 b1_1 b1_2 := rfl
theorem L8_le {J5 J5' : P5 → Option PO} (h5 : OLe J5 J5') : OLe (L8 J5) (L8 J5') := fun x => F8_le h5 x.1 x.2.1 x.2.2.1 x.2.2.2.1 x.2.2.2.2.1 x.2.2.2.2.2.1 x.2.2.2.2.2.2.1 x.2.2.2.2.2.2.2.1 x.2.2.2.2.2.2.2.2.1
theorem L5_mono : OMono fun J5 (x : P5) => F5 (L8 J5) L10 x.1 x.2.1 x.2.2.1 x.2.2.2.1 x.2.2.2.2.1 x.2.2.2.2.2.1 := fun J J' h5 x => F5_le (L8_le h5) (fun _ _ h => h) x.1 x.2.1 x.2.2.1 x.2.2.2.1 x.2.2.2.2.1 x.2.2.2.2.2.1
theorem L5_eq (t3 : List UInt8) (t4 : Int) (b0_0 : List (List UInt8)) (b0_1 : List (Int × Int × Int)) (b0_2 : List ((List (Int × Int × Int × Int)) × (List Int) × List (List (Int × Int × Int × Int)))) (b0_3 : List (List (Int × Int × Int × Int))) : L5 (t3, t4, b0_0, b0_1, b0_2, b0_3, ()) = F5 (L8 (L5)) (L10) t3 t4 b0_0 b0_1 b0_2 b0_3 := congrFun (lfp_eq (L5_mono)) _
theorem impl_eq (x0 : (List (List UInt8)) × ((List (Int × Int × Int)) × List ((List (Int × Int × Int × Int)) × (List Int) × List (List (Int × Int × Int × Int)))) × List (List (Int × Int × Int × Int))) : impl (x0, ()) = F0 L5 spec_ModelValid.impl x0 := rfl
theorem con : Con Tryz.prog 9 1 rs.length 1 pin pout impl := by
  refine con_of_run' (nt := 126) (c := c0) tabGood Tryz.func9 (by kernel_rfl) (by kernel_rfl) (by kernel_rfl) (by kernel_rfl) (by kernel_rfl) (by kernel_rfl) (by kernel_rfl) ?_
  intro w0 O y hnp
  generalize hPost : (fun (a' : Act) (w' : World) => ∃ μ' S' st', Rel 126 w0 O μ' S' st' a' w' ∧ endOf (tabOf tab) rs 1 pout st' = some y) = Post
  have fin : ∀ (μ : Id → Option Value) (S : Nat → Prop) (st : St) (a : Act) (w : World), Rel 126 w0 O μ S st a w → endOf (tabOf tab) rs 1 pout st = some y → Post a w := fun μ S st a w h he => by rw [← hPost]; exact ⟨μ, S, st, h, he⟩
  have hp : ∀ (J5 : List Item → P5 → Option PO), ∀ (J8 : List Item → P8 → Option PO), ∀ (J10 : List Item → P10 → Option PO), ∀ (J15 : List Item → P15 → Option PO), ∀ (J17 : List Item → P17 → Option PO), ∀ (J20 : List Item → P20 → Option PO), ∀ (J22 : List Item → P22 → Option PO), Parts Tryz.prog 9 (pg spec_ModelValid.impl spec_WriteExpr.impl spec_l40Dec.impl J5 J8 J10 J15 J17 J20 J22) [(5, cut p5 J5), (8, cut p8 J8), (10, cut p10 J10), (15, cut p15 J15), (17, cut p17 J17), (20, cut p20 J20), (22, cut p22 J22)] := fun J5 J8 J10 J15 J17 J20 J22 => ⟨tab_ok tabGood rfl, (handAt_ok spec_l40Dec.con (handAt_ok spec_ModelValid.con (handAt_ok spec_WriteExpr.con handNil_ok))), rfl⟩
  have g22 : ∀ (J20 : P20 → Option PO), Good Tryz.prog 126 w0 O Post y T20 p20 J20 → Good Tryz.prog 126 w0 O Post y T22 p22 (L22 J20) := fun J20 h20 => good_quiet (hs := hd spec_ModelValid.impl spec_WriteExpr.impl spec_l40Dec.impl) (cv' := hd spec_ModelValid.impl spec_WriteExpr.impl spec_l40Dec.impl) (Checked.mixed Tryz.checked) (hp (atT T5 (fun _ => none)) (atT T8 (fun _ => none)) (atT T10 (fun _ => none)) (atT T15 (fun _ => none)) (atT T17 (fun _ => none)) (atT T20 J20) (atT T22 (fun _ => none))) (handAt_D spec_l40Dec.con (by rfl) rfl (handAt_D spec_ModelValid.con (by rfl) rfl (handAt_D spec_WriteExpr.con (by rfl) rfl handNil_D))) (handAt_nat (handAt_nat (handAt_nat handNil_nat))) (handAt_nat (handAt_nat (handAt_nat handNil_nat))) (runOK_of (hp (atT T5 (fun _ => none)) (atT T8 (fun _ => none)) (atT T10 (fun _ => none)) (atT T15 (fun _ => none)) (atT T17 (fun _ => none)) (atT T20 J20) (atT T22 (fun _ => none))) hnp ⟨cutOK_at (p := p5) (T := T5) (J := fun _ => none) good_none, cutOK_at (p := p8) (T := T8) (J := fun _ => none) good_none, cutOK_at (p := p10) (T := T10) (J := fun _ => none) good_none, cutOK_at (p := p15) (T := T15) (J := fun _ => none) good_none, cutOK_at (p := p17) (T := T17) (J := fun _ => none) good_none, cutOK_at h20, cutOK_at (p := p22) (T := T22) (J := fun _ => none) good_none, trivial⟩ fin) (fun x => all_same ⟨_, (seg22 spec_ModelValid.impl spec_WriteExpr.impl spec_l40Dec.impl (atT T5 (fun _ => none)) (atT T8 (fun _ => none)) (atT T10 (fun _ => none)) (atT T15 (fun _ => none)) (atT T17 (fun _ => none)) (atT T20 J20) (atT T22 (fun _ => none)) x.1 x.2.1 x.2.2.1 x.2.2.2.1 x.2.2.2.2.1 x.2.2.2.2.2.1).trans (by simp only [atT_self] <;> rfl)⟩)
  have g20 : Good Tryz.prog 126 w0 O Post y T20 p20 L20 := good_lfp fun J20 h20 => good_part (hp (atT T5 (fun _ => none)) (atT T8 (fun _ => none)) (atT T10 (fun _ => none)) (atT T15 (fun _ => none)) (atT T17 (fun _ => none)) (atT T20 (fun _ => none)) (atT T22 (L22 J20))) (runOK_of (hp (atT T5 (fun _ => none)) (atT T8 (fun _ => none)) (atT T10 (fun _ => none)) (atT T15 (fun _ => none)) (atT T17 (fun _ => none)) (atT T20 (fun _ => none)) (atT T22 (L22 J20))) hnp ⟨cutOK_at (p := p5) (T := T5) (J := fun _ => none) good_none, cutOK_at (p := p8) (T := T8) (J := fun _ => none) good_none, cutOK_at (p := p10) (T := T10) (J := fun _ => none) good_none, cutOK_at (p := p15) (T := T15) (J := fun _ => none) good_none, cutOK_at (p := p17) (T := T17) (J := fun _ => none) good_none, cutOK_at (p := p20) (T := T20) (J := fun _ => none) good_none, cutOK_at (g22 J20 h20), trivial⟩ fin) (fun x => (seg20 spec_ModelValid.impl spec_WriteExpr.impl spec_l40Dec.impl (atT T5 (fun _ => none)) (atT T8 (fun _ => none)) (atT T10 (fun _ => none)) (atT T15 (fun _ => none)) (atT T17 (fun _ => none)) (atT T20 (fun _ => none)) (atT T22 (L22 J20)) x.1 x.2.1 x.2.2.1 x.2.2.2.1 x.2.2.2.2.1 x.2.2.2.2.2.1).trans (by simp only [atT_self] <;> rfl))
  have g17 : ∀ (J10 : P10 → Option PO), Good Tryz.prog 126 w0 O Post y T10 p10 J10 → ∀ (J15 : P15 → Option PO), Good Tryz.prog 126 w0 O Post y T15 p15 J15 → Good Tryz.prog 126 w0 O Post y T17 p17 (L17 J10 J15) := fun J10 h10 J15 h15 => good_quiet (hs := hd spec_ModelValid.impl spec_WriteExpr.impl spec_l40Dec.impl) (cv' := hd spec_ModelValid.impl spec_WriteExpr.impl spec_l40Dec.impl) (Checked.mixed Tryz.checked) (hp (atT T5 (fun _ => none)) (atT T8 (fun _ => none)) (atT T10 (fun _ => none)) (atT T15 J15) (atT T17 (fun _ => none)) (atT T20 (fun _ => none)) (atT T22 (fun _ => none))) (handAt_D spec_l40Dec.con (by rfl) rfl (handAt_D spec_ModelValid.con (by rfl) rfl (handAt_D spec_WriteExpr.con (by rfl) rfl handNil_D))) (handAt_nat (handAt_nat (handAt_nat handNil_nat))) (handAt_nat (handAt_nat (handAt_nat handNil_nat))) (runOK_of (hp (atT T5 (fun _ => none)) (atT T8 (fun _ => none)) (atT T10 (fun _ => none)) (atT T15 J15) (atT T17 (fun _ => none)) (atT T20 (fun _ => none)) (atT T22 (fun _ => none))) hnp ⟨cutOK_at (p := p5) (T := T5) (J := fun _ => none) good_none, cutOK_at (p := p8) (T := T8) (J := fun _ => none) good_none, cutOK_at (p := p10) (T := T10) (J := fun _ => none) good_none, cutOK_at h15, cutOK_at (p := p17) (T := T17) (J := fun _ => none) good_none, cutOK_at (p := p20) (T := T20) (J := fun _ => none) good_none, cutOK_at (p := p22) (T := T22) (J := fun _ => none) good_none, trivial⟩ fin) (fun x => all_same ⟨_, (seg17 spec_ModelValid.impl spec_WriteExpr.impl spec_l40Dec.impl (atT T5 (fun _ => none)) (atT T8 (fun _ => none)) (atT T10 (fun _ => none)) (atT T15 J15) (atT T17 (fun _ => none)) (atT T20 (fun _ => none)) (atT T22 (fun _ => none)) x.1 x.2.1 x.2.2.1 x.2.2.2.1 x.2.2.2.2.1 x.2.2.2.2.2.1 x.2.2.2.2.2.2.1 x.2.2.2.2.2.2.2.1 x.2.2.2.2.2.2.2.2.1 x.2.2.2.2.2.2.2.2.2.1).trans (by simp only [atT_self] <;> rfl)⟩)
  have g15 : ∀ (J10 : P10 → Option PO), Good Tryz.prog 126 w0 O Post y T10 p10 J10 → Good Tryz.prog 126 w0 O Post y T15 p15 (L15 J10) := fun J10 h10 => good_lfp fun J15 h15 => good_part (hp (atT T5 (fun _ => none)) (atT T8 (fun _ => none)) (atT T10 J10) (atT T15 (fun _ => none)) (atT T17 (L17 J10 J15)) (atT T20 (fun _ => none)) (atT T22 (fun _ => none))) (runOK_of (hp (atT T5 (fun _ => none)) (atT T8 (fun _ => none)) (atT T10 J10) (atT T15 (fun _ => none)) (atT T17 (L17 J10 J15)) (atT T20 (fun _ => none)) (atT T22 (fun _ => none))) hnp ⟨cutOK_at (p := p5) (T := T5) (J := fun _ => none) good_none, cutOK_at (p := p8) (T := T8) (J := fun _ => none) good_none, cutOK_at h10, cutOK_at (p := p15) (T := T15) (J := fun _ => none) good_none, cutOK_at (g17 J10 h10 J15 h15), cutOK_at (p := p20) (T := T20) (J := fun _ => none) good_none, cutOK_at (p := p22) (T := T22) (J := fun _ => none) good_none, trivial⟩ fin) (fun x => (seg15 spec_ModelValid.impl spec_WriteExpr.impl spec_l40Dec.impl (atT T5 (fun _ => none)) (atT T8 (fun _ => none)) (atT T10 J10) (atT T15 (fun _ => none)) (atT T17 (L17 J10 J15)) (atT T20 (fun _ => none)) (atT T22 (fun _ => none)) x.1 x.2.1 x.2.2.1 x.2.2.2.1 x.2.2.2.2.1 x.2.2.2.2.2.1 x.2.2.2.2.2.2.1 x.2.2.2.2.2.2.2.1 x.2.2.2.2.2.2.2.2.1 x.2.2.2.2.2.2.2.2.2.1).trans (by simp only [atT_self] <;> rfl))
  have g10 : Good Tryz.prog 126 w0 O Post y T10 p10 L10 := good_lfp fun J10 h10 => good_part (hp (atT T5 (fun _ => none)) (atT T8 (fun _ => none)) (atT T10 (fun _ => none)) (atT T15 (L15 J10)) (atT T17 (fun _ => none)) (atT T20 L20) (atT T22 (fun _ => none))) (runOK_of (hp (atT T5 (fun _ => none)) (atT T8 (fun _ => none)) (atT T10 (fun _ => none)) (atT T15 (L15 J10)) (atT T17 (fun _ => none)) (atT T20 L20) (atT T22 (fun _ => none))) hnp ⟨cutOK_at (p := p5) (T := T5) (J := fun _ => none) good_none, cutOK_at (p := p8) (T := T8) (J := fun _ => none) good_none, cutOK_at (p := p10) (T := T10) (J := fun _ => none) good_none, cutOK_at (g15 J10 h10), cutOK_at (p := p17) (T := T17) (J := fun _ => none) good_none, cutOK_at g20, cutOK_at (p := p22) (T := T22) (J := fun _ => none) good_none, trivial⟩ fin) (fun x => (seg10 spec_ModelValid.impl spec_WriteExpr.impl spec_l40Dec.impl (atT T5 (fun _ => none)) (atT T8 (fun _ => none)) (atT T10 (fun _ => none)) (atT T15 (L15 J10)) (atT T17 (fun _ => none)) (atT T20 L20) (atT T22 (fun _ => none)) x.1 x.2.1 x.2.2.1 x.2.2.2.1 x.2.2.2.2.1 x.2.2.2.2.2.1).trans (by simp only [atT_self] <;> rfl))
  have g8 : ∀ (J5 : P5 → Option PO), Good Tryz.prog 126 w0 O Post y T5 p5 J5 → Good Tryz.prog 126 w0 O Post y T8 p8 (L8 J5) := fun J5 h5 => good_quiet (hs := hd spec_ModelValid.impl spec_WriteExpr.impl spec_l40Dec.impl) (cv' := hd spec_ModelValid.impl spec_WriteExpr.impl spec_l40Dec.impl) (Checked.mixed Tryz.checked) (hp (atT T5 J5) (atT T8 (fun _ => none)) (atT T10 (fun _ => none)) (atT T15 (fun _ => none)) (atT T17 (fun _ => none)) (atT T20 (fun _ => none)) (atT T22 (fun _ => none))) (handAt_D spec_l40Dec.con (by rfl) rfl (handAt_D spec_ModelValid.con (by rfl) rfl (handAt_D spec_WriteExpr.con (by rfl) rfl handNil_D))) (handAt_nat (handAt_nat (handAt_nat handNil_nat))) (handAt_nat (handAt_nat (handAt_nat handNil_nat))) (runOK_of (hp (atT T5 J5) (atT T8 (fun _ => none)) (atT T10 (fun _ => none)) (atT T15 (fun _ => none)) (atT T17 (fun _ => none)) (atT T20 (fun _ => none)) (atT T22 (fun _ => none))) hnp ⟨cutOK_at h5, cutOK_at (p := p8) (T := T8) (J := fun _ => none) good_none, cutOK_at (p := p10) (T := T10) (J := fun _ => none) good_none, cutOK_at (p := p15) (T := T15) (J := fun _ => none) good_none, cutOK_at (p := p17) (T := T17) (J := fun _ => none) good_none, cutOK_at (p := p20) (T := T20) (J := fun _ => none) good_none, cutOK_at (p := p22) (T := T22) (J := fun _ => none) good_none, trivial⟩ fin) (fun x => all_same ⟨_, (seg8 spec_ModelValid.impl spec_WriteExpr.impl spec_l40Dec.impl (atT T5 J5) (atT T8 (fun _ => none)) (atT T10 (fun _ => none)) (atT T15 (fun _ => none)) (atT T17 (fun _ => none)) (atT T20 (fun _ => none)) (atT T22 (fun _ => none)) x.1 x.2.1 x.2.2.1 x.2.2.2.1 x.2.2.2.2.1 x.2.2.2.2.2.1 x.2.2.2.2.2.2.1 x.2.2.2.2.2.2.2.1 x.2.2.2.2.2.2.2.2.1).trans (by simp only [atT_self] <;> rfl)⟩)
  have g5 : Good Tryz.prog 126 w0 O Post y T5 p5 L5 := good_lfp fun J5 h5 => good_part (hp (atT T5 (fun _ => none)) (atT T8 (L8 J5)) (atT T10 L10) (atT T15 (fun _ => none)) (atT T17 (fun _ => none)) (atT T20 (fun _ => none)) (atT T22 (fun _ => none))) (runOK_of (hp (atT T5 (fun _ => none)) (atT T8 (L8 J5)) (atT T10 L10) (atT T15 (fun _ => none)) (atT T17 (fun _ => none)) (atT T20 (fun _ => none)) (atT T22 (fun _ => none))) hnp ⟨cutOK_at (p := p5) (T := T5) (J := fun _ => none) good_none, cutOK_at (g8 J5 h5), cutOK_at g10, cutOK_at (p := p15) (T := T15) (J := fun _ => none) good_none, cutOK_at (p := p17) (T := T17) (J := fun _ => none) good_none, cutOK_at (p := p20) (T := T20) (J := fun _ => none) good_none, cutOK_at (p := p22) (T := T22) (J := fun _ => none) good_none, trivial⟩ fin) (fun x => (seg5 spec_ModelValid.impl spec_WriteExpr.impl spec_l40Dec.impl (atT T5 (fun _ => none)) (atT T8 (L8 J5)) (atT T10 L10) (atT T15 (fun _ => none)) (atT T17 (fun _ => none)) (atT T20 (fun _ => none)) (atT T22 (fun _ => none)) x.1 x.2.1 x.2.2.1 x.2.2.2.1 x.2.2.2.2.1 x.2.2.2.2.2.1).trans (by simp only [atT_self] <;> rfl))
  exact good_first (hp (atT T5 L5) (atT T8 (fun _ => none)) (atT T10 (fun _ => none)) (atT T15 (fun _ => none)) (atT T17 (fun _ => none)) (atT T20 (fun _ => none)) (atT T22 (fun _ => none))) (runOK_of (hp (atT T5 L5) (atT T8 (fun _ => none)) (atT T10 (fun _ => none)) (atT T15 (fun _ => none)) (atT T17 (fun _ => none)) (atT T20 (fun _ => none)) (atT T22 (fun _ => none))) hnp ⟨cutOK_at g5, cutOK_at (p := p8) (T := T8) (J := fun _ => none) good_none, cutOK_at (p := p10) (T := T10) (J := fun _ => none) good_none, cutOK_at (p := p15) (T := T15) (J := fun _ => none) good_none, cutOK_at (p := p17) (T := T17) (J := fun _ => none) good_none, cutOK_at (p := p20) (T := T20) (J := fun _ => none) good_none, cutOK_at (p := p22) (T := T22) (J := fun _ => none) good_none, trivial⟩ fin) (fun x => (seg0 spec_ModelValid.impl spec_WriteExpr.impl spec_l40Dec.impl (atT T5 L5) (atT T8 (fun _ => none)) (atT T10 (fun _ => none)) (atT T15 (fun _ => none)) (atT T17 (fun _ => none)) (atT T20 (fun _ => none)) (atT T22 (fun _ => none)) x.1).trans (by simp only [atT_self] <;> rfl))
end spec_WriteModel

/-! ### loop.example/wholecheck/impl.in -/
namespace impl_in
noncomputable abbrev c0 : Code := (Tryz.f74.body).getD .skip
noncomputable abbrev pin : Tpl := ⟨[⟨0, false, [.d (.int .i64)]⟩, ⟨1, false, [.d (.int .i64)]⟩, ⟨2, false, [.d (.int .i64)]⟩], []⟩
noncomputable abbrev pout : Tpl := ⟨[⟨0, false, [.d .bool]⟩], []⟩
noncomputable abbrev PI := Int × Int × Int × Unit
noncomputable abbrev PO := Bool × Unit
noncomputable abbrev rs : List ResultVar := [.tmp 6]
noncomputable def F0 (x0 : Int) (x1 : Int) (x2 : Int) : Option PO :=
  bif decide (x0 ≥ x1) then
    some (decide (x0 ≤ x2), ())
  else
    some (false, ())
noncomputable def hd {R : Type} : Hand R := handNil
noncomputable def pg : Prog PO := { nt := 15, np := 3, tb := tabOf tab, hd := hd, cuts := cutsOf [], fin := endOf (tabOf tab) rs 3 pout }
noncomputable def q : FuncId → Bool := fun f => hasId [] f
theorem seg0 (x0 : Int) (x1 : Int) (x2 : Int) : arun (pg) 5000 [.code c0] (mk pin (x0, x1, x2, ())) = F0 x0 x1 x2 := by kernel_rfl
noncomputable def impl : PI → Option PO := fun x => F0 x.1 x.2.1 x.2.2.1
theorem impl_eq (x0 : Int) (x1 : Int) (x2 : Int) : impl (x0, x1, x2, ()) = F0 x0 x1 x2 := rfl
theorem con : Con Tryz.prog 74 3 rs.length 3 pin pout impl := by
  refine con_of_run' (nt := 15) (c := c0) tabGood Tryz.func74 (by kernel_rfl) (by kernel_rfl) (by kernel_rfl) (by kernel_rfl) (by kernel_rfl) (by kernel_rfl) (by kernel_rfl) ?_
  intro w0 O y hnp
  generalize hPost : (fun (a' : Act) (w' : World) => ∃ μ' S' st', Rel 15 w0 O μ' S' st' a' w' ∧ endOf (tabOf tab) rs 3 pout st' = some y) = Post
  have fin : ∀ (μ : Id → Option Value) (S : Nat → Prop) (st : St) (a : Act) (w : World), Rel 15 w0 O μ S st a w → endOf (tabOf tab) rs 3 pout st = some y → Post a w := fun μ S st a w h he => by rw [← hPost]; exact ⟨μ, S, st, h, he⟩
  have hp : Parts Tryz.prog 74 (pg) [] := ⟨tab_ok tabGood rfl, handNil_ok, rfl⟩
  exact good_first (hp) (runOK_of (hp) hnp trivial fin) (fun x => (seg0 x.1 x.2.1 x.2.2.1))
end impl_in

/-! ### loop.example/wholecheck/impl.varOk -/
namespace impl_varOk
noncomputable abbrev c0 : Code := (Tryz.f134.body).getD .skip
noncomputable abbrev pin : Tpl := ⟨[⟨0, true, [.d (.prod (.int .i64) (.prod (.int .i64) (.last (.int .i64))))]⟩], []⟩
noncomputable abbrev pout : Tpl := ⟨[⟨0, false, [.d .bool]⟩], []⟩
noncomputable abbrev PI := (Int × Int × Int) × Unit
noncomputable abbrev PO := Bool × Unit
noncomputable abbrev rs : List ResultVar := [.tmp 2]
noncomputable def F0 (Gimpl_in : impl_in.PI → Option impl_in.PO) (x0 : Int × Int × Int) : Option PO :=
  Option.bind (Gimpl_in (x0.1, (-9999), 9999, ())) fun y0 =>
  bif y0.1 then
    Option.bind (Gimpl_in (x0.2.1, x0.1, 9999, ())) fun y1 =>
    bif y1.1 then
      bif decide (wI (x0.2.1 - x0.1) < 20) then
        Option.bind (Gimpl_in (x0.2.2, x0.1, x0.2.1, ())) fun y2 =>
        some (y2.1, ())
      else
        some (false, ())
    else
      some (false, ())
  else
    some (false, ())
noncomputable def hd {R : Type} (Gimpl_in : impl_in.PI → Option impl_in.PO) : Hand R := (handAt 74 [5, 11, 28] true ⟨3, 1, 3, impl_in.pin, impl_in.pout, Gimpl_in⟩ handNil)
noncomputable def pg (Gimpl_in : impl_in.PI → Option impl_in.PO) : Prog PO := { nt := 30, np := 1, tb := tabOf tab, hd := hd Gimpl_in, cuts := cutsOf [], fin := endOf (tabOf tab) rs 1 pout }
noncomputable def q : FuncId → Bool := fun f => hasId [74] f
theorem seg0 (Gimpl_in : impl_in.PI → Option impl_in.PO) (x0 : Int × Int × Int) : arun (pg Gimpl_in) 5000 [.code c0] (mk pin (x0, ())) = F0 Gimpl_in x0 := by kernel_rfl
noncomputable def impl : PI → Option PO := fun x => F0 impl_in.impl x.1
theorem impl_eq (x0 : Int × Int × Int) : impl (x0, ()) = F0 impl_in.impl x0 := rfl
theorem con : Con Tryz.prog 134 1 rs.length 1 pin pout impl := by
  refine con_of_run' (nt := 30) (c := c0) tabGood Tryz.func134 (by kernel_rfl) (by kernel_rfl) (by kernel_rfl) (by kernel_rfl) (by kernel_rfl) (by kernel_rfl) (by kernel_rfl) ?_
  intro w0 O y hnp
  generalize hPost : (fun (a' : Act) (w' : World) => ∃ μ' S' st', Rel 30 w0 O μ' S' st' a' w' ∧ endOf (tabOf tab) rs 1 pout st' = some y) = Post
  have fin : ∀ (μ : Id → Option Value) (S : Nat → Prop) (st : St) (a : Act) (w : World), Rel 30 w0 O μ S st a w → endOf (tabOf tab) rs 1 pout st = some y → Post a w := fun μ S st a w h he => by rw [← hPost]; exact ⟨μ, S, st, h, he⟩
  have hp : Parts Tryz.prog 134 (pg impl_in.impl) [] := ⟨tab_ok tabGood rfl, (handAt_ok impl_in.con handNil_ok), rfl⟩
  exact good_first (hp) (runOK_of (hp) hnp trivial fin) (fun x => (seg0 impl_in.impl x.1))
end impl_varOk

/-! ### loop.example/wholecheck/impl.SystemValid$1 -/
namespace impl_SystemValid_1
noncomputable abbrev c0 : Code := (Tryz.f133.body).getD .skip
noncomputable abbrev pin : Tpl := ⟨[⟨0, true, [.d (.prod (.int .i64) (.prod (.int .i64) (.last (.int .i64))))]⟩], []⟩
noncomputable abbrev pout : Tpl := ⟨[⟨0, false, [.d .bool]⟩], []⟩
noncomputable abbrev PI := (Int × Int × Int) × Unit
noncomputable abbrev PO := Bool × Unit
noncomputable abbrev rs : List ResultVar := [.tmp 2]
noncomputable def F0 (Gimpl_varOk : impl_varOk.PI → Option impl_varOk.PO) (x0 : Int × Int × Int) : Option PO :=
  Option.bind (Gimpl_varOk (x0, ())) fun y0 =>
  some (!y0.1, ())
noncomputable def hd {R : Type} (Gimpl_varOk : impl_varOk.PI → Option impl_varOk.PO) : Hand R := (handAt 134 [4] true ⟨1, 1, 1, impl_varOk.pin, impl_varOk.pout, Gimpl_varOk⟩ handNil)
noncomputable def pg (Gimpl_varOk : impl_varOk.PI → Option impl_varOk.PO) : Prog PO := { nt := 6, np := 1, tb := tabOf tab, hd := hd Gimpl_varOk, cuts := cutsOf [], fin := endOf (tabOf tab) rs 1 pout }
noncomputable def q : FuncId → Bool := fun f => hasId [134] f
theorem seg0 (Gimpl_varOk : impl_varOk.PI → Option impl_varOk.PO) (x0 : Int × Int × Int) : arun (pg Gimpl_varOk) 5000 [.code c0] (mk pin (x0, ())) = F0 Gimpl_varOk x0 := by kernel_rfl
noncomputable def impl : PI → Option PO := fun x => F0 impl_varOk.impl x.1
theorem impl_eq (x0 : Int × Int × Int) : impl (x0, ()) = F0 impl_varOk.impl x0 := rfl
theorem con : Con Tryz.prog 133 1 rs.length 1 pin pout impl := by
  refine con_of_run' (nt := 6) (c := c0) tabGood Tryz.func133 (by kernel_rfl) (by kernel_rfl) (by kernel_rfl) (by kernel_rfl) (by kernel_rfl) (by kernel_rfl) (by kernel_rfl) ?_
  intro w0 O y hnp
  generalize hPost : (fun (a' : Act) (w' : World) => ∃ μ' S' st', Rel 6 w0 O μ' S' st' a' w' ∧ endOf (tabOf tab) rs 1 pout st' = some y) = Post
  have fin : ∀ (μ : Id → Option Value) (S : Nat → Prop) (st : St) (a : Act) (w : World), Rel 6 w0 O μ S st a w → endOf (tabOf tab) rs 1 pout st = some y → Post a w := fun μ S st a w h he => by rw [← hPost]; exact ⟨μ, S, st, h, he⟩
  have hp : Parts Tryz.prog 133 (pg impl_varOk.impl) [] := ⟨tab_ok tabGood rfl, (handAt_ok impl_varOk.con handNil_ok), rfl⟩
  exact good_first (hp) (runOK_of (hp) hnp trivial fin) (fun x => (seg0 impl_varOk.impl x.1))
end impl_SystemValid_1

/-! ### slices.IndexFunc[[]loop.example/wholecheck/impl.Var,loop.example/wholecheck/impl.Var] -/
namespace slices_IndexFunc_of
noncomputable abbrev c0 : Code := (Tryz.f168.body).getD .skip
noncomputable abbrev pin : Tpl := ⟨[⟨0, false, [.d (.sl (.prod (.int .i64) (.prod (.int .i64) (.last (.int .i64)))))]⟩, ⟨1, false, [.fn 133 []]⟩], []⟩
noncomputable abbrev pout : Tpl := ⟨[⟨0, false, [.d (.int .i64)]⟩, ⟨2, false, [.fn 133 []]⟩], []⟩
noncomputable abbrev p2 : Tpl := ⟨[⟨0, false, [.d (.sl (.prod (.int .i64) (.prod (.int .i64) (.last (.int .i64)))))]⟩, ⟨1, false, [.fn 133 []]⟩, ⟨7, false, [.d (.int .i64)]⟩, ⟨8, false, [.d (.int .i64)]⟩], []⟩
noncomputable def T2 : List Item := (find 2 c0 []).getD []
noncomputable abbrev PI := (List (Int × Int × Int)) × Unit
noncomputable abbrev PO := Int × Unit
noncomputable abbrev P2 := (List (Int × Int × Int)) × Int × Int × Unit
noncomputable abbrev rs : List ResultVar := [.tmp 4]
noncomputable def F0 (J2 : P2 → Option PO) (x0 : List (Int × Int × Int)) : Option PO :=
  J2 (x0, (x0.length : Int), 0, ())
noncomputable def F2 (J2 : P2 → Option PO) (Gimpl_SystemValid_1 : impl_SystemValid_1.PI → Option impl_SystemValid_1.PO) (t0 : List (Int × Int × Int)) (t7 : Int) (t8 : Int) : Option PO :=
  bif decide (t8 < t7) then
    bif inb t8 t0.length then
      Option.bind (Gimpl_SystemValid_1 (t0.getD t8.toNat (0, 0, 0), ())) fun y0 =>
      bif y0.1 then
        some (t8, ())
      else
        J2 (t0, t7, wI (t8 + 1), ())
    else
      none
  else
    some ((-1), ())
noncomputable def hd {R : Type} (Gimpl_SystemValid_1 : impl_SystemValid_1.PI → Option impl_SystemValid_1.PO) : Hand R := (handAt 133 [16] true ⟨1, 1, 1, impl_SystemValid_1.pin, impl_SystemValid_1.pout, Gimpl_SystemValid_1⟩ handNil)
noncomputable def pg (Gimpl_SystemValid_1 : impl_SystemValid_1.PI → Option impl_SystemValid_1.PO) (J2 : List Item → P2 → Option PO) : Prog PO := { nt := 19, np := 2, tb := tabOf tab, hd := hd Gimpl_SystemValid_1, cuts := cutsOf [(2, cut p2 J2)], fin := endOf (tabOf tab) rs 2 pout }
noncomputable def q : FuncId → Bool := fun f => hasId [133] f
theorem seg0 (Gimpl_SystemValid_1 : impl_SystemValid_1.PI → Option impl_SystemValid_1.PO) (J2 : List Item → P2 → Option PO) (x0 : List (Int × Int × Int)) : arun (pg Gimpl_SystemValid_1 J2) 5000 [.code c0] (mk pin (x0, ())) = F0 (J2 T2) x0 := by kernel_rfl
theorem seg2 (Gimpl_SystemValid_1 : impl_SystemValid_1.PI → Option impl_SystemValid_1.PO) (J2 : List Item → P2 → Option PO) (t0 : List (Int × Int × Int)) (t7 : Int) (t8 : Int) : arun1 (pg Gimpl_SystemValid_1 J2) 5000 T2 (mk p2 (t0, t7, t8, ())) = F2 (J2 T2) Gimpl_SystemValid_1 t0 t7 t8 := by kernel_rfl
noncomputable def L2 : P2 → Option PO := lfp fun J2 x => F2 J2 impl_SystemValid_1.impl x.1 x.2.1 x.2.2.1
noncomputable def impl : PI → Option PO := fun x => F0 L2 x.1
theorem F2_le {J2 J2' : P2 → Option PO} (h2 : OLe J2 J2') {Gimpl_SystemValid_1 : impl_SystemValid_1.PI → Option impl_SystemValid_1.PO} (t0 : List (Int × Int × Int)) (t7 : Int) (t8 : Int) : OptLe (F2 J2 Gimpl_SystemValid_1 t0 t7 t8) (F2 J2' Gimpl_SystemValid_1 t0 t7 t8) := by unfold F2; exact .cond (.cond (.bind (.refl _) fun _ => .cond (.refl _) (.of h2 _)) (.refl _)) (.refl _)
theorem L2_mono : OMono fun J2 (x : P2) => F2 J2 impl_SystemValid_1.impl x.1 x.2.1 x.2.2.1 := fun J J' h2 x => F2_le h2 x.1 x.2.1 x.2.2.1
theorem L2_eq (t0 : List (Int × Int × Int)) (t7 : Int) (t8 : Int) : L2 (t0, t7, t8, ()) = F2 (L2) impl_SystemValid_1.impl t0 t7 t8 := congrFun (lfp_eq (L2_mono)) _
theorem impl_eq (x0 : List (Int × Int × Int)) : impl (x0, ()) = F0 L2 x0 := rfl
theorem con : Con Tryz.prog 168 2 rs.length 2 pin pout impl := by
  refine con_of_run' (nt := 19) (c := c0) tabGood Tryz.func168 (by kernel_rfl) (by kernel_rfl) (by kernel_rfl) (by kernel_rfl) (by kernel_rfl) (by kernel_rfl) (by kernel_rfl) ?_
  intro w0 O y hnp
  generalize hPost : (fun (a' : Act) (w' : World) => ∃ μ' S' st', Rel 19 w0 O μ' S' st' a' w' ∧ endOf (tabOf tab) rs 2 pout st' = some y) = Post
  have fin : ∀ (μ : Id → Option Value) (S : Nat → Prop) (st : St) (a : Act) (w : World), Rel 19 w0 O μ S st a w → endOf (tabOf tab) rs 2 pout st = some y → Post a w := fun μ S st a w h he => by rw [← hPost]; exact ⟨μ, S, st, h, he⟩
  have hp : ∀ (J2 : List Item → P2 → Option PO), Parts Tryz.prog 168 (pg impl_SystemValid_1.impl J2) [(2, cut p2 J2)] := fun J2 => ⟨tab_ok tabGood rfl, (handAt_ok impl_SystemValid_1.con handNil_ok), rfl⟩
  have g2 : Good Tryz.prog 19 w0 O Post y T2 p2 L2 := good_lfp fun J2 h2 => good_part (hp (atT T2 J2)) (runOK_of (hp (atT T2 J2)) hnp ⟨cutOK_at h2, trivial⟩ fin) (fun x => (seg2 impl_SystemValid_1.impl (atT T2 J2) x.1 x.2.1 x.2.2.1).trans (by simp only [atT_self] <;> rfl))
  exact good_first (hp (atT T2 L2)) (runOK_of (hp (atT T2 L2)) hnp ⟨cutOK_at g2, trivial⟩ fin) (fun x => (seg0 impl_SystemValid_1.impl (atT T2 L2) x.1).trans (by simp only [atT_self] <;> rfl))
end slices_IndexFunc_of

/-! ### slices.ContainsFunc[[]loop.example/wholecheck/impl.Var,loop.example/wholecheck/impl.Var] -/
namespace slices_ContainsFunc_of
noncomputable abbrev c0 : Code := (Tryz.f132.body).getD .skip
noncomputable abbrev pin : Tpl := ⟨[⟨0, false, [.d (.sl (.prod (.int .i64) (.prod (.int .i64) (.last (.int .i64)))))]⟩, ⟨1, false, [.fn 133 []]⟩], []⟩
noncomputable abbrev pout : Tpl := ⟨[⟨0, false, [.d .bool]⟩, ⟨2, false, [.fn 133 []]⟩], []⟩
noncomputable abbrev PI := (List (Int × Int × Int)) × Unit
noncomputable abbrev PO := Bool × Unit
noncomputable abbrev rs : List ResultVar := [.tmp 4]
noncomputable def F0 (Gslices_IndexFunc_of : slices_IndexFunc_of.PI → Option slices_IndexFunc_of.PO) (x0 : List (Int × Int × Int)) : Option PO :=
  Option.bind (Gslices_IndexFunc_of (x0, ())) fun y0 =>
  some (decide (y0.1 ≥ 0), ())
noncomputable def hd {R : Type} (Gslices_IndexFunc_of : slices_IndexFunc_of.PI → Option slices_IndexFunc_of.PO) : Hand R := (handAt 168 [7] true ⟨2, 1, 2, slices_IndexFunc_of.pin, slices_IndexFunc_of.pout, Gslices_IndexFunc_of⟩ handNil)
noncomputable def pg (Gslices_IndexFunc_of : slices_IndexFunc_of.PI → Option slices_IndexFunc_of.PO) : Prog PO := { nt := 9, np := 2, tb := tabOf tab, hd := hd Gslices_IndexFunc_of, cuts := cutsOf [], fin := endOf (tabOf tab) rs 2 pout }
noncomputable def q : FuncId → Bool := fun f => hasId [] f
theorem seg0 (Gslices_IndexFunc_of : slices_IndexFunc_of.PI → Option slices_IndexFunc_of.PO) (x0 : List (Int × Int × Int)) : arun (pg Gslices_IndexFunc_of) 5000 [.code c0] (mk pin (x0, ())) = F0 Gslices_IndexFunc_of x0 := by kernel_rfl
noncomputable def impl : PI → Option PO := fun x => F0 slices_IndexFunc_of.impl x.1
theorem impl_eq (x0 : List (Int × Int × Int)) : impl (x0, ()) = F0 slices_IndexFunc_of.impl x0 := rfl
theorem con : Con Tryz.prog 132 2 rs.length 2 pin pout impl := by
  refine con_of_run' (nt := 9) (c := c0) tabGood Tryz.func132 (by kernel_rfl) (by kernel_rfl) (by kernel_rfl) (by kernel_rfl) (by kernel_rfl) (by kernel_rfl) (by kernel_rfl) ?_
  intro w0 O y hnp
  generalize hPost : (fun (a' : Act) (w' : World) => ∃ μ' S' st', Rel 9 w0 O μ' S' st' a' w' ∧ endOf (tabOf tab) rs 2 pout st' = some y) = Post
  have fin : ∀ (μ : Id → Option Value) (S : Nat → Prop) (st : St) (a : Act) (w : World), Rel 9 w0 O μ S st a w → endOf (tabOf tab) rs 2 pout st = some y → Post a w := fun μ S st a w h he => by rw [← hPost]; exact ⟨μ, S, st, h, he⟩
  have hp : Parts Tryz.prog 132 (pg slices_IndexFunc_of.impl) [] := ⟨tab_ok tabGood rfl, (handAt_ok slices_IndexFunc_of.con handNil_ok), rfl⟩
  exact good_first (hp) (runOK_of (hp) hnp trivial fin) (fun x => (seg0 slices_IndexFunc_of.impl x.1))
end slices_ContainsFunc_of

/-! ### loop.example/wholecheck/impl.size -/
namespace impl_size
noncomputable abbrev c0 : Code := (Tryz.f135.body).getD .skip
noncomputable abbrev pin : Tpl := ⟨[⟨0, false, [.d (.sl (.prod (.int .i64) (.prod (.int .i64) (.last (.int .i64)))))]⟩], []⟩
noncomputable abbrev pout : Tpl := ⟨[⟨0, false, [.d (.int .i64)]⟩], []⟩
noncomputable abbrev p3 : Tpl := ⟨[⟨3, false, [.d (.int .i64)]⟩, ⟨6, false, [.d (.sl (.prod (.int .i64) (.prod (.int .i64) (.last (.int .i64)))))]⟩, ⟨7, false, [.d (.int .i64)]⟩, ⟨8, false, [.d (.int .i64)]⟩], []⟩
noncomputable def T3 : List Item := (find 3 c0 []).getD []
noncomputable abbrev PI := (List (Int × Int × Int)) × Unit
noncomputable abbrev PO := Int × Unit
noncomputable abbrev P3 := Int × (List (Int × Int × Int)) × Int × Int × Unit
noncomputable abbrev rs : List ResultVar := [.tmp 2]
noncomputable def F0 (J3 : P3 → Option PO) (x0 : List (Int × Int × Int)) : Option PO :=
  J3 (1, x0, (x0.length : Int), 0, ())
noncomputable def F3 (J3 : P3 → Option PO) (t3 : Int) (t6 : List (Int × Int × Int)) (t7 : Int) (t8 : Int) : Option PO :=
  bif decide (t8 < t7) then
    bif inb t8 t6.length then
      J3 (wI (t3 * (wI ((wI ((t6.getD t8.toNat (0, 0, 0)).2.1 - (t6.getD t8.toNat (0, 0, 0)).1)) + 1))), t6, t7, wI (t8 + 1), ())
    else
      none
  else
    some (t3, ())
noncomputable def hd {R : Type} : Hand R := handNil
noncomputable def pg (J3 : List Item → P3 → Option PO) : Prog PO := { nt := 22, np := 1, tb := tabOf tab, hd := hd, cuts := cutsOf [(3, cut p3 J3)], fin := endOf (tabOf tab) rs 1 pout }
noncomputable def q : FuncId → Bool := fun f => hasId [] f
theorem seg0 (J3 : List Item → P3 → Option PO) (x0 : List (Int × Int × Int)) : arun (pg J3) 5000 [.code c0] (mk pin (x0, ())) = F0 (J3 T3) x0 := by kernel_rfl
theorem seg3 (J3 : List Item → P3 → Option PO) (t3 : Int) (t6 : List (Int × Int × Int)) (t7 : Int) (t8 : Int) : arun1 (pg J3) 5000 T3 (mk p3 (t3, t6, t7, t8, ())) = F3 (J3 T3) t3 t6 t7 t8 := by kernel_rfl
noncomputable def L3 : P3 → Option PO := lfp fun J3 x => F3 J3 x.1 x.2.1 x.2.2.1 x.2.2.2.1
noncomputable def impl : PI → Option PO := fun x => F0 L3 x.1
theorem F3_le {J3 J3' : P3 → Option PO} (h3 : OLe J3 J3') (t3 : Int) (t6 : List (Int × Int × Int)) (t7 : Int) (t8 : Int) : OptLe (F3 J3 t3 t6 t7 t8) (F3 J3' t3 t6 t7 t8) := by unfold F3; exact .cond (.cond (.of h3 _) (.refl _)) (.refl _)
theorem L3_mono : OMono fun J3 (x : P3) => F3 J3 x.1 x.2.1 x.2.2.1 x.2.2.2.1 := fun J J' h3 x => F3_le h3 x.1 x.2.1 x.2.2.1 x.2.2.2.1
theorem L3_eq (t3 : Int) (t6 : List (Int × Int × Int)) (t7 : Int) (t8 : Int) : L3 (t3, t6, t7, t8, ()) = F3 (L3) t3 t6 t7 t8 := congrFun (lfp_eq (L3_mono)) _
theorem impl_eq (x0 : List (Int × Int × Int)) : impl (x0, ()) = F0 L3 x0 := rfl
theorem con : Con Tryz.prog 135 1 rs.length 1 pin pout impl := by
  refine con_of_run' (nt := 22) (c := c0) tabGood Tryz.func135 (by kernel_rfl) (by kernel_rfl) (by kernel_rfl) (by kernel_rfl) (by kernel_rfl) (by kernel_rfl) (by kernel_rfl) ?_
  intro w0 O y hnp
  generalize hPost : (fun (a' : Act) (w' : World) => ∃ μ' S' st', Rel 22 w0 O μ' S' st' a' w' ∧ endOf (tabOf tab) rs 1 pout st' = some y) = Post
  have fin : ∀ (μ : Id → Option Value) (S : Nat → Prop) (st : St) (a : Act) (w : World), Rel 22 w0 O μ S st a w → endOf (tabOf tab) rs 1 pout st = some y → Post a w := fun μ S st a w h he => by rw [← hPost]; exact ⟨μ, S, st, h, he⟩
  have hp : ∀ (J3 : List Item → P3 → Option PO), Parts Tryz.prog 135 (pg J3) [(3, cut p3 J3)] := fun J3 => ⟨tab_ok tabGood rfl, handNil_ok, rfl⟩
  have g3 : Good Tryz.prog 22 w0 O Post y T3 p3 L3 := good_lfp fun J3 h3 => good_part (hp (atT T3 J3)) (runOK_of (hp (atT T3 J3)) hnp ⟨cutOK_at h3, trivial⟩ fin) (fun x => (seg3 (atT T3 J3) x.1 x.2.1 x.2.2.1 x.2.2.2.1).trans (by simp only [atT_self] <;> rfl))
  exact good_first (hp (atT T3 L3)) (runOK_of (hp (atT T3 L3)) hnp ⟨cutOK_at g3, trivial⟩ fin) (fun x => (seg0 (atT T3 L3) x.1).trans (by simp only [atT_self] <;> rfl))
end impl_size

/-! ### loop.example/wholecheck/impl.parts -/
namespace impl_parts
noncomputable abbrev c0 : Code := (Tryz.f120.body).getD .skip
noncomputable abbrev pin : Tpl := ⟨[⟨0, false, [.d (.int .i64)]⟩], []⟩
noncomputable abbrev pout : Tpl := ⟨[⟨0, false, [.d (.int .i64)]⟩, ⟨1, false, [.d (.int .i64)]⟩, ⟨2, false, [.d (.int .i64)]⟩], []⟩
noncomputable abbrev PI := Int × Unit
noncomputable abbrev PO := Int × Int × Int × Unit
noncomputable abbrev rs : List ResultVar := [.tmp 2, .tmp 3, .tmp 4]
noncomputable def F0 (x0 : Int) : Option PO :=
  bif x0 == 2 then
    some (2, 1, 1, ())
  else
    bif x0 == 3 then
      some (2, 1, 1, ())
    else
      bif x0 == 4 then
        some (2, 1, 1, ())
      else
        bif x0 == 5 then
          some (2, 1, 2, ())
        else
          bif x0 == 6 then
            some (2, 1, 2, ())
          else
            bif x0 == 7 then
              some (1, 2, 2, ())
            else
              bif x0 == 8 then
                some (2, 2, 2, ())
              else
                bif x0 == 9 then
                  some (2, 2, 2, ())
                else
                  some (0, 0, 1, ())
noncomputable def hd {R : Type} : Hand R := handNil
noncomputable def pg : Prog PO := { nt := 18, np := 1, tb := tabOf tab, hd := hd, cuts := cutsOf [], fin := endOf (tabOf tab) rs 1 pout }
noncomputable def q : FuncId → Bool := fun f => hasId [] f
theorem seg0 (x0 : Int) : arun (pg) 5000 [.code c0] (mk pin (x0, ())) = F0 x0 := by kernel_rfl
noncomputable def impl : PI → Option PO := fun x => F0 x.1
theorem impl_eq (x0 : Int) : impl (x0, ()) = F0 x0 := rfl
theorem con : Con Tryz.prog 120 1 rs.length 1 pin pout impl := by
  refine con_of_run' (nt := 18) (c := c0) tabGood Tryz.func120 (by kernel_rfl) (by kernel_rfl) (by kernel_rfl) (by kernel_rfl) (by kernel_rfl) (by kernel_rfl) (by kernel_rfl) ?_
  intro w0 O y hnp
  generalize hPost : (fun (a' : Act) (w' : World) => ∃ μ' S' st', Rel 18 w0 O μ' S' st' a' w' ∧ endOf (tabOf tab) rs 1 pout st' = some y) = Post
  have fin : ∀ (μ : Id → Option Value) (S : Nat → Prop) (st : St) (a : Act) (w : World), Rel 18 w0 O μ S st a w → endOf (tabOf tab) rs 1 pout st = some y → Post a w := fun μ S st a w h he => by rw [← hPost]; exact ⟨μ, S, st, h, he⟩
  have hp : Parts Tryz.prog 120 (pg) [] := ⟨tab_ok tabGood rfl, handNil_ok, rfl⟩
  exact good_first (hp) (runOK_of (hp) hnp trivial fin) (fun x => (seg0 x.1))
end impl_parts

/-! ### loop.example/wholecheck/impl.kindsOf -/
namespace impl_kindsOf
noncomputable abbrev c0 : Code := (Tryz.f72.body).getD .skip
noncomputable abbrev pin : Tpl := ⟨[⟨0, false, [.d (.sl (.prod (.int .i64) (.prod (.int .i64) (.prod (.int .i64) (.last (.int .i64))))))]⟩, ⟨1, false, [.d (.int .i64)]⟩], []⟩
noncomputable abbrev pout : Tpl := ⟨[⟨0, false, [.row 600001]⟩], [(600001, .row 3 true (.int .i64))]⟩
noncomputable abbrev p3 : Tpl := ⟨[⟨0, false, [.d (.sl (.prod (.int .i64) (.prod (.int .i64) (.prod (.int .i64) (.last (.int .i64))))))]⟩, ⟨1, false, [.d (.int .i64)]⟩], []⟩
noncomputable def T3 : List Item := (find 3 c0 []).getD []
noncomputable abbrev p5 : Tpl := ⟨[⟨1, false, [.d (.int .i64)]⟩, ⟨5, false, [.row 3000000]⟩, ⟨24, false, [.d (.sl (.prod (.int .i64) (.prod (.int .i64) (.prod (.int .i64) (.last (.int .i64))))))]⟩, ⟨25, false, [.d (.int .i64)]⟩, ⟨26, false, [.d (.int .i64)]⟩], [(3000000, .row 3 false (.int .i64))]⟩
noncomputable def T5 : List Item := (find 5 c0 []).getD []
noncomputable abbrev PI := (List (Int × Int × Int × Int)) × Int × Unit
noncomputable abbrev PO := (List Int) × Unit
noncomputable abbrev P3 := (List (Int × Int × Int × Int)) × Int × Unit
noncomputable abbrev P5 := Int × (List (Int × Int × Int × Int)) × Int × Int × (List Int) × Unit
noncomputable abbrev rs : List ResultVar := [.tmp 4]
noncomputable def F0 (J3 : P3 → Option PO) (Gimpl_in : impl_in.PI → Option impl_in.PO) (x0 : List (Int × Int × Int × Int)) (x1 : Int) : Option PO :=
  Option.bind (Gimpl_in (x1, 0, 5, ())) fun y0 =>
  bif !y0.1 then
    some ([], ())
  else
    Option.bind (Gimpl_in ((x0.length : Int), 1, 40, ())) fun y1 =>
    bif !y1.1 then
      some ([], ())
    else
      J3 (x0, x1, ())
noncomputable def F3 (J5 : P5 → Option PO) (t0 : List (Int × Int × Int × Int)) (t1 : Int) : Option PO :=
  bif decide (0 ≤ (t0.length : Int)) && decide ((t0.length : Int) * 8 ≤ 140737488355328) then
    J5 (t1, t0, (t0.length : Int), 0, (List.replicate 0 0 : List Int), ())
  else
    none
noncomputable def F5 (J5 : P5 → Option PO) (Gimpl_in : impl_in.PI → Option impl_in.PO) (Gimpl_parts : impl_parts.PI → Option impl_parts.PO) (t1 : Int) (t24 : List (Int × Int × Int × Int)) (t25 : Int) (t26 : Int) (r0 : List Int) : Option PO :=
  bif decide (t26 < t25) then
    bif inb t26 t24.length then
      Option.bind (Gimpl_parts ((t24.getD t26.toNat (0, 0, 0, 0)).1, ())) fun y2 =>
      Option.bind (Gimpl_in ((t24.getD t26.toNat (0, 0, 0, 0)).1, 0, 9, ())) fun y3 =>
      bif (t24.getD t26.toNat (0, 0, 0, 0)).1 == 0 then
        Option.bind (Gimpl_in ((t24.getD t26.toNat (0, 0, 0, 0)).2.1, (-9999), 9999, ())) fun y4 =>
        bif y4.1 then
          bif (t24.getD t26.toNat (0, 0, 0, 0)).2.2.1 == 0 then
            bif !((t24.getD t26.toNat (0, 0, 0, 0)).2.2.2 == 0) then
              some ([], ())
            else
              bif decide ((r0.length + ([y2.2.2.1] : List Int).length) * 8 ≤ 140737488355328) then
                J5 (t1, t24, t25, wI (t26 + 1), r0 ++ ([y2.2.2.1] : List Int), ())
              else
                none
          else
            some ([], ())
        else
          some ([], ())
      else
        bif (t24.getD t26.toNat (0, 0, 0, 0)).1 == 1 then
          Option.bind (Gimpl_in ((t24.getD t26.toNat (0, 0, 0, 0)).2.1, 0, wI (t1 - 1), ())) fun y5 =>
          bif y5.1 then
            bif (t24.getD t26.toNat (0, 0, 0, 0)).2.2.1 == 0 then
              bif !((t24.getD t26.toNat (0, 0, 0, 0)).2.2.2 == 0) then
                some ([], ())
              else
                bif decide ((r0.length + ([y2.2.2.1] : List Int).length) * 8 ≤ 140737488355328) then
                  J5 (t1, t24, t25, wI (t26 + 1), r0 ++ ([y2.2.2.1] : List Int), ())
                else
                  none
            else
              some ([], ())
          else
            some ([], ())
        else
          bif y3.1 then
            bif (t24.getD t26.toNat (0, 0, 0, 0)).2.1 == 0 then
              Option.bind (Gimpl_in ((t24.getD t26.toNat (0, 0, 0, 0)).2.2.1, 0, wI (t26 - 1), ())) fun y6 =>
              bif y6.1 then
                Option.bind (Gimpl_in ((t24.getD t26.toNat (0, 0, 0, 0)).2.2.2, 0, wI (t26 - 1), ())) fun y7 =>
                bif y7.1 then
                  bif inb (t24.getD t26.toNat (0, 0, 0, 0)).2.2.1 r0.length then
                    bif r0.getD (t24.getD t26.toNat (0, 0, 0, 0)).2.2.1.toNat 0 == y2.2.1 then
                      bif inb (t24.getD t26.toNat (0, 0, 0, 0)).2.2.2 r0.length then
                        bif r0.getD (t24.getD t26.toNat (0, 0, 0, 0)).2.2.2.toNat 0 == y2.2.1 then
                          bif y2.1 == 2 then
                            bif decide ((r0.length + ([y2.2.2.1] : List Int).length) * 8 ≤ 140737488355328) then
                              J5 (t1, t24, t25, wI (t26 + 1), r0 ++ ([y2.2.2.1] : List Int), ())
                            else
                              none
                          else
                            bif !((t24.getD t26.toNat (0, 0, 0, 0)).2.2.1 == (t24.getD t26.toNat (0, 0, 0, 0)).2.2.2) then
                              some ([], ())
                            else
                              bif decide ((r0.length + ([y2.2.2.1] : List Int).length) * 8 ≤ 140737488355328) then
                                J5 (t1, t24, t25, wI (t26 + 1), r0 ++ ([y2.2.2.1] : List Int), ())
                              else
                                none
                        else
                          some ([], ())
                      else
                        none
                    else
                      some ([], ())
                  else
                    none
                else
                  some ([], ())
              else
                some ([], ())
            else
              some ([], ())
          else
            bif !y3.1 then
              some ([], ())
            else
              bif decide ((r0.length + ([y2.2.2.1] : List Int).length) * 8 ≤ 140737488355328) then
                J5 (t1, t24, t25, wI (t26 + 1), r0 ++ ([y2.2.2.1] : List Int), ())
              else
                none
    else
      none
  else
    bif (!r0.isEmpty && true) then
      some (r0, ())
    else
      none
noncomputable def hd {R : Type} (Gimpl_in : impl_in.PI → Option impl_in.PO) (Gimpl_parts : impl_parts.PI → Option impl_parts.PO) : Hand R := (handAt 120 [34] true ⟨1, 3, 1, impl_parts.pin, impl_parts.pout, Gimpl_parts⟩ (handAt 74 [13, 18, 40, 47, 66, 87, 94] true ⟨3, 1, 3, impl_in.pin, impl_in.pout, Gimpl_in⟩ handNil))
noncomputable def pg (Gimpl_in : impl_in.PI → Option impl_in.PO) (Gimpl_parts : impl_parts.PI → Option impl_parts.PO) (J3 : List Item → P3 → Option PO) (J5 : List Item → P5 → Option PO) : Prog PO := { nt := 133, np := 2, tb := tabOf tab, hd := hd Gimpl_in Gimpl_parts, cuts := cutsOf [(3, cut p3 J3), (5, cut p5 J5)], fin := endOf (tabOf tab) rs 2 pout }
noncomputable def q : FuncId → Bool := fun f => hasId [74, 120] f
theorem seg0 (Gimpl_in : impl_in.PI → Option impl_in.PO) (Gimpl_parts : impl_parts.PI → Option impl_parts.PO) (J3 : List Item → P3 → Option PO) (J5 : List Item → P5 → Option PO) (x0 : List (Int × Int × Int × Int)) (x1 : Int) : arun (pg Gimpl_in Gimpl_parts J3 J5) 5000 [.code c0] (mk pin (x0, x1, ())) = F0 (J3 T3) Gimpl_in x0 x1 := by kernel_rfl
theorem seg3 (Gimpl_in : impl_in.PI → Option impl_in.PO) (Gimpl_parts : impl_parts.PI → Option impl_parts.PO) (J3 : List Item → P3 → Option PO) (J5 : List Item → P5 → Option PO) (t0 : List (Int × Int × Int × Int)) (t1 : Int) : arun1 (pg Gimpl_in Gimpl_parts J3 J5) 5000 T3 (mk p3 (t0, t1, ())) = F3 (J5 T5) t0 t1 := by kernel_rfl
theorem seg5 (Gimpl_in : impl_in.PI → Option impl_in.PO) (Gimpl_parts : impl_parts.PI → Option impl_parts.PO) (J3 : List Item → P3 → Option PO) (J5 : List Item → P5 → Option PO) (t1 : Int) (t24 : List (Int × Int × Int × Int)) (t25 : Int) (t26 : Int) (r0 : List Int) : arun1 (pg Gimpl_in Gimpl_parts J3 J5) 5000 T5 (mk p5 (t1, t24, t25, t26, r0, ())) = F5 (J5 T5) Gimpl_in Gimpl_parts t1 t24 t25 t26 r0 := by kernel_rfl
noncomputable def L5 : P5 → Option PO := lfp fun J5 x => F5 J5 impl_in.impl impl_parts.impl x.1 x.2.1 x.2.2.1 x.2.2.2.1 x.2.2.2.2.1
noncomputable def L3 : P3 → Option PO := fun x => F3 L5 x.1 x.2.1
noncomputable def impl : PI → Option PO := fun x => F0 L3 impl_in.impl x.1 x.2.1
theorem F5_le {J5 J5' : P5 → Option PO} (h5 : OLe J5 J5') {Gimpl_in : impl_in.PI → Option impl_in.PO} {Gimpl_parts : impl_parts.PI → Option impl_parts.PO} (t1 : Int) (t24 : List (Int × Int × Int × Int)) (t25 : Int) (t26 : Int) (r0 : List Int) : OptLe (F5 J5 Gimpl_in Gimpl_parts t1 t24 t25 t26 r0) (F5 J5' Gimpl_in Gimpl_parts t1 t24 t25 t26 r0) := by unfold F5; exact .cond (.cond (.bind (.refl _) fun _ => .bind (.refl _) fun _ => .cond (.bind (.refl _) fun _ => .cond (.cond (.cond (.refl _) (.cond (.of h5 _) (.refl _))) (.refl _)) (.refl _)) (.cond (.bind (.refl _) fun _ => .cond (.cond (.cond (.refl _) (.cond (.of h5 _) (.refl _))) (.refl _)) (.refl _)) (.cond (.cond (.bind (.refl _) fun _ => .cond (.bind (.refl _) fun _ => .cond (.cond (.cond (.cond (.cond (.cond (.cond (.of h5 _) (.refl _)) (.cond (.refl _) (.cond (.of h5 _) (.refl _)))) (.refl _)) (.refl _)) (.refl _)) (.refl _)) (.refl _)) (.refl _)) (.refl _)) (.cond (.refl _) (.cond (.of h5 _) (.refl _)))))) (.refl _)) (.refl _)
theorem L5_mono : OMono fun J5 (x : P5) => F5 J5 impl_in.impl impl_parts.impl x.1 x.2.1 x.2.2.1 x.2.2.2.1 x.2.2.2.2.1 := fun J J' h5 x => F5_le h5 x.1 x.2.1 x.2.2.1 x.2.2.2.1 x.2.2.2.2.1
theorem L5_eq (t1 : Int) (t24 : List (Int × Int × Int × Int)) (t25 : Int) (t26 : Int) (r0 : List Int) : L5 (t1, t24, t25, t26, r0, ()) = F5 (L5) impl_in.impl impl_parts.impl t1 t24 t25 t26 r0 := congrFun (lfp_eq (L5_mono)) _
theorem L3_eq (t0 : List (Int × Int × Int × Int)) (t1 : Int) : L3 (t0, t1, ()) = F3 (L5) t0 t1 := rfl
theorem impl_eq (x0 : List (Int × Int × Int × Int)) (x1 : Int) : impl (x0, x1, ()) = F0 L3 impl_in.impl x0 x1 := rfl
theorem con : Con Tryz.prog 72 2 rs.length 2 pin pout impl := by
  refine con_of_run' (nt := 133) (c := c0) tabGood Tryz.func72 (by kernel_rfl) (by kernel_rfl) (by kernel_rfl) (by kernel_rfl) (by kernel_rfl) (by kernel_rfl) (by kernel_rfl) ?_
  intro w0 O y hnp
  generalize hPost : (fun (a' : Act) (w' : World) => ∃ μ' S' st', Rel 133 w0 O μ' S' st' a' w' ∧ endOf (tabOf tab) rs 2 pout st' = some y) = Post
  have fin : ∀ (μ : Id → Option Value) (S : Nat → Prop) (st : St) (a : Act) (w : World), Rel 133 w0 O μ S st a w → endOf (tabOf tab) rs 2 pout st = some y → Post a w := fun μ S st a w h he => by rw [← hPost]; exact ⟨μ, S, st, h, he⟩
  have hp : ∀ (J3 : List Item → P3 → Option PO), ∀ (J5 : List Item → P5 → Option PO), Parts Tryz.prog 72 (pg impl_in.impl impl_parts.impl J3 J5) [(3, cut p3 J3), (5, cut p5 J5)] := fun J3 J5 => ⟨tab_ok tabGood rfl, (handAt_ok impl_parts.con (handAt_ok impl_in.con handNil_ok)), rfl⟩
  have g5 : Good Tryz.prog 133 w0 O Post y T5 p5 L5 := good_lfp fun J5 h5 => good_part (hp (atT T3 (fun _ => none)) (atT T5 J5)) (runOK_of (hp (atT T3 (fun _ => none)) (atT T5 J5)) hnp ⟨cutOK_at (p := p3) (T := T3) (J := fun _ => none) good_none, cutOK_at h5, trivial⟩ fin) (fun x => (seg5 impl_in.impl impl_parts.impl (atT T3 (fun _ => none)) (atT T5 J5) x.1 x.2.1 x.2.2.1 x.2.2.2.1 x.2.2.2.2.1).trans (by simp only [atT_self] <;> rfl))
  have g3 : Good Tryz.prog 133 w0 O Post y T3 p3 L3 := good_part (hp (atT T3 (fun _ => none)) (atT T5 L5)) (runOK_of (hp (atT T3 (fun _ => none)) (atT T5 L5)) hnp ⟨cutOK_at (p := p3) (T := T3) (J := fun _ => none) good_none, cutOK_at g5, trivial⟩ fin) (fun x => (seg3 impl_in.impl impl_parts.impl (atT T3 (fun _ => none)) (atT T5 L5) x.1 x.2.1).trans (by simp only [atT_self] <;> rfl))
  exact good_first (hp (atT T3 L3) (atT T5 (fun _ => none))) (runOK_of (hp (atT T3 L3) (atT T5 (fun _ => none))) hnp ⟨cutOK_at g3, cutOK_at (p := p5) (T := T5) (J := fun _ => none) good_none, trivial⟩ fin) (fun x => (seg0 impl_in.impl impl_parts.impl (atT T3 L3) (atT T5 (fun _ => none)) x.1 x.2.1).trans (by simp only [atT_self] <;> rfl))
end impl_kindsOf

/-! ### loop.example/wholecheck/impl.kindOf -/
namespace impl_kindOf
noncomputable abbrev c0 : Code := (Tryz.f97.body).getD .skip
noncomputable abbrev pin : Tpl := ⟨[⟨0, false, [.d (.sl (.prod (.int .i64) (.prod (.int .i64) (.prod (.int .i64) (.last (.int .i64))))))]⟩, ⟨1, false, [.d (.int .i64)]⟩], []⟩
noncomputable abbrev pout : Tpl := ⟨[⟨0, false, [.d (.int .i64)]⟩], []⟩
noncomputable abbrev PI := (List (Int × Int × Int × Int)) × Int × Unit
noncomputable abbrev PO := Int × Unit
noncomputable abbrev rs : List ResultVar := [.tmp 4]
noncomputable def F0 (Gimpl_kindsOf : impl_kindsOf.PI → Option impl_kindsOf.PO) (x0 : List (Int × Int × Int × Int)) (x1 : Int) : Option PO :=
  Option.bind (Gimpl_kindsOf (x0, x1, ())) fun y0 =>
  bif y0.1.isEmpty then
    some (0, ())
  else
    bif inb (wI ((y0.1.length : Int) - 1)) y0.1.length then
      some (y0.1.getD (wI ((y0.1.length : Int) - 1)).toNat 0, ())
    else
      none
noncomputable def hd {R : Type} (Gimpl_kindsOf : impl_kindsOf.PI → Option impl_kindsOf.PO) : Hand R := (handAt 72 [8] true ⟨2, 1, 2, impl_kindsOf.pin, impl_kindsOf.pout, Gimpl_kindsOf⟩ handNil)
noncomputable def pg (Gimpl_kindsOf : impl_kindsOf.PI → Option impl_kindsOf.PO) : Prog PO := { nt := 17, np := 2, tb := tabOf tab, hd := hd Gimpl_kindsOf, cuts := cutsOf [], fin := endOf (tabOf tab) rs 2 pout }
noncomputable def q : FuncId → Bool := fun f => hasId [] f
theorem seg0 (Gimpl_kindsOf : impl_kindsOf.PI → Option impl_kindsOf.PO) (x0 : List (Int × Int × Int × Int)) (x1 : Int) : arun (pg Gimpl_kindsOf) 5000 [.code c0] (mk pin (x0, x1, ())) = F0 Gimpl_kindsOf x0 x1 := by kernel_rfl
noncomputable def impl : PI → Option PO := fun x => F0 impl_kindsOf.impl x.1 x.2.1
theorem impl_eq (x0 : List (Int × Int × Int × Int)) (x1 : Int) : impl (x0, x1, ()) = F0 impl_kindsOf.impl x0 x1 := rfl
theorem con : Con Tryz.prog 97 2 rs.length 2 pin pout impl := by
  refine con_of_run' (nt := 17) (c := c0) tabGood Tryz.func97 (by kernel_rfl) (by kernel_rfl) (by kernel_rfl) (by kernel_rfl) (by kernel_rfl) (by kernel_rfl) (by kernel_rfl) ?_
  intro w0 O y hnp
  generalize hPost : (fun (a' : Act) (w' : World) => ∃ μ' S' st', Rel 17 w0 O μ' S' st' a' w' ∧ endOf (tabOf tab) rs 2 pout st' = some y) = Post
  have fin : ∀ (μ : Id → Option Value) (S : Nat → Prop) (st : St) (a : Act) (w : World), Rel 17 w0 O μ S st a w → endOf (tabOf tab) rs 2 pout st = some y → Post a w := fun μ S st a w h he => by rw [← hPost]; exact ⟨μ, S, st, h, he⟩
  have hp : Parts Tryz.prog 97 (pg impl_kindsOf.impl) [] := ⟨tab_ok tabGood rfl, (handAt_ok impl_kindsOf.con handNil_ok), rfl⟩
  exact good_first (hp) (runOK_of (hp) hnp trivial fin) (fun x => (seg0 impl_kindsOf.impl x.1 x.2.1))
end impl_kindOf

/-! ### loop.example/wholecheck/impl.ruleOk -/
namespace impl_ruleOk
noncomputable abbrev c0 : Code := (Tryz.f138.body).getD .skip
noncomputable abbrev pin : Tpl := ⟨[⟨0, true, [.d (.prod (.sl (.prod (.int .i64) (.prod (.int .i64) (.prod (.int .i64) (.last (.int .i64)))))) (.prod (.sl (.int .i64)) (.last (.sl (.sl (.prod (.int .i64) (.prod (.int .i64) (.prod (.int .i64) (.last (.int .i64))))))))))]⟩, ⟨1, false, [.d (.int .i64)]⟩], []⟩
noncomputable abbrev pout : Tpl := ⟨[⟨0, false, [.d .bool]⟩], []⟩
noncomputable abbrev p3 : Tpl := ⟨[⟨1, false, [.d (.int .i64)]⟩, ⟨2, false, [.ptr 3000000 0]⟩], [(3000000, .box [.d (.sl (.prod (.int .i64) (.prod (.int .i64) (.prod (.int .i64) (.last (.int .i64)))))), .d (.sl (.int .i64)), .d (.sl (.sl (.prod (.int .i64) (.prod (.int .i64) (.prod (.int .i64) (.last (.int .i64)))))))])]⟩
noncomputable def T3 : List Item := (find 3 c0 []).getD []
noncomputable abbrev p4 : Tpl := ⟨[⟨1, false, [.d (.int .i64)]⟩, ⟨2, false, [.ptr 3000000 0]⟩, ⟨22, false, [.d (.sl (.int .i64))]⟩, ⟨23, false, [.d (.int .i64)]⟩, ⟨24, false, [.d (.int .i64)]⟩], [(3000000, .box [.d (.sl (.prod (.int .i64) (.prod (.int .i64) (.prod (.int .i64) (.last (.int .i64)))))), .d (.sl (.int .i64)), .d (.sl (.sl (.prod (.int .i64) (.prod (.int .i64) (.prod (.int .i64) (.last (.int .i64)))))))])]⟩
noncomputable def T4 : List Item := (find 4 c0 []).getD []
noncomputable abbrev PI := ((List (Int × Int × Int × Int)) × (List Int) × List (List (Int × Int × Int × Int))) × Int × Unit
noncomputable abbrev PO := Bool × Unit
noncomputable abbrev P3 := Int × (List (Int × Int × Int × Int)) × (List Int) × (List (List (Int × Int × Int × Int))) × Unit
noncomputable abbrev P4 := Int × (List Int) × Int × Int × (List (Int × Int × Int × Int)) × (List Int) × (List (List (Int × Int × Int × Int))) × Unit
noncomputable abbrev rs : List ResultVar := [.tmp 4]
noncomputable def F0 (J3 : P3 → Option PO) (Gimpl_kindOf : impl_kindOf.PI → Option impl_kindOf.PO) (x0 : (List (Int × Int × Int × Int)) × (List Int) × List (List (Int × Int × Int × Int))) (x1 : Int) : Option PO :=
  Option.bind (Gimpl_kindOf (x0.1, x1, ())) fun y0 =>
  bif y0.1 != 2 then
    some (false, ())
  else
    bif (x0.2.1.length : Int) != (x0.2.2.length : Int) then
      some (false, ())
    else
      J3 (x1, x0.1, x0.2.1, x0.2.2, ())
noncomputable def F3 (J4 : P4 → Option PO) (t1 : Int) (b0_0 : List (Int × Int × Int × Int)) (b0_1 : List Int) (b0_2 : List (List (Int × Int × Int × Int))) : Option PO :=
  J4 (t1, b0_1, (b0_1.length : Int), 0, b0_0, b0_1, b0_2, ())
noncomputable def F4 (J4 : P4 → Option PO) (Gimpl_in : impl_in.PI → Option impl_in.PO) (Gimpl_kindOf : impl_kindOf.PI → Option impl_kindOf.PO) (t1 : Int) (t22 : List Int) (t23 : Int) (t24 : Int) (b0_0 : List (Int × Int × Int × Int)) (b0_1 : List Int) (b0_2 : List (List (Int × Int × Int × Int))) : Option PO :=
  bif decide (t24 < t23) then
    bif inb t24 t22.length then
      Option.bind (Gimpl_in (t22.getD t24.toNat 0, 0, wI (t1 - 1), ())) fun y1 =>
      bif !y1.1 then
        some (false, ())
      else
        bif decide (t24 > 0) then
          bif inb (wI (t24 - 1)) b0_1.length then
            bif decide (b0_1.getD (wI (t24 - 1)).toNat 0 ≥ t22.getD t24.toNat 0) then
              some (false, ())
            else
              bif inb t24 b0_2.length then
                Option.bind (Gimpl_kindOf (b0_2.getD t24.toNat [], t1, ())) fun y2 =>
                bif y2.1 != 1 then
                  some (false, ())
                else
                  J4 (t1, t22, t23, wI (t24 + 1), b0_0, b0_1, b0_2, ())
              else
                none
          else
            none
        else
          bif inb t24 b0_2.length then
            Option.bind (Gimpl_kindOf (b0_2.getD t24.toNat [], t1, ())) fun y3 =>
            bif y3.1 != 1 then
              some (false, ())
            else
              J4 (t1, t22, t23, wI (t24 + 1), b0_0, b0_1, b0_2, ())
          else
            none
    else
      none
  else
    some (true, ())
noncomputable def hd {R : Type} (Gimpl_in : impl_in.PI → Option impl_in.PO) (Gimpl_kindOf : impl_kindOf.PI → Option impl_kindOf.PO) : Hand R := (handAt 97 [10, 55] true ⟨2, 1, 2, impl_kindOf.pin, impl_kindOf.pout, Gimpl_kindOf⟩ (handAt 74 [32] true ⟨3, 1, 3, impl_in.pin, impl_in.pout, Gimpl_in⟩ handNil))
noncomputable def pg (Gimpl_in : impl_in.PI → Option impl_in.PO) (Gimpl_kindOf : impl_kindOf.PI → Option impl_kindOf.PO) (J3 : List Item → P3 → Option PO) (J4 : List Item → P4 → Option PO) : Prog PO := { nt := 59, np := 2, tb := tabOf tab, hd := hd Gimpl_in Gimpl_kindOf, cuts := cutsOf [(3, cut p3 J3), (4, cut p4 J4)], fin := endOf (tabOf tab) rs 2 pout }
noncomputable def q : FuncId → Bool := fun f => hasId [74, 97] f
theorem seg0 (Gimpl_in : impl_in.PI → Option impl_in.PO) (Gimpl_kindOf : impl_kindOf.PI → Option impl_kindOf.PO) (J3 : List Item → P3 → Option PO) (J4 : List Item → P4 → Option PO) (x0 : (List (Int × Int × Int × Int)) × (List Int) × List (List (Int × Int × Int × Int))) (x1 : Int) : arun (pg Gimpl_in Gimpl_kindOf J3 J4) 5000 [.code c0] (mk pin (x0, x1, ())) = F0 (J3 T3) Gimpl_kindOf x0 x1 := by kernel_rfl
theorem seg3 (Gimpl_in : impl_in.PI → Option impl_in.PO) (Gimpl_kindOf : impl_kindOf.PI → Option impl_kindOf.PO) (J3 : List Item → P3 → Option PO) (J4 : List Item → P4 → Option PO) (t1 : Int) (b0_0 : List (Int × Int × Int × Int)) (b0_1 : List Int) (b0_2 : List (List (Int × Int × Int × Int))) : arun1 (pg Gimpl_in Gimpl_kindOf J3 J4) 5000 T3 (mk p3 (t1, b0_0, b0_1, b0_2, ())) = F3 (J4 T4) t1 b0_0 b0_1 b0_2 := by kernel_rfl
theorem seg4 (Gimpl_in : impl_in.PI → Option impl_in.PO) (Gimpl_kindOf : impl_kindOf.PI → Option impl_kindOf.PO) (J3 : List Item → P3 → Option PO) (J4 : List Item → P4 → Option PO) (t1 : Int) (t22 : List Int) (t23 : Int) (t24 : Int) (b0_0 : List (Int × Int × Int × Int)) (b0_1 : List Int) (b0_2 : List (List (Int × Int × Int × Int))) : arun1 (pg Gimpl_in Gimpl_kindOf J3 J4) 5000 T4 (mk p4 (t1, t22, t23, t24, b0_0, b0_1, b0_2, ())) = F4 (J4 T4) Gimpl_in Gimpl_kindOf t1 t22 t23 t24 b0_0 b0_1 b0_2 := by kernel_rfl
noncomputable def L4 : P4 → Option PO := lfp fun J4 x => F4 J4 impl_in.impl impl_kindOf.impl x.1 x.2.1 x.2.2.1 x.2.2.2.1 x.2.2.2.2.1 x.2.2.2.2.2.1 x.2.2.2.2.2.2.1
noncomputable def L3 : P3 → Option PO := fun x => F3 L4 x.1 x.2.1 x.2.2.1 x.2.2.2.1
noncomputable def impl : PI → Option PO := fun x => F0 L3 impl_kindOf.impl x.1 x.2.1
theorem F4_le {J4 J4' : P4 → Option PO} (h4 : OLe J4 J4') {Gimpl_in : impl_in.PI → Option impl_in.PO} {Gimpl_kindOf : impl_kindOf.PI → Option impl_kindOf.PO} (t1 : Int) (t22 : List Int) (t23 : Int) (t24 : Int) (b0_0 : List (Int × Int × Int × Int)) (b0_1 : List Int) (b0_2 : List (List (Int × Int × Int × Int))) : OptLe (F4 J4 Gimpl_in Gimpl_kindOf t1 t22 t23 t24 b0_0 b0_1 b0_2) (F4 J4' Gimpl_in Gimpl_kindOf t1 t22 t23 t24 b0_0 b0_1 b0_2) := by unfold F4; exact .cond (.cond (.bind (.refl _) fun _ => .cond (.refl _) (.cond (.cond (.cond (.refl _) (.cond (.bind (.refl _) fun _ => .cond (.refl _) (.of h4 _)) (.refl _))) (.refl _)) (.cond (.bind (.refl _) fun _ => .cond (.refl _) (.of h4 _)) (.refl _)))) (.refl _)) (.refl _)
theorem L4_mono : OMono fun J4 (x : P4) => F4 J4 impl_in.impl impl_kindOf.impl x.1 x.2.1 x.2.2.1 x.2.2.2.1 x.2.2.2.2.1 x.2.2.2.2.2.1 x.2.2.2.2.2.2.1 := fun J J' h4 x => F4_le h4 x.1 x.2.1 x.2.2.1 x.2.2.2.1 x.2.2.2.2.1 x.2.2.2.2.2.1 x.2.2.2.2.2.2.1
theorem L4_eq (t1 : Int) (t22 : List Int) (t23 : Int) (t24 : Int) (b0_0 : List (Int × Int × Int × Int)) (b0_1 : List Int) (b0_2 : List (List (Int × Int × Int × Int))) : L4 (t1, t22, t23, t24, b0_0, b0_1, b0_2, ()) = F4 (L4) impl_in.impl impl_kindOf.impl t1 t22 t23 t24 b0_0 b0_1 b0_2 := congrFun (lfp_eq (L4_mono)) _
theorem L3_eq (t1 : Int) (b0_0 : List (Int × Int × Int × Int)) (b0_1 : List Int) (b0_2 : List (List (Int × Int × Int × Int))) : L3 (t1, b0_0, b0_1, b0_2, ()) = F3 (L4) t1 b0_0 b0_1 b0_2 := rfl
theorem impl_eq (x0 : (List (Int × Int × Int × Int)) × (List Int) × List (List (Int × Int × Int × Int))) (x1 : Int) : impl (x0, x1, ()) = F0 L3 impl_kindOf.impl x0 x1 := rfl
theorem con : Con Tryz.prog 138 2 rs.length 2 pin pout impl := by
  refine con_of_run' (nt := 59) (c := c0) tabGood Tryz.func138 (by kernel_rfl) (by kernel_rfl) (by kernel_rfl) (by kernel_rfl) (by kernel_rfl) (by kernel_rfl) (by kernel_rfl) ?_
  intro w0 O y hnp
  generalize hPost : (fun (a' : Act) (w' : World) => ∃ μ' S' st', Rel 59 w0 O μ' S' st' a' w' ∧ endOf (tabOf tab) rs 2 pout st' = some y) = Post
  have fin : ∀ (μ : Id → Option Value) (S : Nat → Prop) (st : St) (a : Act) (w : World), Rel 59 w0 O μ S st a w → endOf (tabOf tab) rs 2 pout st = some y → Post a w := fun μ S st a w h he => by rw [← hPost]; exact ⟨μ, S, st, h, he⟩
  have hp : ∀ (J3 : List Item → P3 → Option PO), ∀ (J4 : List Item → P4 → Option PO), Parts Tryz.prog 138 (pg impl_in.impl impl_kindOf.impl J3 J4) [(3, cut p3 J3), (4, cut p4 J4)] := fun J3 J4 => ⟨tab_ok tabGood rfl, (handAt_ok impl_kindOf.con (handAt_ok impl_in.con handNil_ok)), rfl⟩
  have g4 : Good Tryz.prog 59 w0 O Post y T4 p4 L4 := good_lfp fun J4 h4 => good_part (hp (atT T3 (fun _ => none)) (atT T4 J4)) (runOK_of (hp (atT T3 (fun _ => none)) (atT T4 J4)) hnp ⟨cutOK_at (p := p3) (T := T3) (J := fun _ => none) good_none, cutOK_at h4, trivial⟩ fin) (fun x => (seg4 impl_in.impl impl_kindOf.impl (atT T3 (fun _ => none)) (atT T4 J4) x.1 x.2.1 x.2.2.1 x.2.2.2.1 x.2.2.2.2.1 x.2.2.2.2.2.1 x.2.2.2.2.2.2.1).trans (by simp only [atT_self] <;> rfl))
  have g3 : Good Tryz.prog 59 w0 O Post y T3 p3 L3 := good_part (hp (atT T3 (fun _ => none)) (atT T4 L4)) (runOK_of (hp (atT T3 (fun _ => none)) (atT T4 L4)) hnp ⟨cutOK_at (p := p3) (T := T3) (J := fun _ => none) good_none, cutOK_at g4, trivial⟩ fin) (fun x => (seg3 impl_in.impl impl_kindOf.impl (atT T3 (fun _ => none)) (atT T4 L4) x.1 x.2.1 x.2.2.1 x.2.2.2.1).trans (by simp only [atT_self] <;> rfl))
  exact good_first (hp (atT T3 L3) (atT T4 (fun _ => none))) (runOK_of (hp (atT T3 L3) (atT T4 (fun _ => none))) hnp ⟨cutOK_at g3, cutOK_at (p := p4) (T := T4) (J := fun _ => none) good_none, trivial⟩ fin) (fun x => (seg0 impl_in.impl impl_kindOf.impl (atT T3 L3) (atT T4 (fun _ => none)) x.1 x.2.1).trans (by simp only [atT_self] <;> rfl))
end impl_ruleOk

/-! ### loop.example/wholecheck/impl.SystemValid$2 -/
namespace impl_SystemValid_2
noncomputable abbrev c0 : Code := (Tryz.f137.body).getD .skip
noncomputable abbrev pin : Tpl := ⟨[⟨0, true, [.d (.prod (.sl (.prod (.int .i64) (.prod (.int .i64) (.prod (.int .i64) (.last (.int .i64)))))) (.prod (.sl (.int .i64)) (.last (.sl (.sl (.prod (.int .i64) (.prod (.int .i64) (.prod (.int .i64) (.last (.int .i64))))))))))]⟩, ⟨1, false, [.ptr 500001 0]⟩], [(500001, .box [.d (.sl (.prod (.int .i64) (.prod (.int .i64) (.last (.int .i64))))), .d (.sl (.prod (.sl (.prod (.int .i64) (.prod (.int .i64) (.prod (.int .i64) (.last (.int .i64)))))) (.prod (.sl (.int .i64)) (.last (.sl (.sl (.prod (.int .i64) (.prod (.int .i64) (.prod (.int .i64) (.last (.int .i64)))))))))))])]⟩
noncomputable abbrev pout : Tpl := ⟨[⟨0, false, [.d .bool]⟩, ⟨2, false, [.ptr 500001 0]⟩], [(500001, .box [.d (.sl (.prod (.int .i64) (.prod (.int .i64) (.last (.int .i64))))), .d (.sl (.prod (.sl (.prod (.int .i64) (.prod (.int .i64) (.prod (.int .i64) (.last (.int .i64)))))) (.prod (.sl (.int .i64)) (.last (.sl (.sl (.prod (.int .i64) (.prod (.int .i64) (.prod (.int .i64) (.last (.int .i64)))))))))))])]⟩
noncomputable abbrev PI := ((List (Int × Int × Int × Int)) × (List Int) × List (List (Int × Int × Int × Int))) × (List (Int × Int × Int)) × (List ((List (Int × Int × Int × Int)) × (List Int) × List (List (Int × Int × Int × Int)))) × Unit
noncomputable abbrev PO := Bool × (List (Int × Int × Int)) × (List ((List (Int × Int × Int × Int)) × (List Int) × List (List (Int × Int × Int × Int)))) × Unit
noncomputable abbrev rs : List ResultVar := [.tmp 3]
noncomputable def F0 (Gimpl_ruleOk : impl_ruleOk.PI → Option impl_ruleOk.PO) (x0 : (List (Int × Int × Int × Int)) × (List Int) × List (List (Int × Int × Int × Int))) (c1_0 : List (Int × Int × Int)) (c1_1 : List ((List (Int × Int × Int × Int)) × (List Int) × List (List (Int × Int × Int × Int)))) : Option PO :=
  Option.bind (Gimpl_ruleOk (x0, (c1_0.length : Int), ())) fun y0 =>
  some (!y0.1, c1_0, c1_1, ())
noncomputable def hd {R : Type} (Gimpl_ruleOk : impl_ruleOk.PI → Option impl_ruleOk.PO) : Hand R := (handAt 138 [8] true ⟨2, 1, 2, impl_ruleOk.pin, impl_ruleOk.pout, Gimpl_ruleOk⟩ handNil)
noncomputable def pg (Gimpl_ruleOk : impl_ruleOk.PI → Option impl_ruleOk.PO) : Prog PO := { nt := 10, np := 2, tb := tabOf tab, hd := hd Gimpl_ruleOk, cuts := cutsOf [], fin := endOf (tabOf tab) rs 2 pout }
noncomputable def q : FuncId → Bool := fun f => hasId [138] f
theorem seg0 (Gimpl_ruleOk : impl_ruleOk.PI → Option impl_ruleOk.PO) (x0 : (List (Int × Int × Int × Int)) × (List Int) × List (List (Int × Int × Int × Int))) (c1_0 : List (Int × Int × Int)) (c1_1 : List ((List (Int × Int × Int × Int)) × (List Int) × List (List (Int × Int × Int × Int)))) : arun (pg Gimpl_ruleOk) 5000 [.code c0] (mk pin (x0, c1_0, c1_1, ())) = F0 Gimpl_ruleOk x0 c1_0 c1_1 := by kernel_rfl
noncomputable def impl : PI → Option PO := fun x => F0 impl_ruleOk.impl x.1 x.2.1 x.2.2.1
theorem impl_eq (x0 : (List (Int × Int × Int × Int)) × (List Int) × List (List (Int × Int × Int × Int))) (c1_0 : List (Int × Int × Int)) (c1_1 : List ((List (Int × Int × Int × Int)) × (List Int) × List (List (Int × Int × Int × Int)))) : impl (x0, c1_0, c1_1, ()) = F0 impl_ruleOk.impl x0 c1_0 c1_1 := rfl
theorem con : Con Tryz.prog 137 2 rs.length 2 pin pout impl := by
  refine con_of_run' (nt := 10) (c := c0) tabGood Tryz.func137 (by kernel_rfl) (by kernel_rfl) (by kernel_rfl) (by kernel_rfl) (by kernel_rfl) (by kernel_rfl) (by kernel_rfl) ?_
  intro w0 O y hnp
  generalize hPost : (fun (a' : Act) (w' : World) => ∃ μ' S' st', Rel 10 w0 O μ' S' st' a' w' ∧ endOf (tabOf tab) rs 2 pout st' = some y) = Post
  have fin : ∀ (μ : Id → Option Value) (S : Nat → Prop) (st : St) (a : Act) (w : World), Rel 10 w0 O μ S st a w → endOf (tabOf tab) rs 2 pout st = some y → Post a w := fun μ S st a w h he => by rw [← hPost]; exact ⟨μ, S, st, h, he⟩
  have hp : Parts Tryz.prog 137 (pg impl_ruleOk.impl) [] := ⟨tab_ok tabGood rfl, (handAt_ok impl_ruleOk.con handNil_ok), rfl⟩
  exact good_first (hp) (runOK_of (hp) hnp trivial fin) (fun x => (seg0 impl_ruleOk.impl x.1 x.2.1 x.2.2.1))
end impl_SystemValid_2

/-! ### slices.IndexFunc[[]loop.example/wholecheck/impl.Rule,loop.example/wholecheck/impl.Rule] -/
namespace slices_IndexFunc_of_1
noncomputable abbrev c0 : Code := (Tryz.f169.body).getD .skip
noncomputable abbrev pin : Tpl := ⟨[⟨0, false, [.d (.sl (.prod (.sl (.prod (.int .i64) (.prod (.int .i64) (.prod (.int .i64) (.last (.int .i64)))))) (.prod (.sl (.int .i64)) (.last (.sl (.sl (.prod (.int .i64) (.prod (.int .i64) (.prod (.int .i64) (.last (.int .i64)))))))))))]⟩, ⟨1, false, [.fn 137 [(500001, 0)]]⟩], [(500001, .box [.d (.sl (.prod (.int .i64) (.prod (.int .i64) (.last (.int .i64))))), .d (.sl (.prod (.sl (.prod (.int .i64) (.prod (.int .i64) (.prod (.int .i64) (.last (.int .i64)))))) (.prod (.sl (.int .i64)) (.last (.sl (.sl (.prod (.int .i64) (.prod (.int .i64) (.prod (.int .i64) (.last (.int .i64)))))))))))])]⟩
noncomputable abbrev pout : Tpl := ⟨[⟨0, false, [.d (.int .i64)]⟩, ⟨2, false, [.fn 137 [(500001, 0)]]⟩], [(500001, .box [.d (.sl (.prod (.int .i64) (.prod (.int .i64) (.last (.int .i64))))), .d (.sl (.prod (.sl (.prod (.int .i64) (.prod (.int .i64) (.prod (.int .i64) (.last (.int .i64)))))) (.prod (.sl (.int .i64)) (.last (.sl (.sl (.prod (.int .i64) (.prod (.int .i64) (.prod (.int .i64) (.last (.int .i64)))))))))))])]⟩
noncomputable abbrev p2 : Tpl := ⟨[⟨0, false, [.d (.sl (.prod (.sl (.prod (.int .i64) (.prod (.int .i64) (.prod (.int .i64) (.last (.int .i64)))))) (.prod (.sl (.int .i64)) (.last (.sl (.sl (.prod (.int .i64) (.prod (.int .i64) (.prod (.int .i64) (.last (.int .i64)))))))))))]⟩, ⟨1, false, [.fn 137 [(500001, 0)]]⟩, ⟨7, false, [.d (.int .i64)]⟩, ⟨8, false, [.d (.int .i64)]⟩], [(500001, .box [.d (.sl (.prod (.int .i64) (.prod (.int .i64) (.last (.int .i64))))), .d (.sl (.prod (.sl (.prod (.int .i64) (.prod (.int .i64) (.prod (.int .i64) (.last (.int .i64)))))) (.prod (.sl (.int .i64)) (.last (.sl (.sl (.prod (.int .i64) (.prod (.int .i64) (.prod (.int .i64) (.last (.int .i64)))))))))))])]⟩
noncomputable def T2 : List Item := (find 2 c0 []).getD []
noncomputable abbrev PI := (List ((List (Int × Int × Int × Int)) × (List Int) × List (List (Int × Int × Int × Int)))) × (List (Int × Int × Int)) × (List ((List (Int × Int × Int × Int)) × (List Int) × List (List (Int × Int × Int × Int)))) × Unit
noncomputable abbrev PO := Int × (List (Int × Int × Int)) × (List ((List (Int × Int × Int × Int)) × (List Int) × List (List (Int × Int × Int × Int)))) × Unit
noncomputable abbrev P2 := (List ((List (Int × Int × Int × Int)) × (List Int) × List (List (Int × Int × Int × Int)))) × Int × Int × (List (Int × Int × Int)) × (List ((List (Int × Int × Int × Int)) × (List Int) × List (List (Int × Int × Int × Int)))) × Unit
noncomputable abbrev rs : List ResultVar := [.tmp 4]
noncomputable def F0 (J2 : P2 → Option PO) (x0 : List ((List (Int × Int × Int × Int)) × (List Int) × List (List (Int × Int × Int × Int)))) (c1_0 : List (Int × Int × Int)) (c1_1 : List ((List (Int × Int × Int × Int)) × (List Int) × List (List (Int × Int × Int × Int)))) : Option PO :=
  J2 (x0, (x0.length : Int), 0, c1_0, c1_1, ())
noncomputable def F2 (J2 : P2 → Option PO) (Gimpl_SystemValid_2 : impl_SystemValid_2.PI → Option impl_SystemValid_2.PO) (t0 : List ((List (Int × Int × Int × Int)) × (List Int) × List (List (Int × Int × Int × Int)))) (t7 : Int) (t8 : Int) (c1_0 : List (Int × Int × Int)) (c1_1 : List ((List (Int × Int × Int × Int)) × (List Int) × List (List (Int × Int × Int × Int)))) : Option PO :=
  bif decide (t8 < t7) then
    bif inb t8 t0.length then
      Option.bind (Gimpl_SystemValid_2 (t0.getD t8.toNat ([], [], []), c1_0, c1_1, ())) fun y0 =>
      bif y0.1 then
        some (t8, y0.2.1, y0.2.2.1, ())
      else
        J2 (t0, t7, wI (t8 + 1), y0.2.1, y0.2.2.1, ())
    else
      none
  else
    some ((-1), c1_0, c1_1, ())
noncomputable def hd {R : Type} (Gimpl_SystemValid_2 : impl_SystemValid_2.PI → Option impl_SystemValid_2.PO) : Hand R := (handAt 137 [16] false ⟨2, 1, 2, impl_SystemValid_2.pin, impl_SystemValid_2.pout, Gimpl_SystemValid_2⟩ handNil)
noncomputable def pg (Gimpl_SystemValid_2 : impl_SystemValid_2.PI → Option impl_SystemValid_2.PO) (J2 : List Item → P2 → Option PO) : Prog PO := { nt := 19, np := 2, tb := tabOf tab, hd := hd Gimpl_SystemValid_2, cuts := cutsOf [(2, cut p2 J2)], fin := endOf (tabOf tab) rs 2 pout }
noncomputable def q : FuncId → Bool := fun f => hasId [] f
theorem seg0 (Gimpl_SystemValid_2 : impl_SystemValid_2.PI → Option impl_SystemValid_2.PO) (J2 : List Item → P2 → Option PO) (x0 : List ((List (Int × Int × Int × Int)) × (List Int) × List (List (Int × Int × Int × Int)))) (c1_0 : List (Int × Int × Int)) (c1_1 : List ((List (Int × Int × Int × Int)) × (List Int) × List (List (Int × Int × Int × Int)))) : arun (pg Gimpl_SystemValid_2 J2) 5000 [.code c0] (mk pin (x0, c1_0, c1_1, ())) = F0 (J2 T2) x0 c1_0 c1_1 := by kernel_rfl
theorem seg2 (Gimpl_SystemValid_2 : impl_SystemValid_2.PI → Option impl_SystemValid_2.PO) (J2 : List Item → P2 → Option PO) (t0 : List ((List (Int × Int × Int × Int)) × (List Int) × List (List (Int × Int × Int × Int)))) (t7 : Int) (t8 : Int) (c1_0 : List (Int × Int × Int)) (c1_1 : List ((List (Int × Int × Int × Int)) × (List Int) × List (List (Int × Int × Int × Int)))) : arun1 (pg Gimpl_SystemValid_2 J2) 5000 T2 (mk p2 (t0, t7, t8, c1_0, c1_1, ())) = F2 (J2 T2) Gimpl_SystemValid_2 t0 t7 t8 c1_0 c1_1 := by kernel_rfl
noncomputable def L2 : P2 → Option PO := lfp fun J2 x => F2 J2 impl_SystemValid_2.impl x.1 x.2.1 x.2.2.1 x.2.2.2.1 x.2.2.2.2.1
noncomputable def impl : PI → Option PO := fun x => F0 L2 x.1 x.2.1 x.2.2.1
theorem F2_le {J2 J2' : P2 → Option PO} (h2 : OLe J2 J2') {Gimpl_SystemValid_2 : impl_SystemValid_2.PI → Option impl_SystemValid_2.PO} (t0 : List ((List (Int × Int × Int × Int)) × (List Int) × List (List (Int × Int × Int × Int)))) (t7 : Int) (t8 : Int) (c1_0 : List (Int × Int × Int)) (c1_1 : List ((List (Int × Int × Int × Int)) × (List Int) × List (List (Int × Int × Int × Int)))) : OptLe (F2 J2 Gimpl_SystemValid_2 t0 t7 t8 c1_0 c1_1) (F2 J2' Gimpl_SystemValid_2 t0 t7 t8 c1_0 c1_1) := by unfold F2; exact .cond (.cond (.bind (.refl _) fun _ => .cond (.refl _) (.of h2 _)) (.refl _)) (.refl _)
theorem L2_mono : OMono fun J2 (x : P2) => F2 J2 impl_SystemValid_2.impl x.1 x.2.1 x.2.2.1 x.2.2.2.1 x.2.2.2.2.1 := fun J J' h2 x => F2_le h2 x.1 x.2.1 x.2.2.1 x.2.2.2.1 x.2.2.2.2.1
theorem L2_eq (t0 : List ((List (Int × Int × Int × Int)) × (List Int) × List (List (Int × Int × Int × Int)))) (t7 : Int) (t8 : Int) (c1_0 : List (Int × Int × Int)) (c1_1 : List ((List (Int × Int × Int × Int)) × (List Int) × List (List (Int × Int × Int × Int)))) : L2 (t0, t7, t8, c1_0, c1_1, ()) = F2 (L2) impl_SystemValid_2.impl t0 t7 t8 c1_0 c1_1 := congrFun (lfp_eq (L2_mono)) _
theorem impl_eq (x0 : List ((List (Int × Int × Int × Int)) × (List Int) × List (List (Int × Int × Int × Int)))) (c1_0 : List (Int × Int × Int)) (c1_1 : List ((List (Int × Int × Int × Int)) × (List Int) × List (List (Int × Int × Int × Int)))) : impl (x0, c1_0, c1_1, ()) = F0 L2 x0 c1_0 c1_1 := rfl
theorem con : Con Tryz.prog 169 2 rs.length 2 pin pout impl := by
  refine con_of_run' (nt := 19) (c := c0) tabGood Tryz.func169 (by kernel_rfl) (by kernel_rfl) (by kernel_rfl) (by kernel_rfl) (by kernel_rfl) (by kernel_rfl) (by kernel_rfl) ?_
  intro w0 O y hnp
  generalize hPost : (fun (a' : Act) (w' : World) => ∃ μ' S' st', Rel 19 w0 O μ' S' st' a' w' ∧ endOf (tabOf tab) rs 2 pout st' = some y) = Post
  have fin : ∀ (μ : Id → Option Value) (S : Nat → Prop) (st : St) (a : Act) (w : World), Rel 19 w0 O μ S st a w → endOf (tabOf tab) rs 2 pout st = some y → Post a w := fun μ S st a w h he => by rw [← hPost]; exact ⟨μ, S, st, h, he⟩
  have hp : ∀ (J2 : List Item → P2 → Option PO), Parts Tryz.prog 169 (pg impl_SystemValid_2.impl J2) [(2, cut p2 J2)] := fun J2 => ⟨tab_ok tabGood rfl, (handAt_ok impl_SystemValid_2.con handNil_ok), rfl⟩
  have g2 : Good Tryz.prog 19 w0 O Post y T2 p2 L2 := good_lfp fun J2 h2 => good_part (hp (atT T2 J2)) (runOK_of (hp (atT T2 J2)) hnp ⟨cutOK_at h2, trivial⟩ fin) (fun x => (seg2 impl_SystemValid_2.impl (atT T2 J2) x.1 x.2.1 x.2.2.1 x.2.2.2.1 x.2.2.2.2.1).trans (by simp only [atT_self] <;> rfl))
  exact good_first (hp (atT T2 L2)) (runOK_of (hp (atT T2 L2)) hnp ⟨cutOK_at g2, trivial⟩ fin) (fun x => (seg0 impl_SystemValid_2.impl (atT T2 L2) x.1 x.2.1 x.2.2.1).trans (by simp only [atT_self] <;> rfl))
end slices_IndexFunc_of_1

/-! ### slices.ContainsFunc[[]loop.example/wholecheck/impl.Rule,loop.example/wholecheck/impl.Rule] -/
namespace slices_ContainsFunc_of_1
noncomputable abbrev c0 : Code := (Tryz.f136.body).getD .skip
noncomputable abbrev pin : Tpl := ⟨[⟨0, false, [.d (.sl (.prod (.sl (.prod (.int .i64) (.prod (.int .i64) (.prod (.int .i64) (.last (.int .i64)))))) (.prod (.sl (.int .i64)) (.last (.sl (.sl (.prod (.int .i64) (.prod (.int .i64) (.prod (.int .i64) (.last (.int .i64)))))))))))]⟩, ⟨1, false, [.fn 137 [(500001, 0)]]⟩], [(500001, .box [.d (.sl (.prod (.int .i64) (.prod (.int .i64) (.last (.int .i64))))), .d (.sl (.prod (.sl (.prod (.int .i64) (.prod (.int .i64) (.prod (.int .i64) (.last (.int .i64)))))) (.prod (.sl (.int .i64)) (.last (.sl (.sl (.prod (.int .i64) (.prod (.int .i64) (.prod (.int .i64) (.last (.int .i64)))))))))))])]⟩
noncomputable abbrev pout : Tpl := ⟨[⟨0, false, [.d .bool]⟩, ⟨2, false, [.fn 137 [(500001, 0)]]⟩], [(500001, .box [.d (.sl (.prod (.int .i64) (.prod (.int .i64) (.last (.int .i64))))), .d (.sl (.prod (.sl (.prod (.int .i64) (.prod (.int .i64) (.prod (.int .i64) (.last (.int .i64)))))) (.prod (.sl (.int .i64)) (.last (.sl (.sl (.prod (.int .i64) (.prod (.int .i64) (.prod (.int .i64) (.last (.int .i64)))))))))))])]⟩
noncomputable abbrev PI := (List ((List (Int × Int × Int × Int)) × (List Int) × List (List (Int × Int × Int × Int)))) × (List (Int × Int × Int)) × (List ((List (Int × Int × Int × Int)) × (List Int) × List (List (Int × Int × Int × Int)))) × Unit
noncomputable abbrev PO := Bool × (List (Int × Int × Int)) × (List ((List (Int × Int × Int × Int)) × (List Int) × List (List (Int × Int × Int × Int)))) × Unit
noncomputable abbrev rs : List ResultVar := [.tmp 4]
noncomputable def F0 (Gslices_IndexFunc_of_1 : slices_IndexFunc_of_1.PI → Option slices_IndexFunc_of_1.PO) (x0 : List ((List (Int × Int × Int × Int)) × (List Int) × List (List (Int × Int × Int × Int)))) (c1_0 : List (Int × Int × Int)) (c1_1 : List ((List (Int × Int × Int × Int)) × (List Int) × List (List (Int × Int × Int × Int)))) : Option PO :=
  Option.bind (Gslices_IndexFunc_of_1 (x0, c1_0, c1_1, ())) fun y0 =>
  some (decide (y0.1 ≥ 0), y0.2.1, y0.2.2.1, ())
noncomputable def hd {R : Type} (Gslices_IndexFunc_of_1 : slices_IndexFunc_of_1.PI → Option slices_IndexFunc_of_1.PO) : Hand R := (handAt 169 [7] false ⟨2, 1, 2, slices_IndexFunc_of_1.pin, slices_IndexFunc_of_1.pout, Gslices_IndexFunc_of_1⟩ handNil)
noncomputable def pg (Gslices_IndexFunc_of_1 : slices_IndexFunc_of_1.PI → Option slices_IndexFunc_of_1.PO) : Prog PO := { nt := 9, np := 2, tb := tabOf tab, hd := hd Gslices_IndexFunc_of_1, cuts := cutsOf [], fin := endOf (tabOf tab) rs 2 pout }
noncomputable def q : FuncId → Bool := fun f => hasId [] f
theorem seg0 (Gslices_IndexFunc_of_1 : slices_IndexFunc_of_1.PI → Option slices_IndexFunc_of_1.PO) (x0 : List ((List (Int × Int × Int × Int)) × (List Int) × List (List (Int × Int × Int × Int)))) (c1_0 : List (Int × Int × Int)) (c1_1 : List ((List (Int × Int × Int × Int)) × (List Int) × List (List (Int × Int × Int × Int)))) : arun (pg Gslices_IndexFunc_of_1) 5000 [.code c0] (mk pin (x0, c1_0, c1_1, ())) = F0 Gslices_IndexFunc_of_1 x0 c1_0 c1_1 := by kernel_rfl
noncomputable def impl : PI → Option PO := fun x => F0 slices_IndexFunc_of_1.impl x.1 x.2.1 x.2.2.1
theorem impl_eq (x0 : List ((List (Int × Int × Int × Int)) × (List Int) × List (List (Int × Int × Int × Int)))) (c1_0 : List (Int × Int × Int)) (c1_1 : List ((List (Int × Int × Int × Int)) × (List Int) × List (List (Int × Int × Int × Int)))) : impl (x0, c1_0, c1_1, ()) = F0 slices_IndexFunc_of_1.impl x0 c1_0 c1_1 := rfl
theorem con : Con Tryz.prog 136 2 rs.length 2 pin pout impl := by
  refine con_of_run' (nt := 9) (c := c0) tabGood Tryz.func136 (by kernel_rfl) (by kernel_rfl) (by kernel_rfl) (by kernel_rfl) (by kernel_rfl) (by kernel_rfl) (by kernel_rfl) ?_
  intro w0 O y hnp
  generalize hPost : (fun (a' : Act) (w' : World) => ∃ μ' S' st', Rel 9 w0 O μ' S' st' a' w' ∧ endOf (tabOf tab) rs 2 pout st' = some y) = Post
  have fin : ∀ (μ : Id → Option Value) (S : Nat → Prop) (st : St) (a : Act) (w : World), Rel 9 w0 O μ S st a w → endOf (tabOf tab) rs 2 pout st = some y → Post a w := fun μ S st a w h he => by rw [← hPost]; exact ⟨μ, S, st, h, he⟩
  have hp : Parts Tryz.prog 136 (pg slices_IndexFunc_of_1.impl) [] := ⟨tab_ok tabGood rfl, (handAt_ok slices_IndexFunc_of_1.con handNil_ok), rfl⟩
  exact good_first (hp) (runOK_of (hp) hnp trivial fin) (fun x => (seg0 slices_IndexFunc_of_1.impl x.1 x.2.1 x.2.2.1))
end slices_ContainsFunc_of_1

/-! ### loop.example/wholecheck/impl.SystemValid -/
namespace impl_SystemValid
noncomputable abbrev c0 : Code := (Tryz.f94.body).getD .skip
noncomputable abbrev pin : Tpl := ⟨[⟨0, true, [.d (.prod (.sl (.prod (.int .i64) (.prod (.int .i64) (.last (.int .i64))))) (.last (.sl (.prod (.sl (.prod (.int .i64) (.prod (.int .i64) (.prod (.int .i64) (.last (.int .i64)))))) (.prod (.sl (.int .i64)) (.last (.sl (.sl (.prod (.int .i64) (.prod (.int .i64) (.prod (.int .i64) (.last (.int .i64)))))))))))))]⟩], []⟩
noncomputable abbrev pout : Tpl := ⟨[⟨0, false, [.d .bool]⟩], []⟩
noncomputable abbrev PI := ((List (Int × Int × Int)) × List ((List (Int × Int × Int × Int)) × (List Int) × List (List (Int × Int × Int × Int)))) × Unit
noncomputable abbrev PO := Bool × Unit
noncomputable abbrev rs : List ResultVar := [.tmp 2]
noncomputable def F0 (Gimpl_in : impl_in.PI → Option impl_in.PO) (Gimpl_size : impl_size.PI → Option impl_size.PO) (Gslices_ContainsFunc_of : slices_ContainsFunc_of.PI → Option slices_ContainsFunc_of.PO) (Gslices_ContainsFunc_of_1 : slices_ContainsFunc_of_1.PI → Option slices_ContainsFunc_of_1.PO) (x0 : (List (Int × Int × Int)) × List ((List (Int × Int × Int × Int)) × (List Int) × List (List (Int × Int × Int × Int)))) : Option PO :=
  Option.bind (Gimpl_in ((x0.1.length : Int), 1, 5, ())) fun y0 =>
  bif !y0.1 then
    some (false, ())
  else
    bif decide ((x0.2.length : Int) > 8) then
      some (false, ())
    else
      Option.bind (Gslices_ContainsFunc_of (x0.1, ())) fun y1 =>
      bif y1.1 then
        some (false, ())
      else
        Option.bind (Gimpl_size (x0.1, ())) fun y2 =>
        bif decide (y2.1 > 400) then
          some (false, ())
        else
          Option.bind (Gslices_ContainsFunc_of_1 (x0.2, x0.1, x0.2, ())) fun y3 =>
          some (!y3.1, ())
noncomputable def hd {R : Type} (Gimpl_in : impl_in.PI → Option impl_in.PO) (Gimpl_size : impl_size.PI → Option impl_size.PO) (Gslices_ContainsFunc_of : slices_ContainsFunc_of.PI → Option slices_ContainsFunc_of.PO) (Gslices_ContainsFunc_of_1 : slices_ContainsFunc_of_1.PI → Option slices_ContainsFunc_of_1.PO) : Hand R := (handAt 136 [28] false ⟨2, 1, 2, slices_ContainsFunc_of_1.pin, slices_ContainsFunc_of_1.pout, Gslices_ContainsFunc_of_1⟩ (handAt 135 [22] true ⟨1, 1, 1, impl_size.pin, impl_size.pout, Gimpl_size⟩ (handAt 132 [17] true ⟨2, 1, 2, slices_ContainsFunc_of.pin, slices_ContainsFunc_of.pout, Gslices_ContainsFunc_of⟩ (handAt 74 [6] true ⟨3, 1, 3, impl_in.pin, impl_in.pout, Gimpl_in⟩ handNil))))
noncomputable def pg (Gimpl_in : impl_in.PI → Option impl_in.PO) (Gimpl_size : impl_size.PI → Option impl_size.PO) (Gslices_ContainsFunc_of : slices_ContainsFunc_of.PI → Option slices_ContainsFunc_of.PO) (Gslices_ContainsFunc_of_1 : slices_ContainsFunc_of_1.PI → Option slices_ContainsFunc_of_1.PO) : Prog PO := { nt := 30, np := 1, tb := tabOf tab, hd := hd Gimpl_in Gimpl_size Gslices_ContainsFunc_of Gslices_ContainsFunc_of_1, cuts := cutsOf [], fin := endOf (tabOf tab) rs 1 pout }
noncomputable def q : FuncId → Bool := fun f => hasId [74, 135] f
theorem seg0 (Gimpl_in : impl_in.PI → Option impl_in.PO) (Gimpl_size : impl_size.PI → Option impl_size.PO) (Gslices_ContainsFunc_of : slices_ContainsFunc_of.PI → Option slices_ContainsFunc_of.PO) (Gslices_ContainsFunc_of_1 : slices_ContainsFunc_of_1.PI → Option slices_ContainsFunc_of_1.PO) (x0 : (List (Int × Int × Int)) × List ((List (Int × Int × Int × Int)) × (List Int) × List (List (Int × Int × Int × Int)))) : arun (pg Gimpl_in Gimpl_size Gslices_ContainsFunc_of Gslices_ContainsFunc_of_1) 5000 [.code c0] (mk pin (x0, ())) = F0 Gimpl_in Gimpl_size Gslices_ContainsFunc_of Gslices_ContainsFunc_of_1 x0 := by kernel_rfl
noncomputable def impl : PI → Option PO := fun x => F0 impl_in.impl impl_size.impl slices_ContainsFunc_of.impl slices_ContainsFunc_of_1.impl x.1
theorem impl_eq (x0 : (List (Int × Int × Int)) × List ((List (Int × Int × Int × Int)) × (List Int) × List (List (Int × Int × Int × Int)))) : impl (x0, ()) = F0 impl_in.impl impl_size.impl slices_ContainsFunc_of.impl slices_ContainsFunc_of_1.impl x0 := rfl
theorem con : Con Tryz.prog 94 1 rs.length 1 pin pout impl := by
  refine con_of_run' (nt := 30) (c := c0) tabGood Tryz.func94 (by kernel_rfl) (by kernel_rfl) (by kernel_rfl) (by kernel_rfl) (by kernel_rfl) (by kernel_rfl) (by kernel_rfl) ?_
  intro w0 O y hnp
  generalize hPost : (fun (a' : Act) (w' : World) => ∃ μ' S' st', Rel 30 w0 O μ' S' st' a' w' ∧ endOf (tabOf tab) rs 1 pout st' = some y) = Post
  have fin : ∀ (μ : Id → Option Value) (S : Nat → Prop) (st : St) (a : Act) (w : World), Rel 30 w0 O μ S st a w → endOf (tabOf tab) rs 1 pout st = some y → Post a w := fun μ S st a w h he => by rw [← hPost]; exact ⟨μ, S, st, h, he⟩
  have hp : Parts Tryz.prog 94 (pg impl_in.impl impl_size.impl slices_ContainsFunc_of.impl slices_ContainsFunc_of_1.impl) [] := ⟨tab_ok tabGood rfl, (handAt_ok slices_ContainsFunc_of_1.con (handAt_ok impl_size.con (handAt_ok slices_ContainsFunc_of.con (handAt_ok impl_in.con handNil_ok)))), rfl⟩
  exact good_first (hp) (runOK_of (hp) hnp trivial fin) (fun x => (seg0 impl_in.impl impl_size.impl slices_ContainsFunc_of.impl slices_ContainsFunc_of_1.impl x.1))
end impl_SystemValid

/-! ### loop.example/wholecheck/impl.nameOk -/
namespace impl_nameOk
noncomputable abbrev c0 : Code := (Tryz.f58.body).getD .skip
noncomputable abbrev pin : Tpl := ⟨[⟨0, false, [.d .str]⟩], []⟩
noncomputable abbrev pout : Tpl := ⟨[⟨0, false, [.d .bool]⟩], []⟩
noncomputable abbrev PI := (List UInt8) × Unit
noncomputable abbrev PO := Bool × Unit
noncomputable abbrev rs : List ResultVar := [.tmp 2]
noncomputable def F0 (Gimpl_in : impl_in.PI → Option impl_in.PO) (Glib_Trim : lib_Trim.PI → Option lib_Trim.PO) (x0 : List UInt8) : Option PO :=
  Option.bind (Gimpl_in ((x0.length : Int), 1, 8, ())) fun y0 =>
  bif y0.1 then
    Option.bind (Glib_Trim (x0, ([97, 98, 99, 100, 101, 102, 103, 104, 105, 106, 107, 108, 109, 110, 111, 112, 113, 114, 115, 116, 117, 118, 119, 120, 121, 122] : List UInt8), ())) fun y1 =>
    some (y1.1 == [], ())
  else
    some (false, ())
noncomputable def hd {R : Type} (Gimpl_in : impl_in.PI → Option impl_in.PO) (Glib_Trim : lib_Trim.PI → Option lib_Trim.PO) : Hand R := (handAt 105 [8] true ⟨2, 1, 0, lib_Trim.pin, lib_Trim.pout, Glib_Trim⟩ (handAt 74 [5] true ⟨3, 1, 3, impl_in.pin, impl_in.pout, Gimpl_in⟩ handNil))
noncomputable def pg (Gimpl_in : impl_in.PI → Option impl_in.PO) (Glib_Trim : lib_Trim.PI → Option lib_Trim.PO) : Prog PO := { nt := 11, np := 1, tb := tabOf tab, hd := hd Gimpl_in Glib_Trim, cuts := cutsOf [], fin := endOf (tabOf tab) rs 1 pout }
noncomputable def q : FuncId → Bool := fun f => hasId [74, 105] f
theorem seg0 (Gimpl_in : impl_in.PI → Option impl_in.PO) (Glib_Trim : lib_Trim.PI → Option lib_Trim.PO) (x0 : List UInt8) : arun (pg Gimpl_in Glib_Trim) 5000 [.code c0] (mk pin (x0, ())) = F0 Gimpl_in Glib_Trim x0 := by kernel_rfl
noncomputable def impl : PI → Option PO := fun x => F0 impl_in.impl lib_Trim.impl x.1
theorem impl_eq (x0 : List UInt8) : impl (x0, ()) = F0 impl_in.impl lib_Trim.impl x0 := rfl
theorem con : Con Tryz.prog 58 1 rs.length 1 pin pout impl := by
  refine con_of_run' (nt := 11) (c := c0) tabGood Tryz.func58 (by kernel_rfl) (by kernel_rfl) (by kernel_rfl) (by kernel_rfl) (by kernel_rfl) (by kernel_rfl) (by kernel_rfl) ?_
  intro w0 O y hnp
  generalize hPost : (fun (a' : Act) (w' : World) => ∃ μ' S' st', Rel 11 w0 O μ' S' st' a' w' ∧ endOf (tabOf tab) rs 1 pout st' = some y) = Post
  have fin : ∀ (μ : Id → Option Value) (S : Nat → Prop) (st : St) (a : Act) (w : World), Rel 11 w0 O μ S st a w → endOf (tabOf tab) rs 1 pout st = some y → Post a w := fun μ S st a w h he => by rw [← hPost]; exact ⟨μ, S, st, h, he⟩
  have hp : Parts Tryz.prog 58 (pg impl_in.impl lib_Trim.impl) [] := ⟨tab_ok tabGood rfl, (handAt_ok lib_Trim.con (handAt_ok impl_in.con handNil_ok)), rfl⟩
  exact good_first (hp) (runOK_of (hp) hnp trivial fin) (fun x => (seg0 impl_in.impl lib_Trim.impl x.1))
end impl_nameOk

/-! ### slices.Index[[]string,string] -/
namespace slices_Index_of
noncomputable abbrev c0 : Code := (Tryz.f106.body).getD .skip
noncomputable abbrev pin : Tpl := ⟨[⟨0, false, [.d (.sl .str)]⟩, ⟨1, false, [.d .str]⟩], []⟩
noncomputable abbrev pout : Tpl := ⟨[⟨0, false, [.d (.int .i64)]⟩], []⟩
noncomputable abbrev p2 : Tpl := ⟨[⟨0, false, [.d (.sl .str)]⟩, ⟨1, false, [.d .str]⟩, ⟨7, false, [.d (.int .i64)]⟩, ⟨8, false, [.d (.int .i64)]⟩], []⟩
noncomputable def T2 : List Item := (find 2 c0 []).getD []
noncomputable abbrev PI := (List (List UInt8)) × (List UInt8) × Unit
noncomputable abbrev PO := Int × Unit
noncomputable abbrev P2 := (List (List UInt8)) × (List UInt8) × Int × Int × Unit
noncomputable abbrev rs : List ResultVar := [.tmp 4]
noncomputable def F0 (J2 : P2 → Option PO) (x0 : List (List UInt8)) (x1 : List UInt8) : Option PO :=
  J2 (x0, x1, (x0.length : Int), 0, ())
noncomputable def F2 (J2 : P2 → Option PO) (t0 : List (List UInt8)) (t1 : List UInt8) (t7 : Int) (t8 : Int) : Option PO :=
  bif decide (t8 < t7) then
    bif inb t8 t0.length then
      bif t1 == (t0.getD t8.toNat []) then
        some (t8, ())
      else
        J2 (t0, t1, t7, wI (t8 + 1), ())
    else
      none
  else
    some ((-1), ())
noncomputable def hd {R : Type} : Hand R := handNil
noncomputable def pg (J2 : List Item → P2 → Option PO) : Prog PO := { nt := 19, np := 2, tb := tabOf tab, hd := hd, cuts := cutsOf [(2, cut p2 J2)], fin := endOf (tabOf tab) rs 2 pout }
noncomputable def q : FuncId → Bool := fun f => hasId [] f
theorem seg0 (J2 : List Item → P2 → Option PO) (x0 : List (List UInt8)) (x1 : List UInt8) : arun (pg J2) 5000 [.code c0] (mk pin (x0, x1, ())) = F0 (J2 T2) x0 x1 := by kernel_rfl
theorem seg2 (J2 : List Item → P2 → Option PO) (t0 : List (List UInt8)) (t1 : List UInt8) (t7 : Int) (t8 : Int) : arun1 (pg J2) 5000 T2 (mk p2 (t0, t1, t7, t8, ())) = F2 (J2 T2) t0 t1 t7 t8 := by kernel_rfl
noncomputable def L2 : P2 → Option PO := lfp fun J2 x => F2 J2 x.1 x.2.1 x.2.2.1 x.2.2.2.1
noncomputable def impl : PI → Option PO := fun x => F0 L2 x.1 x.2.1
theorem F2_le {J2 J2' : P2 → Option PO} (h2 : OLe J2 J2') (t0 : List (List UInt8)) (t1 : List UInt8) (t7 : Int) (t8 : Int) : OptLe (F2 J2 t0 t1 t7 t8) (F2 J2' t0 t1 t7 t8) := by unfold F2; exact .cond (.cond (.cond (.refl _) (.of h2 _)) (.refl _)) (.refl _)
theorem L2_mono : OMono fun J2 (x : P2) => F2 J2 x.1 x.2.1 x.2.2.1 x.2.2.2.1 := fun J J' h2 x => F2_le h2 x.1 x.2.1 x.2.2.1 x.2.2.2.1
theorem L2_eq (t0 : List (List UInt8)) (t1 : List UInt8) (t7 : Int) (t8 : Int) : L2 (t0, t1, t7, t8, ()) = F2 (L2) t0 t1 t7 t8 := congrFun (lfp_eq (L2_mono)) _
theorem impl_eq (x0 : List (List UInt8)) (x1 : List UInt8) : impl (x0, x1, ()) = F0 L2 x0 x1 := rfl
theorem con : Con Tryz.prog 106 2 rs.length 2 pin pout impl := by
  refine con_of_run' (nt := 19) (c := c0) tabGood Tryz.func106 (by kernel_rfl) (by kernel_rfl) (by kernel_rfl) (by kernel_rfl) (by kernel_rfl) (by kernel_rfl) (by kernel_rfl) ?_
  intro w0 O y hnp
  generalize hPost : (fun (a' : Act) (w' : World) => ∃ μ' S' st', Rel 19 w0 O μ' S' st' a' w' ∧ endOf (tabOf tab) rs 2 pout st' = some y) = Post
  have fin : ∀ (μ : Id → Option Value) (S : Nat → Prop) (st : St) (a : Act) (w : World), Rel 19 w0 O μ S st a w → endOf (tabOf tab) rs 2 pout st = some y → Post a w := fun μ S st a w h he => by rw [← hPost]; exact ⟨μ, S, st, h, he⟩
  have hp : ∀ (J2 : List Item → P2 → Option PO), Parts Tryz.prog 106 (pg J2) [(2, cut p2 J2)] := fun J2 => ⟨tab_ok tabGood rfl, handNil_ok, rfl⟩
  have g2 : Good Tryz.prog 19 w0 O Post y T2 p2 L2 := good_lfp fun J2 h2 => good_part (hp (atT T2 J2)) (runOK_of (hp (atT T2 J2)) hnp ⟨cutOK_at h2, trivial⟩ fin) (fun x => (seg2 (atT T2 J2) x.1 x.2.1 x.2.2.1 x.2.2.2.1).trans (by simp only [atT_self] <;> rfl))
  exact good_first (hp (atT T2 L2)) (runOK_of (hp (atT T2 L2)) hnp ⟨cutOK_at g2, trivial⟩ fin) (fun x => (seg0 (atT T2 L2) x.1 x.2.1).trans (by simp only [atT_self] <;> rfl))
end slices_Index_of

/-! ### slices.Contains[[]string,string] -/
namespace slices_Contains_of
noncomputable abbrev c0 : Code := (Tryz.f59.body).getD .skip
noncomputable abbrev pin : Tpl := ⟨[⟨0, false, [.d (.sl .str)]⟩, ⟨1, false, [.d .str]⟩], []⟩
noncomputable abbrev pout : Tpl := ⟨[⟨0, false, [.d .bool]⟩], []⟩
noncomputable abbrev PI := (List (List UInt8)) × (List UInt8) × Unit
noncomputable abbrev PO := Bool × Unit
noncomputable abbrev rs : List ResultVar := [.tmp 4]
noncomputable def F0 (Gslices_Index_of : slices_Index_of.PI → Option slices_Index_of.PO) (x0 : List (List UInt8)) (x1 : List UInt8) : Option PO :=
  Option.bind (Gslices_Index_of (x0, x1, ())) fun y0 =>
  some (decide (y0.1 ≥ 0), ())
noncomputable def hd {R : Type} (Gslices_Index_of : slices_Index_of.PI → Option slices_Index_of.PO) : Hand R := (handAt 106 [7] true ⟨2, 1, 2, slices_Index_of.pin, slices_Index_of.pout, Gslices_Index_of⟩ handNil)
noncomputable def pg (Gslices_Index_of : slices_Index_of.PI → Option slices_Index_of.PO) : Prog PO := { nt := 9, np := 2, tb := tabOf tab, hd := hd Gslices_Index_of, cuts := cutsOf [], fin := endOf (tabOf tab) rs 2 pout }
noncomputable def q : FuncId → Bool := fun f => hasId [106] f
theorem seg0 (Gslices_Index_of : slices_Index_of.PI → Option slices_Index_of.PO) (x0 : List (List UInt8)) (x1 : List UInt8) : arun (pg Gslices_Index_of) 5000 [.code c0] (mk pin (x0, x1, ())) = F0 Gslices_Index_of x0 x1 := by kernel_rfl
noncomputable def impl : PI → Option PO := fun x => F0 slices_Index_of.impl x.1 x.2.1
theorem impl_eq (x0 : List (List UInt8)) (x1 : List UInt8) : impl (x0, x1, ()) = F0 slices_Index_of.impl x0 x1 := rfl
theorem con : Con Tryz.prog 59 2 rs.length 2 pin pout impl := by
  refine con_of_run' (nt := 9) (c := c0) tabGood Tryz.func59 (by kernel_rfl) (by kernel_rfl) (by kernel_rfl) (by kernel_rfl) (by kernel_rfl) (by kernel_rfl) (by kernel_rfl) ?_
  intro w0 O y hnp
  generalize hPost : (fun (a' : Act) (w' : World) => ∃ μ' S' st', Rel 9 w0 O μ' S' st' a' w' ∧ endOf (tabOf tab) rs 2 pout st' = some y) = Post
  have fin : ∀ (μ : Id → Option Value) (S : Nat → Prop) (st : St) (a : Act) (w : World), Rel 9 w0 O μ S st a w → endOf (tabOf tab) rs 2 pout st = some y → Post a w := fun μ S st a w h he => by rw [← hPost]; exact ⟨μ, S, st, h, he⟩
  have hp : Parts Tryz.prog 59 (pg slices_Index_of.impl) [] := ⟨tab_ok tabGood rfl, (handAt_ok slices_Index_of.con handNil_ok), rfl⟩
  exact good_first (hp) (runOK_of (hp) hnp trivial fin) (fun x => (seg0 slices_Index_of.impl x.1 x.2.1))
end slices_Contains_of

/-! ### loop.example/wholecheck/impl.NamesValid -/
namespace impl_NamesValid
noncomputable abbrev c0 : Code := (Tryz.f16.body).getD .skip
noncomputable abbrev pin : Tpl := ⟨[⟨0, false, [.d (.sl .str)]⟩], []⟩
noncomputable abbrev pout : Tpl := ⟨[⟨0, false, [.d .bool]⟩], []⟩
noncomputable abbrev p4 : Tpl := ⟨[⟨0, false, [.d (.sl .str)]⟩, ⟨8, false, [.d (.sl .str)]⟩, ⟨9, false, [.d (.int .i64)]⟩, ⟨10, false, [.d (.int .i64)]⟩], []⟩
noncomputable def T4 : List Item := (find 4 c0 []).getD []
noncomputable abbrev PI := (List (List UInt8)) × Unit
noncomputable abbrev PO := Bool × Unit
noncomputable abbrev P4 := (List (List UInt8)) × (List (List UInt8)) × Int × Int × Unit
noncomputable abbrev rs : List ResultVar := [.tmp 2]
noncomputable def F0 (J4 : P4 → Option PO) (x0 : List (List UInt8)) : Option PO :=
  bif decide ((x0.length : Int) > 5) then
    some (false, ())
  else
    J4 (x0, x0, (x0.length : Int), 0, ())
noncomputable def F4 (J4 : P4 → Option PO) (Gimpl_nameOk : impl_nameOk.PI → Option impl_nameOk.PO) (Gslices_Contains_of : slices_Contains_of.PI → Option slices_Contains_of.PO) (t0 : List (List UInt8)) (t8 : List (List UInt8)) (t9 : Int) (t10 : Int) : Option PO :=
  bif decide (t10 < t9) then
    bif inb t10 t8.length then
      Option.bind (Gimpl_nameOk (t8.getD t10.toNat [], ())) fun y0 =>
      bif !y0.1 then
        some (false, ())
      else
        bif decide (0 ≤ t10) && decide (t10 ≤ (t0.length : Int)) then
          Option.bind (Gslices_Contains_of ((t0.take t10.toNat).drop 0, t8.getD t10.toNat [], ())) fun y1 =>
          bif y1.1 then
            some (false, ())
          else
            J4 (t0, t8, t9, wI (t10 + 1), ())
        else
          none
    else
      none
  else
    some (true, ())
noncomputable def hd {R : Type} (Gimpl_nameOk : impl_nameOk.PI → Option impl_nameOk.PO) (Gslices_Contains_of : slices_Contains_of.PI → Option slices_Contains_of.PO) : Hand R := (handAt 59 [23] true ⟨2, 1, 2, slices_Contains_of.pin, slices_Contains_of.pout, Gslices_Contains_of⟩ (handAt 58 [16] true ⟨1, 1, 1, impl_nameOk.pin, impl_nameOk.pout, Gimpl_nameOk⟩ handNil))
noncomputable def pg (Gimpl_nameOk : impl_nameOk.PI → Option impl_nameOk.PO) (Gslices_Contains_of : slices_Contains_of.PI → Option slices_Contains_of.PO) (J4 : List Item → P4 → Option PO) : Prog PO := { nt := 26, np := 1, tb := tabOf tab, hd := hd Gimpl_nameOk Gslices_Contains_of, cuts := cutsOf [(4, cut p4 J4)], fin := endOf (tabOf tab) rs 1 pout }
noncomputable def q : FuncId → Bool := fun f => hasId [58, 59] f
theorem seg0 (Gimpl_nameOk : impl_nameOk.PI → Option impl_nameOk.PO) (Gslices_Contains_of : slices_Contains_of.PI → Option slices_Contains_of.PO) (J4 : List Item → P4 → Option PO) (x0 : List (List UInt8)) : arun (pg Gimpl_nameOk Gslices_Contains_of J4) 5000 [.code c0] (mk pin (x0, ())) = F0 (J4 T4) x0 := by kernel_rfl
theorem seg4 (Gimpl_nameOk : impl_nameOk.PI → Option impl_nameOk.PO) (Gslices_Contains_of : slices_Contains_of.PI → Option slices_Contains_of.PO) (J4 : List Item → P4 → Option PO) (t0 : List (List UInt8)) (t8 : List (List UInt8)) (t9 : Int) (t10 : Int) : arun1 (pg Gimpl_nameOk Gslices_Contains_of J4) 5000 T4 (mk p4 (t0, t8, t9, t10, ())) = F4 (J4 T4) Gimpl_nameOk Gslices_Contains_of t0 t8 t9 t10 := by kernel_rfl
noncomputable def L4 : P4 → Option PO := lfp fun J4 x => F4 J4 impl_nameOk.impl slices_Contains_of.impl x.1 x.2.1 x.2.2.1 x.2.2.2.1
noncomputable def impl : PI → Option PO := fun x => F0 L4 x.1
theorem F4_le {J4 J4' : P4 → Option PO} (h4 : OLe J4 J4') {Gimpl_nameOk : impl_nameOk.PI → Option impl_nameOk.PO} {Gslices_Contains_of : slices_Contains_of.PI → Option slices_Contains_of.PO} (t0 : List (List UInt8)) (t8 : List (List UInt8)) (t9 : Int) (t10 : Int) : OptLe (F4 J4 Gimpl_nameOk Gslices_Contains_of t0 t8 t9 t10) (F4 J4' Gimpl_nameOk Gslices_Contains_of t0 t8 t9 t10) := by unfold F4; exact .cond (.cond (.bind (.refl _) fun _ => .cond (.refl _) (.cond (.bind (.refl _) fun _ => .cond (.refl _) (.of h4 _)) (.refl _))) (.refl _)) (.refl _)
theorem L4_mono : OMono fun J4 (x : P4) => F4 J4 impl_nameOk.impl slices_Contains_of.impl x.1 x.2.1 x.2.2.1 x.2.2.2.1 := fun J J' h4 x => F4_le h4 x.1 x.2.1 x.2.2.1 x.2.2.2.1
theorem L4_eq (t0 : List (List UInt8)) (t8 : List (List UInt8)) (t9 : Int) (t10 : Int) : L4 (t0, t8, t9, t10, ()) = F4 (L4) impl_nameOk.impl slices_Contains_of.impl t0 t8 t9 t10 := congrFun (lfp_eq (L4_mono)) _
theorem impl_eq (x0 : List (List UInt8)) : impl (x0, ()) = F0 L4 x0 := rfl
theorem con : Con Tryz.prog 16 1 rs.length 1 pin pout impl := by
  refine con_of_run' (nt := 26) (c := c0) tabGood Tryz.func16 (by kernel_rfl) (by kernel_rfl) (by kernel_rfl) (by kernel_rfl) (by kernel_rfl) (by kernel_rfl) (by kernel_rfl) ?_
  intro w0 O y hnp
  generalize hPost : (fun (a' : Act) (w' : World) => ∃ μ' S' st', Rel 26 w0 O μ' S' st' a' w' ∧ endOf (tabOf tab) rs 1 pout st' = some y) = Post
  have fin : ∀ (μ : Id → Option Value) (S : Nat → Prop) (st : St) (a : Act) (w : World), Rel 26 w0 O μ S st a w → endOf (tabOf tab) rs 1 pout st = some y → Post a w := fun μ S st a w h he => by rw [← hPost]; exact ⟨μ, S, st, h, he⟩
  have hp : ∀ (J4 : List Item → P4 → Option PO), Parts Tryz.prog 16 (pg impl_nameOk.impl slices_Contains_of.impl J4) [(4, cut p4 J4)] := fun J4 => ⟨tab_ok tabGood rfl, (handAt_ok slices_Contains_of.con (handAt_ok impl_nameOk.con handNil_ok)), rfl⟩
  have g4 : Good Tryz.prog 26 w0 O Post y T4 p4 L4 := good_lfp fun J4 h4 => good_part (hp (atT T4 J4)) (runOK_of (hp (atT T4 J4)) hnp ⟨cutOK_at h4, trivial⟩ fin) (fun x => (seg4 impl_nameOk.impl slices_Contains_of.impl (atT T4 J4) x.1 x.2.1 x.2.2.1 x.2.2.2.1).trans (by simp only [atT_self] <;> rfl))
  exact good_first (hp (atT T4 L4)) (runOK_of (hp (atT T4 L4)) hnp ⟨cutOK_at g4, trivial⟩ fin) (fun x => (seg0 impl_nameOk.impl slices_Contains_of.impl (atT T4 L4) x.1).trans (by simp only [atT_self] <;> rfl))
end impl_NamesValid

/-! ### loop.example/wholecheck/impl.ModelValid$1 -/
namespace impl_ModelValid_1
noncomputable abbrev c0 : Code := (Tryz.f96.body).getD .skip
noncomputable abbrev pin : Tpl := ⟨[⟨0, false, [.d (.sl (.prod (.int .i64) (.prod (.int .i64) (.prod (.int .i64) (.last (.int .i64))))))]⟩, ⟨1, false, [.ptr 500001 0]⟩], [(500001, .box [.d (.sl .str), .d (.sl (.prod (.int .i64) (.prod (.int .i64) (.last (.int .i64))))), .d (.sl (.prod (.sl (.prod (.int .i64) (.prod (.int .i64) (.prod (.int .i64) (.last (.int .i64)))))) (.prod (.sl (.int .i64)) (.last (.sl (.sl (.prod (.int .i64) (.prod (.int .i64) (.prod (.int .i64) (.last (.int .i64))))))))))), .d (.sl (.sl (.prod (.int .i64) (.prod (.int .i64) (.prod (.int .i64) (.last (.int .i64)))))))])]⟩
noncomputable abbrev pout : Tpl := ⟨[⟨0, false, [.d .bool]⟩, ⟨2, false, [.ptr 500001 0]⟩], [(500001, .box [.d (.sl .str), .d (.sl (.prod (.int .i64) (.prod (.int .i64) (.last (.int .i64))))), .d (.sl (.prod (.sl (.prod (.int .i64) (.prod (.int .i64) (.prod (.int .i64) (.last (.int .i64)))))) (.prod (.sl (.int .i64)) (.last (.sl (.sl (.prod (.int .i64) (.prod (.int .i64) (.prod (.int .i64) (.last (.int .i64))))))))))), .d (.sl (.sl (.prod (.int .i64) (.prod (.int .i64) (.prod (.int .i64) (.last (.int .i64)))))))])]⟩
noncomputable abbrev PI := (List (Int × Int × Int × Int)) × (List (List UInt8)) × (List (Int × Int × Int)) × (List ((List (Int × Int × Int × Int)) × (List Int) × List (List (Int × Int × Int × Int)))) × (List (List (Int × Int × Int × Int))) × Unit
noncomputable abbrev PO := Bool × (List (List UInt8)) × (List (Int × Int × Int)) × (List ((List (Int × Int × Int × Int)) × (List Int) × List (List (Int × Int × Int × Int)))) × (List (List (Int × Int × Int × Int))) × Unit
noncomputable abbrev rs : List ResultVar := [.tmp 3]
noncomputable def F0 (Gimpl_kindOf : impl_kindOf.PI → Option impl_kindOf.PO) (x0 : List (Int × Int × Int × Int)) (c1_0 : List (List UInt8)) (c1_1 : List (Int × Int × Int)) (c1_2 : List ((List (Int × Int × Int × Int)) × (List Int) × List (List (Int × Int × Int × Int)))) (c1_3 : List (List (Int × Int × Int × Int))) : Option PO :=
  Option.bind (Gimpl_kindOf (x0, (c1_0.length : Int), ())) fun y0 =>
  some (y0.1 != 2, c1_0, c1_1, c1_2, c1_3, ())
noncomputable def hd {R : Type} (Gimpl_kindOf : impl_kindOf.PI → Option impl_kindOf.PO) : Hand R := (handAt 97 [8] true ⟨2, 1, 2, impl_kindOf.pin, impl_kindOf.pout, Gimpl_kindOf⟩ handNil)
noncomputable def pg (Gimpl_kindOf : impl_kindOf.PI → Option impl_kindOf.PO) : Prog PO := { nt := 10, np := 2, tb := tabOf tab, hd := hd Gimpl_kindOf, cuts := cutsOf [], fin := endOf (tabOf tab) rs 2 pout }
noncomputable def q : FuncId → Bool := fun f => hasId [97] f
theorem seg0 (Gimpl_kindOf : impl_kindOf.PI → Option impl_kindOf.PO) (x0 : List (Int × Int × Int × Int)) (c1_0 : List (List UInt8)) (c1_1 : List (Int × Int × Int)) (c1_2 : List ((List (Int × Int × Int × Int)) × (List Int) × List (List (Int × Int × Int × Int)))) (c1_3 : List (List (Int × Int × Int × Int))) : arun (pg Gimpl_kindOf) 5000 [.code c0] (mk pin (x0, c1_0, c1_1, c1_2, c1_3, ())) = F0 Gimpl_kindOf x0 c1_0 c1_1 c1_2 c1_3 := by kernel_rfl
noncomputable def impl : PI → Option PO := fun x => F0 impl_kindOf.impl x.1 x.2.1 x.2.2.1 x.2.2.2.1 x.2.2.2.2.1
theorem impl_eq (x0 : List (Int × Int × Int × Int)) (c1_0 : List (List UInt8)) (c1_1 : List (Int × Int × Int)) (c1_2 : List ((List (Int × Int × Int × Int)) × (List Int) × List (List (Int × Int × Int × Int)))) (c1_3 : List (List (Int × Int × Int × Int))) : impl (x0, c1_0, c1_1, c1_2, c1_3, ()) = F0 impl_kindOf.impl x0 c1_0 c1_1 c1_2 c1_3 := rfl
theorem con : Con Tryz.prog 96 2 rs.length 2 pin pout impl := by
  refine con_of_run' (nt := 10) (c := c0) tabGood Tryz.func96 (by kernel_rfl) (by kernel_rfl) (by kernel_rfl) (by kernel_rfl) (by kernel_rfl) (by kernel_rfl) (by kernel_rfl) ?_
  intro w0 O y hnp
  generalize hPost : (fun (a' : Act) (w' : World) => ∃ μ' S' st', Rel 10 w0 O μ' S' st' a' w' ∧ endOf (tabOf tab) rs 2 pout st' = some y) = Post
  have fin : ∀ (μ : Id → Option Value) (S : Nat → Prop) (st : St) (a : Act) (w : World), Rel 10 w0 O μ S st a w → endOf (tabOf tab) rs 2 pout st = some y → Post a w := fun μ S st a w h he => by rw [← hPost]; exact ⟨μ, S, st, h, he⟩
  have hp : Parts Tryz.prog 96 (pg impl_kindOf.impl) [] := ⟨tab_ok tabGood rfl, (handAt_ok impl_kindOf.con handNil_ok), rfl⟩
  exact good_first (hp) (runOK_of (hp) hnp trivial fin) (fun x => (seg0 impl_kindOf.impl x.1 x.2.1 x.2.2.1 x.2.2.2.1 x.2.2.2.2.1))
end impl_ModelValid_1

/-! ### slices.IndexFunc[[][]loop.example/wholecheck/impl.Term,[]loop.example/wholecheck/impl.Term] -/
namespace slices_IndexFunc_of_2
noncomputable abbrev c0 : Code := (Tryz.f139.body).getD .skip
noncomputable abbrev pin : Tpl := ⟨[⟨0, false, [.d (.sl (.sl (.prod (.int .i64) (.prod (.int .i64) (.prod (.int .i64) (.last (.int .i64)))))))]⟩, ⟨1, false, [.fn 96 [(500001, 0)]]⟩], [(500001, .box [.d (.sl .str), .d (.sl (.prod (.int .i64) (.prod (.int .i64) (.last (.int .i64))))), .d (.sl (.prod (.sl (.prod (.int .i64) (.prod (.int .i64) (.prod (.int .i64) (.last (.int .i64)))))) (.prod (.sl (.int .i64)) (.last (.sl (.sl (.prod (.int .i64) (.prod (.int .i64) (.prod (.int .i64) (.last (.int .i64))))))))))), .d (.sl (.sl (.prod (.int .i64) (.prod (.int .i64) (.prod (.int .i64) (.last (.int .i64)))))))])]⟩
noncomputable abbrev pout : Tpl := ⟨[⟨0, false, [.d (.int .i64)]⟩, ⟨2, false, [.fn 96 [(500001, 0)]]⟩], [(500001, .box [.d (.sl .str), .d (.sl (.prod (.int .i64) (.prod (.int .i64) (.last (.int .i64))))), .d (.sl (.prod (.sl (.prod (.int .i64) (.prod (.int .i64) (.prod (.int .i64) (.last (.int .i64)))))) (.prod (.sl (.int .i64)) (.last (.sl (.sl (.prod (.int .i64) (.prod (.int .i64) (.prod (.int .i64) (.last (.int .i64))))))))))), .d (.sl (.sl (.prod (.int .i64) (.prod (.int .i64) (.prod (.int .i64) (.last (.int .i64)))))))])]⟩
noncomputable abbrev p2 : Tpl := ⟨[⟨0, false, [.d (.sl (.sl (.prod (.int .i64) (.prod (.int .i64) (.prod (.int .i64) (.last (.int .i64)))))))]⟩, ⟨1, false, [.fn 96 [(500001, 0)]]⟩, ⟨7, false, [.d (.int .i64)]⟩, ⟨8, false, [.d (.int .i64)]⟩], [(500001, .box [.d (.sl .str), .d (.sl (.prod (.int .i64) (.prod (.int .i64) (.last (.int .i64))))), .d (.sl (.prod (.sl (.prod (.int .i64) (.prod (.int .i64) (.prod (.int .i64) (.last (.int .i64)))))) (.prod (.sl (.int .i64)) (.last (.sl (.sl (.prod (.int .i64) (.prod (.int .i64) (.prod (.int .i64) (.last (.int .i64))))))))))), .d (.sl (.sl (.prod (.int .i64) (.prod (.int .i64) (.prod (.int .i64) (.last (.int .i64)))))))])]⟩
noncomputable def T2 : List Item := (find 2 c0 []).getD []
noncomputable abbrev PI := (List (List (Int × Int × Int × Int))) × (List (List UInt8)) × (List (Int × Int × Int)) × (List ((List (Int × Int × Int × Int)) × (List Int) × List (List (Int × Int × Int × Int)))) × (List (List (Int × Int × Int × Int))) × Unit
noncomputable abbrev PO := Int × (List (List UInt8)) × (List (Int × Int × Int)) × (List ((List (Int × Int × Int × Int)) × (List Int) × List (List (Int × Int × Int × Int)))) × (List (List (Int × Int × Int × Int))) × Unit
noncomputable abbrev P2 := (List (List (Int × Int × Int × Int))) × Int × Int × (List (List UInt8)) × (List (Int × Int × Int)) × (List ((List (Int × Int × Int × Int)) × (List Int) × List (List (Int × Int × Int × Int)))) × (List (List (Int × Int × Int × Int))) × Unit
noncomputable abbrev rs : List ResultVar := [.tmp 4]
noncomputable def F0 (J2 : P2 → Option PO) (x0 : List (List (Int × Int × Int × Int))) (c1_0 : List (List UInt8)) (c1_1 : List (Int × Int × Int)) (c1_2 : List ((List (Int × Int × Int × Int)) × (List Int) × List (List (Int × Int × Int × Int)))) (c1_3 : List (List (Int × Int × Int × Int))) : Option PO :=
  J2 (x0, (x0.length : Int), 0, c1_0, c1_1, c1_2, c1_3, ())
noncomputable def F2 (J2 : P2 → Option PO) (Gimpl_ModelValid_1 : impl_ModelValid_1.PI → Option impl_ModelValid_1.PO) (t0 : List (List (Int × Int × Int × Int))) (t7 : Int) (t8 : Int) (c1_0 : List (List UInt8)) (c1_1 : List (Int × Int × Int)) (c1_2 : List ((List (Int × Int × Int × Int)) × (List Int) × List (List (Int × Int × Int × Int)))) (c1_3 : List (List (Int × Int × Int × Int))) : Option PO :=
  bif decide (t8 < t7) then
    bif inb t8 t0.length then
      Option.bind (Gimpl_ModelValid_1 (t0.getD t8.toNat [], c1_0, c1_1, c1_2, c1_3, ())) fun y0 =>
      bif y0.1 then
        some (t8, y0.2.1, y0.2.2.1, y0.2.2.2.1, y0.2.2.2.2.1, ())
      else
        J2 (t0, t7, wI (t8 + 1), y0.2.1, y0.2.2.1, y0.2.2.2.1, y0.2.2.2.2.1, ())
    else
      none
  else
    some ((-1), c1_0, c1_1, c1_2, c1_3, ())
noncomputable def hd {R : Type} (Gimpl_ModelValid_1 : impl_ModelValid_1.PI → Option impl_ModelValid_1.PO) : Hand R := (handAt 96 [16] false ⟨2, 1, 2, impl_ModelValid_1.pin, impl_ModelValid_1.pout, Gimpl_ModelValid_1⟩ handNil)
noncomputable def pg (Gimpl_ModelValid_1 : impl_ModelValid_1.PI → Option impl_ModelValid_1.PO) (J2 : List Item → P2 → Option PO) : Prog PO := { nt := 19, np := 2, tb := tabOf tab, hd := hd Gimpl_ModelValid_1, cuts := cutsOf [(2, cut p2 J2)], fin := endOf (tabOf tab) rs 2 pout }
noncomputable def q : FuncId → Bool := fun f => hasId [] f
theorem seg0 (Gimpl_ModelValid_1 : impl_ModelValid_1.PI → Option impl_ModelValid_1.PO) (J2 : List Item → P2 → Option PO) (x0 : List (List (Int × Int × Int × Int))) (c1_0 : List (List UInt8)) (c1_1 : List (Int × Int × Int)) (c1_2 : List ((List (Int × Int × Int × Int)) × (List Int) × List (List (Int × Int × Int × Int)))) (c1_3 : List (List (Int × Int × Int × Int))) : arun (pg Gimpl_ModelValid_1 J2) 5000 [.code c0] (mk pin (x0, c1_0, c1_1, c1_2, c1_3, ())) = F0 (J2 T2) x0 c1_0 c1_1 c1_2 c1_3 := by kernel_rfl
theorem seg2 (Gimpl_ModelValid_1 : impl_ModelValid_1.PI → Option impl_ModelValid_1.PO) (J2 : List Item → P2 → Option PO) (t0 : List (List (Int × Int × Int × Int))) (t7 : Int) (t8 : Int) (c1_0 : List (List UInt8)) (c1_1 : List (Int × Int × Int)) (c1_2 : List ((List (Int × Int × Int × Int)) × (List Int) × List (List (Int × Int × Int × Int)))) (c1_3 : List (List (Int × Int × Int × Int))) : arun1 (pg Gimpl_ModelValid_1 J2) 5000 T2 (mk p2 (t0, t7, t8, c1_0, c1_1, c1_2, c1_3, ())) = F2 (J2 T2) Gimpl_ModelValid_1 t0 t7 t8 c1_0 c1_1 c1_2 c1_3 := by kernel_rfl
noncomputable def L2 : P2 → Option PO := lfp fun J2 x => F2 J2 impl_ModelValid_1.impl x.1 x.2.1 x.2.2.1 x.2.2.2.1 x.2.2.2.2.1 x.2.2.2.2.2.1 x.2.2.2.2.2.2.1
noncomputable def impl : PI → Option PO := fun x => F0 L2 x.1 x.2.1 x.2.2.1 x.2.2.2.1 x.2.2.2.2.1
theorem F2_le {J2 J2' : P2 → Option PO} (h2 : OLe J2 J2') {Gimpl_ModelValid_1 : impl_ModelValid_1.PI → Option impl_ModelValid_1.PO} (t0 : List (List (Int × Int × Int × Int))) (t7 : Int) (t8 : Int) (c1_0 : List (List UInt8)) (c1_1 : List (Int × Int × Int)) (c1_2 : List ((List (Int × Int × Int × Int)) × (List Int) × List (List (Int × Int × Int × Int)))) (c1_3 : List (List (Int × Int × Int × Int))) : OptLe (F2 J2 Gimpl_ModelValid_1 t0 t7 t8 c1_0 c1_1 c1_2 c1_3) (F2 J2' Gimpl_ModelValid_1 t0 t7 t8 c1_0 c1_1 c1_2 c1_3) := by unfold F2; exact .cond (.cond (.bind (.refl _) fun _ => .cond (.refl _) (.of h2 _)) (.refl _)) (.refl _)
theorem L2_mono : OMono fun J2 (x : P2) => F2 J2 impl_ModelValid_1.impl x.1 x.2.1 x.2.2.1 x.2.2.2.1 x.2.2.2.2.1 x.2.2.2.2.2.1 x.2.2.2.2.2.2.1 := fun J J' h2 x => F2_le h2 x.1 x.2.1 x.2.2.1 x.2.2.2.1 x.2.2.2.2.1 x.2.2.2.2.2.1 x.2.2.2.2.2.2.1
theorem L2_eq (t0 : List (List (Int × Int × Int × Int))) (t7 : Int) (t8 : Int) (c1_0 : List (List UInt8)) (c1_1 : List (Int × Int × Int)) (c1_2 : List ((List (Int × Int × Int × Int)) × (List Int) × List (List (Int × Int × Int × Int)))) (c1_3 : List (List (Int × Int × Int × Int))) : L2 (t0, t7, t8, c1_0, c1_1, c1_2, c1_3, ()) = F2 (L2) impl_ModelValid_1.impl t0 t7 t8 c1_0 c1_1 c1_2 c1_3 := congrFun (lfp_eq (L2_mono)) _
theorem impl_eq (x0 : List (List (Int × Int × Int × Int))) (c1_0 : List (List UInt8)) (c1_1 : List (Int × Int × Int)) (c1_2 : List ((List (Int × Int × Int × Int)) × (List Int) × List (List (Int × Int × Int × Int)))) (c1_3 : List (List (Int × Int × Int × Int))) : impl (x0, c1_0, c1_1, c1_2, c1_3, ()) = F0 L2 x0 c1_0 c1_1 c1_2 c1_3 := rfl
theorem con : Con Tryz.prog 139 2 rs.length 2 pin pout impl := by
  refine con_of_run' (nt := 19) (c := c0) tabGood Tryz.func139 (by kernel_rfl) (by kernel_rfl) (by kernel_rfl) (by kernel_rfl) (by kernel_rfl) (by kernel_rfl) (by kernel_rfl) ?_
  intro w0 O y hnp
  generalize hPost : (fun (a' : Act) (w' : World) => ∃ μ' S' st', Rel 19 w0 O μ' S' st' a' w' ∧ endOf (tabOf tab) rs 2 pout st' = some y) = Post
  have fin : ∀ (μ : Id → Option Value) (S : Nat → Prop) (st : St) (a : Act) (w : World), Rel 19 w0 O μ S st a w → endOf (tabOf tab) rs 2 pout st = some y → Post a w := fun μ S st a w h he => by rw [← hPost]; exact ⟨μ, S, st, h, he⟩
  have hp : ∀ (J2 : List Item → P2 → Option PO), Parts Tryz.prog 139 (pg impl_ModelValid_1.impl J2) [(2, cut p2 J2)] := fun J2 => ⟨tab_ok tabGood rfl, (handAt_ok impl_ModelValid_1.con handNil_ok), rfl⟩
  have g2 : Good Tryz.prog 19 w0 O Post y T2 p2 L2 := good_lfp fun J2 h2 => good_part (hp (atT T2 J2)) (runOK_of (hp (atT T2 J2)) hnp ⟨cutOK_at h2, trivial⟩ fin) (fun x => (seg2 impl_ModelValid_1.impl (atT T2 J2) x.1 x.2.1 x.2.2.1 x.2.2.2.1 x.2.2.2.2.1 x.2.2.2.2.2.1 x.2.2.2.2.2.2.1).trans (by simp only [atT_self] <;> rfl))
  exact good_first (hp (atT T2 L2)) (runOK_of (hp (atT T2 L2)) hnp ⟨cutOK_at g2, trivial⟩ fin) (fun x => (seg0 impl_ModelValid_1.impl (atT T2 L2) x.1 x.2.1 x.2.2.1 x.2.2.2.1 x.2.2.2.2.1).trans (by simp only [atT_self] <;> rfl))
end slices_IndexFunc_of_2

/-! ### slices.ContainsFunc[[][]loop.example/wholecheck/impl.Term,[]loop.example/wholecheck/impl.Term] -/
namespace slices_ContainsFunc_of_2
noncomputable abbrev c0 : Code := (Tryz.f95.body).getD .skip
noncomputable abbrev pin : Tpl := ⟨[⟨0, false, [.d (.sl (.sl (.prod (.int .i64) (.prod (.int .i64) (.prod (.int .i64) (.last (.int .i64)))))))]⟩, ⟨1, false, [.fn 96 [(500001, 0)]]⟩], [(500001, .box [.d (.sl .str), .d (.sl (.prod (.int .i64) (.prod (.int .i64) (.last (.int .i64))))), .d (.sl (.prod (.sl (.prod (.int .i64) (.prod (.int .i64) (.prod (.int .i64) (.last (.int .i64)))))) (.prod (.sl (.int .i64)) (.last (.sl (.sl (.prod (.int .i64) (.prod (.int .i64) (.prod (.int .i64) (.last (.int .i64))))))))))), .d (.sl (.sl (.prod (.int .i64) (.prod (.int .i64) (.prod (.int .i64) (.last (.int .i64)))))))])]⟩
noncomputable abbrev pout : Tpl := ⟨[⟨0, false, [.d .bool]⟩, ⟨2, false, [.fn 96 [(500001, 0)]]⟩], [(500001, .box [.d (.sl .str), .d (.sl (.prod (.int .i64) (.prod (.int .i64) (.last (.int .i64))))), .d (.sl (.prod (.sl (.prod (.int .i64) (.prod (.int .i64) (.prod (.int .i64) (.last (.int .i64)))))) (.prod (.sl (.int .i64)) (.last (.sl (.sl (.prod (.int .i64) (.prod (.int .i64) (.prod (.int .i64) (.last (.int .i64))))))))))), .d (.sl (.sl (.prod (.int .i64) (.prod (.int .i64) (.prod (.int .i64) (.last (.int .i64)))))))])]⟩
noncomputable abbrev PI := (List (List (Int × Int × Int × Int))) × (List (List UInt8)) × (List (Int × Int × Int)) × (List ((List (Int × Int × Int × Int)) × (List Int) × List (List (Int × Int × Int × Int)))) × (List (List (Int × Int × Int × Int))) × Unit
noncomputable abbrev PO := Bool × (List (List UInt8)) × (List (Int × Int × Int)) × (List ((List (Int × Int × Int × Int)) × (List Int) × List (List (Int × Int × Int × Int)))) × (List (List (Int × Int × Int × Int))) × Unit
noncomputable abbrev rs : List ResultVar := [.tmp 4]
noncomputable def F0 (Gslices_IndexFunc_of_2 : slices_IndexFunc_of_2.PI → Option slices_IndexFunc_of_2.PO) (x0 : List (List (Int × Int × Int × Int))) (c1_0 : List (List UInt8)) (c1_1 : List (Int × Int × Int)) (c1_2 : List ((List (Int × Int × Int × Int)) × (List Int) × List (List (Int × Int × Int × Int)))) (c1_3 : List (List (Int × Int × Int × Int))) : Option PO :=
  Option.bind (Gslices_IndexFunc_of_2 (x0, c1_0, c1_1, c1_2, c1_3, ())) fun y0 =>
  some (decide (y0.1 ≥ 0), y0.2.1, y0.2.2.1, y0.2.2.2.1, y0.2.2.2.2.1, ())
noncomputable def hd {R : Type} (Gslices_IndexFunc_of_2 : slices_IndexFunc_of_2.PI → Option slices_IndexFunc_of_2.PO) : Hand R := (handAt 139 [7] false ⟨2, 1, 2, slices_IndexFunc_of_2.pin, slices_IndexFunc_of_2.pout, Gslices_IndexFunc_of_2⟩ handNil)
noncomputable def pg (Gslices_IndexFunc_of_2 : slices_IndexFunc_of_2.PI → Option slices_IndexFunc_of_2.PO) : Prog PO := { nt := 9, np := 2, tb := tabOf tab, hd := hd Gslices_IndexFunc_of_2, cuts := cutsOf [], fin := endOf (tabOf tab) rs 2 pout }
noncomputable def q : FuncId → Bool := fun f => hasId [] f
theorem seg0 (Gslices_IndexFunc_of_2 : slices_IndexFunc_of_2.PI → Option slices_IndexFunc_of_2.PO) (x0 : List (List (Int × Int × Int × Int))) (c1_0 : List (List UInt8)) (c1_1 : List (Int × Int × Int)) (c1_2 : List ((List (Int × Int × Int × Int)) × (List Int) × List (List (Int × Int × Int × Int)))) (c1_3 : List (List (Int × Int × Int × Int))) : arun (pg Gslices_IndexFunc_of_2) 5000 [.code c0] (mk pin (x0, c1_0, c1_1, c1_2, c1_3, ())) = F0 Gslices_IndexFunc_of_2 x0 c1_0 c1_1 c1_2 c1_3 := by kernel_rfl
noncomputable def impl : PI → Option PO := fun x => F0 slices_IndexFunc_of_2.impl x.1 x.2.1 x.2.2.1 x.2.2.2.1 x.2.2.2.2.1
theorem impl_eq (x0 : List (List (Int × Int × Int × Int))) (c1_0 : List (List UInt8)) (c1_1 : List (Int × Int × Int)) (c1_2 : List ((List (Int × Int × Int × Int)) × (List Int) × List (List (Int × Int × Int × Int)))) (c1_3 : List (List (Int × Int × Int × Int))) : impl (x0, c1_0, c1_1, c1_2, c1_3, ()) = F0 slices_IndexFunc_of_2.impl x0 c1_0 c1_1 c1_2 c1_3 := rfl
theorem con : Con Tryz.prog 95 2 rs.length 2 pin pout impl := by
  refine con_of_run' (nt := 9) (c := c0) tabGood Tryz.func95 (by kernel_rfl) (by kernel_rfl) (by kernel_rfl) (by kernel_rfl) (by kernel_rfl) (by kernel_rfl) (by kernel_rfl) ?_
  intro w0 O y hnp
  generalize hPost : (fun (a' : Act) (w' : World) => ∃ μ' S' st', Rel 9 w0 O μ' S' st' a' w' ∧ endOf (tabOf tab) rs 2 pout st' = some y) = Post
  have fin : ∀ (μ : Id → Option Value) (S : Nat → Prop) (st : St) (a : Act) (w : World), Rel 9 w0 O μ S st a w → endOf (tabOf tab) rs 2 pout st = some y → Post a w := fun μ S st a w h he => by rw [← hPost]; exact ⟨μ, S, st, h, he⟩
  have hp : Parts Tryz.prog 95 (pg slices_IndexFunc_of_2.impl) [] := ⟨tab_ok tabGood rfl, (handAt_ok slices_IndexFunc_of_2.con handNil_ok), rfl⟩
  exact good_first (hp) (runOK_of (hp) hnp trivial fin) (fun x => (seg0 slices_IndexFunc_of_2.impl x.1 x.2.1 x.2.2.1 x.2.2.2.1 x.2.2.2.2.1))
end slices_ContainsFunc_of_2

/-! ### loop.example/wholecheck/impl.ModelValid -/
namespace impl_ModelValid
noncomputable abbrev c0 : Code := (Tryz.f43.body).getD .skip
noncomputable abbrev pin : Tpl := ⟨[⟨0, true, [.d (.prod (.sl .str) (.prod (.prod (.sl (.prod (.int .i64) (.prod (.int .i64) (.last (.int .i64))))) (.last (.sl (.prod (.sl (.prod (.int .i64) (.prod (.int .i64) (.prod (.int .i64) (.last (.int .i64)))))) (.prod (.sl (.int .i64)) (.last (.sl (.sl (.prod (.int .i64) (.prod (.int .i64) (.prod (.int .i64) (.last (.int .i64))))))))))))) (.last (.sl (.sl (.prod (.int .i64) (.prod (.int .i64) (.prod (.int .i64) (.last (.int .i64))))))))))]⟩], []⟩
noncomputable abbrev pout : Tpl := ⟨[⟨0, false, [.d .bool]⟩], []⟩
noncomputable abbrev PI := ((List (List UInt8)) × ((List (Int × Int × Int)) × List ((List (Int × Int × Int × Int)) × (List Int) × List (List (Int × Int × Int × Int)))) × List (List (Int × Int × Int × Int))) × Unit
noncomputable abbrev PO := Bool × Unit
noncomputable abbrev rs : List ResultVar := [.tmp 2]
noncomputable def F0 (Gimpl_NamesValid : impl_NamesValid.PI → Option impl_NamesValid.PO) (Gimpl_SystemValid : impl_SystemValid.PI → Option impl_SystemValid.PO) (Gslices_ContainsFunc_of_2 : slices_ContainsFunc_of_2.PI → Option slices_ContainsFunc_of_2.PO) (x0 : (List (List UInt8)) × ((List (Int × Int × Int)) × List ((List (Int × Int × Int × Int)) × (List Int) × List (List (Int × Int × Int × Int)))) × List (List (Int × Int × Int × Int))) : Option PO :=
  Option.bind (Gimpl_SystemValid (x0.2.1, ())) fun y0 =>
  bif y0.1 then
    Option.bind (Gimpl_NamesValid (x0.1, ())) fun y1 =>
    bif y1.1 then
      bif (x0.1.length : Int) == (x0.2.1.1.length : Int) then
        bif decide ((x0.2.2.length : Int) ≤ 4) then
          Option.bind (Gslices_ContainsFunc_of_2 (x0.2.2, x0.1, x0.2.1.1, x0.2.1.2, x0.2.2, ())) fun y2 =>
          some (!y2.1, ())
        else
          some (false, ())
      else
        some (false, ())
    else
      some (false, ())
  else
    some (false, ())
noncomputable def hd {R : Type} (Gimpl_NamesValid : impl_NamesValid.PI → Option impl_NamesValid.PO) (Gimpl_SystemValid : impl_SystemValid.PI → Option impl_SystemValid.PO) (Gslices_ContainsFunc_of_2 : slices_ContainsFunc_of_2.PI → Option slices_ContainsFunc_of_2.PO) : Hand R := (handAt 95 [31] false ⟨2, 1, 2, slices_ContainsFunc_of_2.pin, slices_ContainsFunc_of_2.pout, Gslices_ContainsFunc_of_2⟩ (handAt 94 [5] true ⟨1, 1, 1, impl_SystemValid.pin, impl_SystemValid.pout, Gimpl_SystemValid⟩ (handAt 16 [9] true ⟨1, 1, 1, impl_NamesValid.pin, impl_NamesValid.pout, Gimpl_NamesValid⟩ handNil)))
noncomputable def pg (Gimpl_NamesValid : impl_NamesValid.PI → Option impl_NamesValid.PO) (Gimpl_SystemValid : impl_SystemValid.PI → Option impl_SystemValid.PO) (Gslices_ContainsFunc_of_2 : slices_ContainsFunc_of_2.PI → Option slices_ContainsFunc_of_2.PO) : Prog PO := { nt := 34, np := 1, tb := tabOf tab, hd := hd Gimpl_NamesValid Gimpl_SystemValid Gslices_ContainsFunc_of_2, cuts := cutsOf [], fin := endOf (tabOf tab) rs 1 pout }
noncomputable def q : FuncId → Bool := fun f => hasId [16, 94] f
theorem seg0 (Gimpl_NamesValid : impl_NamesValid.PI → Option impl_NamesValid.PO) (Gimpl_SystemValid : impl_SystemValid.PI → Option impl_SystemValid.PO) (Gslices_ContainsFunc_of_2 : slices_ContainsFunc_of_2.PI → Option slices_ContainsFunc_of_2.PO) (x0 : (List (List UInt8)) × ((List (Int × Int × Int)) × List ((List (Int × Int × Int × Int)) × (List Int) × List (List (Int × Int × Int × Int)))) × List (List (Int × Int × Int × Int))) : arun (pg Gimpl_NamesValid Gimpl_SystemValid Gslices_ContainsFunc_of_2) 5000 [.code c0] (mk pin (x0, ())) = F0 Gimpl_NamesValid Gimpl_SystemValid Gslices_ContainsFunc_of_2 x0 := by kernel_rfl
noncomputable def impl : PI → Option PO := fun x => F0 impl_NamesValid.impl impl_SystemValid.impl slices_ContainsFunc_of_2.impl x.1
theorem impl_eq (x0 : (List (List UInt8)) × ((List (Int × Int × Int)) × List ((List (Int × Int × Int × Int)) × (List Int) × List (List (Int × Int × Int × Int)))) × List (List (Int × Int × Int × Int))) : impl (x0, ()) = F0 impl_NamesValid.impl impl_SystemValid.impl slices_ContainsFunc_of_2.impl x0 := rfl
theorem con : Con Tryz.prog 43 1 rs.length 1 pin pout impl := by
  refine con_of_run' (nt := 34) (c := c0) tabGood Tryz.func43 (by kernel_rfl) (by kernel_rfl) (by kernel_rfl) (by kernel_rfl) (by kernel_rfl) (by kernel_rfl) (by kernel_rfl) ?_
  intro w0 O y hnp
  generalize hPost : (fun (a' : Act) (w' : World) => ∃ μ' S' st', Rel 34 w0 O μ' S' st' a' w' ∧ endOf (tabOf tab) rs 1 pout st' = some y) = Post
  have fin : ∀ (μ : Id → Option Value) (S : Nat → Prop) (st : St) (a : Act) (w : World), Rel 34 w0 O μ S st a w → endOf (tabOf tab) rs 1 pout st = some y → Post a w := fun μ S st a w h he => by rw [← hPost]; exact ⟨μ, S, st, h, he⟩
  have hp : Parts Tryz.prog 43 (pg impl_NamesValid.impl impl_SystemValid.impl slices_ContainsFunc_of_2.impl) [] := ⟨tab_ok tabGood rfl, (handAt_ok slices_ContainsFunc_of_2.con (handAt_ok impl_SystemValid.con (handAt_ok impl_NamesValid.con handNil_ok))), rfl⟩
  exact good_first (hp) (runOK_of (hp) hnp trivial fin) (fun x => (seg0 impl_NamesValid.impl impl_SystemValid.impl slices_ContainsFunc_of_2.impl x.1))
end impl_ModelValid

/-! ### loop.example/wholecheck/impl.TermsValid -/
namespace impl_TermsValid
noncomputable abbrev c0 : Code := (Tryz.f23.body).getD .skip
noncomputable abbrev pin : Tpl := ⟨[⟨0, false, [.d (.sl (.prod (.int .i64) (.prod (.int .i64) (.prod (.int .i64) (.last (.int .i64))))))]⟩, ⟨1, false, [.d (.int .i64)]⟩], []⟩
noncomputable abbrev pout : Tpl := ⟨[⟨0, false, [.d .bool]⟩], []⟩
noncomputable abbrev PI := (List (Int × Int × Int × Int)) × Int × Unit
noncomputable abbrev PO := Bool × Unit
noncomputable abbrev rs : List ResultVar := [.tmp 4]
noncomputable def F0 (Gimpl_kindsOf : impl_kindsOf.PI → Option impl_kindsOf.PO) (x0 : List (Int × Int × Int × Int)) (x1 : Int) : Option PO :=
  Option.bind (Gimpl_kindsOf (x0, x1, ())) fun y0 =>
  some (!y0.1.isEmpty, ())
noncomputable def hd {R : Type} (Gimpl_kindsOf : impl_kindsOf.PI → Option impl_kindsOf.PO) : Hand R := (handAt 72 [7] true ⟨2, 1, 2, impl_kindsOf.pin, impl_kindsOf.pout, Gimpl_kindsOf⟩ handNil)
noncomputable def pg (Gimpl_kindsOf : impl_kindsOf.PI → Option impl_kindsOf.PO) : Prog PO := { nt := 9, np := 2, tb := tabOf tab, hd := hd Gimpl_kindsOf, cuts := cutsOf [], fin := endOf (tabOf tab) rs 2 pout }
noncomputable def q : FuncId → Bool := fun f => hasId [] f
theorem seg0 (Gimpl_kindsOf : impl_kindsOf.PI → Option impl_kindsOf.PO) (x0 : List (Int × Int × Int × Int)) (x1 : Int) : arun (pg Gimpl_kindsOf) 5000 [.code c0] (mk pin (x0, x1, ())) = F0 Gimpl_kindsOf x0 x1 := by kernel_rfl
noncomputable def impl : PI → Option PO := fun x => F0 impl_kindsOf.impl x.1 x.2.1
theorem impl_eq (x0 : List (Int × Int × Int × Int)) (x1 : Int) : impl (x0, x1, ()) = F0 impl_kindsOf.impl x0 x1 := rfl
theorem con : Con Tryz.prog 23 2 rs.length 2 pin pout impl := by
  refine con_of_run' (nt := 9) (c := c0) tabGood Tryz.func23 (by kernel_rfl) (by kernel_rfl) (by kernel_rfl) (by kernel_rfl) (by kernel_rfl) (by kernel_rfl) (by kernel_rfl) ?_
  intro w0 O y hnp
  generalize hPost : (fun (a' : Act) (w' : World) => ∃ μ' S' st', Rel 9 w0 O μ' S' st' a' w' ∧ endOf (tabOf tab) rs 2 pout st' = some y) = Post
  have fin : ∀ (μ : Id → Option Value) (S : Nat → Prop) (st : St) (a : Act) (w : World), Rel 9 w0 O μ S st a w → endOf (tabOf tab) rs 2 pout st = some y → Post a w := fun μ S st a w h he => by rw [← hPost]; exact ⟨μ, S, st, h, he⟩
  have hp : Parts Tryz.prog 23 (pg impl_kindsOf.impl) [] := ⟨tab_ok tabGood rfl, (handAt_ok impl_kindsOf.con handNil_ok), rfl⟩
  exact good_first (hp) (runOK_of (hp) hnp trivial fin) (fun x => (seg0 impl_kindsOf.impl x.1 x.2.1))
end impl_TermsValid

/-! ### loop.example/wholecheck/impl.WriteExpr -/
namespace impl_WriteExpr
noncomputable abbrev c0 : Code := (Tryz.f14.body).getD .skip
noncomputable abbrev pin : Tpl := ⟨[⟨0, false, [.d (.sl .str)]⟩, ⟨1, false, [.d (.sl (.prod (.int .i64) (.prod (.int .i64) (.prod (.int .i64) (.last (.int .i64))))))]⟩], []⟩
noncomputable abbrev pout : Tpl := ⟨[⟨0, false, [.d .str]⟩], []⟩
noncomputable abbrev p3 : Tpl := ⟨[⟨0, false, [.d (.sl .str)]⟩, ⟨1, false, [.d (.sl (.prod (.int .i64) (.prod (.int .i64) (.prod (.int .i64) (.last (.int .i64))))))]⟩], []⟩
noncomputable def T3 : List Item := (find 3 c0 []).getD []
noncomputable abbrev p5 : Tpl := ⟨[⟨0, false, [.d (.sl .str)]⟩, ⟨5, false, [.row 3000000]⟩, ⟨21, false, [.d (.sl (.prod (.int .i64) (.prod (.int .i64) (.prod (.int .i64) (.last (.int .i64))))))]⟩, ⟨22, false, [.d (.int .i64)]⟩, ⟨23, false, [.d (.int .i64)]⟩], [(3000000, .row 9 false .str)]⟩
noncomputable def T5 : List Item := (find 5 c0 []).getD []
noncomputable abbrev p8 : Tpl := ⟨[⟨0, false, [.d (.sl .str)]⟩, ⟨5, false, [.row 3000000]⟩, ⟨6, false, [.d (.int .i64)]⟩, ⟨7, false, [.ptr 3000001 0]⟩, ⟨21, false, [.d (.sl (.prod (.int .i64) (.prod (.int .i64) (.prod (.int .i64) (.last (.int .i64))))))]⟩, ⟨22, false, [.d (.int .i64)]⟩, ⟨23, false, [.d (.int .i64)]⟩], [(3000000, .row 9 false .str), (3000001, .box [.d (.int .i64), .d (.int .i64), .d (.int .i64), .d (.int .i64)])]⟩
noncomputable def T8 : List Item := (find 8 c0 []).getD []
noncomputable abbrev PI := (List (List UInt8)) × (List (Int × Int × Int × Int)) × Unit
noncomputable abbrev PO := (List UInt8) × Unit
noncomputable abbrev P3 := (List (List UInt8)) × (List (Int × Int × Int × Int)) × Unit
noncomputable abbrev P5 := (List (List UInt8)) × (List (Int × Int × Int × Int)) × Int × Int × (List (List UInt8)) × Unit
noncomputable abbrev P8 := (List (List UInt8)) × Int × (List (Int × Int × Int × Int)) × Int × Int × (List (List UInt8)) × Int × Int × Int × Int × Unit
noncomputable abbrev rs : List ResultVar := [.tmp 4]
noncomputable def F0 (J3 : P3 → Option PO) (Gimpl_NamesValid : impl_NamesValid.PI → Option impl_NamesValid.PO) (Gimpl_TermsValid : impl_TermsValid.PI → Option impl_TermsValid.PO) (x0 : List (List UInt8)) (x1 : List (Int × Int × Int × Int)) : Option PO :=
  Option.bind (Gimpl_NamesValid (x0, ())) fun y0 =>
  bif !y0.1 then
    some ([], ())
  else
    Option.bind (Gimpl_TermsValid (x1, (x0.length : Int), ())) fun y1 =>
    bif !y1.1 then
      some ([], ())
    else
      J3 (x0, x1, ())
noncomputable def F3 (J5 : P5 → Option PO) (t0 : List (List UInt8)) (t1 : List (Int × Int × Int × Int)) : Option PO :=
  bif decide (0 ≤ (t1.length : Int)) && decide ((t1.length : Int) ≤ (t1.length : Int)) && decide ((t1.length : Int) * 16 ≤ 140737488355328) then
    J5 (t0, t1, (t1.length : Int), 0, (List.replicate (t1.length : Int).toNat [] : List (List UInt8)), ())
  else
    none
noncomputable def F5 (J5 : P5 → Option PO) (J8 : P8 → Option PO) (Glib_Itoa : lib_Itoa.PI → Option lib_Itoa.PO) (t0 : List (List UInt8)) (t21 : List (Int × Int × Int × Int)) (t22 : Int) (t23 : Int) (r0 : List (List UInt8)) : Option PO :=
  bif decide (t23 < t22) then
    bif inb t23 t21.length then
      bif (t21.getD t23.toNat (0, 0, 0, 0)).1 == 0 then
        Option.bind (Glib_Itoa ((t21.getD t23.toNat (0, 0, 0, 0)).2.1, ())) fun y2 =>
        bif inb t23 r0.length then
          bif inb t23 (r0.set t23.toNat y2.1).length then
            bif decide ((((r0.set t23.toNat y2.1).getD t23.toNat []).length : Int) > 4000) then
              some ([], ())
            else
              J5 (t0, t21, t22, wI (t23 + 1), r0.set t23.toNat y2.1, ())
          else
            none
        else
          none
      else
        bif (t21.getD t23.toNat (0, 0, 0, 0)).1 == 1 then
          bif inb (t21.getD t23.toNat (0, 0, 0, 0)).2.1 t0.length then
            bif inb t23 r0.length then
              bif inb t23 (r0.set t23.toNat (t0.getD (t21.getD t23.toNat (0, 0, 0, 0)).2.1.toNat [])).length then
                bif decide ((((r0.set t23.toNat (t0.getD (t21.getD t23.toNat (0, 0, 0, 0)).2.1.toNat [])).getD t23.toNat []).length : Int) > 4000) then
                  some ([], ())
                else
                  J5 (t0, t21, t22, wI (t23 + 1), r0.set t23.toNat (t0.getD (t21.getD t23.toNat (0, 0, 0, 0)).2.1.toNat []), ())
              else
                none
            else
              none
          else
            none
        else
          bif (t21.getD t23.toNat (0, 0, 0, 0)).1 == 7 then
            bif inb (t21.getD t23.toNat (0, 0, 0, 0)).2.2.1 r0.length then
              bif decide (([33] : List UInt8).length + (r0.getD (t21.getD t23.toNat (0, 0, 0, 0)).2.2.1.toNat []).length ≤ 140737488355328) then
                bif inb t23 r0.length then
                  bif inb t23 (r0.set t23.toNat (([33] : List UInt8) ++ (r0.getD (t21.getD t23.toNat (0, 0, 0, 0)).2.2.1.toNat []))).length then
                    bif decide ((((r0.set t23.toNat (([33] : List UInt8) ++ (r0.getD (t21.getD t23.toNat (0, 0, 0, 0)).2.2.1.toNat []))).getD t23.toNat []).length : Int) > 4000) then
                      some ([], ())
                    else
                      J5 (t0, t21, t22, wI (t23 + 1), r0.set t23.toNat (([33] : List UInt8) ++ (r0.getD (t21.getD t23.toNat (0, 0, 0, 0)).2.2.1.toNat [])), ())
                  else
                    none
                else
                  none
              else
                none
            else
              none
          else
            J8 (t0, t23, t21, t22, t23, r0, (t21.getD t23.toNat (0, 0, 0, 0)).1, (t21.getD t23.toNat (0, 0, 0, 0)).2.1, (t21.getD t23.toNat (0, 0, 0, 0)).2.2.1, (t21.getD t23.toNat (0, 0, 0, 0)).2.2.2, ())
    else
      none
  else
    bif inb (wI ((r0.length : Int) - 1)) r0.length then
      some (r0.getD (wI ((r0.length : Int) - 1)).toNat [], ())
    else
      none
noncomputable def F8 (J5 : P5 → Option PO) (t0 : List (List UInt8)) (t6 : Int) (t21 : List (Int × Int × Int × Int)) (t22 : Int) (t23 : Int) (r0 : List (List UInt8)) (b1_0 : Int) (b1_1 : Int) (b1_2 : Int) (b1_3 : Int) : Option PO :=
  bif inb b1_2 r0.length then
    bif decide (0 ≤ b1_0) && decide (b1_0 ≤ wI (b1_0 + 1)) && decide (wI (b1_0 + 1) ≤ (([32, 32, 43, 45, 42, 60, 61, 33, 38, 124] : List UInt8).length : Int)) then
      bif inb b1_3 r0.length then
        bif decide (([40] : List UInt8).length + (r0.getD b1_2.toNat []).length ≤ 140737488355328) then
          bif decide ((([40] : List UInt8) ++ (r0.getD b1_2.toNat [])).length + ([32] : List UInt8).length ≤ 140737488355328) then
            bif decide (((([40] : List UInt8) ++ (r0.getD b1_2.toNat [])) ++ ([32] : List UInt8)).length + ((([32, 32, 43, 45, 42, 60, 61, 33, 38, 124] : List UInt8).take (wI (b1_0 + 1)).toNat).drop b1_0.toNat).length ≤ 140737488355328) then
              bif decide ((((([40] : List UInt8) ++ (r0.getD b1_2.toNat [])) ++ ([32] : List UInt8)) ++ ((([32, 32, 43, 45, 42, 60, 61, 33, 38, 124] : List UInt8).take (wI (b1_0 + 1)).toNat).drop b1_0.toNat)).length + ([32] : List UInt8).length ≤ 140737488355328) then
                bif decide (((((([40] : List UInt8) ++ (r0.getD b1_2.toNat [])) ++ ([32] : List UInt8)) ++ ((([32, 32, 43, 45, 42, 60, 61, 33, 38, 124] : List UInt8).take (wI (b1_0 + 1)).toNat).drop b1_0.toNat)) ++ ([32] : List UInt8)).length + (r0.getD b1_3.toNat []).length ≤ 140737488355328) then
                  bif decide ((((((([40] : List UInt8) ++ (r0.getD b1_2.toNat [])) ++ ([32] : List UInt8)) ++ ((([32, 32, 43, 45, 42, 60, 61, 33, 38, 124] : List UInt8).take (wI (b1_0 + 1)).toNat).drop b1_0.toNat)) ++ ([32] : List UInt8)) ++ (r0.getD b1_3.toNat [])).length + ([41] : List UInt8).length ≤ 140737488355328) then
                    bif inb t6 r0.length then
                      bif inb t6 (r0.set t6.toNat ((((((([40] : List UInt8) ++ (r0.getD b1_2.toNat [])) ++ ([32] : List UInt8)) ++ ((([32, 32, 43, 45, 42, 60, 61, 33, 38, 124] : List UInt8).take (wI (b1_0 + 1)).toNat).drop b1_0.toNat)) ++ ([32] : List UInt8)) ++ (r0.getD b1_3.toNat [])) ++ ([41] : List UInt8))).length then
                        bif decide ((((r0.set t6.toNat ((((((([40] : List UInt8) ++ (r0.getD b1_2.toNat [])) ++ ([32] : List UInt8)) ++ ((([32, 32, 43, 45, 42, 60, 61, 33, 38, 124] : List UInt8).take (wI (b1_0 + 1)).toNat).drop b1_0.toNat)) ++ ([32] : List UInt8)) ++ (r0.getD b1_3.toNat [])) ++ ([41] : List UInt8))).getD t6.toNat []).length : Int) > 4000) then
                          some ([], ())
                        else
                          J5 (t0, t21, t22, wI (t23 + 1), r0.set t6.toNat ((((((([40] : List UInt8) ++ (r0.getD b1_2.toNat [])) ++ ([32] : List UInt8)) ++ ((([32, 32, 43, 45, 42, 60, 61, 33, 38, 124] : List UInt8).take (wI (b1_0 + 1)).toNat).drop b1_0.toNat)) ++ ([32] : List UInt8)) ++ (r0.getD b1_3.toNat [])) ++ ([41] : List UInt8)), ())
                      else
                        none
                    else
                      none
                  else
                    none
                else
                  none
              else
                none
            else
              none
          else
            none
        else
          none
      else
        none
    else
      none
  else
    none
noncomputable def hd {R : Type} (Gimpl_NamesValid : impl_NamesValid.PI → Option impl_NamesValid.PO) (Gimpl_TermsValid : impl_TermsValid.PI → Option impl_TermsValid.PO) (Glib_Itoa : lib_Itoa.PI → Option lib_Itoa.PO) : Hand R := (handAt 45 [61] true ⟨1, 1, 0, lib_Itoa.pin, lib_Itoa.pout, Glib_Itoa⟩ (handAt 23 [15] true ⟨2, 1, 2, impl_TermsValid.pin, impl_TermsValid.pout, Gimpl_TermsValid⟩ (handAt 16 [9] true ⟨1, 1, 1, impl_NamesValid.pin, impl_NamesValid.pout, Gimpl_NamesValid⟩ handNil)))
noncomputable def pg (Gimpl_NamesValid : impl_NamesValid.PI → Option impl_NamesValid.PO) (Gimpl_TermsValid : impl_TermsValid.PI → Option impl_TermsValid.PO) (Glib_Itoa : lib_Itoa.PI → Option lib_Itoa.PO) (J3 : List Item → P3 → Option PO) (J5 : List Item → P5 → Option PO) (J8 : List Item → P8 → Option PO) : Prog PO := { nt := 97, np := 2, tb := tabOf tab, hd := hd Gimpl_NamesValid Gimpl_TermsValid Glib_Itoa, cuts := cutsOf [(3, cut p3 J3), (5, cut p5 J5), (8, cut p8 J8)], fin := endOf (tabOf tab) rs 2 pout }
noncomputable def q : FuncId → Bool := fun f => hasId [16, 23, 45] f
theorem seg0 (Gimpl_NamesValid : impl_NamesValid.PI → Option impl_NamesValid.PO) (Gimpl_TermsValid : impl_TermsValid.PI → Option impl_TermsValid.PO) (Glib_Itoa : lib_Itoa.PI → Option lib_Itoa.PO) (J3 : List Item → P3 → Option PO) (J5 : List Item → P5 → Option PO) (J8 : List Item → P8 → Option PO) (x0 : List (List UInt8)) (x1 : List (Int × Int × Int × Int)) : arun (pg Gimpl_NamesValid Gimpl_TermsValid Glib_Itoa J3 J5 J8) 5000 [.code c0] (mk pin (x0, x1, ())) = F0 (J3 T3) Gimpl_NamesValid Gimpl_TermsValid x0 x1 := by kernel_rfl
theorem seg3 (Gimpl_NamesValid : impl_NamesValid.PI → Option impl_NamesValid.PO) (Gimpl_TermsValid : impl_TermsValid.PI → Option impl_TermsValid.PO) (Glib_Itoa : lib_Itoa.PI → Option lib_Itoa.PO) (J3 : List Item → P3 → Option PO) (J5 : List Item → P5 → Option PO) (J8 : List Item → P8 → Option PO) (t0 : List (List UInt8)) (t1 : List (Int × Int × Int × Int)) : arun1 (pg Gimpl_NamesValid Gimpl_TermsValid Glib_Itoa J3 J5 J8) 5000 T3 (mk p3 (t0, t1, ())) = F3 (J5 T5) t0 t1 := by kernel_rfl
theorem seg5 (Gimpl_NamesValid : impl_NamesValid.PI → Option impl_NamesValid.PO) (Gimpl_TermsValid : impl_TermsValid.PI → Option impl_TermsValid.PO) (Glib_Itoa : lib_Itoa.PI → Option lib_Itoa.PO) (J3 : List Item → P3 → Option PO) (J5 : List Item → P5 → Option PO) (J8 : List Item → P8 → Option PO) (t0 : List (List UInt8)) (t21 : List (Int × Int × Int × Int)) (t22 : Int) (t23 : Int) (r0 : List (List UInt8)) : arun1 (pg Gimpl_NamesValid Gimpl_TermsValid Glib_Itoa J3 J5 J8) 5000 T5 (mk p5 (t0, t21, t22, t23, r0, ())) = F5 (J5 T5) (J8 T8) Glib_Itoa t0 t21 t22 t23 r0 := by kernel_rfl
theorem seg8 (Gimpl_NamesValid : impl_NamesValid.PI → Option impl_NamesValid.PO) (Gimpl_TermsValid : impl_TermsValid.PI → Option impl_TermsValid.PO) (Glib_Itoa : lib_Itoa.PI → Option lib_Itoa.PO) (J3 : List Item → P3 → Option PO) (J5 : List Item → P5 → Option PO) (J8 : List Item → P8 → Option PO) (t0 : List (List UInt8)) (t6 : Int) (t21 : List (Int × Int × Int × Int)) (t22 : Int) (t23 : Int) (r0 : List (List UInt8)) (b1_0 : Int) (b1_1 : Int) (b1_2 : Int) (b1_3 : Int) : arunQ (pg Gimpl_NamesValid Gimpl_TermsValid Glib_Itoa J3 J5 J8) q [3000000] [6, 21] 5000 T8 (mk p8 (t0, t6, t21, t22, t23, r0, b1_0, b1_1, b1_2, b1_3, ())) = List.replicate (arunQ (pg Gimpl_NamesValid Gimpl_TermsValid Glib_Itoa J3 J5 J8) q [3000000] [6, 21] 5000 T8 (mk p8 (t0, t6, t21, t22, t23, r0, b1_0, b1_1, b1_2, b1_3, ()))).length (F8 (J5 T5) t0 t6 t21 t22 t23 r0 b1_0 b1_1 b1_2 b1_3) := by kernel_rfl
noncomputable def L8 (J5 : P5 → Option PO) : P8 → Option PO := fun x => F8 J5 x.1 x.2.1 x.2.2.1 x.2.2.2.1 x.2.2.2.2.1 x.2.2.2.2.2.1 x.2.2.2.2.2.2.1 x.2.2.2.2.2.2.2.1 x.2.2.2.2.2.2.2.2.1 x.2.2.2.2.2.2.2.2.2.1
noncomputable def L5 : P5 → Option PO := lfp fun J5 x => F5 J5 (L8 J5) lib_Itoa.impl x.1 x.2.1 x.2.2.1 x.2.2.2.1 x.2.2.2.2.1
noncomputable def L3 : P3 → Option PO := fun x => F3 L5 x.1 x.2.1
noncomputable def impl : PI → Option PO := fun x => F0 L3 impl_NamesValid.impl impl_TermsValid.impl x.1 x.2.1
theorem F8_le {J5 J5' : P5 → Option PO} (h5 : OLe J5 J5') (t0 : List (List UInt8)) (t6 : Int) (t21 : List (Int × Int × Int × Int)) (t22 : Int) (t23 : Int) (r0 : List (List UInt8)) (b1_0 : Int) (b1_1 : Int) (b1_2 : Int) (b1_3 : Int) : OptLe (F8 J5 t0 t6 t21 t22 t23 r0 b1_0 b1_1 b1_2 b1_3) (F8 J5' t0 t6 t21 t22 t23 r0 b1_0 b1_1 b1_2 b1_3) := by unfold F8; exact .cond (.cond (.cond (.cond (.cond (.cond (.cond (.cond (.cond (.cond (.cond (.cond (.refl _) (.of h5 _)) (.refl _)) (.refl _)) (.refl _)) (.refl _)) (.refl _)) (.refl _)) (.refl _)) (.refl _)) (.refl _)) (.refl _)) (.refl _)
theorem F5_le {J5 J5' : P5 → Option PO} (h5 : OLe J5 J5') {J8 J8' : P8 → Option PO} (h8 : OLe J8 J8') {Glib_Itoa : lib_Itoa.PI → Option lib_Itoa.PO} (t0 : List (List UInt8)) (t21 : List (Int × Int × Int × Int)) (t22 : Int) (t23 : Int) (r0 : List (List UInt8)) : OptLe (F5 J5 J8 Glib_Itoa t0 t21 t22 t23 r0) (F5 J5' J8' Glib_Itoa t0 t21 t22 t23 r0) := by unfold F5; exact .cond (.cond (.cond (.bind (.refl _) fun _ => .cond (.cond (.cond (.refl _) (.of h5 _)) (.refl _)) (.refl _)) (.cond (.cond (.cond (.cond (.cond (.refl _) (.of h5 _)) (.refl _)) (.refl _)) (.refl _)) (.cond (.cond (.cond (.cond (.cond (.cond (.refl _) (.of h5 _)) (.refl _)) (.refl _)) (.refl _)) (.refl _)) (.of h8 _)))) (.refl _)) (.refl _)
theorem L8_eq (J5 : P5 → Option PO) (t0 : List (List UInt8)) (t6 : Int) (t21 : List (Int × Int × Int × Int)) (t22 : Int) (t23 : Int) (r0 : List (List UInt8)) (b1_0 : Int) (b1_1 : Int) (b1_2 : Int) (b1_3 : Int) : L8 J5 (t0, t6, t21, t22, t23, r0, b1_0, b1_1, b1_2, b1_3, ()) = F8 J5 t0 t6 t21 t22 t23 r0 b1_0 b1_1 b1_2 b1_3 := rfl
theorem L8_le {J5 J5' : P5 → Option PO} (h5 : OLe J5 J5') : OLe (L8 J5) (L8 J5') := fun x => F8_le h5 x.1 x.2.1 x.2.2.1 x.2.2.2.1 x.2.2.2.2.1 x.2.2.2.2.2.1 x.2.2.2.2.2.2.1 x.2.2.2.2.2.2.2.1 x.2.2.2.2.2.2.2.2.1 x.2.2.2.2.2.2.2.2.2.1
theorem L5_mono : OMono fun J5 (x : P5) => F5 J5 (L8 J5) lib_Itoa.impl x.1 x.2.1 x.2.2.1 x.2.2.2.1 x.2.2.2.2.1 := fun J J' h5 x => F5_le h5 (L8_le h5) x.1 x.2.1 x.2.2.1 x.2.2.2.1 x.2.2.2.2.1
theorem L5_eq (t0 : List (List UInt8)) (t21 : List (Int × Int × Int × Int)) (t22 : Int) (t23 : Int) (r0 : List (List UInt8)) : L5 (t0, t21, t22, t23, r0, ()) = F5 (L5) (L8 (L5)) lib_Itoa.impl t0 t21 t22 t23 r0 := congrFun (lfp_eq (L5_mono)) _
theorem L3_eq (t0 : List (List UInt8)) (t1 : List (Int × Int × Int × Int)) : L3 (t0, t1, ()) = F3 (L5) t0 t1 := rfl
theorem impl_eq (x0 : List (List UInt8)) (x1 : List (Int × Int × Int × Int)) : impl (x0, x1, ()) = F0 L3 impl_NamesValid.impl impl_TermsValid.impl x0 x1 := rfl
theorem con : Con Tryz.prog 14 2 rs.length 2 pin pout impl := by
  refine con_of_run' (nt := 97) (c := c0) tabGood Tryz.func14 (by kernel_rfl) (by kernel_rfl) (by kernel_rfl) (by kernel_rfl) (by kernel_rfl) (by kernel_rfl) (by kernel_rfl) ?_
  intro w0 O y hnp
  generalize hPost : (fun (a' : Act) (w' : World) => ∃ μ' S' st', Rel 97 w0 O μ' S' st' a' w' ∧ endOf (tabOf tab) rs 2 pout st' = some y) = Post
  have fin : ∀ (μ : Id → Option Value) (S : Nat → Prop) (st : St) (a : Act) (w : World), Rel 97 w0 O μ S st a w → endOf (tabOf tab) rs 2 pout st = some y → Post a w := fun μ S st a w h he => by rw [← hPost]; exact ⟨μ, S, st, h, he⟩
  have hp : ∀ (J3 : List Item → P3 → Option PO), ∀ (J5 : List Item → P5 → Option PO), ∀ (J8 : List Item → P8 → Option PO), Parts Tryz.prog 14 (pg impl_NamesValid.impl impl_TermsValid.impl lib_Itoa.impl J3 J5 J8) [(3, cut p3 J3), (5, cut p5 J5), (8, cut p8 J8)] := fun J3 J5 J8 => ⟨tab_ok tabGood rfl, (handAt_ok lib_Itoa.con (handAt_ok impl_TermsValid.con (handAt_ok impl_NamesValid.con handNil_ok))), rfl⟩
  have g8 : ∀ (J5 : P5 → Option PO), Good Tryz.prog 97 w0 O Post y T5 p5 J5 → Good Tryz.prog 97 w0 O Post y T8 p8 (L8 J5) := fun J5 h5 => good_quiet (hs := hd impl_NamesValid.impl impl_TermsValid.impl lib_Itoa.impl) (cv' := hd impl_NamesValid.impl impl_TermsValid.impl lib_Itoa.impl) (Checked.mixed Tryz.checked) (hp (atT T3 (fun _ => none)) (atT T5 J5) (atT T8 (fun _ => none))) (handAt_D lib_Itoa.con (by rfl) rfl (handAt_D impl_TermsValid.con (by rfl) rfl (handAt_D impl_NamesValid.con (by rfl) rfl handNil_D))) (handAt_nat (handAt_nat (handAt_nat handNil_nat))) (handAt_nat (handAt_nat (handAt_nat handNil_nat))) (runOK_of (hp (atT T3 (fun _ => none)) (atT T5 J5) (atT T8 (fun _ => none))) hnp ⟨cutOK_at (p := p3) (T := T3) (J := fun _ => none) good_none, cutOK_at h5, cutOK_at (p := p8) (T := T8) (J := fun _ => none) good_none, trivial⟩ fin) (fun x => all_same ⟨_, (seg8 impl_NamesValid.impl impl_TermsValid.impl lib_Itoa.impl (atT T3 (fun _ => none)) (atT T5 J5) (atT T8 (fun _ => none)) x.1 x.2.1 x.2.2.1 x.2.2.2.1 x.2.2.2.2.1 x.2.2.2.2.2.1 x.2.2.2.2.2.2.1 x.2.2.2.2.2.2.2.1 x.2.2.2.2.2.2.2.2.1 x.2.2.2.2.2.2.2.2.2.1).trans (by simp only [atT_self] <;> rfl)⟩)
  have g5 : Good Tryz.prog 97 w0 O Post y T5 p5 L5 := good_lfp fun J5 h5 => good_part (hp (atT T3 (fun _ => none)) (atT T5 J5) (atT T8 (L8 J5))) (runOK_of (hp (atT T3 (fun _ => none)) (atT T5 J5) (atT T8 (L8 J5))) hnp ⟨cutOK_at (p := p3) (T := T3) (J := fun _ => none) good_none, cutOK_at h5, cutOK_at (g8 J5 h5), trivial⟩ fin) (fun x => (seg5 impl_NamesValid.impl impl_TermsValid.impl lib_Itoa.impl (atT T3 (fun _ => none)) (atT T5 J5) (atT T8 (L8 J5)) x.1 x.2.1 x.2.2.1 x.2.2.2.1 x.2.2.2.2.1).trans (by simp only [atT_self] <;> rfl))
  have g3 : Good Tryz.prog 97 w0 O Post y T3 p3 L3 := good_part (hp (atT T3 (fun _ => none)) (atT T5 L5) (atT T8 (fun _ => none))) (runOK_of (hp (atT T3 (fun _ => none)) (atT T5 L5) (atT T8 (fun _ => none))) hnp ⟨cutOK_at (p := p3) (T := T3) (J := fun _ => none) good_none, cutOK_at g5, cutOK_at (p := p8) (T := T8) (J := fun _ => none) good_none, trivial⟩ fin) (fun x => (seg3 impl_NamesValid.impl impl_TermsValid.impl lib_Itoa.impl (atT T3 (fun _ => none)) (atT T5 L5) (atT T8 (fun _ => none)) x.1 x.2.1).trans (by simp only [atT_self] <;> rfl))
  exact good_first (hp (atT T3 L3) (atT T5 (fun _ => none)) (atT T8 (fun _ => none))) (runOK_of (hp (atT T3 L3) (atT T5 (fun _ => none)) (atT T8 (fun _ => none))) hnp ⟨cutOK_at g3, cutOK_at (p := p5) (T := T5) (J := fun _ => none) good_none, cutOK_at (p := p8) (T := T8) (J := fun _ => none) good_none, trivial⟩ fin) (fun x => (seg0 impl_NamesValid.impl impl_TermsValid.impl lib_Itoa.impl (atT T3 L3) (atT T5 (fun _ => none)) (atT T8 (fun _ => none)) x.1 x.2.1).trans (by simp only [atT_self] <;> rfl))
end impl_WriteExpr

/-! ### loop.example/wholecheck/impl.WriteModel -/
namespace impl_WriteModel
noncomputable abbrev c0 : Code := (Tryz.f11.body).getD .skip
noncomputable abbrev pin : Tpl := ⟨[⟨0, true, [.d (.prod (.sl .str) (.prod (.prod (.sl (.prod (.int .i64) (.prod (.int .i64) (.last (.int .i64))))) (.last (.sl (.prod (.sl (.prod (.int .i64) (.prod (.int .i64) (.prod (.int .i64) (.last (.int .i64)))))) (.prod (.sl (.int .i64)) (.last (.sl (.sl (.prod (.int .i64) (.prod (.int .i64) (.prod (.int .i64) (.last (.int .i64))))))))))))) (.last (.sl (.sl (.prod (.int .i64) (.prod (.int .i64) (.prod (.int .i64) (.last (.int .i64))))))))))]⟩], []⟩
noncomputable abbrev pout : Tpl := ⟨[⟨0, false, [.d .str]⟩], []⟩
noncomputable abbrev p5 : Tpl := ⟨[⟨1, false, [.ptr 3000000 0]⟩, ⟨3, false, [.ptr 3000001 0]⟩, ⟨17, false, [.d (.sl (.prod (.int .i64) (.prod (.int .i64) (.last (.int .i64)))))]⟩, ⟨18, false, [.d (.int .i64)]⟩, ⟨19, false, [.d (.int .i64)]⟩], [(3000000, .box [.d (.sl .str), .d (.sl (.prod (.int .i64) (.prod (.int .i64) (.last (.int .i64))))), .d (.sl (.prod (.sl (.prod (.int .i64) (.prod (.int .i64) (.prod (.int .i64) (.last (.int .i64)))))) (.prod (.sl (.int .i64)) (.last (.sl (.sl (.prod (.int .i64) (.prod (.int .i64) (.prod (.int .i64) (.last (.int .i64))))))))))), .d (.sl (.sl (.prod (.int .i64) (.prod (.int .i64) (.prod (.int .i64) (.last (.int .i64)))))))]), (3000001, .bld 84 3000002), (3000002, .buf 5)]⟩
noncomputable def T5 : List Item := (find 5 c0 []).getD []
noncomputable abbrev p7 : Tpl := ⟨[⟨1, false, [.ptr 3000000 0]⟩, ⟨3, false, [.ptr 3000001 0]⟩, ⟨4, false, [.d (.int .i64)]⟩, ⟨5, false, [.ptr 3000002 0]⟩, ⟨17, false, [.d (.sl (.prod (.int .i64) (.prod (.int .i64) (.last (.int .i64)))))]⟩, ⟨18, false, [.d (.int .i64)]⟩, ⟨19, false, [.d (.int .i64)]⟩], [(3000000, .box [.d (.sl .str), .d (.sl (.prod (.int .i64) (.prod (.int .i64) (.last (.int .i64))))), .d (.sl (.prod (.sl (.prod (.int .i64) (.prod (.int .i64) (.prod (.int .i64) (.last (.int .i64)))))) (.prod (.sl (.int .i64)) (.last (.sl (.sl (.prod (.int .i64) (.prod (.int .i64) (.prod (.int .i64) (.last (.int .i64))))))))))), .d (.sl (.sl (.prod (.int .i64) (.prod (.int .i64) (.prod (.int .i64) (.last (.int .i64)))))))]), (3000001, .bld 84 3000003), (3000002, .box [.d (.int .i64), .d (.int .i64), .d (.int .i64)]), (3000003, .buf 5)]⟩
noncomputable def T7 : List Item := (find 7 c0 []).getD []
noncomputable abbrev p10 : Tpl := ⟨[⟨1, false, [.ptr 3000000 0]⟩, ⟨3, false, [.ptr 3000001 0]⟩, ⟨50, false, [.d (.sl (.prod (.sl (.prod (.int .i64) (.prod (.int .i64) (.prod (.int .i64) (.last (.int .i64)))))) (.prod (.sl (.int .i64)) (.last (.sl (.sl (.prod (.int .i64) (.prod (.int .i64) (.prod (.int .i64) (.last (.int .i64)))))))))))]⟩, ⟨51, false, [.d (.int .i64)]⟩, ⟨52, false, [.d (.int .i64)]⟩], [(3000000, .box [.d (.sl .str), .d (.sl (.prod (.int .i64) (.prod (.int .i64) (.last (.int .i64))))), .d (.sl (.prod (.sl (.prod (.int .i64) (.prod (.int .i64) (.prod (.int .i64) (.last (.int .i64)))))) (.prod (.sl (.int .i64)) (.last (.sl (.sl (.prod (.int .i64) (.prod (.int .i64) (.prod (.int .i64) (.last (.int .i64))))))))))), .d (.sl (.sl (.prod (.int .i64) (.prod (.int .i64) (.prod (.int .i64) (.last (.int .i64)))))))]), (3000001, .bld 84 3000002), (3000002, .buf 5)]⟩
noncomputable def T10 : List Item := (find 10 c0 []).getD []
noncomputable abbrev p14 : Tpl := ⟨[⟨1, false, [.ptr 3000000 0]⟩, ⟨3, false, [.ptr 3000001 0]⟩, ⟨7, false, [.ptr 3000002 0]⟩, ⟨50, false, [.d (.sl (.prod (.sl (.prod (.int .i64) (.prod (.int .i64) (.prod (.int .i64) (.last (.int .i64)))))) (.prod (.sl (.int .i64)) (.last (.sl (.sl (.prod (.int .i64) (.prod (.int .i64) (.prod (.int .i64) (.last (.int .i64)))))))))))]⟩, ⟨51, false, [.d (.int .i64)]⟩, ⟨52, false, [.d (.int .i64)]⟩, ⟨64, false, [.d (.sl (.int .i64))]⟩, ⟨65, false, [.d (.int .i64)]⟩, ⟨66, false, [.d (.int .i64)]⟩], [(3000000, .box [.d (.sl .str), .d (.sl (.prod (.int .i64) (.prod (.int .i64) (.last (.int .i64))))), .d (.sl (.prod (.sl (.prod (.int .i64) (.prod (.int .i64) (.prod (.int .i64) (.last (.int .i64)))))) (.prod (.sl (.int .i64)) (.last (.sl (.sl (.prod (.int .i64) (.prod (.int .i64) (.prod (.int .i64) (.last (.int .i64))))))))))), .d (.sl (.sl (.prod (.int .i64) (.prod (.int .i64) (.prod (.int .i64) (.last (.int .i64)))))))]), (3000001, .bld 84 3000003), (3000002, .box [.d (.sl (.prod (.int .i64) (.prod (.int .i64) (.prod (.int .i64) (.last (.int .i64)))))), .d (.sl (.int .i64)), .d (.sl (.sl (.prod (.int .i64) (.prod (.int .i64) (.prod (.int .i64) (.last (.int .i64)))))))]), (3000003, .buf 5)]⟩
noncomputable def T14 : List Item := (find 14 c0 []).getD []
noncomputable abbrev p16 : Tpl := ⟨[⟨1, false, [.ptr 3000000 0]⟩, ⟨3, false, [.ptr 3000001 0]⟩, ⟨7, false, [.ptr 3000002 0]⟩, ⟨8, false, [.d (.int .i64)]⟩, ⟨9, false, [.d (.int .i64)]⟩, ⟨50, false, [.d (.sl (.prod (.sl (.prod (.int .i64) (.prod (.int .i64) (.prod (.int .i64) (.last (.int .i64)))))) (.prod (.sl (.int .i64)) (.last (.sl (.sl (.prod (.int .i64) (.prod (.int .i64) (.prod (.int .i64) (.last (.int .i64)))))))))))]⟩, ⟨51, false, [.d (.int .i64)]⟩, ⟨52, false, [.d (.int .i64)]⟩, ⟨64, false, [.d (.sl (.int .i64))]⟩, ⟨65, false, [.d (.int .i64)]⟩, ⟨66, false, [.d (.int .i64)]⟩], [(3000000, .box [.d (.sl .str), .d (.sl (.prod (.int .i64) (.prod (.int .i64) (.last (.int .i64))))), .d (.sl (.prod (.sl (.prod (.int .i64) (.prod (.int .i64) (.prod (.int .i64) (.last (.int .i64)))))) (.prod (.sl (.int .i64)) (.last (.sl (.sl (.prod (.int .i64) (.prod (.int .i64) (.prod (.int .i64) (.last (.int .i64))))))))))), .d (.sl (.sl (.prod (.int .i64) (.prod (.int .i64) (.prod (.int .i64) (.last (.int .i64)))))))]), (3000001, .bld 84 3000003), (3000002, .box [.d (.sl (.prod (.int .i64) (.prod (.int .i64) (.prod (.int .i64) (.last (.int .i64)))))), .d (.sl (.int .i64)), .d (.sl (.sl (.prod (.int .i64) (.prod (.int .i64) (.prod (.int .i64) (.last (.int .i64)))))))]), (3000003, .buf 5)]⟩
noncomputable def T16 : List Item := (find 16 c0 []).getD []
noncomputable abbrev p21 : Tpl := ⟨[⟨1, false, [.ptr 3000000 0]⟩, ⟨3, false, [.ptr 3000001 0]⟩, ⟨92, false, [.d (.sl (.sl (.prod (.int .i64) (.prod (.int .i64) (.prod (.int .i64) (.last (.int .i64)))))))]⟩, ⟨93, false, [.d (.int .i64)]⟩, ⟨94, false, [.d (.int .i64)]⟩], [(3000000, .box [.d (.sl .str), .d (.sl (.prod (.int .i64) (.prod (.int .i64) (.last (.int .i64))))), .d (.sl (.prod (.sl (.prod (.int .i64) (.prod (.int .i64) (.prod (.int .i64) (.last (.int .i64)))))) (.prod (.sl (.int .i64)) (.last (.sl (.sl (.prod (.int .i64) (.prod (.int .i64) (.prod (.int .i64) (.last (.int .i64))))))))))), .d (.sl (.sl (.prod (.int .i64) (.prod (.int .i64) (.prod (.int .i64) (.last (.int .i64)))))))]), (3000001, .bld 84 3000002), (3000002, .buf 5)]⟩
noncomputable def T21 : List Item := (find 21 c0 []).getD []
noncomputable abbrev PI := ((List (List UInt8)) × ((List (Int × Int × Int)) × List ((List (Int × Int × Int × Int)) × (List Int) × List (List (Int × Int × Int × Int)))) × List (List (Int × Int × Int × Int))) × Unit
noncomputable abbrev PO := (List UInt8) × Unit
noncomputable abbrev P5 := (List (Int × Int × Int)) × Int × Int × (List (List UInt8)) × (List (Int × Int × Int)) × (List ((List (Int × Int × Int × Int)) × (List Int) × List (List (Int × Int × Int × Int)))) × (List (List (Int × Int × Int × Int))) × (List UInt8) × Unit
noncomputable abbrev P7 := Int × (List (Int × Int × Int)) × Int × Int × (List (List UInt8)) × (List (Int × Int × Int)) × (List ((List (Int × Int × Int × Int)) × (List Int) × List (List (Int × Int × Int × Int)))) × (List (List (Int × Int × Int × Int))) × Int × Int × Int × (List UInt8) × Unit
noncomputable abbrev P10 := (List ((List (Int × Int × Int × Int)) × (List Int) × List (List (Int × Int × Int × Int)))) × Int × Int × (List (List UInt8)) × (List (Int × Int × Int)) × (List ((List (Int × Int × Int × Int)) × (List Int) × List (List (Int × Int × Int × Int)))) × (List (List (Int × Int × Int × Int))) × (List UInt8) × Unit
noncomputable abbrev P14 := (List ((List (Int × Int × Int × Int)) × (List Int) × List (List (Int × Int × Int × Int)))) × Int × Int × (List Int) × Int × Int × (List (List UInt8)) × (List (Int × Int × Int)) × (List ((List (Int × Int × Int × Int)) × (List Int) × List (List (Int × Int × Int × Int)))) × (List (List (Int × Int × Int × Int))) × (List (Int × Int × Int × Int)) × (List Int) × (List (List (Int × Int × Int × Int))) × (List UInt8) × Unit
noncomputable abbrev P16 := Int × Int × (List ((List (Int × Int × Int × Int)) × (List Int) × List (List (Int × Int × Int × Int)))) × Int × Int × (List Int) × Int × Int × (List (List UInt8)) × (List (Int × Int × Int)) × (List ((List (Int × Int × Int × Int)) × (List Int) × List (List (Int × Int × Int × Int)))) × (List (List (Int × Int × Int × Int))) × (List (Int × Int × Int × Int)) × (List Int) × (List (List (Int × Int × Int × Int))) × (List UInt8) × Unit
noncomputable abbrev P21 := (List (List (Int × Int × Int × Int))) × Int × Int × (List (List UInt8)) × (List (Int × Int × Int)) × (List ((List (Int × Int × Int × Int)) × (List Int) × List (List (Int × Int × Int × Int)))) × (List (List (Int × Int × Int × Int))) × (List UInt8) × Unit
noncomputable abbrev rs : List ResultVar := [.tmp 2]
noncomputable def F0 (J5 : P5 → Option PO) (Gimpl_ModelValid : impl_ModelValid.PI → Option impl_ModelValid.PO) (x0 : (List (List UInt8)) × ((List (Int × Int × Int)) × List ((List (Int × Int × Int × Int)) × (List Int) × List (List (Int × Int × Int × Int)))) × List (List (Int × Int × Int × Int))) : Option PO :=
  Option.bind (Gimpl_ModelValid (x0, ())) fun y0 =>
  bif !y0.1 then
    some ([], ())
  else
    J5 (x0.2.1.1, (x0.2.1.1.length : Int), 0, x0.1, x0.2.1.1, x0.2.1.2, x0.2.2, ([] : List UInt8), ())
noncomputable def F5 (J7 : P7 → Option PO) (J10 : P10 → Option PO) (t17 : List (Int × Int × Int)) (t18 : Int) (t19 : Int) (b0_0 : List (List UInt8)) (b0_1 : List (Int × Int × Int)) (b0_2 : List ((List (Int × Int × Int × Int)) × (List Int) × List (List (Int × Int × Int × Int)))) (b0_3 : List (List (Int × Int × Int × Int))) (r2 : List UInt8) : Option PO :=
  bif decide (t19 < t18) then
    bif inb t19 t17.length then
      J7 (t19, t17, t18, t19, b0_0, b0_1, b0_2, b0_3, (t17.getD t19.toNat (0, 0, 0)).1, (t17.getD t19.toNat (0, 0, 0)).2.1, (t17.getD t19.toNat (0, 0, 0)).2.2, r2, ())
    else
      none
  else
    J10 (b0_2, (b0_2.length : Int), 0, b0_0, b0_1, b0_2, b0_3, r2, ())
noncomputable def F7 (J5 : P5 → Option PO) (Glib_Itoa : lib_Itoa.PI → Option lib_Itoa.PO) (t4 : Int) (t17 : List (Int × Int × Int)) (t18 : Int) (t19 : Int) (b0_0 : List (List UInt8)) (b0_1 : List (Int × Int × Int)) (b0_2 : List ((List (Int × Int × Int × Int)) × (List Int) × List (List (Int × Int × Int × Int)))) (b0_3 : List (List (Int × Int × Int × Int))) (b2_0 : Int) (b2_1 : Int) (b2_2 : Int) (r3 : List UInt8) : Option PO :=
  bif inb t4 b0_0.length then
    bif decide (([118, 97, 114, 32] : List UInt8).length + (b0_0.getD t4.toNat []).length ≤ 140737488355328) then
      bif decide ((([118, 97, 114, 32] : List UInt8) ++ (b0_0.getD t4.toNat [])).length + ([32] : List UInt8).length ≤ 140737488355328) then
        Option.bind (Glib_Itoa (b2_0, ())) fun y1 =>
        bif decide (((([118, 97, 114, 32] : List UInt8) ++ (b0_0.getD t4.toNat [])) ++ ([32] : List UInt8)).length + y1.1.length ≤ 140737488355328) then
          bif decide ((((([118, 97, 114, 32] : List UInt8) ++ (b0_0.getD t4.toNat [])) ++ ([32] : List UInt8)) ++ y1.1).length + ([32] : List UInt8).length ≤ 140737488355328) then
            Option.bind (Glib_Itoa (b2_1, ())) fun y2 =>
            bif decide (((((([118, 97, 114, 32] : List UInt8) ++ (b0_0.getD t4.toNat [])) ++ ([32] : List UInt8)) ++ y1.1) ++ ([32] : List UInt8)).length + y2.1.length ≤ 140737488355328) then
              bif decide ((((((([118, 97, 114, 32] : List UInt8) ++ (b0_0.getD t4.toNat [])) ++ ([32] : List UInt8)) ++ y1.1) ++ ([32] : List UInt8)) ++ y2.1).length + ([32] : List UInt8).length ≤ 140737488355328) then
                Option.bind (Glib_Itoa (b2_2, ())) fun y3 =>
                bif decide (((((((([118, 97, 114, 32] : List UInt8) ++ (b0_0.getD t4.toNat [])) ++ ([32] : List UInt8)) ++ y1.1) ++ ([32] : List UInt8)) ++ y2.1) ++ ([32] : List UInt8)).length + y3.1.length ≤ 140737488355328) then
                  bif decide ((((((((([118, 97, 114, 32] : List UInt8) ++ (b0_0.getD t4.toNat [])) ++ ([32] : List UInt8)) ++ y1.1) ++ ([32] : List UInt8)) ++ y2.1) ++ ([32] : List UInt8)) ++ y3.1).length + ([10] : List UInt8).length ≤ 140737488355328) then
                    bif decide (r3.length + ((((((((([118, 97, 114, 32] : List UInt8) ++ (b0_0.getD t4.toNat [])) ++ ([32] : List UInt8)) ++ y1.1) ++ ([32] : List UInt8)) ++ y2.1) ++ ([32] : List UInt8)) ++ y3.1) ++ ([10] : List UInt8)).length ≤ 140737488355328) then
                      J5 (t17, t18, wI (t19 + 1), b0_0, b0_1, b0_2, b0_3, r3 ++ ((((((((([118, 97, 114, 32] : List UInt8) ++ (b0_0.getD t4.toNat [])) ++ ([32] : List UInt8)) ++ y1.1) ++ ([32] : List UInt8)) ++ y2.1) ++ ([32] : List UInt8)) ++ y3.1) ++ ([10] : List UInt8)), ())
                    else
                      none
                  else
                    none
                else
                  none
              else
                none
            else
              none
          else
            none
        else
          none
      else
        none
    else
      none
  else
    none
noncomputable def F10 (J14 : P14 → Option PO) (J21 : P21 → Option PO) (Gimpl_WriteExpr : impl_WriteExpr.PI → Option impl_WriteExpr.PO) (t50 : List ((List (Int × Int × Int × Int)) × (List Int) × List (List (Int × Int × Int × Int)))) (t51 : Int) (t52 : Int) (b0_0 : List (List UInt8)) (b0_1 : List (Int × Int × Int)) (b0_2 : List ((List (Int × Int × Int × Int)) × (List Int) × List (List (Int × Int × Int × Int)))) (b0_3 : List (List (Int × Int × Int × Int))) (r2 : List UInt8) : Option PO :=
  bif decide (t52 < t51) then
    bif inb t52 t50.length then
      Option.bind (Gimpl_WriteExpr (b0_0, (t50.getD t52.toNat ([], [], [])).1, ())) fun y4 =>
      bif decide (([114, 117, 108, 101, 32] : List UInt8).length + y4.1.length ≤ 140737488355328) then
        bif decide (r2.length + (([114, 117, 108, 101, 32] : List UInt8) ++ y4.1).length ≤ 140737488355328) then
          J14 (t50, t51, t52, (t50.getD t52.toNat ([], [], [])).2.1, ((t50.getD t52.toNat ([], [], [])).2.1.length : Int), 0, b0_0, b0_1, b0_2, b0_3, (t50.getD t52.toNat ([], [], [])).1, (t50.getD t52.toNat ([], [], [])).2.1, (t50.getD t52.toNat ([], [], [])).2.2, r2 ++ (([114, 117, 108, 101, 32] : List UInt8) ++ y4.1), ())
        else
          none
      else
        none
    else
      none
  else
    J21 (b0_3, (b0_3.length : Int), 0, b0_0, b0_1, b0_2, b0_3, r2, ())
noncomputable def F14 (J10 : P10 → Option PO) (J16 : P16 → Option PO) (t50 : List ((List (Int × Int × Int × Int)) × (List Int) × List (List (Int × Int × Int × Int)))) (t51 : Int) (t52 : Int) (t64 : List Int) (t65 : Int) (t66 : Int) (b0_0 : List (List UInt8)) (b0_1 : List (Int × Int × Int)) (b0_2 : List ((List (Int × Int × Int × Int)) × (List Int) × List (List (Int × Int × Int × Int)))) (b0_3 : List (List (Int × Int × Int × Int))) (b2_0 : List (Int × Int × Int × Int)) (b2_1 : List Int) (b2_2 : List (List (Int × Int × Int × Int))) (r3 : List UInt8) : Option PO :=
  bif decide (t66 < t65) then
    bif inb t66 t64.length then
      J16 (t66, t64.getD t66.toNat 0, t50, t51, t52, t64, t65, t66, b0_0, b0_1, b0_2, b0_3, b2_0, b2_1, b2_2, r3, ())
    else
      none
  else
    bif decide (r3.length + ([10] : List UInt8).length ≤ 140737488355328) then
      J10 (t50, t51, wI (t52 + 1), b0_0, b0_1, b0_2, b0_3, r3 ++ ([10] : List UInt8), ())
    else
      none
noncomputable def F16 (J14 : P14 → Option PO) (Gimpl_WriteExpr : impl_WriteExpr.PI → Option impl_WriteExpr.PO) (t8 : Int) (t9 : Int) (t50 : List ((List (Int × Int × Int × Int)) × (List Int) × List (List (Int × Int × Int × Int)))) (t51 : Int) (t52 : Int) (t64 : List Int) (t65 : Int) (t66 : Int) (b0_0 : List (List UInt8)) (b0_1 : List (Int × Int × Int)) (b0_2 : List ((List (Int × Int × Int × Int)) × (List Int) × List (List (Int × Int × Int × Int)))) (b0_3 : List (List (Int × Int × Int × Int))) (b2_0 : List (Int × Int × Int × Int)) (b2_1 : List Int) (b2_2 : List (List (Int × Int × Int × Int))) (r3 : List UInt8) : Option PO :=
  bif inb t9 b0_0.length then
    bif decide (([32, 59, 32] : List UInt8).length + (b0_0.getD t9.toNat []).length ≤ 140737488355328) then
      bif decide ((([32, 59, 32] : List UInt8) ++ (b0_0.getD t9.toNat [])).length + ([32, 61, 32] : List UInt8).length ≤ 140737488355328) then
        bif inb t8 b2_2.length then
          Option.bind (Gimpl_WriteExpr (b0_0, b2_2.getD t8.toNat [], ())) fun y5 =>
          bif decide (((([32, 59, 32] : List UInt8) ++ (b0_0.getD t9.toNat [])) ++ ([32, 61, 32] : List UInt8)).length + y5.1.length ≤ 140737488355328) then
            bif decide (r3.length + (((([32, 59, 32] : List UInt8) ++ (b0_0.getD t9.toNat [])) ++ ([32, 61, 32] : List UInt8)) ++ y5.1).length ≤ 140737488355328) then
              J14 (t50, t51, t52, t64, t65, wI (t66 + 1), b0_0, b0_1, b0_2, b0_3, b2_0, b2_1, b2_2, r3 ++ (((([32, 59, 32] : List UInt8) ++ (b0_0.getD t9.toNat [])) ++ ([32, 61, 32] : List UInt8)) ++ y5.1), ())
            else
              none
          else
            none
        else
          none
      else
        none
    else
      none
  else
    none
noncomputable def F21 (J21 : P21 → Option PO) (Gimpl_WriteExpr : impl_WriteExpr.PI → Option impl_WriteExpr.PO) (t92 : List (List (Int × Int × Int × Int))) (t93 : Int) (t94 : Int) (b0_0 : List (List UInt8)) (b0_1 : List (Int × Int × Int)) (b0_2 : List ((List (Int × Int × Int × Int)) × (List Int) × List (List (Int × Int × Int × Int)))) (b0_3 : List (List (Int × Int × Int × Int))) (r2 : List UInt8) : Option PO :=
  bif decide (t94 < t93) then
    bif inb t94 t92.length then
      Option.bind (Gimpl_WriteExpr (b0_0, t92.getD t94.toNat [], ())) fun y6 =>
      bif decide (([103, 111, 97, 108, 32] : List UInt8).length + y6.1.length ≤ 140737488355328) then
        bif decide ((([103, 111, 97, 108, 32] : List UInt8) ++ y6.1).length + ([10] : List UInt8).length ≤ 140737488355328) then
          bif decide (r2.length + ((([103, 111, 97, 108, 32] : List UInt8) ++ y6.1) ++ ([10] : List UInt8)).length ≤ 140737488355328) then
            J21 (t92, t93, wI (t94 + 1), b0_0, b0_1, b0_2, b0_3, r2 ++ ((([103, 111, 97, 108, 32] : List UInt8) ++ y6.1) ++ ([10] : List UInt8)), ())
          else
            none
        else
          none
      else
        none
    else
      none
  else
    bif decide ((r2.length : Int) > 4000) then
      some ([], ())
    else
      some (r2, ())
noncomputable def hd {R : Type} (Gimpl_ModelValid : impl_ModelValid.PI → Option impl_ModelValid.PO) (Gimpl_WriteExpr : impl_WriteExpr.PI → Option impl_WriteExpr.PO) (Glib_Itoa : lib_Itoa.PI → Option lib_Itoa.PO) : Hand R := (bldHd bldW bldL bldS bldT bldE (handAt 45 [33, 38, 43] true ⟨1, 1, 0, lib_Itoa.pin, lib_Itoa.pout, Glib_Itoa⟩ (handAt 43 [13] true ⟨1, 1, 1, impl_ModelValid.pin, impl_ModelValid.pout, Gimpl_ModelValid⟩ (handAt 14 [60, 85, 101] true ⟨2, 1, 2, impl_WriteExpr.pin, impl_WriteExpr.pout, Gimpl_WriteExpr⟩ handNil))))
noncomputable def pg (Gimpl_ModelValid : impl_ModelValid.PI → Option impl_ModelValid.PO) (Gimpl_WriteExpr : impl_WriteExpr.PI → Option impl_WriteExpr.PO) (Glib_Itoa : lib_Itoa.PI → Option lib_Itoa.PO) (J5 : List Item → P5 → Option PO) (J7 : List Item → P7 → Option PO) (J10 : List Item → P10 → Option PO) (J14 : List Item → P14 → Option PO) (J16 : List Item → P16 → Option PO) (J21 : List Item → P21 → Option PO) : Prog PO := { nt := 109, np := 1, tb := tabOf tab, hd := hd Gimpl_ModelValid Gimpl_WriteExpr Glib_Itoa, cuts := cutsOf [(5, cut p5 J5), (7, cut p7 J7), (10, cut p10 J10), (14, cut p14 J14), (16, cut p16 J16), (21, cut p21 J21)], fin := endOf (tabOf tab) rs 1 pout }
noncomputable def q : FuncId → Bool := fun f => hasId [14, 43, 45] f
theorem seg0 (Gimpl_ModelValid : impl_ModelValid.PI → Option impl_ModelValid.PO) (Gimpl_WriteExpr : impl_WriteExpr.PI → Option impl_WriteExpr.PO) (Glib_Itoa : lib_Itoa.PI → Option lib_Itoa.PO) (J5 : List Item → P5 → Option PO) (J7 : List Item → P7 → Option PO) (J10 : List Item → P10 → Option PO) (J14 : List Item → P14 → Option PO) (J16 : List Item → P16 → Option PO) (J21 : List Item → P21 → Option PO) (x0 : (List (List UInt8)) × ((List (Int × Int × Int)) × List ((List (Int × Int × Int × Int)) × (List Int) × List (List (Int × Int × Int × Int)))) × List (List (Int × Int × Int × Int))) : arun (pg Gimpl_ModelValid Gimpl_WriteExpr Glib_Itoa J5 J7 J10 J14 J16 J21) 5000 [.code c0] (mk pin (x0, ())) = F0 (J5 T5) Gimpl_ModelValid x0 := by kernel_rfl
theorem seg5 (Gimpl_ModelValid : impl_ModelValid.PI → Option impl_ModelValid.PO) (Gimpl_WriteExpr : impl_WriteExpr.PI → Option impl_WriteExpr.PO) (Glib_Itoa : lib_Itoa.PI → Option lib_Itoa.PO) (J5 : List Item → P5 → Option PO) (J7 : List Item → P7 → Option PO) (J10 : List Item → P10 → Option PO) (J14 : List Item → P14 → Option PO) (J16 : List Item → P16 → Option PO) (J21 : List Item → P21 → Option PO) (t17 : List (Int × Int × Int)) (t18 : Int) (t19 : Int) (b0_0 : List (List UInt8)) (b0_1 : List (Int × Int × Int)) (b0_2 : List ((List (Int × Int × Int × Int)) × (List Int) × List (List (Int × Int × Int × Int)))) (b0_3 : List (List (Int × Int × Int × Int))) (r2 : List UInt8) : arun1 (pg Gimpl_ModelValid Gimpl_WriteExpr Glib_Itoa J5 J7 J10 J14 J16 J21) 5000 T5 (mk p5 (t17, t18, t19, b0_0, b0_1, b0_2, b0_3, r2, ())) = F5 (J7 T7) (J10 T10) t17 t18 t19 b0_0 b0_1 b0_2 b0_3 r2 := by kernel_rfl
theorem seg7 (Gimpl_ModelValid : impl_ModelValid.PI → Option impl_ModelValid.PO) (Gimpl_WriteExpr : impl_WriteExpr.PI → Option impl_WriteExpr.PO) (Glib_Itoa : lib_Itoa.PI → Option lib_Itoa.PO) (J5 : List Item → P5 → Option PO) (J7 : List Item → P7 → Option PO) (J10 : List Item → P10 → Option PO) (J14 : List Item → P14 → Option PO) (J16 : List Item → P16 → Option PO) (J21 : List Item → P21 → Option PO) (t4 : Int) (t17 : List (Int × Int × Int)) (t18 : Int) (t19 : Int) (b0_0 : List (List UInt8)) (b0_1 : List (Int × Int × Int)) (b0_2 : List ((List (Int × Int × Int × Int)) × (List Int) × List (List (Int × Int × Int × Int)))) (b0_3 : List (List (Int × Int × Int × Int))) (b2_0 : Int) (b2_1 : Int) (b2_2 : Int) (r3 : List UInt8) : arunL (pg Gimpl_ModelValid Gimpl_WriteExpr Glib_Itoa J5 J7 J10 J14 J16 J21) q [] [] 5000 T7 (mk p7 (t4, t17, t18, t19, b0_0, b0_1, b0_2, b0_3, b2_0, b2_1, b2_2, r3, ())) = List.replicate (arunL (pg Gimpl_ModelValid Gimpl_WriteExpr Glib_Itoa J5 J7 J10 J14 J16 J21) q [] [] 5000 T7 (mk p7 (t4, t17, t18, t19, b0_0, b0_1, b0_2, b0_3, b2_0, b2_1, b2_2, r3, ()))).length (F7 (J5 T5) Glib_Itoa t4 t17 t18 t19 b0_0 b0_1 b0_2 b0_3 b2_0 b2_1 b2_2 r3) := by kernel_rfl
theorem seg10 (Gimpl_ModelValid : impl_ModelValid.PI → Option impl_ModelValid.PO) (Gimpl_WriteExpr : impl_WriteExpr.PI → Option impl_WriteExpr.PO) (Glib_Itoa : lib_Itoa.PI → Option lib_Itoa.PO) (J5 : List Item → P5 → Option PO) (J7 : List Item → P7 → Option PO) (J10 : List Item → P10 → Option PO) (J14 : List Item → P14 → Option PO) (J16 : List Item → P16 → Option PO) (J21 : List Item → P21 → Option PO) (t50 : List ((List (Int × Int × Int × Int)) × (List Int) × List (List (Int × Int × Int × Int)))) (t51 : Int) (t52 : Int) (b0_0 : List (List UInt8)) (b0_1 : List (Int × Int × Int)) (b0_2 : List ((List (Int × Int × Int × Int)) × (List Int) × List (List (Int × Int × Int × Int)))) (b0_3 : List (List (Int × Int × Int × Int))) (r2 : List UInt8) : arun1 (pg Gimpl_ModelValid Gimpl_WriteExpr Glib_Itoa J5 J7 J10 J14 J16 J21) 5000 T10 (mk p10 (t50, t51, t52, b0_0, b0_1, b0_2, b0_3, r2, ())) = F10 (J14 T14) (J21 T21) Gimpl_WriteExpr t50 t51 t52 b0_0 b0_1 b0_2 b0_3 r2 := by kernel_rfl
theorem seg14 (Gimpl_ModelValid : impl_ModelValid.PI → Option impl_ModelValid.PO) (Gimpl_WriteExpr : impl_WriteExpr.PI → Option impl_WriteExpr.PO) (Glib_Itoa : lib_Itoa.PI → Option lib_Itoa.PO) (J5 : List Item → P5 → Option PO) (J7 : List Item → P7 → Option PO) (J10 : List Item → P10 → Option PO) (J14 : List Item → P14 → Option PO) (J16 : List Item → P16 → Option PO) (J21 : List Item → P21 → Option PO) (t50 : List ((List (Int × Int × Int × Int)) × (List Int) × List (List (Int × Int × Int × Int)))) (t51 : Int) (t52 : Int) (t64 : List Int) (t65 : Int) (t66 : Int) (b0_0 : List (List UInt8)) (b0_1 : List (Int × Int × Int)) (b0_2 : List ((List (Int × Int × Int × Int)) × (List Int) × List (List (Int × Int × Int × Int)))) (b0_3 : List (List (Int × Int × Int × Int))) (b2_0 : List (Int × Int × Int × Int)) (b2_1 : List Int) (b2_2 : List (List (Int × Int × Int × Int))) (r3 : List UInt8) : arun1 (pg Gimpl_ModelValid Gimpl_WriteExpr Glib_Itoa J5 J7 J10 J14 J16 J21) 5000 T14 (mk p14 (t50, t51, t52, t64, t65, t66, b0_0, b0_1, b0_2, b0_3, b2_0, b2_1, b2_2, r3, ())) = F14 (J10 T10) (J16 T16) t50 t51 t52 t64 t65 t66 b0_0 b0_1 b0_2 b0_3 b2_0 b2_1 b2_2 r3 := by kernel_rfl
theorem seg16 (Gimpl_ModelValid : impl_ModelValid.PI → Option impl_ModelValid.PO) (Gimpl_WriteExpr : impl_WriteExpr.PI → Option impl_WriteExpr.PO) (Glib_Itoa : lib_Itoa.PI → Option lib_Itoa.PO) (J5 : List Item → P5 → Option PO) (J7 : List Item → P7 → Option PO) (J10 : List Item → P10 → Option PO) (J14 : List Item → P14 → Option PO) (J16 : List Item → P16 → Option PO) (J21 : List Item → P21 → Option PO) (t8 : Int) (t9 : Int) (t50 : List ((List (Int × Int × Int × Int)) × (List Int) × List (List (Int × Int × Int × Int)))) (t51 : Int) (t52 : Int) (t64 : List Int) (t65 : Int) (t66 : Int) (b0_0 : List (List UInt8)) (b0_1 : List (Int × Int × Int)) (b0_2 : List ((List (Int × Int × Int × Int)) × (List Int) × List (List (Int × Int × Int × Int)))) (b0_3 : List (List (Int × Int × Int × Int))) (b2_0 : List (Int × Int × Int × Int)) (b2_1 : List Int) (b2_2 : List (List (Int × Int × Int × Int))) (r3 : List UInt8) : arunL (pg Gimpl_ModelValid Gimpl_WriteExpr Glib_Itoa J5 J7 J10 J14 J16 J21) q [] [] 5000 T16 (mk p16 (t8, t9, t50, t51, t52, t64, t65, t66, b0_0, b0_1, b0_2, b0_3, b2_0, b2_1, b2_2, r3, ())) = List.replicate (arunL (pg Gimpl_ModelValid Gimpl_WriteExpr Glib_Itoa J5 J7 J10 J14 J16 J21) q [] [] 5000 T16 (mk p16 (t8, t9, t50, t51, t52, t64, t65, t66, b0_0, b0_1, b0_2, b0_3, b2_0, b2_1, b2_2, r3, ()))).length (F16 (J14 T14) Gimpl_WriteExpr t8 t9 t50 t51 t52 t64 t65 t66 b0_0 b0_1 b0_2 b0_3 b2_0 b2_1 b2_2 r3) := by kernel_rfl
theorem seg21 (Gimpl_ModelValid : impl_ModelValid.PI → Option impl_ModelValid.PO) (Gimpl_WriteExpr : impl_WriteExpr.PI → Option impl_WriteExpr.PO) (Glib_Itoa : lib_Itoa.PI → Option lib_Itoa.PO) (J5 : List Item → P5 → Option PO) (J7 : List Item → P7 → Option PO) (J10 : List Item → P10 → Option PO) (J14 : List Item → P14 → Option PO) (J16 : List Item → P16 → Option PO) (J21 : List Item → P21 → Option PO) (t92 : List (List (Int × Int × Int × Int))) (t93 : Int) (t94 : Int) (b0_0 : List (List UInt8)) (b0_1 : List (Int × Int × Int)) (b0_2 : List ((List (Int × Int × Int × Int)) × (List Int) × List (List (Int × Int × Int × Int)))) (b0_3 : List (List (Int × Int × Int × Int))) (r2 : List UInt8) : arun1 (pg Gimpl_ModelValid Gimpl_WriteExpr Glib_Itoa J5 J7 J10 J14 J16 J21) 5000 T21 (mk p21 (t92, t93, t94, b0_0, b0_1, b0_2, b0_3, r2, ())) = F21 (J21 T21) Gimpl_WriteExpr t92 t93 t94 b0_0 b0_1 b0_2 b0_3 r2 := by kernel_rfl
noncomputable def L21 : P21 → Option PO := lfp fun J21 x => F21 J21 impl_WriteExpr.impl x.1 x.2.1 x.2.2.1 x.2.2.2.1 x.2.2.2.2.1 x.2.2.2.2.2.1 x.2.2.2.2.2.2.1 x.2.2.2.2.2.2.2.1
noncomputable def L16 (J10 : P10 → Option PO) (J14 : P14 → Option PO) : P16 → Option PO := fun x => F16 J14 impl_WriteExpr.impl x.1 x.2.1 x.2.2.1 x.2.2.2.1 x.2.2.2.2.1 x.2.2.2.2.2.1 x.2.2.2.2.2.2.1 x.2.2.2.2.2.2.2.1 x.2.2.2.2.2.2.2.2.1 x.2.2.2.2.2.2.2.2.2.1 x.2.2.2.2.2.2.2.2.2.2.1 x.2.2.2.2.2.2.2.2.2.2.2.1 x.2.2.2.2.2.2.2.2.2.2.2.2.1 x.2.2.2.2.2.2.2.2.2.2.2.2.2.1 x.2.2.2.2.2.2.2.2.2.2.2.2.2.2.1 x.2.2.2.2.2.2.2.2.2.2.2.2.2.2.2.1
noncomputable def L14 (J10 : P10 → Option PO) : P14 → Option PO := lfp fun J14 x => F14 J10 (L16 J10 J14) x.1 x.2.1 x.2.2.1 x.2.2.2.1 x.2.2.2.2.1 x.2.2.2.2.2.1 x.2.2.2.2.2.2.1 x.2.2.2.2.2.2.2.1 x.2.2.2.2.2.2.2.2.1 x.2.2.2.2.2.2.2.2.2.1 x.2.2.2.2.2.2.2.2.2.2.1 x.2.2.2.2.2.2.2.2.2.2.2.1 x.2.2.2.2.2.2.2.2.2.2.2.2.1 x.2.2.2.2.2.2.2.2.2.2.2.2.2.1
noncomputable def L10 : P10 → Option PO := lfp fun J10 x => F10 (L14 J10) L21 impl_WriteExpr.impl x.1 x.2.1 x.2.2.1 x.2.2.2.1 x.2.2.2.2.1 x.2.2.2.2.2.1 x.2.2.2.2.2.2.1 x.2.2.2.2.2.2.2.1
noncomputable def L7 (J5 : P5 → Option PO) : P7 → Option PO := fun x => F7 J5 lib_Itoa.impl x.1 x.2.1 x.2.2.1 x.2.2.2.1 x.2.2.2.2.1 x.2.2.2.2.2.1 x.2.2.2.2.2.2.1 x.2.2.2.2.2.2.2.1 x.2.2.2.2.2.2.2.2.1 x.2.2.2.2.2.2.2.2.2.1 x.2.2.2.2.2.2.2.2.2.2.1 x.2.2.2.2.2.2.2.2.2.2.2.1
noncomputable def L5 : P5 → Option PO := lfp fun J5 x => F5 (L7 J5) L10 x.1 x.2.1 x.2.2.1 x.2.2.2.1 x.2.2.2.2.1 x.2.2.2.2.2.1 x.2.2.2.2.2.2.1 x.2.2.2.2.2.2.2.1
noncomputable def impl : PI → Option PO := fun x => F0 L5 impl_ModelValid.impl x.1
theorem F21_le {J21 J21' : P21 → Option PO} (h21 : OLe J21 J21') {Gimpl_WriteExpr : impl_WriteExpr.PI → Option impl_WriteExpr.PO} (t92 : List (List (Int × Int × Int × Int))) (t93 : Int) (t94 : Int) (b0_0 : List (List UInt8)) (b0_1 : List (Int × Int × Int)) (b0_2 : List ((List (Int × Int × Int × Int)) × (List Int) × List (List (Int × Int × Int × Int)))) (b0_3 : List (List (Int × Int × Int × Int))) (r2 : List UInt8) : OptLe (F21 J21 Gimpl_WriteExpr t92 t93 t94 b0_0 b0_1 b0_2 b0_3 r2) (F21 J21' Gimpl_WriteExpr t92 t93 t94 b0_0 b0_1 b0_2 b0_3 r2) := by unfold F21; exact .cond (.cond (.bind (.refl _) fun _ => .cond (.cond (.cond (.of h21 _) (.refl _)) (.refl _)) (.refl _)) (.refl _)) (.refl _)
theorem F16_le {J14 J14' : P14 → Option PO} (h14 : OLe J14 J14') {Gimpl_WriteExpr : impl_WriteExpr.PI → Option impl_WriteExpr.PO} (t8 : Int) (t9 : Int) (t50 : List ((List (Int × Int × Int × Int)) × (List Int) × List (List (Int × Int × Int × Int)))) (t51 : Int) (t52 : Int) (t64 : List Int) (t65 : Int) (t66 : Int) (b0_0 : List (List UInt8)) (b0_1 : List (Int × Int × Int)) (b0_2 : List ((List (Int × Int × Int × Int)) × (List Int) × List (List (Int × Int × Int × Int)))) (b0_3 : List (List (Int × Int × Int × Int))) (b2_0 : List (Int × Int × Int × Int)) (b2_1 : List Int) (b2_2 : List (List (Int × Int × Int × Int))) (r3 : List UInt8) : OptLe (F16 J14 Gimpl_WriteExpr t8 t9 t50 t51 t52 t64 t65 t66 b0_0 b0_1 b0_2 b0_3 b2_0 b2_1 b2_2 r3) (F16 J14' Gimpl_WriteExpr t8 t9 t50 t51 t52 t64 t65 t66 b0_0 b0_1 b0_2 b0_3 b2_0 b2_1 b2_2 r3) := by unfold F16; exact .cond (.cond (.cond (.cond (.bind (.refl _) fun _ => .cond (.cond (.of h14 _) (.refl _)) (.refl _)) (.refl _)) (.refl _)) (.refl _)) (.refl _)
theorem F14_le {J10 J10' : P10 → Option PO} (h10 : OLe J10 J10') {J16 J16' : P16 → Option PO} (h16 : OLe J16 J16') (t50 : List ((List (Int × Int × Int × Int)) × (List Int) × List (List (Int × Int × Int × Int)))) (t51 : Int) (t52 : Int) (t64 : List Int) (t65 : Int) (t66 : Int) (b0_0 : List (List UInt8)) (b0_1 : List (Int × Int × Int)) (b0_2 : List ((List (Int × Int × Int × Int)) × (List Int) × List (List (Int × Int × Int × Int)))) (b0_3 : List (List (Int × Int × Int × Int))) (b2_0 : List (Int × Int × Int × Int)) (b2_1 : List Int) (b2_2 : List (List (Int × Int × Int × Int))) (r3 : List UInt8) : OptLe (F14 J10 J16 t50 t51 t52 t64 t65 t66 b0_0 b0_1 b0_2 b0_3 b2_0 b2_1 b2_2 r3) (F14 J10' J16' t50 t51 t52 t64 t65 t66 b0_0 b0_1 b0_2 b0_3 b2_0 b2_1 b2_2 r3) := by unfold F14; exact .cond (.cond (.of h16 _) (.refl _)) (.cond (.of h10 _) (.refl _))
theorem F10_le {J14 J14' : P14 → Option PO} (h14 : OLe J14 J14') {J21 J21' : P21 → Option PO} (h21 : OLe J21 J21') {Gimpl_WriteExpr : impl_WriteExpr.PI → Option impl_WriteExpr.PO} (t50 : List ((List (Int × Int × Int × Int)) × (List Int) × List (List (Int × Int × Int × Int)))) (t51 : Int) (t52 : Int) (b0_0 : List (List UInt8)) (b0_1 : List (Int × Int × Int)) (b0_2 : List ((List (Int × Int × Int × Int)) × (List Int) × List (List (Int × Int × Int × Int)))) (b0_3 : List (List (Int × Int × Int × Int))) (r2 : List UInt8) : OptLe (F10 J14 J21 Gimpl_WriteExpr t50 t51 t52 b0_0 b0_1 b0_2 b0_3 r2) (F10 J14' J21' Gimpl_WriteExpr t50 t51 t52 b0_0 b0_1 b0_2 b0_3 r2) := by unfold F10; exact .cond (.cond (.bind (.refl _) fun _ => .cond (.cond (.of h14 _) (.refl _)) (.refl _)) (.refl _)) (.of h21 _)
theorem F7_le {J5 J5' : P5 → Option PO} (h5 : OLe J5 J5') {Glib_Itoa : lib_Itoa.PI → Option lib_Itoa.PO} (t4 : Int) (t17 : List (Int × Int × Int)) (t18 : Int) (t19 : Int) (b0_0 : List (List UInt8)) (b0_1 : List (Int × Int × Int)) (b0_2 : List ((List (Int × Int × Int × Int)) × (List Int) × List (List (Int × Int × Int × Int)))) (b0_3 : List (List (Int × Int × Int × Int))) (b2_0 : Int) (b2_1 : Int) (b2_2 : Int) (r3 : List UInt8) : OptLe (F7 J5 Glib_Itoa t4 t17 t18 t19 b0_0 b0_1 b0_2 b0_3 b2_0 b2_1 b2_2 r3) (F7 J5' Glib_Itoa t4 t17 t18 t19 b0_0 b0_1 b0_2 b0_3 b2_0 b2_1 b2_2 r3) := by unfold F7; exact .cond (.cond (.cond (.bind (.refl _) fun _ => .cond (.cond (.bind (.refl _) fun _ => .cond (.cond (.bind (.refl _) fun _ => .cond (.cond (.cond (.of h5 _) (.refl _)) (.refl _)) (.refl _)) (.refl _)) (.refl _)) (.refl _)) (.refl _)) (.refl _)) (.refl _)) (.refl _)
theorem F5_le {J7 J7' : P7 → Option PO} (h7 : OLe J7 J7') {J10 J10' : P10 → Option PO} (h10 : OLe J10 J10') (t17 : List (Int × Int × Int)) (t18 : Int) (t19 : Int) (b0_0 : List (List UInt8)) (b0_1 : List (Int × Int × Int)) (b0_2 : List ((List (Int × Int × Int × Int)) × (List Int) × List (List (Int × Int × Int × Int)))) (b0_3 : List (List (Int × Int × Int × Int))) (r2 : List UInt8) : OptLe (F5 J7 J10 t17 t18 t19 b0_0 b0_1 b0_2 b0_3 r2) (F5 J7' J10' t17 t18 t19 b0_0 b0_1 b0_2 b0_3 r2) := by unfold F5; exact .cond (.cond (.of h7 _) (.refl _)) (.of h10 _)
theorem L21_mono : OMono fun J21 (x : P21) => F21 J21 impl_WriteExpr.impl x.1 x.2.1 x.2.2.1 x.2.2.2.1 x.2.2.2.2.1 x.2.2.2.2.2.1 x.2.2.2.2.2.2.1 x.2.2.2.2.2.2.2.1 := fun J J' h21 x => F21_le h21 x.1 x.2.1 x.2.2.1 x.2.2.2.1 x.2.2.2.2.1 x.2.2.2.2.2.1 x.2.2.2.2.2.2.1 x.2.2.2.2.2.2.2.1
theorem L21_eq (t92 : List (List (Int × Int × Int × Int))) (t93 : Int) (t94 : Int) (b0_0 : List (List UInt8)) (b0_1 : List (Int × Int × Int)) (b0_2 : List ((List (Int × Int × Int × Int)) × (List Int) × List (List (Int × Int × Int × Int)))) (b0_3 : List (List (Int × Int × Int × Int))) (r2 : List UInt8) : L21 (t92, t93, t94, b0_0, b0_1, b0_2, b0_3, r2, ()) = F21 (L21) impl_WriteExpr.impl t92 t93 t94 b0_0 b0_1 b0_2 b0_3 r2 := congrFun (lfp_eq (L21_mono)) _
theorem L16_eq (J10 : P10 → Option PO) (J14 : P14 → Option PO) (t8 : Int) (t9 : Int) (t50 : List ((List (Int × Int × Int × Int)) × (List Int) × List (List (Int × Int × Int × Int)))) (t51 : Int) (t52 : Int) (t64 : List Int) (t65 : Int) (t66 : Int) (b0_0 : List (List UInt8)) (b0_1 : List (Int × Int × Int)) (b0_2 : List ((List (Int × Int × Int × Int)) × (List Int) × List (List (Int × Int × Int × Int)))) (b0_3 : List (List (Int × Int × Int × Int))) (b2_0 : List (Int × Int × Int × Int)) (b2_1 : List Int) (b2_2 : List (List (Int × Int × Int × Int))) (r3 : List UInt8) : L16 J10 J14 (t8, t9, t50, t51, t52, t64, t65, t66, b0_0, b0_1, b0_2, b0_3, b2_0, b2_1, b2_2, r3, ()) = F16 J14 impl_WriteExpr.impl t8 t9 t50 t51 t52 t64 t65 t66 b0_0 b0_1 b0_2 b0_3 b2_0 b2_1 b2_2 r3 := rfl
theorem L16_le {J10 J10' : P10 → Option PO} (h10 : OLe J10 J10') {J14 J14' : P14 → Option PO} (h14 : OLe J14 J14') : OLe (L16 J10 J14) (L16 J10' J14') := fun x => F16_le h14 x.1 x.2.1 x.2.2.1 x.2.2.2.1 x.2.2.2.2.1 x.2.2.2.2.2.1 x.2.2.2.2.2.2.1 x.2.2.2.2.2.2.2.1 x.2.2.2.2.2.2.2.2.1 x.2.2.2.2.2.2.2.2.2.1 x.2.2.2.2.2.2.2.2.2.2.1 x.2.2.2.2.2.2.2.2.2.2.2.1 x.2.2.2.2.2.2.2.2.2.2.2.2.1 x.2.2.2.2.2.2.2.2.2.2.2.2.2.1 x.2.2.2.2.2.2.2.2.2.2.2.2.2.2.1 x.2.2.2.2.2.2.2.2.2.2.2.2.2.2.2.1
theorem L14_mono (J10 : P10 → Option PO) : OMono fun J14 (x : P14) => F14 J10 (L16 J10 J14) x.1 x.2.1 x.2.2.1 x.2.2.2.1 x.2.2.2.2.1 x.2.2.2.2.2.1 x.2.2.2.2.2.2.1 x.2.2.2.2.2.2.2.1 x.2.2.2.2.2.2.2.2.1 x.2.2.2.2.2.2.2.2.2.1 x.2.2.2.2.2.2.2.2.2.2.1 x.2.2.2.2.2.2.2.2.2.2.2.1 x.2.2.2.2.2.2.2.2.2.2.2.2.1 x.2.2.2.2.2.2.2.2.2.2.2.2.2.1 := fun J J' h14 x => F14_le (fun _ _ h => h) (L16_le (fun _ _ h => h) h14) x.1 x.2.1 x.2.2.1 x.2.2.2.1 x.2.2.2.2.1 x.2.2.2.2.2.1 x.2.2.2.2.2.2.1 x.2.2.2.2.2.2.2.1 x.2.2.2.2.2.2.2.2.1 x.2.2.2.2.2.2.2.2.2.1 x.2.2.2.2.2.2.2.2.2.2.1 x.2.2.2.2.2.2.2.2.2.2.2.1 x.2.2.2.2.2.2.2.2.2.2.2.2.1 x.2.2.2.2.2.2.2.2.2.2.2.2.2.1
theorem L14_eq (J10 : P10 → Option PO) (t50 : List ((List (Int × Int × Int × Int)) × (List Int) × List (List (Int × Int × Int × Int)))) (t51 : Int) (t52 : Int) (t64 : List Int) (t65 : Int) (t66 : Int) (b0_0 : List (List UInt8)) (b0_1 : List (Int × Int × Int)) (b0_2 : List ((List (Int × Int × Int × Int)) × (List Int) × List (List (Int × Int × Int × Int)))) (b0_3 : List (List (Int × Int × Int × Int))) (b2_0 : List (Int × Int × Int × Int)) (b2_1 : List Int) (b2_2 : List (List (Int × Int × Int × Int))) (r3 : List UInt8) : L14 J10 (t50, t51, t52, t64, t65, t66, b0_0, b0_1, b0_2, b0_3, b2_0, b2_1, b2_2, r3, ()) = F14 J10 (L16 J10 (L14 J10)) t50 t51 t52 t64 t65 t66 b0_0 b0_1 b0_2 b0_3 b2_0 b2_1 b2_2 r3 := congrFun (lfp_eq (L14_mono J10)) _
theorem L14_le {J10 J10' : P10 → Option PO} (h10 : OLe J10 J10') : OLe (L14 J10) (L14 J10') := lfp_le (L14_mono J10') fun J x => F14_le h10 (L16_le h10 (fun _ _ h => h)) x.1 x.2.1 x.2.2.1 x.2.2.2.1 x.2.2.2.2.1 x.2.2.2.2.2.1 x.2.2.2.2.2.2.1 x.2.2.2.2.2.2.2.1 x.2.2.2.2.2.2.2.2.1 x.2.2.2.2.2.2.2.2.2.1 x.2.2.2.2.2.2.2.2.2.2.1 x.2.2.2.2.2.2.2.2.2.2.2.1 x.2.2.2.2.2.2.2.2.2.2.2.2.1 x.2.2.2.2.2.2.2.2.2.2.2.2.2.1
theorem L10_mono : OMono fun J10 (x : P10) => F10 (L14 J10) L21 impl_WriteExpr.impl x.1 x.2.1 x.2.2.1 x.2.2.2.1 x.2.2.2.2.1 x.2.2.2.2.2.1 x.2.2.2.2.2.2.1 x.2.2.2.2.2.2.2.1 := fun J J' h10 x => F10_le (L14_le h10) (fun _ _ h => h) x.1 x.2.1 x.2.2.1 x.2.2.2.1 x.2.2.2.2.1 x.2.2.2.2.2.1 x.2.2.2.2.2.2.1 x.2.2.2.2.2.2.2.1
theorem L10_eq (t50 : List ((List (Int × Int × Int × Int)) × (List Int) × List (List (Int × Int × Int × Int)))) (t51 : Int) (t52 : Int) (b0_0 : List (List UInt8)) (b0_1 : List (Int × Int × Int)) (b0_2 : List ((List (Int × Int × Int × Int)) × (List Int) × List (List (Int × Int × Int × Int)))) (b0_3 : List (List (Int × Int × Int × Int))) (r2 : List UInt8) : L10 (t50, t51, t52, b0_0, b0_1, b0_2, b0_3, r2, ()) = F10 (L14 (L10)) (L21) impl_WriteExpr.impl t50 t51 t52 b0_0 b0_1 b0_2 b0_3 r2 := congrFun (lfp_eq (L10_mono)) _
theorem L7_eq (J5 : P5 → Option PO) (t4 : Int) (t17 : List (Int × Int × Int)) (t18 : Int) (t19 : Int) (b0_0 : List (List UInt8)) (b0_1 : List (Int × Int × Int)) (b0_2 : List ((List (Int × Int × Int × Int)) × (List Int) × List (List (Int × Int × Int × Int)))) (b0_3 : List (List (Int × Int × Int × Int))) (b2_0 : Int) (b2_1 : Int) (b2_2 : Int) (r3 : List UInt8) : L7 J5 (t4, t17, t18, t19, b0_0, b0_1, b0_2, b0_3, b2_0, b2_1, b2_2, r3, ()) = F7 J5 lib_Itoa.impl t4 t17 t18 t19 b0_0 b0_1 b0_2 b0_3 b2_0 b2_1 b2_2 r3 := rfl
theorem L7_le {J5 J5' : P5 → Option PO} (h5 : OLe J5 J5') : OLe (L7 J5) (L7 J5') := fun x => F7_le h5 x.1 x.2.1 x.2.2.1 x.2.2.2.1 x.2.2.2.2.1 x.2.2.2.2.2.1 x.2.2.2.2.2.2.1 x.2.2.2.2.2.2.2.1 x.2.2.2.2.2.2.2.2.1 x.2.2.2.2.2.2.2.2.2.1 x.2.2.2.2.2.2.2.2.2.2.1 x.2.2.2.2.2.2.2.2.2.2.2.1
theorem L5_mono : OMono fun J5 (x : P5) => F5 (L7 J5) L10 x.1 x.2.1 x.2.2.1 x.2.2.2.1 x.2.2.2.2.1 x.2.2.2.2.2.1 x.2.2.2.2.2.2.1 x.2.2.2.2.2.2.2.1 := fun J J' h5 x => F5_le (L7_le h5) (fun _ _ h => h) x.1 x.2.1 x.2.2.1 x.2.2.2.1 x.2.2.2.2.1 x.2.2.2.2.2.1 x.2.2.2.2.2.2.1 x.2.2.2.2.2.2.2.1
theorem L5_eq (t17 : List (Int × Int × Int)) (t18 : Int) (t19 : Int) (b0_0 : List (List UInt8)) (b0_1 : List (Int × Int × Int)) (b0_2 : List ((List (Int × Int × Int × Int)) × (List Int) × List (List (Int × Int × Int × Int)))) (b0_3 : List (List (Int × Int × Int × Int))) (r2 : List UInt8) : L5 (t17, t18, t19, b0_0, b0_1, b0_2, b0_3, r2, ()) = F5 (L7 (L5)) (L10) t17 t18 t19 b0_0 b0_1 b0_2 b0_3 r2 := congrFun (lfp_eq (L5_mono)) _
theorem impl_eq (x0 : (List (List UInt8)) × ((List (Int × Int × Int)) × List ((List (Int × Int × Int × Int)) × (List Int) × List (List (Int × Int × Int × Int)))) × List (List (Int × Int × Int × Int))) : impl (x0, ()) = F0 L5 impl_ModelValid.impl x0 := rfl
theorem con : Con Tryz.prog 11 1 rs.length 1 pin pout impl := by
  refine con_of_run' (nt := 109) (c := c0) tabGood Tryz.func11 (by kernel_rfl) (by kernel_rfl) (by kernel_rfl) (by kernel_rfl) (by kernel_rfl) (by kernel_rfl) (by kernel_rfl) ?_
  intro w0 O y hnp
  generalize hPost : (fun (a' : Act) (w' : World) => ∃ μ' S' st', Rel 109 w0 O μ' S' st' a' w' ∧ endOf (tabOf tab) rs 1 pout st' = some y) = Post
  have fin : ∀ (μ : Id → Option Value) (S : Nat → Prop) (st : St) (a : Act) (w : World), Rel 109 w0 O μ S st a w → endOf (tabOf tab) rs 1 pout st = some y → Post a w := fun μ S st a w h he => by rw [← hPost]; exact ⟨μ, S, st, h, he⟩
  have hp : ∀ (J5 : List Item → P5 → Option PO), ∀ (J7 : List Item → P7 → Option PO), ∀ (J10 : List Item → P10 → Option PO), ∀ (J14 : List Item → P14 → Option PO), ∀ (J16 : List Item → P16 → Option PO), ∀ (J21 : List Item → P21 → Option PO), Parts Tryz.prog 11 (pg impl_ModelValid.impl impl_WriteExpr.impl lib_Itoa.impl J5 J7 J10 J14 J16 J21) [(5, cut p5 J5), (7, cut p7 J7), (10, cut p10 J10), (14, cut p14 J14), (16, cut p16 J16), (21, cut p21 J21)] := fun J5 J7 J10 J14 J16 J21 => ⟨tab_ok tabGood rfl, (bld_ok (handAt_ok lib_Itoa.con (handAt_ok impl_ModelValid.con (handAt_ok impl_WriteExpr.con handNil_ok)))), rfl⟩
  have g21 : Good Tryz.prog 109 w0 O Post y T21 p21 L21 := good_lfp fun J21 h21 => good_part (hp (atT T5 (fun _ => none)) (atT T7 (fun _ => none)) (atT T10 (fun _ => none)) (atT T14 (fun _ => none)) (atT T16 (fun _ => none)) (atT T21 J21)) (runOK_of (hp (atT T5 (fun _ => none)) (atT T7 (fun _ => none)) (atT T10 (fun _ => none)) (atT T14 (fun _ => none)) (atT T16 (fun _ => none)) (atT T21 J21)) hnp ⟨cutOK_at (p := p5) (T := T5) (J := fun _ => none) good_none, cutOK_at (p := p7) (T := T7) (J := fun _ => none) good_none, cutOK_at (p := p10) (T := T10) (J := fun _ => none) good_none, cutOK_at (p := p14) (T := T14) (J := fun _ => none) good_none, cutOK_at (p := p16) (T := T16) (J := fun _ => none) good_none, cutOK_at h21, trivial⟩ fin) (fun x => (seg21 impl_ModelValid.impl impl_WriteExpr.impl lib_Itoa.impl (atT T5 (fun _ => none)) (atT T7 (fun _ => none)) (atT T10 (fun _ => none)) (atT T14 (fun _ => none)) (atT T16 (fun _ => none)) (atT T21 J21) x.1 x.2.1 x.2.2.1 x.2.2.2.1 x.2.2.2.2.1 x.2.2.2.2.2.1 x.2.2.2.2.2.2.1 x.2.2.2.2.2.2.2.1).trans (by simp only [atT_self] <;> rfl))
  have g16 : ∀ (J10 : P10 → Option PO), Good Tryz.prog 109 w0 O Post y T10 p10 J10 → ∀ (J14 : P14 → Option PO), Good Tryz.prog 109 w0 O Post y T14 p14 J14 → Good Tryz.prog 109 w0 O Post y T16 p16 (L16 J10 J14) := fun J10 h10 J14 h14 => good_last (hs := hd impl_ModelValid.impl impl_WriteExpr.impl lib_Itoa.impl) (cv' := hd impl_ModelValid.impl impl_WriteExpr.impl lib_Itoa.impl) (Checked.mixed Tryz.checked) (hp (atT T5 (fun _ => none)) (atT T7 (fun _ => none)) (atT T10 (fun _ => none)) (atT T14 J14) (atT T16 (fun _ => none)) (atT T21 (fun _ => none))) (bldHd_D rfl rfl rfl (handAt_D lib_Itoa.con (by rfl) rfl (handAt_D impl_ModelValid.con (by rfl) rfl (handAt_D impl_WriteExpr.con (by rfl) rfl handNil_D)))) (bldHd_nat (handAt_nat (handAt_nat (handAt_nat handNil_nat)))) (bldHd_nat (handAt_nat (handAt_nat (handAt_nat handNil_nat)))) (runOK_of (hp (atT T5 (fun _ => none)) (atT T7 (fun _ => none)) (atT T10 (fun _ => none)) (atT T14 J14) (atT T16 (fun _ => none)) (atT T21 (fun _ => none))) hnp ⟨cutOK_at (p := p5) (T := T5) (J := fun _ => none) good_none, cutOK_at (p := p7) (T := T7) (J := fun _ => none) good_none, cutOK_at (p := p10) (T := T10) (J := fun _ => none) good_none, cutOK_at h14, cutOK_at (p := p16) (T := T16) (J := fun _ => none) good_none, cutOK_at (p := p21) (T := T21) (J := fun _ => none) good_none, trivial⟩ fin) (fun x => all_same ⟨_, (seg16 impl_ModelValid.impl impl_WriteExpr.impl lib_Itoa.impl (atT T5 (fun _ => none)) (atT T7 (fun _ => none)) (atT T10 (fun _ => none)) (atT T14 J14) (atT T16 (fun _ => none)) (atT T21 (fun _ => none)) x.1 x.2.1 x.2.2.1 x.2.2.2.1 x.2.2.2.2.1 x.2.2.2.2.2.1 x.2.2.2.2.2.2.1 x.2.2.2.2.2.2.2.1 x.2.2.2.2.2.2.2.2.1 x.2.2.2.2.2.2.2.2.2.1 x.2.2.2.2.2.2.2.2.2.2.1 x.2.2.2.2.2.2.2.2.2.2.2.1 x.2.2.2.2.2.2.2.2.2.2.2.2.1 x.2.2.2.2.2.2.2.2.2.2.2.2.2.1 x.2.2.2.2.2.2.2.2.2.2.2.2.2.2.1 x.2.2.2.2.2.2.2.2.2.2.2.2.2.2.2.1).trans (by simp only [atT_self] <;> rfl)⟩)
  have g14 : ∀ (J10 : P10 → Option PO), Good Tryz.prog 109 w0 O Post y T10 p10 J10 → Good Tryz.prog 109 w0 O Post y T14 p14 (L14 J10) := fun J10 h10 => good_lfp fun J14 h14 => good_part (hp (atT T5 (fun _ => none)) (atT T7 (fun _ => none)) (atT T10 J10) (atT T14 (fun _ => none)) (atT T16 (L16 J10 J14)) (atT T21 (fun _ => none))) (runOK_of (hp (atT T5 (fun _ => none)) (atT T7 (fun _ => none)) (atT T10 J10) (atT T14 (fun _ => none)) (atT T16 (L16 J10 J14)) (atT T21 (fun _ => none))) hnp ⟨cutOK_at (p := p5) (T := T5) (J := fun _ => none) good_none, cutOK_at (p := p7) (T := T7) (J := fun _ => none) good_none, cutOK_at h10, cutOK_at (p := p14) (T := T14) (J := fun _ => none) good_none, cutOK_at (g16 J10 h10 J14 h14), cutOK_at (p := p21) (T := T21) (J := fun _ => none) good_none, trivial⟩ fin) (fun x => (seg14 impl_ModelValid.impl impl_WriteExpr.impl lib_Itoa.impl (atT T5 (fun _ => none)) (atT T7 (fun _ => none)) (atT T10 J10) (atT T14 (fun _ => none)) (atT T16 (L16 J10 J14)) (atT T21 (fun _ => none)) x.1 x.2.1 x.2.2.1 x.2.2.2.1 x.2.2.2.2.1 x.2.2.2.2.2.1 x.2.2.2.2.2.2.1 x.2.2.2.2.2.2.2.1 x.2.2.2.2.2.2.2.2.1 x.2.2.2.2.2.2.2.2.2.1 x.2.2.2.2.2.2.2.2.2.2.1 x.2.2.2.2.2.2.2.2.2.2.2.1 x.2.2.2.2.2.2.2.2.2.2.2.2.1 x.2.2.2.2.2.2.2.2.2.2.2.2.2.1).trans (by simp only [atT_self] <;> rfl))
  have g10 : Good Tryz.prog 109 w0 O Post y T10 p10 L10 := good_lfp fun J10 h10 => good_part (hp (atT T5 (fun _ => none)) (atT T7 (fun _ => none)) (atT T10 (fun _ => none)) (atT T14 (L14 J10)) (atT T16 (fun _ => none)) (atT T21 L21)) (runOK_of (hp (atT T5 (fun _ => none)) (atT T7 (fun _ => none)) (atT T10 (fun _ => none)) (atT T14 (L14 J10)) (atT T16 (fun _ => none)) (atT T21 L21)) hnp ⟨cutOK_at (p := p5) (T := T5) (J := fun _ => none) good_none, cutOK_at (p := p7) (T := T7) (J := fun _ => none) good_none, cutOK_at (p := p10) (T := T10) (J := fun _ => none) good_none, cutOK_at (g14 J10 h10), cutOK_at (p := p16) (T := T16) (J := fun _ => none) good_none, cutOK_at g21, trivial⟩ fin) (fun x => (seg10 impl_ModelValid.impl impl_WriteExpr.impl lib_Itoa.impl (atT T5 (fun _ => none)) (atT T7 (fun _ => none)) (atT T10 (fun _ => none)) (atT T14 (L14 J10)) (atT T16 (fun _ => none)) (atT T21 L21) x.1 x.2.1 x.2.2.1 x.2.2.2.1 x.2.2.2.2.1 x.2.2.2.2.2.1 x.2.2.2.2.2.2.1 x.2.2.2.2.2.2.2.1).trans (by simp only [atT_self] <;> rfl))
  have g7 : ∀ (J5 : P5 → Option PO), Good Tryz.prog 109 w0 O Post y T5 p5 J5 → Good Tryz.prog 109 w0 O Post y T7 p7 (L7 J5) := fun J5 h5 => good_last (hs := hd impl_ModelValid.impl impl_WriteExpr.impl lib_Itoa.impl) (cv' := hd impl_ModelValid.impl impl_WriteExpr.impl lib_Itoa.impl) (Checked.mixed Tryz.checked) (hp (atT T5 J5) (atT T7 (fun _ => none)) (atT T10 (fun _ => none)) (atT T14 (fun _ => none)) (atT T16 (fun _ => none)) (atT T21 (fun _ => none))) (bldHd_D rfl rfl rfl (handAt_D lib_Itoa.con (by rfl) rfl (handAt_D impl_ModelValid.con (by rfl) rfl (handAt_D impl_WriteExpr.con (by rfl) rfl handNil_D)))) (bldHd_nat (handAt_nat (handAt_nat (handAt_nat handNil_nat)))) (bldHd_nat (handAt_nat (handAt_nat (handAt_nat handNil_nat)))) (runOK_of (hp (atT T5 J5) (atT T7 (fun _ => none)) (atT T10 (fun _ => none)) (atT T14 (fun _ => none)) (atT T16 (fun _ => none)) (atT T21 (fun _ => none))) hnp ⟨cutOK_at h5, cutOK_at (p := p7) (T := T7) (J := fun _ => none) good_none, cutOK_at (p := p10) (T := T10) (J := fun _ => none) good_none, cutOK_at (p := p14) (T := T14) (J := fun _ => none) good_none, cutOK_at (p := p16) (T := T16) (J := fun _ => none) good_none, cutOK_at (p := p21) (T := T21) (J := fun _ => none) good_none, trivial⟩ fin) (fun x => all_same ⟨_, (seg7 impl_ModelValid.impl impl_WriteExpr.impl lib_Itoa.impl (atT T5 J5) (atT T7 (fun _ => none)) (atT T10 (fun _ => none)) (atT T14 (fun _ => none)) (atT T16 (fun _ => none)) (atT T21 (fun _ => none)) x.1 x.2.1 x.2.2.1 x.2.2.2.1 x.2.2.2.2.1 x.2.2.2.2.2.1 x.2.2.2.2.2.2.1 x.2.2.2.2.2.2.2.1 x.2.2.2.2.2.2.2.2.1 x.2.2.2.2.2.2.2.2.2.1 x.2.2.2.2.2.2.2.2.2.2.1 x.2.2.2.2.2.2.2.2.2.2.2.1).trans (by simp only [atT_self] <;> rfl)⟩)
  have g5 : Good Tryz.prog 109 w0 O Post y T5 p5 L5 := good_lfp fun J5 h5 => good_part (hp (atT T5 (fun _ => none)) (atT T7 (L7 J5)) (atT T10 L10) (atT T14 (fun _ => none)) (atT T16 (fun _ => none)) (atT T21 (fun _ => none))) (runOK_of (hp (atT T5 (fun _ => none)) (atT T7 (L7 J5)) (atT T10 L10) (atT T14 (fun _ => none)) (atT T16 (fun _ => none)) (atT T21 (fun _ => none))) hnp ⟨cutOK_at (p := p5) (T := T5) (J := fun _ => none) good_none, cutOK_at (g7 J5 h5), cutOK_at g10, cutOK_at (p := p14) (T := T14) (J := fun _ => none) good_none, cutOK_at (p := p16) (T := T16) (J := fun _ => none) good_none, cutOK_at (p := p21) (T := T21) (J := fun _ => none) good_none, trivial⟩ fin) (fun x => (seg5 impl_ModelValid.impl impl_WriteExpr.impl lib_Itoa.impl (atT T5 (fun _ => none)) (atT T7 (L7 J5)) (atT T10 L10) (atT T14 (fun _ => none)) (atT T16 (fun _ => none)) (atT T21 (fun _ => none)) x.1 x.2.1 x.2.2.1 x.2.2.2.1 x.2.2.2.2.1 x.2.2.2.2.2.1 x.2.2.2.2.2.2.1 x.2.2.2.2.2.2.2.1).trans (by simp only [atT_self] <;> rfl))
  exact good_first (hp (atT T5 L5) (atT T7 (fun _ => none)) (atT T10 (fun _ => none)) (atT T14 (fun _ => none)) (atT T16 (fun _ => none)) (atT T21 (fun _ => none))) (runOK_of (hp (atT T5 L5) (atT T7 (fun _ => none)) (atT T10 (fun _ => none)) (atT T14 (fun _ => none)) (atT T16 (fun _ => none)) (atT T21 (fun _ => none))) hnp ⟨cutOK_at g5, cutOK_at (p := p7) (T := T7) (J := fun _ => none) good_none, cutOK_at (p := p10) (T := T10) (J := fun _ => none) good_none, cutOK_at (p := p14) (T := T14) (J := fun _ => none) good_none, cutOK_at (p := p16) (T := T16) (J := fun _ => none) good_none, cutOK_at (p := p21) (T := T21) (J := fun _ => none) good_none, trivial⟩ fin) (fun x => (seg0 impl_ModelValid.impl impl_WriteExpr.impl lib_Itoa.impl (atT T5 L5) (atT T7 (fun _ => none)) (atT T10 (fun _ => none)) (atT T14 (fun _ => none)) (atT T16 (fun _ => none)) (atT T21 (fun _ => none)) x.1).trans (by simp only [atT_self] <;> rfl))
end impl_WriteModel

/-! ### loop.example/wholecheck/laws.eqStringS -/
namespace laws_eqStringS
noncomputable abbrev c0 : Code := (Tryz.f48.body).getD .skip
noncomputable abbrev pin : Tpl := ⟨[⟨0, false, [.d (.sl .str)]⟩, ⟨1, false, [.d (.sl .str)]⟩], []⟩
noncomputable abbrev pout : Tpl := ⟨[⟨0, false, [.d .bool]⟩], []⟩
noncomputable abbrev p4 : Tpl := ⟨[⟨0, false, [.d (.sl .str)]⟩, ⟨1, false, [.d (.sl .str)]⟩, ⟨5, false, [.d (.int .i64)]⟩], []⟩
noncomputable def T4 : List Item := (find 4 c0 []).getD []
noncomputable abbrev p6 : Tpl := ⟨[⟨0, false, [.d (.sl .str)]⟩, ⟨1, false, [.d (.sl .str)]⟩, ⟨5, false, [.d (.int .i64)]⟩], []⟩
noncomputable def T6 : List Item := (find 6 c0 []).getD []
noncomputable abbrev PI := (List (List UInt8)) × (List (List UInt8)) × Unit
noncomputable abbrev PO := Bool × Unit
noncomputable abbrev P4 := (List (List UInt8)) × (List (List UInt8)) × Int × Unit
noncomputable abbrev P6 := (List (List UInt8)) × (List (List UInt8)) × Int × Unit
noncomputable abbrev rs : List ResultVar := [.tmp 4]
noncomputable def F0 (J4 : P4 → Option PO) (x0 : List (List UInt8)) (x1 : List (List UInt8)) : Option PO :=
  bif (x0.length : Int) != (x1.length : Int) then
    some (false, ())
  else
    J4 (x0, x1, 0, ())
noncomputable def F4 (J6 : P6 → Option PO) (t0 : List (List UInt8)) (t1 : List (List UInt8)) (t5 : Int) : Option PO :=
  bif decide (t5 < (t0.length : Int)) then
    J6 (t0, t1, t5, ())
  else
    some (true, ())
noncomputable def F6 (J4 : P4 → Option PO) (t0 : List (List UInt8)) (t1 : List (List UInt8)) (t5 : Int) : Option PO :=
  bif inb t5 t0.length then
    bif inb t5 t1.length then
      bif !((t0.getD t5.toNat []) == (t1.getD t5.toNat [])) then
        some (false, ())
      else
        J4 (t0, t1, wI (t5 + 1), ())
    else
      none
  else
    none
noncomputable def hd {R : Type} : Hand R := handNil
noncomputable def pg (J4 : List Item → P4 → Option PO) (J6 : List Item → P6 → Option PO) : Prog PO := { nt := 26, np := 2, tb := tabOf tab, hd := hd, cuts := cutsOf [(4, cut p4 J4), (6, cut p6 J6)], fin := endOf (tabOf tab) rs 2 pout }
noncomputable def q : FuncId → Bool := fun f => hasId [] f
theorem seg0 (J4 : List Item → P4 → Option PO) (J6 : List Item → P6 → Option PO) (x0 : List (List UInt8)) (x1 : List (List UInt8)) : arun (pg J4 J6) 5000 [.code c0] (mk pin (x0, x1, ())) = F0 (J4 T4) x0 x1 := by kernel_rfl
theorem seg4 (J4 : List Item → P4 → Option PO) (J6 : List Item → P6 → Option PO) (t0 : List (List UInt8)) (t1 : List (List UInt8)) (t5 : Int) : arun1 (pg J4 J6) 5000 T4 (mk p4 (t0, t1, t5, ())) = F4 (J6 T6) t0 t1 t5 := by kernel_rfl
theorem seg6 (J4 : List Item → P4 → Option PO) (J6 : List Item → P6 → Option PO) (t0 : List (List UInt8)) (t1 : List (List UInt8)) (t5 : Int) : arunQ (pg J4 J6) q [] [] 5000 T6 (mk p6 (t0, t1, t5, ())) = List.replicate (arunQ (pg J4 J6) q [] [] 5000 T6 (mk p6 (t0, t1, t5, ()))).length (F6 (J4 T4) t0 t1 t5) := by kernel_rfl
noncomputable def L6 (J4 : P4 → Option PO) : P6 → Option PO := fun x => F6 J4 x.1 x.2.1 x.2.2.1
noncomputable def L4 : P4 → Option PO := lfp fun J4 x => F4 (L6 J4) x.1 x.2.1 x.2.2.1
noncomputable def impl : PI → Option PO := fun x => F0 L4 x.1 x.2.1
theorem F6_le {J4 J4' : P4 → Option PO} (h4 : OLe J4 J4') (t0 : List (List UInt8)) (t1 : List (List UInt8)) (t5 : Int) : OptLe (F6 J4 t0 t1 t5) (F6 J4' t0 t1 t5) := by unfold F6; exact .cond (.cond (.cond (.refl _) (.of h4 _)) (.refl _)) (.refl _)
theorem F4_le {J6 J6' : P6 → Option PO} (h6 : OLe J6 J6') (t0 : List (List UInt8)) (t1 : List (List UInt8)) (t5 : Int) : OptLe (F4 J6 t0 t1 t5) (F4 J6' t0 t1 t5) := by unfold F4; exact .cond (.of h6 _) (.refl _)
theorem L6_eq (J4 : P4 → Option PO) (t0 : List (List UInt8)) (t1 : List (List UInt8)) (t5 : Int) : L6 J4 (t0, t1, t5, ()) = F6 J4 t0 t1 t5 := rfl
theorem L6_le {J4 J4' : P4 → Option PO} (h4 : OLe J4 J4') : OLe (L6 J4) (L6 J4') := fun x => F6_le h4 x.1 x.2.1 x.2.2.1
theorem L4_mono : OMono fun J4 (x : P4) => F4 (L6 J4) x.1 x.2.1 x.2.2.1 := fun J J' h4 x => F4_le (L6_le h4) x.1 x.2.1 x.2.2.1
theorem L4_eq (t0 : List (List UInt8)) (t1 : List (List UInt8)) (t5 : Int) : L4 (t0, t1, t5, ()) = F4 (L6 (L4)) t0 t1 t5 := congrFun (lfp_eq (L4_mono)) _
theorem impl_eq (x0 : List (List UInt8)) (x1 : List (List UInt8)) : impl (x0, x1, ()) = F0 L4 x0 x1 := rfl
theorem con : Con Tryz.prog 48 2 rs.length 2 pin pout impl := by
  refine con_of_run' (nt := 26) (c := c0) tabGood Tryz.func48 (by kernel_rfl) (by kernel_rfl) (by kernel_rfl) (by kernel_rfl) (by kernel_rfl) (by kernel_rfl) (by kernel_rfl) ?_
  intro w0 O y hnp
  generalize hPost : (fun (a' : Act) (w' : World) => ∃ μ' S' st', Rel 26 w0 O μ' S' st' a' w' ∧ endOf (tabOf tab) rs 2 pout st' = some y) = Post
  have fin : ∀ (μ : Id → Option Value) (S : Nat → Prop) (st : St) (a : Act) (w : World), Rel 26 w0 O μ S st a w → endOf (tabOf tab) rs 2 pout st = some y → Post a w := fun μ S st a w h he => by rw [← hPost]; exact ⟨μ, S, st, h, he⟩
  have hp : ∀ (J4 : List Item → P4 → Option PO), ∀ (J6 : List Item → P6 → Option PO), Parts Tryz.prog 48 (pg J4 J6) [(4, cut p4 J4), (6, cut p6 J6)] := fun J4 J6 => ⟨tab_ok tabGood rfl, handNil_ok, rfl⟩
  have g6 : ∀ (J4 : P4 → Option PO), Good Tryz.prog 26 w0 O Post y T4 p4 J4 → Good Tryz.prog 26 w0 O Post y T6 p6 (L6 J4) := fun J4 h4 => good_quiet (hs := hd) (cv' := hd) (Checked.mixed Tryz.checked) (hp (atT T4 J4) (atT T6 (fun _ => none))) handNil_D handNil_nat handNil_nat (runOK_of (hp (atT T4 J4) (atT T6 (fun _ => none))) hnp ⟨cutOK_at h4, cutOK_at (p := p6) (T := T6) (J := fun _ => none) good_none, trivial⟩ fin) (fun x => all_same ⟨_, (seg6 (atT T4 J4) (atT T6 (fun _ => none)) x.1 x.2.1 x.2.2.1).trans (by simp only [atT_self] <;> rfl)⟩)
  have g4 : Good Tryz.prog 26 w0 O Post y T4 p4 L4 := good_lfp fun J4 h4 => good_part (hp (atT T4 (fun _ => none)) (atT T6 (L6 J4))) (runOK_of (hp (atT T4 (fun _ => none)) (atT T6 (L6 J4))) hnp ⟨cutOK_at (p := p4) (T := T4) (J := fun _ => none) good_none, cutOK_at (g6 J4 h4), trivial⟩ fin) (fun x => (seg4 (atT T4 (fun _ => none)) (atT T6 (L6 J4)) x.1 x.2.1 x.2.2.1).trans (by simp only [atT_self] <;> rfl))
  exact good_first (hp (atT T4 L4) (atT T6 (fun _ => none))) (runOK_of (hp (atT T4 L4) (atT T6 (fun _ => none))) hnp ⟨cutOK_at g4, cutOK_at (p := p6) (T := T6) (J := fun _ => none) good_none, trivial⟩ fin) (fun x => (seg0 (atT T4 L4) (atT T6 (fun _ => none)) x.1 x.2.1).trans (by simp only [atT_self] <;> rfl))
end laws_eqStringS

/-! ### loop.example/wholecheck/laws.eqVar -/
namespace laws_eqVar
noncomputable abbrev c0 : Code := (Tryz.f142.body).getD .skip
noncomputable abbrev pin : Tpl := ⟨[⟨0, true, [.d (.prod (.int .i64) (.prod (.int .i64) (.last (.int .i64))))]⟩, ⟨1, true, [.d (.prod (.int .i64) (.prod (.int .i64) (.last (.int .i64))))]⟩], []⟩
noncomputable abbrev pout : Tpl := ⟨[⟨0, false, [.d .bool]⟩], []⟩
noncomputable abbrev PI := (Int × Int × Int) × (Int × Int × Int) × Unit
noncomputable abbrev PO := Bool × Unit
noncomputable abbrev rs : List ResultVar := [.tmp 4]
noncomputable def F0 (x0 : Int × Int × Int) (x1 : Int × Int × Int) : Option PO :=
  bif x0.1 != x1.1 then
    some (false, ())
  else
    bif x0.2.1 != x1.2.1 then
      some (false, ())
    else
      bif x0.2.2 != x1.2.2 then
        some (false, ())
      else
        some (true, ())
noncomputable def hd {R : Type} : Hand R := handNil
noncomputable def pg : Prog PO := { nt := 20, np := 2, tb := tabOf tab, hd := hd, cuts := cutsOf [], fin := endOf (tabOf tab) rs 2 pout }
noncomputable def q : FuncId → Bool := fun f => hasId [] f
theorem seg0 (x0 : Int × Int × Int) (x1 : Int × Int × Int) : arun (pg) 5000 [.code c0] (mk pin (x0, x1, ())) = F0 x0 x1 := by kernel_rfl
noncomputable def impl : PI → Option PO := fun x => F0 x.1 x.2.1
theorem impl_eq (x0 : Int × Int × Int) (x1 : Int × Int × Int) : impl (x0, x1, ()) = F0 x0 x1 := rfl
theorem con : Con Tryz.prog 142 2 rs.length 2 pin pout impl := by
  refine con_of_run' (nt := 20) (c := c0) tabGood Tryz.func142 (by kernel_rfl) (by kernel_rfl) (by kernel_rfl) (by kernel_rfl) (by kernel_rfl) (by kernel_rfl) (by kernel_rfl) ?_
  intro w0 O y hnp
  generalize hPost : (fun (a' : Act) (w' : World) => ∃ μ' S' st', Rel 20 w0 O μ' S' st' a' w' ∧ endOf (tabOf tab) rs 2 pout st' = some y) = Post
  have fin : ∀ (μ : Id → Option Value) (S : Nat → Prop) (st : St) (a : Act) (w : World), Rel 20 w0 O μ S st a w → endOf (tabOf tab) rs 2 pout st = some y → Post a w := fun μ S st a w h he => by rw [← hPost]; exact ⟨μ, S, st, h, he⟩
  have hp : Parts Tryz.prog 142 (pg) [] := ⟨tab_ok tabGood rfl, handNil_ok, rfl⟩
  exact good_first (hp) (runOK_of (hp) hnp trivial fin) (fun x => (seg0 x.1 x.2.1))
end laws_eqVar

/-! ### loop.example/wholecheck/laws.eqVarS -/
namespace laws_eqVarS
noncomputable abbrev c0 : Code := (Tryz.f100.body).getD .skip
noncomputable abbrev pin : Tpl := ⟨[⟨0, false, [.d (.sl (.prod (.int .i64) (.prod (.int .i64) (.last (.int .i64)))))]⟩, ⟨1, false, [.d (.sl (.prod (.int .i64) (.prod (.int .i64) (.last (.int .i64)))))]⟩], []⟩
noncomputable abbrev pout : Tpl := ⟨[⟨0, false, [.d .bool]⟩], []⟩
noncomputable abbrev p4 : Tpl := ⟨[⟨0, false, [.d (.sl (.prod (.int .i64) (.prod (.int .i64) (.last (.int .i64)))))]⟩, ⟨1, false, [.d (.sl (.prod (.int .i64) (.prod (.int .i64) (.last (.int .i64)))))]⟩, ⟨5, false, [.d (.int .i64)]⟩], []⟩
noncomputable def T4 : List Item := (find 4 c0 []).getD []
noncomputable abbrev p6 : Tpl := ⟨[⟨0, false, [.d (.sl (.prod (.int .i64) (.prod (.int .i64) (.last (.int .i64)))))]⟩, ⟨1, false, [.d (.sl (.prod (.int .i64) (.prod (.int .i64) (.last (.int .i64)))))]⟩, ⟨5, false, [.d (.int .i64)]⟩], []⟩
noncomputable def T6 : List Item := (find 6 c0 []).getD []
noncomputable abbrev PI := (List (Int × Int × Int)) × (List (Int × Int × Int)) × Unit
noncomputable abbrev PO := Bool × Unit
noncomputable abbrev P4 := (List (Int × Int × Int)) × (List (Int × Int × Int)) × Int × Unit
noncomputable abbrev P6 := (List (Int × Int × Int)) × (List (Int × Int × Int)) × Int × Unit
noncomputable abbrev rs : List ResultVar := [.tmp 4]
noncomputable def F0 (J4 : P4 → Option PO) (x0 : List (Int × Int × Int)) (x1 : List (Int × Int × Int)) : Option PO :=
  bif (x0.length : Int) != (x1.length : Int) then
    some (false, ())
  else
    J4 (x0, x1, 0, ())
noncomputable def F4 (J6 : P6 → Option PO) (t0 : List (Int × Int × Int)) (t1 : List (Int × Int × Int)) (t5 : Int) : Option PO :=
  bif decide (t5 < (t0.length : Int)) then
    J6 (t0, t1, t5, ())
  else
    some (true, ())
noncomputable def F6 (J4 : P4 → Option PO) (Glaws_eqVar : laws_eqVar.PI → Option laws_eqVar.PO) (t0 : List (Int × Int × Int)) (t1 : List (Int × Int × Int)) (t5 : Int) : Option PO :=
  bif inb t5 t0.length then
    bif inb t5 t1.length then
      Option.bind (Glaws_eqVar (t0.getD t5.toNat (0, 0, 0), t1.getD t5.toNat (0, 0, 0), ())) fun y0 =>
      bif !y0.1 then
        some (false, ())
      else
        J4 (t0, t1, wI (t5 + 1), ())
    else
      none
  else
    none
noncomputable def hd {R : Type} (Glaws_eqVar : laws_eqVar.PI → Option laws_eqVar.PO) : Hand R := (handAt 142 [25] true ⟨2, 1, 2, laws_eqVar.pin, laws_eqVar.pout, Glaws_eqVar⟩ handNil)
noncomputable def pg (Glaws_eqVar : laws_eqVar.PI → Option laws_eqVar.PO) (J4 : List Item → P4 → Option PO) (J6 : List Item → P6 → Option PO) : Prog PO := { nt := 27, np := 2, tb := tabOf tab, hd := hd Glaws_eqVar, cuts := cutsOf [(4, cut p4 J4), (6, cut p6 J6)], fin := endOf (tabOf tab) rs 2 pout }
noncomputable def q : FuncId → Bool := fun f => hasId [142] f
theorem seg0 (Glaws_eqVar : laws_eqVar.PI → Option laws_eqVar.PO) (J4 : List Item → P4 → Option PO) (J6 : List Item → P6 → Option PO) (x0 : List (Int × Int × Int)) (x1 : List (Int × Int × Int)) : arun (pg Glaws_eqVar J4 J6) 5000 [.code c0] (mk pin (x0, x1, ())) = F0 (J4 T4) x0 x1 := by kernel_rfl
theorem seg4 (Glaws_eqVar : laws_eqVar.PI → Option laws_eqVar.PO) (J4 : List Item → P4 → Option PO) (J6 : List Item → P6 → Option PO) (t0 : List (Int × Int × Int)) (t1 : List (Int × Int × Int)) (t5 : Int) : arun1 (pg Glaws_eqVar J4 J6) 5000 T4 (mk p4 (t0, t1, t5, ())) = F4 (J6 T6) t0 t1 t5 := by kernel_rfl
theorem seg6 (Glaws_eqVar : laws_eqVar.PI → Option laws_eqVar.PO) (J4 : List Item → P4 → Option PO) (J6 : List Item → P6 → Option PO) (t0 : List (Int × Int × Int)) (t1 : List (Int × Int × Int)) (t5 : Int) : arunQ (pg Glaws_eqVar J4 J6) q [] [] 5000 T6 (mk p6 (t0, t1, t5, ())) = List.replicate (arunQ (pg Glaws_eqVar J4 J6) q [] [] 5000 T6 (mk p6 (t0, t1, t5, ()))).length (F6 (J4 T4) Glaws_eqVar t0 t1 t5) := by kernel_rfl
noncomputable def L6 (J4 : P4 → Option PO) : P6 → Option PO := fun x => F6 J4 laws_eqVar.impl x.1 x.2.1 x.2.2.1
noncomputable def L4 : P4 → Option PO := lfp fun J4 x => F4 (L6 J4) x.1 x.2.1 x.2.2.1
noncomputable def impl : PI → Option PO := fun x => F0 L4 x.1 x.2.1
theorem F6_le {J4 J4' : P4 → Option PO} (h4 : OLe J4 J4') {Glaws_eqVar : laws_eqVar.PI → Option laws_eqVar.PO} (t0 : List (Int × Int × Int)) (t1 : List (Int × Int × Int)) (t5 : Int) : OptLe (F6 J4 Glaws_eqVar t0 t1 t5) (F6 J4' Glaws_eqVar t0 t1 t5) := by unfold F6; exact .cond (.cond (.bind (.refl _) fun _ => .cond (.refl _) (.of h4 _)) (.refl _)) (.refl _)
theorem F4_le {J6 J6' : P6 → Option PO} (h6 : OLe J6 J6') (t0 : List (Int × Int × Int)) (t1 : List (Int × Int × Int)) (t5 : Int) : OptLe (F4 J6 t0 t1 t5) (F4 J6' t0 t1 t5) := by unfold F4; exact .cond (.of h6 _) (.refl _)
theorem L6_eq (J4 : P4 → Option PO) (t0 : List (Int × Int × Int)) (t1 : List (Int × Int × Int)) (t5 : Int) : L6 J4 (t0, t1, t5, ()) = F6 J4 laws_eqVar.impl t0 t1 t5 := rfl
theorem L6_le {J4 J4' : P4 → Option PO} (h4 : OLe J4 J4') : OLe (L6 J4) (L6 J4') := fun x => F6_le h4 x.1 x.2.1 x.2.2.1
theorem L4_mono : OMono fun J4 (x : P4) => F4 (L6 J4) x.1 x.2.1 x.2.2.1 := fun J J' h4 x => F4_le (L6_le h4) x.1 x.2.1 x.2.2.1
theorem L4_eq (t0 : List (Int × Int × Int)) (t1 : List (Int × Int × Int)) (t5 : Int) : L4 (t0, t1, t5, ()) = F4 (L6 (L4)) t0 t1 t5 := congrFun (lfp_eq (L4_mono)) _
theorem impl_eq (x0 : List (Int × Int × Int)) (x1 : List (Int × Int × Int)) : impl (x0, x1, ()) = F0 L4 x0 x1 := rfl
theorem con : Con Tryz.prog 100 2 rs.length 2 pin pout impl := by
  refine con_of_run' (nt := 27) (c := c0) tabGood Tryz.func100 (by kernel_rfl) (by kernel_rfl) (by kernel_rfl) (by kernel_rfl) (by kernel_rfl) (by kernel_rfl) (by kernel_rfl) ?_
  intro w0 O y hnp
  generalize hPost : (fun (a' : Act) (w' : World) => ∃ μ' S' st', Rel 27 w0 O μ' S' st' a' w' ∧ endOf (tabOf tab) rs 2 pout st' = some y) = Post
  have fin : ∀ (μ : Id → Option Value) (S : Nat → Prop) (st : St) (a : Act) (w : World), Rel 27 w0 O μ S st a w → endOf (tabOf tab) rs 2 pout st = some y → Post a w := fun μ S st a w h he => by rw [← hPost]; exact ⟨μ, S, st, h, he⟩
  have hp : ∀ (J4 : List Item → P4 → Option PO), ∀ (J6 : List Item → P6 → Option PO), Parts Tryz.prog 100 (pg laws_eqVar.impl J4 J6) [(4, cut p4 J4), (6, cut p6 J6)] := fun J4 J6 => ⟨tab_ok tabGood rfl, (handAt_ok laws_eqVar.con handNil_ok), rfl⟩
  have g6 : ∀ (J4 : P4 → Option PO), Good Tryz.prog 27 w0 O Post y T4 p4 J4 → Good Tryz.prog 27 w0 O Post y T6 p6 (L6 J4) := fun J4 h4 => good_quiet (hs := hd laws_eqVar.impl) (cv' := hd laws_eqVar.impl) (Checked.mixed Tryz.checked) (hp (atT T4 J4) (atT T6 (fun _ => none))) (handAt_D laws_eqVar.con (by rfl) rfl handNil_D) (handAt_nat handNil_nat) (handAt_nat handNil_nat) (runOK_of (hp (atT T4 J4) (atT T6 (fun _ => none))) hnp ⟨cutOK_at h4, cutOK_at (p := p6) (T := T6) (J := fun _ => none) good_none, trivial⟩ fin) (fun x => all_same ⟨_, (seg6 laws_eqVar.impl (atT T4 J4) (atT T6 (fun _ => none)) x.1 x.2.1 x.2.2.1).trans (by simp only [atT_self] <;> rfl)⟩)
  have g4 : Good Tryz.prog 27 w0 O Post y T4 p4 L4 := good_lfp fun J4 h4 => good_part (hp (atT T4 (fun _ => none)) (atT T6 (L6 J4))) (runOK_of (hp (atT T4 (fun _ => none)) (atT T6 (L6 J4))) hnp ⟨cutOK_at (p := p4) (T := T4) (J := fun _ => none) good_none, cutOK_at (g6 J4 h4), trivial⟩ fin) (fun x => (seg4 laws_eqVar.impl (atT T4 (fun _ => none)) (atT T6 (L6 J4)) x.1 x.2.1 x.2.2.1).trans (by simp only [atT_self] <;> rfl))
  exact good_first (hp (atT T4 L4) (atT T6 (fun _ => none))) (runOK_of (hp (atT T4 L4) (atT T6 (fun _ => none))) hnp ⟨cutOK_at g4, cutOK_at (p := p6) (T := T6) (J := fun _ => none) good_none, trivial⟩ fin) (fun x => (seg0 laws_eqVar.impl (atT T4 L4) (atT T6 (fun _ => none)) x.1 x.2.1).trans (by simp only [atT_self] <;> rfl))
end laws_eqVarS

/-! ### loop.example/wholecheck/laws.eqTerm -/
namespace laws_eqTerm
noncomputable abbrev c0 : Code := (Tryz.f144.body).getD .skip
noncomputable abbrev pin : Tpl := ⟨[⟨0, true, [.d (.prod (.int .i64) (.prod (.int .i64) (.prod (.int .i64) (.last (.int .i64)))))]⟩, ⟨1, true, [.d (.prod (.int .i64) (.prod (.int .i64) (.prod (.int .i64) (.last (.int .i64)))))]⟩], []⟩
noncomputable abbrev pout : Tpl := ⟨[⟨0, false, [.d .bool]⟩], []⟩
noncomputable abbrev PI := (Int × Int × Int × Int) × (Int × Int × Int × Int) × Unit
noncomputable abbrev PO := Bool × Unit
noncomputable abbrev rs : List ResultVar := [.tmp 4]
noncomputable def F0 (x0 : Int × Int × Int × Int) (x1 : Int × Int × Int × Int) : Option PO :=
  bif x0.1 != x1.1 then
    some (false, ())
  else
    bif x0.2.1 != x1.2.1 then
      some (false, ())
    else
      bif x0.2.2.1 != x1.2.2.1 then
        some (false, ())
      else
        bif x0.2.2.2 != x1.2.2.2 then
          some (false, ())
        else
          some (true, ())
noncomputable def hd {R : Type} : Hand R := handNil
noncomputable def pg : Prog PO := { nt := 25, np := 2, tb := tabOf tab, hd := hd, cuts := cutsOf [], fin := endOf (tabOf tab) rs 2 pout }
noncomputable def q : FuncId → Bool := fun f => hasId [] f
theorem seg0 (x0 : Int × Int × Int × Int) (x1 : Int × Int × Int × Int) : arun (pg) 5000 [.code c0] (mk pin (x0, x1, ())) = F0 x0 x1 := by kernel_rfl
noncomputable def impl : PI → Option PO := fun x => F0 x.1 x.2.1
theorem impl_eq (x0 : Int × Int × Int × Int) (x1 : Int × Int × Int × Int) : impl (x0, x1, ()) = F0 x0 x1 := rfl
theorem con : Con Tryz.prog 144 2 rs.length 2 pin pout impl := by
  refine con_of_run' (nt := 25) (c := c0) tabGood Tryz.func144 (by kernel_rfl) (by kernel_rfl) (by kernel_rfl) (by kernel_rfl) (by kernel_rfl) (by kernel_rfl) (by kernel_rfl) ?_
  intro w0 O y hnp
  generalize hPost : (fun (a' : Act) (w' : World) => ∃ μ' S' st', Rel 25 w0 O μ' S' st' a' w' ∧ endOf (tabOf tab) rs 2 pout st' = some y) = Post
  have fin : ∀ (μ : Id → Option Value) (S : Nat → Prop) (st : St) (a : Act) (w : World), Rel 25 w0 O μ S st a w → endOf (tabOf tab) rs 2 pout st = some y → Post a w := fun μ S st a w h he => by rw [← hPost]; exact ⟨μ, S, st, h, he⟩
  have hp : Parts Tryz.prog 144 (pg) [] := ⟨tab_ok tabGood rfl, handNil_ok, rfl⟩
  exact good_first (hp) (runOK_of (hp) hnp trivial fin) (fun x => (seg0 x.1 x.2.1))
end laws_eqTerm

/-! ### loop.example/wholecheck/laws.eqTermS -/
namespace laws_eqTermS
noncomputable abbrev c0 : Code := (Tryz.f102.body).getD .skip
noncomputable abbrev pin : Tpl := ⟨[⟨0, false, [.d (.sl (.prod (.int .i64) (.prod (.int .i64) (.prod (.int .i64) (.last (.int .i64))))))]⟩, ⟨1, false, [.d (.sl (.prod (.int .i64) (.prod (.int .i64) (.prod (.int .i64) (.last (.int .i64))))))]⟩], []⟩
noncomputable abbrev pout : Tpl := ⟨[⟨0, false, [.d .bool]⟩], []⟩
noncomputable abbrev p4 : Tpl := ⟨[⟨0, false, [.d (.sl (.prod (.int .i64) (.prod (.int .i64) (.prod (.int .i64) (.last (.int .i64))))))]⟩, ⟨1, false, [.d (.sl (.prod (.int .i64) (.prod (.int .i64) (.prod (.int .i64) (.last (.int .i64))))))]⟩, ⟨5, false, [.d (.int .i64)]⟩], []⟩
noncomputable def T4 : List Item := (find 4 c0 []).getD []
noncomputable abbrev p6 : Tpl := ⟨[⟨0, false, [.d (.sl (.prod (.int .i64) (.prod (.int .i64) (.prod (.int .i64) (.last (.int .i64))))))]⟩, ⟨1, false, [.d (.sl (.prod (.int .i64) (.prod (.int .i64) (.prod (.int .i64) (.last (.int .i64))))))]⟩, ⟨5, false, [.d (.int .i64)]⟩], []⟩
noncomputable def T6 : List Item := (find 6 c0 []).getD []
noncomputable abbrev PI := (List (Int × Int × Int × Int)) × (List (Int × Int × Int × Int)) × Unit
noncomputable abbrev PO := Bool × Unit
noncomputable abbrev P4 := (List (Int × Int × Int × Int)) × (List (Int × Int × Int × Int)) × Int × Unit
noncomputable abbrev P6 := (List (Int × Int × Int × Int)) × (List (Int × Int × Int × Int)) × Int × Unit
noncomputable abbrev rs : List ResultVar := [.tmp 4]
noncomputable def F0 (J4 : P4 → Option PO) (x0 : List (Int × Int × Int × Int)) (x1 : List (Int × Int × Int × Int)) : Option PO :=
  bif (x0.length : Int) != (x1.length : Int) then
    some (false, ())
  else
    J4 (x0, x1, 0, ())
noncomputable def F4 (J6 : P6 → Option PO) (t0 : List (Int × Int × Int × Int)) (t1 : List (Int × Int × Int × Int)) (t5 : Int) : Option PO :=
  bif decide (t5 < (t0.length : Int)) then
    J6 (t0, t1, t5, ())
  else
    some (true, ())
noncomputable def F6 (J4 : P4 → Option PO) (Glaws_eqTerm : laws_eqTerm.PI → Option laws_eqTerm.PO) (t0 : List (Int × Int × Int × Int)) (t1 : List (Int × Int × Int × Int)) (t5 : Int) : Option PO :=
  bif inb t5 t0.length then
    bif inb t5 t1.length then
      Option.bind (Glaws_eqTerm (t0.getD t5.toNat (0, 0, 0, 0), t1.getD t5.toNat (0, 0, 0, 0), ())) fun y0 =>
      bif !y0.1 then
        some (false, ())
      else
        J4 (t0, t1, wI (t5 + 1), ())
    else
      none
  else
    none
noncomputable def hd {R : Type} (Glaws_eqTerm : laws_eqTerm.PI → Option laws_eqTerm.PO) : Hand R := (handAt 144 [25] true ⟨2, 1, 2, laws_eqTerm.pin, laws_eqTerm.pout, Glaws_eqTerm⟩ handNil)
noncomputable def pg (Glaws_eqTerm : laws_eqTerm.PI → Option laws_eqTerm.PO) (J4 : List Item → P4 → Option PO) (J6 : List Item → P6 → Option PO) : Prog PO := { nt := 27, np := 2, tb := tabOf tab, hd := hd Glaws_eqTerm, cuts := cutsOf [(4, cut p4 J4), (6, cut p6 J6)], fin := endOf (tabOf tab) rs 2 pout }
noncomputable def q : FuncId → Bool := fun f => hasId [144] f
theorem seg0 (Glaws_eqTerm : laws_eqTerm.PI → Option laws_eqTerm.PO) (J4 : List Item → P4 → Option PO) (J6 : List Item → P6 → Option PO) (x0 : List (Int × Int × Int × Int)) (x1 : List (Int × Int × Int × Int)) : arun (pg Glaws_eqTerm J4 J6) 5000 [.code c0] (mk pin (x0, x1, ())) = F0 (J4 T4) x0 x1 := by kernel_rfl
theorem seg4 (Glaws_eqTerm : laws_eqTerm.PI → Option laws_eqTerm.PO) (J4 : List Item → P4 → Option PO) (J6 : List Item → P6 → Option PO) (t0 : List (Int × Int × Int × Int)) (t1 : List (Int × Int × Int × Int)) (t5 : Int) : arun1 (pg Glaws_eqTerm J4 J6) 5000 T4 (mk p4 (t0, t1, t5, ())) = F4 (J6 T6) t0 t1 t5 := by kernel_rfl
theorem seg6 (Glaws_eqTerm : laws_eqTerm.PI → Option laws_eqTerm.PO) (J4 : List Item → P4 → Option PO) (J6 : List Item → P6 → Option PO) (t0 : List (Int × Int × Int × Int)) (t1 : List (Int × Int × Int × Int)) (t5 : Int) : arunQ (pg Glaws_eqTerm J4 J6) q [] [] 5000 T6 (mk p6 (t0, t1, t5, ())) = List.replicate (arunQ (pg Glaws_eqTerm J4 J6) q [] [] 5000 T6 (mk p6 (t0, t1, t5, ()))).length (F6 (J4 T4) Glaws_eqTerm t0 t1 t5) := by kernel_rfl
noncomputable def L6 (J4 : P4 → Option PO) : P6 → Option PO := fun x => F6 J4 laws_eqTerm.impl x.1 x.2.1 x.2.2.1
noncomputable def L4 : P4 → Option PO := lfp fun J4 x => F4 (L6 J4) x.1 x.2.1 x.2.2.1
noncomputable def impl : PI → Option PO := fun x => F0 L4 x.1 x.2.1
theorem F6_le {J4 J4' : P4 → Option PO} (h4 : OLe J4 J4') {Glaws_eqTerm : laws_eqTerm.PI → Option laws_eqTerm.PO} (t0 : List (Int × Int × Int × Int)) (t1 : List (Int × Int × Int × Int)) (t5 : Int) : OptLe (F6 J4 Glaws_eqTerm t0 t1 t5) (F6 J4' Glaws_eqTerm t0 t1 t5) := by unfold F6; exact .cond (.cond (.bind (.refl _) fun _ => .cond (.refl _) (.of h4 _)) (.refl _)) (.refl _)
theorem F4_le {J6 J6' : P6 → Option PO} (h6 : OLe J6 J6') (t0 : List (Int × Int × Int × Int)) (t1 : List (Int × Int × Int × Int)) (t5 : Int) : OptLe (F4 J6 t0 t1 t5) (F4 J6' t0 t1 t5) := by unfold F4; exact .cond (.of h6 _) (.refl _)
theorem L6_eq (J4 : P4 → Option PO) (t0 : List (Int × Int × Int × Int)) (t1 : List (Int × Int × Int × Int)) (t5 : Int) : L6 J4 (t0, t1, t5, ()) = F6 J4 laws_eqTerm.impl t0 t1 t5 := rfl
theorem L6_le {J4 J4' : P4 → Option PO} (h4 : OLe J4 J4') : OLe (L6 J4) (L6 J4') := fun x => F6_le h4 x.1 x.2.1 x.2.2.1
theorem L4_mono : OMono fun J4 (x : P4) => F4 (L6 J4) x.1 x.2.1 x.2.2.1 := fun J J' h4 x => F4_le (L6_le h4) x.1 x.2.1 x.2.2.1
theorem L4_eq (t0 : List (Int × Int × Int × Int)) (t1 : List (Int × Int × Int × Int)) (t5 : Int) : L4 (t0, t1, t5, ()) = F4 (L6 (L4)) t0 t1 t5 := congrFun (lfp_eq (L4_mono)) _
theorem impl_eq (x0 : List (Int × Int × Int × Int)) (x1 : List (Int × Int × Int × Int)) : impl (x0, x1, ()) = F0 L4 x0 x1 := rfl
theorem con : Con Tryz.prog 102 2 rs.length 2 pin pout impl := by
  refine con_of_run' (nt := 27) (c := c0) tabGood Tryz.func102 (by kernel_rfl) (by kernel_rfl) (by kernel_rfl) (by kernel_rfl) (by kernel_rfl) (by kernel_rfl) (by kernel_rfl) ?_
  intro w0 O y hnp
  generalize hPost : (fun (a' : Act) (w' : World) => ∃ μ' S' st', Rel 27 w0 O μ' S' st' a' w' ∧ endOf (tabOf tab) rs 2 pout st' = some y) = Post
  have fin : ∀ (μ : Id → Option Value) (S : Nat → Prop) (st : St) (a : Act) (w : World), Rel 27 w0 O μ S st a w → endOf (tabOf tab) rs 2 pout st = some y → Post a w := fun μ S st a w h he => by rw [← hPost]; exact ⟨μ, S, st, h, he⟩
  have hp : ∀ (J4 : List Item → P4 → Option PO), ∀ (J6 : List Item → P6 → Option PO), Parts Tryz.prog 102 (pg laws_eqTerm.impl J4 J6) [(4, cut p4 J4), (6, cut p6 J6)] := fun J4 J6 => ⟨tab_ok tabGood rfl, (handAt_ok laws_eqTerm.con handNil_ok), rfl⟩
  have g6 : ∀ (J4 : P4 → Option PO), Good Tryz.prog 27 w0 O Post y T4 p4 J4 → Good Tryz.prog 27 w0 O Post y T6 p6 (L6 J4) := fun J4 h4 => good_quiet (hs := hd laws_eqTerm.impl) (cv' := hd laws_eqTerm.impl) (Checked.mixed Tryz.checked) (hp (atT T4 J4) (atT T6 (fun _ => none))) (handAt_D laws_eqTerm.con (by rfl) rfl handNil_D) (handAt_nat handNil_nat) (handAt_nat handNil_nat) (runOK_of (hp (atT T4 J4) (atT T6 (fun _ => none))) hnp ⟨cutOK_at h4, cutOK_at (p := p6) (T := T6) (J := fun _ => none) good_none, trivial⟩ fin) (fun x => all_same ⟨_, (seg6 laws_eqTerm.impl (atT T4 J4) (atT T6 (fun _ => none)) x.1 x.2.1 x.2.2.1).trans (by simp only [atT_self] <;> rfl)⟩)
  have g4 : Good Tryz.prog 27 w0 O Post y T4 p4 L4 := good_lfp fun J4 h4 => good_part (hp (atT T4 (fun _ => none)) (atT T6 (L6 J4))) (runOK_of (hp (atT T4 (fun _ => none)) (atT T6 (L6 J4))) hnp ⟨cutOK_at (p := p4) (T := T4) (J := fun _ => none) good_none, cutOK_at (g6 J4 h4), trivial⟩ fin) (fun x => (seg4 laws_eqTerm.impl (atT T4 (fun _ => none)) (atT T6 (L6 J4)) x.1 x.2.1 x.2.2.1).trans (by simp only [atT_self] <;> rfl))
  exact good_first (hp (atT T4 L4) (atT T6 (fun _ => none))) (runOK_of (hp (atT T4 L4) (atT T6 (fun _ => none))) hnp ⟨cutOK_at g4, cutOK_at (p := p6) (T := T6) (J := fun _ => none) good_none, trivial⟩ fin) (fun x => (seg0 laws_eqTerm.impl (atT T4 L4) (atT T6 (fun _ => none)) x.1 x.2.1).trans (by simp only [atT_self] <;> rfl))
end laws_eqTermS
end Go.Proofs.YtfjnckjkpkhbdaaGreatDoorB
