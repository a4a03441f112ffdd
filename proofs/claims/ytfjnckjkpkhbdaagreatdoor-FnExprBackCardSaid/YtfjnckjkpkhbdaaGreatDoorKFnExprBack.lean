/- PRINTED BY A PROGRAM OF THIS CLAIM'S AUTHOR (wip/gen): functions of the given program, their parts, their contracts. -/
import Derived.Test.YtfjnckjkpkhbdaaGreatDoorKFnExprBacka
set_option linter.unusedVariables false
set_option linter.unusedSimpArgs false
set_option maxRecDepth 100000
namespace Go.Proofs.YtfjnckjkpkhbdaaGreatDoorB
open Go

/-! ### (*loop.example/wholecheck/impl.scan).expr -/
namespace impl_scan_expr
noncomputable abbrev c0 : Code := (Tryz.f108.body).getD .skip
noncomputable abbrev pin : Tpl := ⟨[⟨0, false, [.ptr 500001 0]⟩, ⟨1, false, [.d (.int .i64)]⟩], [(500001, .box [.d (.sl .str), .d .str, .d (.int .i64), .row 500002]), (500002, .row 52 true (.prod (.int .i64) (.prod (.int .i64) (.prod (.int .i64) (.last (.int .i64))))))]⟩
noncomputable abbrev pout : Tpl := ⟨[⟨0, false, [.d (.int .i64)]⟩, ⟨1, false, [.ptr 500001 0]⟩], [(500001, .box [.d (.sl .str), .d .str, .d (.int .i64), .row 500002]), (500002, .row 52 true (.prod (.int .i64) (.prod (.int .i64) (.prod (.int .i64) (.last (.int .i64))))))]⟩
noncomputable abbrev p1 : Tpl := ⟨[⟨0, false, [.ptr 500001 0]⟩, ⟨1, false, [.d (.int .i64)]⟩], [(500001, .box [.d (.sl .str), .d .str, .d (.int .i64), .row 500002]), (500002, .row 52 true (.prod (.int .i64) (.prod (.int .i64) (.prod (.int .i64) (.last (.int .i64))))))]⟩
noncomputable def T1 : List Item := (find 1 c0 []).getD []
noncomputable abbrev p3 : Tpl := ⟨[⟨0, false, [.ptr 500001 0]⟩, ⟨1, false, [.d (.int .i64)]⟩], [(500001, .box [.d (.sl .str), .d .str, .d (.int .i64), .row 500002]), (500002, .row 52 true (.prod (.int .i64) (.prod (.int .i64) (.prod (.int .i64) (.last (.int .i64))))))]⟩
noncomputable def T3 : List Item := (find 3 c0 []).getD []
noncomputable abbrev p10 : Tpl := ⟨[⟨0, false, [.ptr 500001 0]⟩], [(500001, .box [.d (.sl .str), .d .str, .d (.int .i64), .row 500002]), (500002, .row 52 true (.prod (.int .i64) (.prod (.int .i64) (.prod (.int .i64) (.last (.int .i64))))))]⟩
noncomputable def T10 : List Item := (find 10 c0 []).getD []
noncomputable abbrev p23 : Tpl := ⟨[⟨0, false, [.ptr 500001 0]⟩, ⟨1, false, [.d (.int .i64)]⟩, ⟨10, false, [.d (.int .i64)]⟩], [(500001, .box [.d (.sl .str), .d .str, .d (.int .i64), .row 500002]), (500002, .row 52 true (.prod (.int .i64) (.prod (.int .i64) (.prod (.int .i64) (.last (.int .i64))))))]⟩
noncomputable def T23 : List Item := (find 23 c0 []).getD []
noncomputable abbrev p25 : Tpl := ⟨[⟨0, false, [.ptr 500001 0]⟩, ⟨1, false, [.d (.int .i64)]⟩, ⟨10, false, [.d (.int .i64)]⟩], [(500001, .box [.d (.sl .str), .d .str, .d (.int .i64), .row 500002]), (500002, .row 52 true (.prod (.int .i64) (.prod (.int .i64) (.prod (.int .i64) (.last (.int .i64))))))]⟩
noncomputable def T25 : List Item := (find 25 c0 []).getD []
noncomputable abbrev p29 : Tpl := ⟨[⟨0, false, [.ptr 500001 0]⟩, ⟨1, false, [.d (.int .i64)]⟩, ⟨10, false, [.d (.int .i64)]⟩, ⟨11, false, [.d (.int .i64)]⟩], [(500001, .box [.d (.sl .str), .d .str, .d (.int .i64), .row 500002]), (500002, .row 52 true (.prod (.int .i64) (.prod (.int .i64) (.prod (.int .i64) (.last (.int .i64))))))]⟩
noncomputable def T29 : List Item := (find 29 c0 []).getD []
noncomputable abbrev PI := Int × (List (List UInt8)) × (List UInt8) × Int × (List (Int × Int × Int × Int)) × Unit
noncomputable abbrev PO := Int × (List (List UInt8)) × (List UInt8) × Int × (List (Int × Int × Int × Int)) × Unit
noncomputable abbrev P1 := Int × (List (List UInt8)) × (List UInt8) × Int × (List (Int × Int × Int × Int)) × Unit
noncomputable abbrev P3 := Int × (List (List UInt8)) × (List UInt8) × Int × (List (Int × Int × Int × Int)) × Unit
noncomputable abbrev P10 := (List (List UInt8)) × (List UInt8) × Int × (List (Int × Int × Int × Int)) × Unit
noncomputable abbrev P23 := Int × Int × (List (List UInt8)) × (List UInt8) × Int × (List (Int × Int × Int × Int)) × Unit
noncomputable abbrev P25 := Int × Int × (List (List UInt8)) × (List UInt8) × Int × (List (Int × Int × Int × Int)) × Unit
noncomputable abbrev P29 := Int × Int × Int × (List (List UInt8)) × (List UInt8) × Int × (List (Int × Int × Int × Int)) × Unit
noncomputable abbrev rs : List ResultVar := [.tmp 4]
noncomputable def F0 (J1 : P1 → Option PO) (x1 : Int) (c1_0 : List (List UInt8)) (c1_1 : List UInt8) (c1_2 : Int) (s2 : List (Int × Int × Int × Int)) : Option PO :=
  J1 (x1, c1_0, c1_1, c1_2, s2, ())
noncomputable def F1 (J3 : P3 → Option PO) (t1 : Int) (c1_0 : List (List UInt8)) (c1_1 : List UInt8) (c1_2 : Int) (s2 : List (Int × Int × Int × Int)) : Option PO :=
  bif c1_2 == (c1_1.length : Int) then
    some ((-1), c1_0, c1_1, c1_2, s2, ())
  else
    J3 (t1, c1_0, c1_1, c1_2, s2, ())
noncomputable def F3 (J10 : P10 → Option PO) (J23 : P23 → Option PO) (Gimpl_numberText : impl_numberText.PI → Option impl_numberText.PO) (Gimpl_scan_expr : PI → Option PO) (Gimpl_scan_put : impl_scan_put.PI → Option impl_scan_put.PO) (Gimpl_scan_run : impl_scan_run.PI → Option impl_scan_run.PO) (Gimpl_scan_take : impl_scan_take.PI → Option impl_scan_take.PO) (t1 : Int) (c1_0 : List (List UInt8)) (c1_1 : List UInt8) (c1_2 : Int) (s2 : List (Int × Int × Int × Int)) : Option PO :=
  bif inb c1_2 c1_1.length then
    bif ((c1_1.getD c1_2.toNat 0).toNat : Int) == 45 then
      Option.bind (Gimpl_scan_run (([45, 48, 49, 50, 51, 52, 53, 54, 55, 56, 57] : List UInt8), c1_0, c1_1, c1_2, s2, ())) fun y0 =>
      Option.bind (Gimpl_numberText (y0.1, ())) fun y1 =>
      bif !y1.2.1 then
        some ((-1), y0.2.1, y0.2.2.1, y0.2.2.2.1, y0.2.2.2.2.1, ())
      else
        Option.bind (Gimpl_scan_put ((0, y1.1, 0, 0), y0.2.1, y0.2.2.1, y0.2.2.2.1, y0.2.2.2.2.1, ())) fun y2 =>
        some (y2.1, y2.2.1, y2.2.2.1, y2.2.2.2.1, y2.2.2.2.2.1, ())
    else
      bif decide (((c1_1.getD c1_2.toNat 0).toNat : Int) ≥ 48) then
        bif decide (((c1_1.getD c1_2.toNat 0).toNat : Int) ≤ 57) then
          Option.bind (Gimpl_scan_run (([45, 48, 49, 50, 51, 52, 53, 54, 55, 56, 57] : List UInt8), c1_0, c1_1, c1_2, s2, ())) fun y3 =>
          Option.bind (Gimpl_numberText (y3.1, ())) fun y4 =>
          bif !y4.2.1 then
            some ((-1), y3.2.1, y3.2.2.1, y3.2.2.2.1, y3.2.2.2.2.1, ())
          else
            Option.bind (Gimpl_scan_put ((0, y4.1, 0, 0), y3.2.1, y3.2.2.1, y3.2.2.2.1, y3.2.2.2.2.1, ())) fun y5 =>
            some (y5.1, y5.2.1, y5.2.2.1, y5.2.2.2.1, y5.2.2.2.2.1, ())
        else
          bif decide (((c1_1.getD c1_2.toNat 0).toNat : Int) ≥ 97) then
            bif decide (((c1_1.getD c1_2.toNat 0).toNat : Int) ≤ 122) then
              J10 (c1_0, c1_1, c1_2, s2, ())
            else
              bif decide (t1 ≥ 40) then
                some ((-1), c1_0, c1_1, c1_2, s2, ())
              else
                Option.bind (Gimpl_scan_take (([33] : List UInt8), c1_0, c1_1, c1_2, s2, ())) fun y6 =>
                bif y6.1 then
                  Option.bind (Gimpl_scan_expr (wI (t1 + 1), y6.2.1, y6.2.2.1, y6.2.2.2.1, y6.2.2.2.2.1, ())) fun y7 =>
                  bif decide (y7.1 < 0) then
                    some ((-1), y7.2.1, y7.2.2.1, y7.2.2.2.1, y7.2.2.2.2.1, ())
                  else
                    Option.bind (Gimpl_scan_put ((7, 0, y7.1, y7.1), y7.2.1, y7.2.2.1, y7.2.2.2.1, y7.2.2.2.2.1, ())) fun y8 =>
                    some (y8.1, y8.2.1, y8.2.2.1, y8.2.2.2.1, y8.2.2.2.2.1, ())
                else
                  Option.bind (Gimpl_scan_take (([40] : List UInt8), y6.2.1, y6.2.2.1, y6.2.2.2.1, y6.2.2.2.2.1, ())) fun y9 =>
                  bif y9.1 then
                    Option.bind (Gimpl_scan_expr (wI (t1 + 1), y9.2.1, y9.2.2.1, y9.2.2.2.1, y9.2.2.2.2.1, ())) fun y10 =>
                    J23 (t1, y10.1, y10.2.1, y10.2.2.1, y10.2.2.2.1, y10.2.2.2.2.1, ())
                  else
                    some ((-1), y9.2.1, y9.2.2.1, y9.2.2.2.1, y9.2.2.2.2.1, ())
          else
            bif decide (t1 ≥ 40) then
              some ((-1), c1_0, c1_1, c1_2, s2, ())
            else
              Option.bind (Gimpl_scan_take (([33] : List UInt8), c1_0, c1_1, c1_2, s2, ())) fun y11 =>
              bif y11.1 then
                Option.bind (Gimpl_scan_expr (wI (t1 + 1), y11.2.1, y11.2.2.1, y11.2.2.2.1, y11.2.2.2.2.1, ())) fun y12 =>
                bif decide (y12.1 < 0) then
                  some ((-1), y12.2.1, y12.2.2.1, y12.2.2.2.1, y12.2.2.2.2.1, ())
                else
                  Option.bind (Gimpl_scan_put ((7, 0, y12.1, y12.1), y12.2.1, y12.2.2.1, y12.2.2.2.1, y12.2.2.2.2.1, ())) fun y13 =>
                  some (y13.1, y13.2.1, y13.2.2.1, y13.2.2.2.1, y13.2.2.2.2.1, ())
              else
                Option.bind (Gimpl_scan_take (([40] : List UInt8), y11.2.1, y11.2.2.1, y11.2.2.2.1, y11.2.2.2.2.1, ())) fun y14 =>
                bif y14.1 then
                  Option.bind (Gimpl_scan_expr (wI (t1 + 1), y14.2.1, y14.2.2.1, y14.2.2.2.1, y14.2.2.2.2.1, ())) fun y15 =>
                  J23 (t1, y15.1, y15.2.1, y15.2.2.1, y15.2.2.2.1, y15.2.2.2.2.1, ())
                else
                  some ((-1), y14.2.1, y14.2.2.1, y14.2.2.2.1, y14.2.2.2.2.1, ())
      else
        bif decide (((c1_1.getD c1_2.toNat 0).toNat : Int) ≥ 97) then
          bif decide (((c1_1.getD c1_2.toNat 0).toNat : Int) ≤ 122) then
            J10 (c1_0, c1_1, c1_2, s2, ())
          else
            bif decide (t1 ≥ 40) then
              some ((-1), c1_0, c1_1, c1_2, s2, ())
            else
              Option.bind (Gimpl_scan_take (([33] : List UInt8), c1_0, c1_1, c1_2, s2, ())) fun y16 =>
              bif y16.1 then
                Option.bind (Gimpl_scan_expr (wI (t1 + 1), y16.2.1, y16.2.2.1, y16.2.2.2.1, y16.2.2.2.2.1, ())) fun y17 =>
                bif decide (y17.1 < 0) then
                  some ((-1), y17.2.1, y17.2.2.1, y17.2.2.2.1, y17.2.2.2.2.1, ())
                else
                  Option.bind (Gimpl_scan_put ((7, 0, y17.1, y17.1), y17.2.1, y17.2.2.1, y17.2.2.2.1, y17.2.2.2.2.1, ())) fun y18 =>
                  some (y18.1, y18.2.1, y18.2.2.1, y18.2.2.2.1, y18.2.2.2.2.1, ())
              else
                Option.bind (Gimpl_scan_take (([40] : List UInt8), y16.2.1, y16.2.2.1, y16.2.2.2.1, y16.2.2.2.2.1, ())) fun y19 =>
                bif y19.1 then
                  Option.bind (Gimpl_scan_expr (wI (t1 + 1), y19.2.1, y19.2.2.1, y19.2.2.2.1, y19.2.2.2.2.1, ())) fun y20 =>
                  J23 (t1, y20.1, y20.2.1, y20.2.2.1, y20.2.2.2.1, y20.2.2.2.2.1, ())
                else
                  some ((-1), y19.2.1, y19.2.2.1, y19.2.2.2.1, y19.2.2.2.2.1, ())
        else
          bif decide (t1 ≥ 40) then
            some ((-1), c1_0, c1_1, c1_2, s2, ())
          else
            Option.bind (Gimpl_scan_take (([33] : List UInt8), c1_0, c1_1, c1_2, s2, ())) fun y21 =>
            bif y21.1 then
              Option.bind (Gimpl_scan_expr (wI (t1 + 1), y21.2.1, y21.2.2.1, y21.2.2.2.1, y21.2.2.2.2.1, ())) fun y22 =>
              bif decide (y22.1 < 0) then
                some ((-1), y22.2.1, y22.2.2.1, y22.2.2.2.1, y22.2.2.2.2.1, ())
              else
                Option.bind (Gimpl_scan_put ((7, 0, y22.1, y22.1), y22.2.1, y22.2.2.1, y22.2.2.2.1, y22.2.2.2.2.1, ())) fun y23 =>
                some (y23.1, y23.2.1, y23.2.2.1, y23.2.2.2.1, y23.2.2.2.2.1, ())
            else
              Option.bind (Gimpl_scan_take (([40] : List UInt8), y21.2.1, y21.2.2.1, y21.2.2.2.1, y21.2.2.2.2.1, ())) fun y24 =>
              bif y24.1 then
                Option.bind (Gimpl_scan_expr (wI (t1 + 1), y24.2.1, y24.2.2.1, y24.2.2.2.1, y24.2.2.2.2.1, ())) fun y25 =>
                J23 (t1, y25.1, y25.2.1, y25.2.2.1, y25.2.2.2.1, y25.2.2.2.2.1, ())
              else
                some ((-1), y24.2.1, y24.2.2.1, y24.2.2.2.1, y24.2.2.2.2.1, ())
  else
    none
noncomputable def F10o0 (Gimpl_scan_put : impl_scan_put.PI → Option impl_scan_put.PO) (Gimpl_scan_run : impl_scan_run.PI → Option impl_scan_run.PO) (Gslices_Index_of : slices_Index_of.PI → Option slices_Index_of.PO) (c1_0 : List (List UInt8)) (c1_1 : List UInt8) (c1_2 : Int) (s2 : List (Int × Int × Int × Int)) : Option PO :=
  Option.bind (Gimpl_scan_run (([97, 98, 99, 100, 101, 102, 103, 104, 105, 106, 107, 108, 109, 110, 111, 112, 113, 114, 115, 116, 117, 118, 119, 120, 121, 122] : List UInt8), c1_0, c1_1, c1_2, s2, ())) fun y26 =>
  Option.bind (Gslices_Index_of (c1_0, y26.1, ())) fun y27 =>
  bif decide (y27.1 < 0) then
    some ((-1), y26.2.1, y26.2.2.1, y26.2.2.2.1, y26.2.2.2.2.1, ())
  else
    Option.bind (Gimpl_scan_put ((1, y27.1, 0, 0), y26.2.1, y26.2.2.1, y26.2.2.2.1, y26.2.2.2.2.1, ())) fun y28 =>
    some (y28.1, y28.2.1, y28.2.2.1, y28.2.2.2.1, y28.2.2.2.2.1, ())
noncomputable def F10o1 (Gimpl_scan_put : impl_scan_put.PI → Option impl_scan_put.PO) (Gimpl_scan_run : impl_scan_run.PI → Option impl_scan_run.PO) (Gslices_Index_of : slices_Index_of.PI → Option slices_Index_of.PO) (c1_0 : List (List UInt8)) (c1_1 : List UInt8) (c1_2 : Int) (s2 : List (Int × Int × Int × Int)) : Option PO :=
  Option.bind (Gimpl_scan_run (([97, 98, 99, 100, 101, 102, 103, 104, 105, 106, 107, 108, 109, 110, 111, 112, 113, 114, 115, 116, 117, 118, 119, 120, 121, 122] : List UInt8), c1_0, c1_1, c1_2, s2, ())) fun y26 =>
  Option.bind (Gslices_Index_of (y26.2.1, y26.1, ())) fun y27 =>
  bif decide (y27.1 < 0) then
    some ((-1), y26.2.1, y26.2.2.1, y26.2.2.2.1, y26.2.2.2.2.1, ())
  else
    Option.bind (Gimpl_scan_put ((1, y27.1, 0, 0), y26.2.1, y26.2.2.1, y26.2.2.2.1, y26.2.2.2.2.1, ())) fun y28 =>
    some (y28.1, y28.2.1, y28.2.2.1, y28.2.2.2.1, y28.2.2.2.2.1, ())
noncomputable def F10 (Gimpl_scan_put : impl_scan_put.PI → Option impl_scan_put.PO) (Gimpl_scan_run : impl_scan_run.PI → Option impl_scan_run.PO) (Gslices_Index_of : slices_Index_of.PI → Option slices_Index_of.PO) (c1_0 : List (List UInt8)) (c1_1 : List UInt8) (c1_2 : Int) (s2 : List (Int × Int × Int × Int)) : Option PO :=
  Option.bind (F10o0 Gimpl_scan_put Gimpl_scan_run Gslices_Index_of c1_0 c1_1 c1_2 s2) fun (y0 : PO) => Option.bind (F10o1 Gimpl_scan_put Gimpl_scan_run Gslices_Index_of c1_0 c1_1 c1_2 s2) fun (y1 : PO) => bif @decide (y1 = y0) (Classical.propDecidable _) then some y0 else none
theorem F10o0_le (Gimpl_scan_put : impl_scan_put.PI → Option impl_scan_put.PO) (Gimpl_scan_run : impl_scan_run.PI → Option impl_scan_run.PO) (Gslices_Index_of : slices_Index_of.PI → Option slices_Index_of.PO) (c1_0 : List (List UInt8)) (c1_1 : List UInt8) (c1_2 : Int) (s2 : List (Int × Int × Int × Int)) : OptLe (F10 Gimpl_scan_put Gimpl_scan_run Gslices_Index_of c1_0 c1_1 c1_2 s2) (F10o0 Gimpl_scan_put Gimpl_scan_run Gslices_Index_of c1_0 c1_1 c1_2 s2) := by
  intro y h; unfold F10 at h
  obtain ⟨y0, e0, h⟩ := Option.bind_eq_some_iff.1 h
  obtain ⟨y1, e1, h⟩ := Option.bind_eq_some_iff.1 h
  have hc := (cond_some h).1; replace h := (cond_some h).2
  simp only [Bool.and_eq_true, decide_eq_true_eq] at hc
  rw [e0, h]
theorem F10o1_le (Gimpl_scan_put : impl_scan_put.PI → Option impl_scan_put.PO) (Gimpl_scan_run : impl_scan_run.PI → Option impl_scan_run.PO) (Gslices_Index_of : slices_Index_of.PI → Option slices_Index_of.PO) (c1_0 : List (List UInt8)) (c1_1 : List UInt8) (c1_2 : Int) (s2 : List (Int × Int × Int × Int)) : OptLe (F10 Gimpl_scan_put Gimpl_scan_run Gslices_Index_of c1_0 c1_1 c1_2 s2) (F10o1 Gimpl_scan_put Gimpl_scan_run Gslices_Index_of c1_0 c1_1 c1_2 s2) := by
  intro y h; unfold F10 at h
  obtain ⟨y0, e0, h⟩ := Option.bind_eq_some_iff.1 h
  obtain ⟨y1, e1, h⟩ := Option.bind_eq_some_iff.1 h
  have hc := (cond_some h).1; replace h := (cond_some h).2
  simp only [Bool.and_eq_true, decide_eq_true_eq] at hc
  rw [e1, hc, h]
noncomputable def F23 (J25 : P25 → Option PO) (Gimpl_scan_take : impl_scan_take.PI → Option impl_scan_take.PO) (t1 : Int) (t10 : Int) (c1_0 : List (List UInt8)) (c1_1 : List UInt8) (c1_2 : Int) (s2 : List (Int × Int × Int × Int)) : Option PO :=
  bif decide (t10 < 0) then
    some ((-1), c1_0, c1_1, c1_2, s2, ())
  else
    Option.bind (Gimpl_scan_take (([32] : List UInt8), c1_0, c1_1, c1_2, s2, ())) fun y29 =>
    bif !y29.1 then
      some ((-1), y29.2.1, y29.2.2.1, y29.2.2.2.1, y29.2.2.2.2.1, ())
    else
      bif y29.2.2.2.1 == (y29.2.2.1.length : Int) then
        some ((-1), y29.2.1, y29.2.2.1, y29.2.2.2.1, y29.2.2.2.2.1, ())
      else
        J25 (t1, t10, y29.2.1, y29.2.2.1, y29.2.2.2.1, y29.2.2.2.2.1, ())
noncomputable def F25 (J29 : P29 → Option PO) (Gimpl_scan_take : impl_scan_take.PI → Option impl_scan_take.PO) (t1 : Int) (t10 : Int) (c1_0 : List (List UInt8)) (c1_1 : List UInt8) (c1_2 : Int) (s2 : List (Int × Int × Int × Int)) : Option PO :=
  bif inb c1_2 c1_1.length then
    bif mapGet (.int .u8) (.int .i64) (mapPut (.int .u8) (.int .i64) (mapPut (.int .u8) (.int .i64) (mapPut (.int .u8) (.int .i64) (mapPut (.int .u8) (.int .i64) (mapPut (.int .u8) (.int .i64) (mapPut (.int .u8) (.int .i64) (mapPut (.int .u8) (.int .i64) [] 43 2) 45 3) 42 4) 60 5) 61 6) 38 8) 124 9) ((c1_1.getD c1_2.toNat 0).toNat : Int) == 0 then
      some ((-1), c1_0, c1_1, wI (c1_2 + 1), s2, ())
    else
      Option.bind (Gimpl_scan_take (([32] : List UInt8), c1_0, c1_1, wI (c1_2 + 1), s2, ())) fun y30 =>
      bif !y30.1 then
        some ((-1), y30.2.1, y30.2.2.1, y30.2.2.2.1, y30.2.2.2.2.1, ())
      else
        J29 (t1, t10, mapGet (.int .u8) (.int .i64) (mapPut (.int .u8) (.int .i64) (mapPut (.int .u8) (.int .i64) (mapPut (.int .u8) (.int .i64) (mapPut (.int .u8) (.int .i64) (mapPut (.int .u8) (.int .i64) (mapPut (.int .u8) (.int .i64) (mapPut (.int .u8) (.int .i64) [] 43 2) 45 3) 42 4) 60 5) 61 6) 38 8) 124 9) ((c1_1.getD c1_2.toNat 0).toNat : Int), y30.2.1, y30.2.2.1, y30.2.2.2.1, y30.2.2.2.2.1, ())
  else
    none
noncomputable def F29 (Gimpl_scan_expr : PI → Option PO) (Gimpl_scan_put : impl_scan_put.PI → Option impl_scan_put.PO) (Gimpl_scan_take : impl_scan_take.PI → Option impl_scan_take.PO) (t1 : Int) (t10 : Int) (t11 : Int) (c1_0 : List (List UInt8)) (c1_1 : List UInt8) (c1_2 : Int) (s2 : List (Int × Int × Int × Int)) : Option PO :=
  Option.bind (Gimpl_scan_expr (wI (t1 + 1), c1_0, c1_1, c1_2, s2, ())) fun y31 =>
  bif decide (y31.1 < 0) then
    some ((-1), y31.2.1, y31.2.2.1, y31.2.2.2.1, y31.2.2.2.2.1, ())
  else
    Option.bind (Gimpl_scan_take (([41] : List UInt8), y31.2.1, y31.2.2.1, y31.2.2.2.1, y31.2.2.2.2.1, ())) fun y32 =>
    bif !y32.1 then
      some ((-1), y32.2.1, y32.2.2.1, y32.2.2.2.1, y32.2.2.2.2.1, ())
    else
      Option.bind (Gimpl_scan_put ((t11, 0, t10, y31.1), y32.2.1, y32.2.2.1, y32.2.2.2.1, y32.2.2.2.2.1, ())) fun y33 =>
      some (y33.1, y33.2.1, y33.2.2.1, y33.2.2.2.1, y33.2.2.2.2.1, ())
noncomputable def hd {R : Type} (Gimpl_numberText : impl_numberText.PI → Option impl_numberText.PO) (Gimpl_scan_expr : PI → Option PO) (Gimpl_scan_put : impl_scan_put.PI → Option impl_scan_put.PO) (Gimpl_scan_run : impl_scan_run.PI → Option impl_scan_run.PO) (Gimpl_scan_take : impl_scan_take.PI → Option impl_scan_take.PO) (Gslices_Index_of : slices_Index_of.PI → Option slices_Index_of.PO) : Hand R := (handAt 153 [80, 94, 103, 141, 152] false ⟨2, 1, 2, impl_scan_take.pin, impl_scan_take.pout, Gimpl_scan_take⟩ (handAt 152 [45, 67] false ⟨2, 1, 2, impl_scan_run.pin, impl_scan_run.pout, Gimpl_scan_run⟩ (handAt 108 [84, 98, 147] false ⟨2, 1, 2, pin, pout, Gimpl_scan_expr⟩ (handAt 106 [68] true ⟨2, 1, 2, slices_Index_of.pin, slices_Index_of.pout, Gslices_Index_of⟩ (handAt 79 [46] true ⟨1, 2, 1, impl_numberText.pin, impl_numberText.pout, Gimpl_numberText⟩ (handAt 64 [54, 74, 91, 160] false ⟨2, 1, 2, impl_scan_put.pin, impl_scan_put.pout, Gimpl_scan_put⟩ handNil))))))
noncomputable def pg (Gimpl_numberText : impl_numberText.PI → Option impl_numberText.PO) (Gimpl_scan_expr : PI → Option PO) (Gimpl_scan_put : impl_scan_put.PI → Option impl_scan_put.PO) (Gimpl_scan_run : impl_scan_run.PI → Option impl_scan_run.PO) (Gimpl_scan_take : impl_scan_take.PI → Option impl_scan_take.PO) (Gslices_Index_of : slices_Index_of.PI → Option slices_Index_of.PO) (J1 : List Item → P1 → Option PO) (J3 : List Item → P3 → Option PO) (J10 : List Item → P10 → Option PO) (J23 : List Item → P23 → Option PO) (J25 : List Item → P25 → Option PO) (J29 : List Item → P29 → Option PO) : Prog PO := { nt := 161, np := 2, tb := tabOf tab, hd := hd Gimpl_numberText Gimpl_scan_expr Gimpl_scan_put Gimpl_scan_run Gimpl_scan_take Gslices_Index_of, cuts := cutsOf [(1, cut p1 J1), (3, cut p3 J3), (10, cut p10 J10), (23, cut p23 J23), (25, cut p25 J25), (29, cut p29 J29)], fin := endOf (tabOf tab) rs 2 pout }
noncomputable def q : FuncId → Bool := fun f => hasId [79, 106] f
theorem seg0 (Gimpl_numberText : impl_numberText.PI → Option impl_numberText.PO) (Gimpl_scan_expr : PI → Option PO) (Gimpl_scan_put : impl_scan_put.PI → Option impl_scan_put.PO) (Gimpl_scan_run : impl_scan_run.PI → Option impl_scan_run.PO) (Gimpl_scan_take : impl_scan_take.PI → Option impl_scan_take.PO) (Gslices_Index_of : slices_Index_of.PI → Option slices_Index_of.PO) (J1 : List Item → P1 → Option PO) (J3 : List Item → P3 → Option PO) (J10 : List Item → P10 → Option PO) (J23 : List Item → P23 → Option PO) (J25 : List Item → P25 → Option PO) (J29 : List Item → P29 → Option PO) (x1 : Int) (c1_0 : List (List UInt8)) (c1_1 : List UInt8) (c1_2 : Int) (s2 : List (Int × Int × Int × Int)) : arun (pg Gimpl_numberText Gimpl_scan_expr Gimpl_scan_put Gimpl_scan_run Gimpl_scan_take Gslices_Index_of J1 J3 J10 J23 J25 J29) 5000 [.code c0] (mk pin (x1, c1_0, c1_1, c1_2, s2, ())) = F0 (J1 T1) x1 c1_0 c1_1 c1_2 s2 := by kernel_rfl
theorem seg1 (Gimpl_numberText : impl_numberText.PI → Option impl_numberText.PO) (Gimpl_scan_expr : PI → Option PO) (Gimpl_scan_put : impl_scan_put.PI → Option impl_scan_put.PO) (Gimpl_scan_run : impl_scan_run.PI → Option impl_scan_run.PO) (Gimpl_scan_take : impl_scan_take.PI → Option impl_scan_take.PO) (Gslices_Index_of : slices_Index_of.PI → Option slices_Index_of.PO) (J1 : List Item → P1 → Option PO) (J3 : List Item → P3 → Option PO) (J10 : List Item → P10 → Option PO) (J23 : List Item → P23 → Option PO) (J25 : List Item → P25 → Option PO) (J29 : List Item → P29 → Option PO) (t1 : Int) (c1_0 : List (List UInt8)) (c1_1 : List UInt8) (c1_2 : Int) (s2 : List (Int × Int × Int × Int)) : arunQ (pg Gimpl_numberText Gimpl_scan_expr Gimpl_scan_put Gimpl_scan_run Gimpl_scan_take Gslices_Index_of J1 J3 J10 J23 J25 J29) q [] [] 5000 T1 (mk p1 (t1, c1_0, c1_1, c1_2, s2, ())) = List.replicate (arunQ (pg Gimpl_numberText Gimpl_scan_expr Gimpl_scan_put Gimpl_scan_run Gimpl_scan_take Gslices_Index_of J1 J3 J10 J23 J25 J29) q [] [] 5000 T1 (mk p1 (t1, c1_0, c1_1, c1_2, s2, ()))).length (F1 (J3 T3) t1 c1_0 c1_1 c1_2 s2) := by kernel_rfl
theorem seg3 (Gimpl_numberText : impl_numberText.PI → Option impl_numberText.PO) (Gimpl_scan_expr : PI → Option PO) (Gimpl_scan_put : impl_scan_put.PI → Option impl_scan_put.PO) (Gimpl_scan_run : impl_scan_run.PI → Option impl_scan_run.PO) (Gimpl_scan_take : impl_scan_take.PI → Option impl_scan_take.PO) (Gslices_Index_of : slices_Index_of.PI → Option slices_Index_of.PO) (J1 : List Item → P1 → Option PO) (J3 : List Item → P3 → Option PO) (J10 : List Item → P10 → Option PO) (J23 : List Item → P23 → Option PO) (J25 : List Item → P25 → Option PO) (J29 : List Item → P29 → Option PO) (t1 : Int) (c1_0 : List (List UInt8)) (c1_1 : List UInt8) (c1_2 : Int) (s2 : List (Int × Int × Int × Int)) : arunQ (pg Gimpl_numberText Gimpl_scan_expr Gimpl_scan_put Gimpl_scan_run Gimpl_scan_take Gslices_Index_of J1 J3 J10 J23 J25 J29) q [] [] 5000 T3 (mk p3 (t1, c1_0, c1_1, c1_2, s2, ())) = List.replicate (arunQ (pg Gimpl_numberText Gimpl_scan_expr Gimpl_scan_put Gimpl_scan_run Gimpl_scan_take Gslices_Index_of J1 J3 J10 J23 J25 J29) q [] [] 5000 T3 (mk p3 (t1, c1_0, c1_1, c1_2, s2, ()))).length (F3 (J10 T10) (J23 T23) Gimpl_numberText Gimpl_scan_expr Gimpl_scan_put Gimpl_scan_run Gimpl_scan_take t1 c1_0 c1_1 c1_2 s2) := by kernel_rfl
theorem seg10 (Gimpl_numberText : impl_numberText.PI → Option impl_numberText.PO) (Gimpl_scan_expr : PI → Option PO) (Gimpl_scan_put : impl_scan_put.PI → Option impl_scan_put.PO) (Gimpl_scan_run : impl_scan_run.PI → Option impl_scan_run.PO) (Gimpl_scan_take : impl_scan_take.PI → Option impl_scan_take.PO) (Gslices_Index_of : slices_Index_of.PI → Option slices_Index_of.PO) (J1 : List Item → P1 → Option PO) (J3 : List Item → P3 → Option PO) (J10 : List Item → P10 → Option PO) (J23 : List Item → P23 → Option PO) (J25 : List Item → P25 → Option PO) (J29 : List Item → P29 → Option PO) (c1_0 : List (List UInt8)) (c1_1 : List UInt8) (c1_2 : Int) (s2 : List (Int × Int × Int × Int)) : arunE (pg Gimpl_numberText Gimpl_scan_expr Gimpl_scan_put Gimpl_scan_run Gimpl_scan_take Gslices_Index_of J1 J3 J10 J23 J25 J29) 5000 T10 (mk p10 (c1_0, c1_1, c1_2, s2, ())) = [F10o0 Gimpl_scan_put Gimpl_scan_run Gslices_Index_of c1_0 c1_1 c1_2 s2, F10o1 Gimpl_scan_put Gimpl_scan_run Gslices_Index_of c1_0 c1_1 c1_2 s2] := by kernel_rfl
theorem seg23 (Gimpl_numberText : impl_numberText.PI → Option impl_numberText.PO) (Gimpl_scan_expr : PI → Option PO) (Gimpl_scan_put : impl_scan_put.PI → Option impl_scan_put.PO) (Gimpl_scan_run : impl_scan_run.PI → Option impl_scan_run.PO) (Gimpl_scan_take : impl_scan_take.PI → Option impl_scan_take.PO) (Gslices_Index_of : slices_Index_of.PI → Option slices_Index_of.PO) (J1 : List Item → P1 → Option PO) (J3 : List Item → P3 → Option PO) (J10 : List Item → P10 → Option PO) (J23 : List Item → P23 → Option PO) (J25 : List Item → P25 → Option PO) (J29 : List Item → P29 → Option PO) (t1 : Int) (t10 : Int) (c1_0 : List (List UInt8)) (c1_1 : List UInt8) (c1_2 : Int) (s2 : List (Int × Int × Int × Int)) : arunE (pg Gimpl_numberText Gimpl_scan_expr Gimpl_scan_put Gimpl_scan_run Gimpl_scan_take Gslices_Index_of J1 J3 J10 J23 J25 J29) 5000 T23 (mk p23 (t1, t10, c1_0, c1_1, c1_2, s2, ())) = List.replicate (arunE (pg Gimpl_numberText Gimpl_scan_expr Gimpl_scan_put Gimpl_scan_run Gimpl_scan_take Gslices_Index_of J1 J3 J10 J23 J25 J29) 5000 T23 (mk p23 (t1, t10, c1_0, c1_1, c1_2, s2, ()))).length (F23 (J25 T25) Gimpl_scan_take t1 t10 c1_0 c1_1 c1_2 s2) := by kernel_rfl
theorem seg25 (Gimpl_numberText : impl_numberText.PI → Option impl_numberText.PO) (Gimpl_scan_expr : PI → Option PO) (Gimpl_scan_put : impl_scan_put.PI → Option impl_scan_put.PO) (Gimpl_scan_run : impl_scan_run.PI → Option impl_scan_run.PO) (Gimpl_scan_take : impl_scan_take.PI → Option impl_scan_take.PO) (Gslices_Index_of : slices_Index_of.PI → Option slices_Index_of.PO) (J1 : List Item → P1 → Option PO) (J3 : List Item → P3 → Option PO) (J10 : List Item → P10 → Option PO) (J23 : List Item → P23 → Option PO) (J25 : List Item → P25 → Option PO) (J29 : List Item → P29 → Option PO) (t1 : Int) (t10 : Int) (c1_0 : List (List UInt8)) (c1_1 : List UInt8) (c1_2 : Int) (s2 : List (Int × Int × Int × Int)) : arunG (pg Gimpl_numberText Gimpl_scan_expr Gimpl_scan_put Gimpl_scan_run Gimpl_scan_take Gslices_Index_of J1 J3 J10 J23 J25 J29) q [118] [] 5000 T25 (mk p25 (t1, t10, c1_0, c1_1, c1_2, s2, ())) = List.replicate (arunG (pg Gimpl_numberText Gimpl_scan_expr Gimpl_scan_put Gimpl_scan_run Gimpl_scan_take Gslices_Index_of J1 J3 J10 J23 J25 J29) q [118] [] 5000 T25 (mk p25 (t1, t10, c1_0, c1_1, c1_2, s2, ()))).length (F25 (J29 T29) Gimpl_scan_take t1 t10 c1_0 c1_1 c1_2 s2) := by kernel_rfl
theorem seg29 (Gimpl_numberText : impl_numberText.PI → Option impl_numberText.PO) (Gimpl_scan_expr : PI → Option PO) (Gimpl_scan_put : impl_scan_put.PI → Option impl_scan_put.PO) (Gimpl_scan_run : impl_scan_run.PI → Option impl_scan_run.PO) (Gimpl_scan_take : impl_scan_take.PI → Option impl_scan_take.PO) (Gslices_Index_of : slices_Index_of.PI → Option slices_Index_of.PO) (J1 : List Item → P1 → Option PO) (J3 : List Item → P3 → Option PO) (J10 : List Item → P10 → Option PO) (J23 : List Item → P23 → Option PO) (J25 : List Item → P25 → Option PO) (J29 : List Item → P29 → Option PO) (t1 : Int) (t10 : Int) (t11 : Int) (c1_0 : List (List UInt8)) (c1_1 : List UInt8) (c1_2 : Int) (s2 : List (Int × Int × Int × Int)) : arun1 (pg Gimpl_numberText Gimpl_scan_expr Gimpl_scan_put Gimpl_scan_run Gimpl_scan_take Gslices_Index_of J1 J3 J10 J23 J25 J29) 5000 T29 (mk p29 (t1, t10, t11, c1_0, c1_1, c1_2, s2, ())) = F29 Gimpl_scan_expr Gimpl_scan_put Gimpl_scan_take t1 t10 t11 c1_0 c1_1 c1_2 s2 := by kernel_rfl
noncomputable def L10 (Gself : PI → Option PO) : P10 → Option PO := fun x => F10 impl_scan_put.impl impl_scan_run.impl slices_Index_of.impl x.1 x.2.1 x.2.2.1 x.2.2.2.1
noncomputable def L29 (Gself : PI → Option PO) : P29 → Option PO := fun x => F29 Gself impl_scan_put.impl impl_scan_take.impl x.1 x.2.1 x.2.2.1 x.2.2.2.1 x.2.2.2.2.1 x.2.2.2.2.2.1 x.2.2.2.2.2.2.1
noncomputable def L25 (Gself : PI → Option PO) : P25 → Option PO := fun x => F25 (L29 Gself) impl_scan_take.impl x.1 x.2.1 x.2.2.1 x.2.2.2.1 x.2.2.2.2.1 x.2.2.2.2.2.1
noncomputable def L23 (Gself : PI → Option PO) : P23 → Option PO := fun x => F23 (L25 Gself) impl_scan_take.impl x.1 x.2.1 x.2.2.1 x.2.2.2.1 x.2.2.2.2.1 x.2.2.2.2.2.1
noncomputable def L3 (Gself : PI → Option PO) : P3 → Option PO := fun x => F3 (L10 Gself) (L23 Gself) impl_numberText.impl Gself impl_scan_put.impl impl_scan_run.impl impl_scan_take.impl x.1 x.2.1 x.2.2.1 x.2.2.2.1 x.2.2.2.2.1
noncomputable def L1 (Gself : PI → Option PO) : P1 → Option PO := fun x => F1 (L3 Gself) x.1 x.2.1 x.2.2.1 x.2.2.2.1 x.2.2.2.2.1
noncomputable def step (Gself : PI → Option PO) : PI → Option PO := fun x => F0 (L1 Gself) x.1 x.2.1 x.2.2.1 x.2.2.2.1 x.2.2.2.2.1
noncomputable def impl : PI → Option PO := lfp step
theorem F10_le {Gimpl_scan_put : impl_scan_put.PI → Option impl_scan_put.PO} {Gimpl_scan_run : impl_scan_run.PI → Option impl_scan_run.PO} {Gslices_Index_of : slices_Index_of.PI → Option slices_Index_of.PO} (c1_0 : List (List UInt8)) (c1_1 : List UInt8) (c1_2 : Int) (s2 : List (Int × Int × Int × Int)) : OptLe (F10 Gimpl_scan_put Gimpl_scan_run Gslices_Index_of c1_0 c1_1 c1_2 s2) (F10 Gimpl_scan_put Gimpl_scan_run Gslices_Index_of c1_0 c1_1 c1_2 s2) := by unfold F10 F10o0 F10o1; exact .bind (.refl _) fun _ => .bind (.refl _) fun _ => .refl _
theorem F29_le {Gself Gself' : PI → Option PO} (hG : OLe Gself Gself') {Gimpl_scan_put : impl_scan_put.PI → Option impl_scan_put.PO} {Gimpl_scan_take : impl_scan_take.PI → Option impl_scan_take.PO} (t1 : Int) (t10 : Int) (t11 : Int) (c1_0 : List (List UInt8)) (c1_1 : List UInt8) (c1_2 : Int) (s2 : List (Int × Int × Int × Int)) : OptLe (F29 Gself Gimpl_scan_put Gimpl_scan_take t1 t10 t11 c1_0 c1_1 c1_2 s2) (F29 Gself' Gimpl_scan_put Gimpl_scan_take t1 t10 t11 c1_0 c1_1 c1_2 s2) := by unfold F29; exact .bind (.of hG _) fun _ => .refl _
theorem F25_le {J29 J29' : P29 → Option PO} (h29 : OLe J29 J29') {Gimpl_scan_take : impl_scan_take.PI → Option impl_scan_take.PO} (t1 : Int) (t10 : Int) (c1_0 : List (List UInt8)) (c1_1 : List UInt8) (c1_2 : Int) (s2 : List (Int × Int × Int × Int)) : OptLe (F25 J29 Gimpl_scan_take t1 t10 c1_0 c1_1 c1_2 s2) (F25 J29' Gimpl_scan_take t1 t10 c1_0 c1_1 c1_2 s2) := by unfold F25; exact .cond (.cond (.refl _) (.bind (.refl _) fun _ => .cond (.refl _) (.of h29 _))) (.refl _)
theorem F23_le {J25 J25' : P25 → Option PO} (h25 : OLe J25 J25') {Gimpl_scan_take : impl_scan_take.PI → Option impl_scan_take.PO} (t1 : Int) (t10 : Int) (c1_0 : List (List UInt8)) (c1_1 : List UInt8) (c1_2 : Int) (s2 : List (Int × Int × Int × Int)) : OptLe (F23 J25 Gimpl_scan_take t1 t10 c1_0 c1_1 c1_2 s2) (F23 J25' Gimpl_scan_take t1 t10 c1_0 c1_1 c1_2 s2) := by unfold F23; exact .cond (.refl _) (.bind (.refl _) fun _ => .cond (.refl _) (.cond (.refl _) (.of h25 _)))
theorem F3_le {J10 J10' : P10 → Option PO} (h10 : OLe J10 J10') {J23 J23' : P23 → Option PO} (h23 : OLe J23 J23') {Gimpl_numberText : impl_numberText.PI → Option impl_numberText.PO} {Gself Gself' : PI → Option PO} (hG : OLe Gself Gself') {Gimpl_scan_put : impl_scan_put.PI → Option impl_scan_put.PO} {Gimpl_scan_run : impl_scan_run.PI → Option impl_scan_run.PO} {Gimpl_scan_take : impl_scan_take.PI → Option impl_scan_take.PO} (t1 : Int) (c1_0 : List (List UInt8)) (c1_1 : List UInt8) (c1_2 : Int) (s2 : List (Int × Int × Int × Int)) : OptLe (F3 J10 J23 Gimpl_numberText Gself Gimpl_scan_put Gimpl_scan_run Gimpl_scan_take t1 c1_0 c1_1 c1_2 s2) (F3 J10' J23' Gimpl_numberText Gself' Gimpl_scan_put Gimpl_scan_run Gimpl_scan_take t1 c1_0 c1_1 c1_2 s2) := by unfold F3; exact .cond (.cond (.refl _) (.cond (.cond (.refl _) (.cond (.cond (.of h10 _) (.cond (.refl _) (.bind (.refl _) fun _ => .cond (.bind (.of hG _) fun _ => .refl _) (.bind (.refl _) fun _ => .cond (.bind (.of hG _) fun _ => .of h23 _) (.refl _))))) (.cond (.refl _) (.bind (.refl _) fun _ => .cond (.bind (.of hG _) fun _ => .refl _) (.bind (.refl _) fun _ => .cond (.bind (.of hG _) fun _ => .of h23 _) (.refl _)))))) (.cond (.cond (.of h10 _) (.cond (.refl _) (.bind (.refl _) fun _ => .cond (.bind (.of hG _) fun _ => .refl _) (.bind (.refl _) fun _ => .cond (.bind (.of hG _) fun _ => .of h23 _) (.refl _))))) (.cond (.refl _) (.bind (.refl _) fun _ => .cond (.bind (.of hG _) fun _ => .refl _) (.bind (.refl _) fun _ => .cond (.bind (.of hG _) fun _ => .of h23 _) (.refl _))))))) (.refl _)
theorem F1_le {J3 J3' : P3 → Option PO} (h3 : OLe J3 J3') (t1 : Int) (c1_0 : List (List UInt8)) (c1_1 : List UInt8) (c1_2 : Int) (s2 : List (Int × Int × Int × Int)) : OptLe (F1 J3 t1 c1_0 c1_1 c1_2 s2) (F1 J3' t1 c1_0 c1_1 c1_2 s2) := by unfold F1; exact .cond (.refl _) (.of h3 _)
theorem F0_le {J1 J1' : P1 → Option PO} (h1 : OLe J1 J1') (x1 : Int) (c1_0 : List (List UInt8)) (c1_1 : List UInt8) (c1_2 : Int) (s2 : List (Int × Int × Int × Int)) : OptLe (F0 J1 x1 c1_0 c1_1 c1_2 s2) (F0 J1' x1 c1_0 c1_1 c1_2 s2) := by unfold F0; exact .of h1 _
theorem L10_eq (Gself : PI → Option PO) (c1_0 : List (List UInt8)) (c1_1 : List UInt8) (c1_2 : Int) (s2 : List (Int × Int × Int × Int)) : L10 Gself (c1_0, c1_1, c1_2, s2, ()) = F10 impl_scan_put.impl impl_scan_run.impl slices_Index_of.impl c1_0 c1_1 c1_2 s2 := rfl
theorem L10_le {Gself Gself' : PI → Option PO} (hG : OLe Gself Gself') : OLe (L10 Gself) (L10 Gself') := fun x => F10_le x.1 x.2.1 x.2.2.1 x.2.2.2.1
theorem L29_eq (Gself : PI → Option PO) (t1 : Int) (t10 : Int) (t11 : Int) (c1_0 : List (List UInt8)) (c1_1 : List UInt8) (c1_2 : Int) (s2 : List (Int × Int × Int × Int)) : L29 Gself (t1, t10, t11, c1_0, c1_1, c1_2, s2, ()) = F29 Gself impl_scan_put.impl impl_scan_take.impl t1 t10 t11 c1_0 c1_1 c1_2 s2 := rfl
theorem L29_le {Gself Gself' : PI → Option PO} (hG : OLe Gself Gself') : OLe (L29 Gself) (L29 Gself') := fun x => F29_le hG x.1 x.2.1 x.2.2.1 x.2.2.2.1 x.2.2.2.2.1 x.2.2.2.2.2.1 x.2.2.2.2.2.2.1
theorem L25_eq (Gself : PI → Option PO) (t1 : Int) (t10 : Int) (c1_0 : List (List UInt8)) (c1_1 : List UInt8) (c1_2 : Int) (s2 : List (Int × Int × Int × Int)) : L25 Gself (t1, t10, c1_0, c1_1, c1_2, s2, ()) = F25 (L29 Gself) impl_scan_take.impl t1 t10 c1_0 c1_1 c1_2 s2 := rfl
theorem L25_le {Gself Gself' : PI → Option PO} (hG : OLe Gself Gself') : OLe (L25 Gself) (L25 Gself') := fun x => F25_le (L29_le hG) x.1 x.2.1 x.2.2.1 x.2.2.2.1 x.2.2.2.2.1 x.2.2.2.2.2.1
theorem L23_eq (Gself : PI → Option PO) (t1 : Int) (t10 : Int) (c1_0 : List (List UInt8)) (c1_1 : List UInt8) (c1_2 : Int) (s2 : List (Int × Int × Int × Int)) : L23 Gself (t1, t10, c1_0, c1_1, c1_2, s2, ()) = F23 (L25 Gself) impl_scan_take.impl t1 t10 c1_0 c1_1 c1_2 s2 := rfl
theorem L23_le {Gself Gself' : PI → Option PO} (hG : OLe Gself Gself') : OLe (L23 Gself) (L23 Gself') := fun x => F23_le (L25_le hG) x.1 x.2.1 x.2.2.1 x.2.2.2.1 x.2.2.2.2.1 x.2.2.2.2.2.1
theorem L3_eq (Gself : PI → Option PO) (t1 : Int) (c1_0 : List (List UInt8)) (c1_1 : List UInt8) (c1_2 : Int) (s2 : List (Int × Int × Int × Int)) : L3 Gself (t1, c1_0, c1_1, c1_2, s2, ()) = F3 (L10 Gself) (L23 Gself) impl_numberText.impl Gself impl_scan_put.impl impl_scan_run.impl impl_scan_take.impl t1 c1_0 c1_1 c1_2 s2 := rfl
theorem L3_le {Gself Gself' : PI → Option PO} (hG : OLe Gself Gself') : OLe (L3 Gself) (L3 Gself') := fun x => F3_le (L10_le hG) (L23_le hG) hG x.1 x.2.1 x.2.2.1 x.2.2.2.1 x.2.2.2.2.1
theorem L1_eq (Gself : PI → Option PO) (t1 : Int) (c1_0 : List (List UInt8)) (c1_1 : List UInt8) (c1_2 : Int) (s2 : List (Int × Int × Int × Int)) : L1 Gself (t1, c1_0, c1_1, c1_2, s2, ()) = F1 (L3 Gself) t1 c1_0 c1_1 c1_2 s2 := rfl
theorem L1_le {Gself Gself' : PI → Option PO} (hG : OLe Gself Gself') : OLe (L1 Gself) (L1 Gself') := fun x => F1_le (L3_le hG) x.1 x.2.1 x.2.2.1 x.2.2.2.1 x.2.2.2.2.1
theorem step_mono : OMono step := fun G G' hG x => F0_le (L1_le hG) x.1 x.2.1 x.2.2.1 x.2.2.2.1 x.2.2.2.2.1
theorem impl_eq (x1 : Int) (c1_0 : List (List UInt8)) (c1_1 : List UInt8) (c1_2 : Int) (s2 : List (Int × Int × Int × Int)) : impl (x1, c1_0, c1_1, c1_2, s2, ()) = F0 (L1 impl) x1 c1_0 c1_1 c1_2 s2 := congrFun (lfp_eq step_mono) _
theorem con_step (Gself : PI → Option PO) (hself : Con Tryz.prog 108 2 rs.length 2 pin pout Gself) : Con Tryz.prog 108 2 rs.length 2 pin pout (step Gself) := by
  refine con_of_run' (nt := 161) (c := c0) tabGood Tryz.func108 (by kernel_rfl) (by kernel_rfl) (by kernel_rfl) (by kernel_rfl) (by kernel_rfl) (by kernel_rfl) (by kernel_rfl) ?_
  intro w0 O y hnp
  generalize hPost : (fun (a' : Act) (w' : World) => ∃ μ' S' st', Rel 161 w0 O μ' S' st' a' w' ∧ endOf (tabOf tab) rs 2 pout st' = some y) = Post
  have fin : ∀ (μ : Id → Option Value) (S : Nat → Prop) (st : St) (a : Act) (w : World), Rel 161 w0 O μ S st a w → endOf (tabOf tab) rs 2 pout st = some y → Post a w := fun μ S st a w h he => by rw [← hPost]; exact ⟨μ, S, st, h, he⟩
  have hp : ∀ (J1 : List Item → P1 → Option PO), ∀ (J3 : List Item → P3 → Option PO), ∀ (J10 : List Item → P10 → Option PO), ∀ (J23 : List Item → P23 → Option PO), ∀ (J25 : List Item → P25 → Option PO), ∀ (J29 : List Item → P29 → Option PO), Parts Tryz.prog 108 (pg impl_numberText.impl Gself impl_scan_put.impl impl_scan_run.impl impl_scan_take.impl slices_Index_of.impl J1 J3 J10 J23 J25 J29) [(1, cut p1 J1), (3, cut p3 J3), (10, cut p10 J10), (23, cut p23 J23), (25, cut p25 J25), (29, cut p29 J29)] := fun J1 J3 J10 J23 J25 J29 => ⟨tab_ok tabGood rfl, (handAt_ok impl_scan_take.con (handAt_ok impl_scan_run.con (handAt_ok hself (handAt_ok slices_Index_of.con (handAt_ok impl_numberText.con (handAt_ok impl_scan_put.con handNil_ok)))))), rfl⟩
  have g10 : Good Tryz.prog 161 w0 O Post y T10 p10 (L10 Gself) := good_orders (hs := hd impl_numberText.impl Gself impl_scan_put.impl impl_scan_run.impl impl_scan_take.impl slices_Index_of.impl) (cv' := hd impl_numberText.impl Gself impl_scan_put.impl impl_scan_run.impl impl_scan_take.impl slices_Index_of.impl) (Checked.mixed Tryz.checked) (hp (atT T1 (fun _ => none)) (atT T3 (fun _ => none)) (atT T10 (fun _ => none)) (atT T23 (fun _ => none)) (atT T25 (fun _ => none)) (atT T29 (fun _ => none))) (handAt_ok impl_scan_take.con (handAt_ok impl_scan_run.con (handAt_ok hself (handAt_ok slices_Index_of.con (handAt_ok impl_numberText.con (handAt_ok impl_scan_put.con handNil_ok)))))) (handAt_nat (handAt_nat (handAt_nat (handAt_nat (handAt_nat (handAt_nat handNil_nat)))))) (handAt_nat (handAt_nat (handAt_nat (handAt_nat (handAt_nat (handAt_nat handNil_nat)))))) (runOK_of (hp (atT T1 (fun _ => none)) (atT T3 (fun _ => none)) (atT T10 (fun _ => none)) (atT T23 (fun _ => none)) (atT T25 (fun _ => none)) (atT T29 (fun _ => none))) hnp ⟨cutOK_at (p := p1) (T := T1) (J := fun _ => none) good_none, cutOK_at (p := p3) (T := T3) (J := fun _ => none) good_none, cutOK_at (p := p10) (T := T10) (J := fun _ => none) good_none, cutOK_at (p := p23) (T := T23) (J := fun _ => none) good_none, cutOK_at (p := p25) (T := T25) (J := fun _ => none) good_none, cutOK_at (p := p29) (T := T29) (J := fun _ => none) good_none, trivial⟩ fin) (fun x => all_of (L := [F10o0 impl_scan_put.impl impl_scan_run.impl slices_Index_of.impl x.1 x.2.1 x.2.2.1 x.2.2.2.1, F10o1 impl_scan_put.impl impl_scan_run.impl slices_Index_of.impl x.1 x.2.1 x.2.2.1 x.2.2.2.1]) ((seg10 impl_numberText.impl Gself impl_scan_put.impl impl_scan_run.impl impl_scan_take.impl slices_Index_of.impl (atT T1 (fun _ => none)) (atT T3 (fun _ => none)) (atT T10 (fun _ => none)) (atT T23 (fun _ => none)) (atT T25 (fun _ => none)) (atT T29 (fun _ => none)) x.1 x.2.1 x.2.2.1 x.2.2.2.1)) (all_cons (F10o0_le impl_scan_put.impl impl_scan_run.impl slices_Index_of.impl x.1 x.2.1 x.2.2.1 x.2.2.2.1) (all_cons (F10o1_le impl_scan_put.impl impl_scan_run.impl slices_Index_of.impl x.1 x.2.1 x.2.2.1 x.2.2.2.1) all_nil)))
  have g29 : Good Tryz.prog 161 w0 O Post y T29 p29 (L29 Gself) := good_part (hp (atT T1 (fun _ => none)) (atT T3 (fun _ => none)) (atT T10 (fun _ => none)) (atT T23 (fun _ => none)) (atT T25 (fun _ => none)) (atT T29 (fun _ => none))) (runOK_of (hp (atT T1 (fun _ => none)) (atT T3 (fun _ => none)) (atT T10 (fun _ => none)) (atT T23 (fun _ => none)) (atT T25 (fun _ => none)) (atT T29 (fun _ => none))) hnp ⟨cutOK_at (p := p1) (T := T1) (J := fun _ => none) good_none, cutOK_at (p := p3) (T := T3) (J := fun _ => none) good_none, cutOK_at (p := p10) (T := T10) (J := fun _ => none) good_none, cutOK_at (p := p23) (T := T23) (J := fun _ => none) good_none, cutOK_at (p := p25) (T := T25) (J := fun _ => none) good_none, cutOK_at (p := p29) (T := T29) (J := fun _ => none) good_none, trivial⟩ fin) (fun x => (seg29 impl_numberText.impl Gself impl_scan_put.impl impl_scan_run.impl impl_scan_take.impl slices_Index_of.impl (atT T1 (fun _ => none)) (atT T3 (fun _ => none)) (atT T10 (fun _ => none)) (atT T23 (fun _ => none)) (atT T25 (fun _ => none)) (atT T29 (fun _ => none)) x.1 x.2.1 x.2.2.1 x.2.2.2.1 x.2.2.2.2.1 x.2.2.2.2.2.1 x.2.2.2.2.2.2.1))
  have g25 : Good Tryz.prog 161 w0 O Post y T25 p25 (L25 Gself) := good_group (hs := hd impl_numberText.impl Gself impl_scan_put.impl impl_scan_run.impl impl_scan_take.impl slices_Index_of.impl) (cv' := hd impl_numberText.impl Gself impl_scan_put.impl impl_scan_run.impl impl_scan_take.impl slices_Index_of.impl) (Checked.mixed Tryz.checked) (hp (atT T1 (fun _ => none)) (atT T3 (fun _ => none)) (atT T10 (fun _ => none)) (atT T23 (fun _ => none)) (atT T25 (fun _ => none)) (atT T29 (L29 Gself))) (handAt_D' rfl (handAt_D' rfl (handAt_D' rfl (handAt_D slices_Index_of.con (by rfl) rfl (handAt_D impl_numberText.con (by rfl) rfl (handAt_D' rfl handNil_D)))))) (handAt_nat (handAt_nat (handAt_nat (handAt_nat (handAt_nat (handAt_nat handNil_nat)))))) (handAt_nat (handAt_nat (handAt_nat (handAt_nat (handAt_nat (handAt_nat handNil_nat)))))) (runOK_of (hp (atT T1 (fun _ => none)) (atT T3 (fun _ => none)) (atT T10 (fun _ => none)) (atT T23 (fun _ => none)) (atT T25 (fun _ => none)) (atT T29 (L29 Gself))) hnp ⟨cutOK_at (p := p1) (T := T1) (J := fun _ => none) good_none, cutOK_at (p := p3) (T := T3) (J := fun _ => none) good_none, cutOK_at (p := p10) (T := T10) (J := fun _ => none) good_none, cutOK_at (p := p23) (T := T23) (J := fun _ => none) good_none, cutOK_at (p := p25) (T := T25) (J := fun _ => none) good_none, cutOK_at g29, trivial⟩ fin) (fun x => all_same ⟨_, (seg25 impl_numberText.impl Gself impl_scan_put.impl impl_scan_run.impl impl_scan_take.impl slices_Index_of.impl (atT T1 (fun _ => none)) (atT T3 (fun _ => none)) (atT T10 (fun _ => none)) (atT T23 (fun _ => none)) (atT T25 (fun _ => none)) (atT T29 (L29 Gself)) x.1 x.2.1 x.2.2.1 x.2.2.2.1 x.2.2.2.2.1 x.2.2.2.2.2.1).trans (by simp only [atT_self] <;> rfl)⟩)
  have g23 : Good Tryz.prog 161 w0 O Post y T23 p23 (L23 Gself) := good_orders (hs := hd impl_numberText.impl Gself impl_scan_put.impl impl_scan_run.impl impl_scan_take.impl slices_Index_of.impl) (cv' := hd impl_numberText.impl Gself impl_scan_put.impl impl_scan_run.impl impl_scan_take.impl slices_Index_of.impl) (Checked.mixed Tryz.checked) (hp (atT T1 (fun _ => none)) (atT T3 (fun _ => none)) (atT T10 (fun _ => none)) (atT T23 (fun _ => none)) (atT T25 (L25 Gself)) (atT T29 (fun _ => none))) (handAt_ok impl_scan_take.con (handAt_ok impl_scan_run.con (handAt_ok hself (handAt_ok slices_Index_of.con (handAt_ok impl_numberText.con (handAt_ok impl_scan_put.con handNil_ok)))))) (handAt_nat (handAt_nat (handAt_nat (handAt_nat (handAt_nat (handAt_nat handNil_nat)))))) (handAt_nat (handAt_nat (handAt_nat (handAt_nat (handAt_nat (handAt_nat handNil_nat)))))) (runOK_of (hp (atT T1 (fun _ => none)) (atT T3 (fun _ => none)) (atT T10 (fun _ => none)) (atT T23 (fun _ => none)) (atT T25 (L25 Gself)) (atT T29 (fun _ => none))) hnp ⟨cutOK_at (p := p1) (T := T1) (J := fun _ => none) good_none, cutOK_at (p := p3) (T := T3) (J := fun _ => none) good_none, cutOK_at (p := p10) (T := T10) (J := fun _ => none) good_none, cutOK_at (p := p23) (T := T23) (J := fun _ => none) good_none, cutOK_at g25, cutOK_at (p := p29) (T := T29) (J := fun _ => none) good_none, trivial⟩ fin) (fun x => all_same ⟨_, (seg23 impl_numberText.impl Gself impl_scan_put.impl impl_scan_run.impl impl_scan_take.impl slices_Index_of.impl (atT T1 (fun _ => none)) (atT T3 (fun _ => none)) (atT T10 (fun _ => none)) (atT T23 (fun _ => none)) (atT T25 (L25 Gself)) (atT T29 (fun _ => none)) x.1 x.2.1 x.2.2.1 x.2.2.2.1 x.2.2.2.2.1 x.2.2.2.2.2.1).trans (by simp only [atT_self] <;> rfl)⟩)
  have g3 : Good Tryz.prog 161 w0 O Post y T3 p3 (L3 Gself) := good_quiet (hs := hd impl_numberText.impl Gself impl_scan_put.impl impl_scan_run.impl impl_scan_take.impl slices_Index_of.impl) (cv' := hd impl_numberText.impl Gself impl_scan_put.impl impl_scan_run.impl impl_scan_take.impl slices_Index_of.impl) (Checked.mixed Tryz.checked) (hp (atT T1 (fun _ => none)) (atT T3 (fun _ => none)) (atT T10 (L10 Gself)) (atT T23 (L23 Gself)) (atT T25 (fun _ => none)) (atT T29 (fun _ => none))) (handAt_D' rfl (handAt_D' rfl (handAt_D' rfl (handAt_D slices_Index_of.con (by rfl) rfl (handAt_D impl_numberText.con (by rfl) rfl (handAt_D' rfl handNil_D)))))) (handAt_nat (handAt_nat (handAt_nat (handAt_nat (handAt_nat (handAt_nat handNil_nat)))))) (handAt_nat (handAt_nat (handAt_nat (handAt_nat (handAt_nat (handAt_nat handNil_nat)))))) (runOK_of (hp (atT T1 (fun _ => none)) (atT T3 (fun _ => none)) (atT T10 (L10 Gself)) (atT T23 (L23 Gself)) (atT T25 (fun _ => none)) (atT T29 (fun _ => none))) hnp ⟨cutOK_at (p := p1) (T := T1) (J := fun _ => none) good_none, cutOK_at (p := p3) (T := T3) (J := fun _ => none) good_none, cutOK_at g10, cutOK_at g23, cutOK_at (p := p25) (T := T25) (J := fun _ => none) good_none, cutOK_at (p := p29) (T := T29) (J := fun _ => none) good_none, trivial⟩ fin) (fun x => all_same ⟨_, (seg3 impl_numberText.impl Gself impl_scan_put.impl impl_scan_run.impl impl_scan_take.impl slices_Index_of.impl (atT T1 (fun _ => none)) (atT T3 (fun _ => none)) (atT T10 (L10 Gself)) (atT T23 (L23 Gself)) (atT T25 (fun _ => none)) (atT T29 (fun _ => none)) x.1 x.2.1 x.2.2.1 x.2.2.2.1 x.2.2.2.2.1).trans (by simp only [atT_self] <;> rfl)⟩)
  have g1 : Good Tryz.prog 161 w0 O Post y T1 p1 (L1 Gself) := good_quiet (hs := hd impl_numberText.impl Gself impl_scan_put.impl impl_scan_run.impl impl_scan_take.impl slices_Index_of.impl) (cv' := hd impl_numberText.impl Gself impl_scan_put.impl impl_scan_run.impl impl_scan_take.impl slices_Index_of.impl) (Checked.mixed Tryz.checked) (hp (atT T1 (fun _ => none)) (atT T3 (L3 Gself)) (atT T10 (fun _ => none)) (atT T23 (fun _ => none)) (atT T25 (fun _ => none)) (atT T29 (fun _ => none))) (handAt_D' rfl (handAt_D' rfl (handAt_D' rfl (handAt_D slices_Index_of.con (by rfl) rfl (handAt_D impl_numberText.con (by rfl) rfl (handAt_D' rfl handNil_D)))))) (handAt_nat (handAt_nat (handAt_nat (handAt_nat (handAt_nat (handAt_nat handNil_nat)))))) (handAt_nat (handAt_nat (handAt_nat (handAt_nat (handAt_nat (handAt_nat handNil_nat)))))) (runOK_of (hp (atT T1 (fun _ => none)) (atT T3 (L3 Gself)) (atT T10 (fun _ => none)) (atT T23 (fun _ => none)) (atT T25 (fun _ => none)) (atT T29 (fun _ => none))) hnp ⟨cutOK_at (p := p1) (T := T1) (J := fun _ => none) good_none, cutOK_at g3, cutOK_at (p := p10) (T := T10) (J := fun _ => none) good_none, cutOK_at (p := p23) (T := T23) (J := fun _ => none) good_none, cutOK_at (p := p25) (T := T25) (J := fun _ => none) good_none, cutOK_at (p := p29) (T := T29) (J := fun _ => none) good_none, trivial⟩ fin) (fun x => all_same ⟨_, (seg1 impl_numberText.impl Gself impl_scan_put.impl impl_scan_run.impl impl_scan_take.impl slices_Index_of.impl (atT T1 (fun _ => none)) (atT T3 (L3 Gself)) (atT T10 (fun _ => none)) (atT T23 (fun _ => none)) (atT T25 (fun _ => none)) (atT T29 (fun _ => none)) x.1 x.2.1 x.2.2.1 x.2.2.2.1 x.2.2.2.2.1).trans (by simp only [atT_self] <;> rfl)⟩)
  exact good_first (hp (atT T1 (L1 Gself)) (atT T3 (fun _ => none)) (atT T10 (fun _ => none)) (atT T23 (fun _ => none)) (atT T25 (fun _ => none)) (atT T29 (fun _ => none))) (runOK_of (hp (atT T1 (L1 Gself)) (atT T3 (fun _ => none)) (atT T10 (fun _ => none)) (atT T23 (fun _ => none)) (atT T25 (fun _ => none)) (atT T29 (fun _ => none))) hnp ⟨cutOK_at g1, cutOK_at (p := p3) (T := T3) (J := fun _ => none) good_none, cutOK_at (p := p10) (T := T10) (J := fun _ => none) good_none, cutOK_at (p := p23) (T := T23) (J := fun _ => none) good_none, cutOK_at (p := p25) (T := T25) (J := fun _ => none) good_none, cutOK_at (p := p29) (T := T29) (J := fun _ => none) good_none, trivial⟩ fin) (fun x => (seg0 impl_numberText.impl Gself impl_scan_put.impl impl_scan_run.impl impl_scan_take.impl slices_Index_of.impl (atT T1 (L1 Gself)) (atT T3 (fun _ => none)) (atT T10 (fun _ => none)) (atT T23 (fun _ => none)) (atT T25 (fun _ => none)) (atT T29 (fun _ => none)) x.1 x.2.1 x.2.2.1 x.2.2.2.1 x.2.2.2.2.1).trans (by simp only [atT_self] <;> rfl))
theorem con : Con Tryz.prog 108 2 rs.length 2 pin pout impl := con_lfp (c := c0) Tryz.func108 (by kernel_rfl) (by kernel_rfl) (by kernel_rfl) con_step
end impl_scan_expr

/-! ### loop.example/wholecheck/impl.clone[loop.example/wholecheck/impl.Term] -/
namespace impl_clone_of
noncomputable abbrev c0 : Code := (Tryz.f65.body).getD .skip
noncomputable abbrev pin : Tpl := ⟨[⟨0, false, [.d (.sl (.prod (.int .i64) (.prod (.int .i64) (.prod (.int .i64) (.last (.int .i64))))))]⟩], []⟩
noncomputable abbrev pout : Tpl := ⟨[⟨0, false, [.row 600001]⟩], [(600001, .row 52 false (.prod (.int .i64) (.prod (.int .i64) (.prod (.int .i64) (.last (.int .i64))))))]⟩
noncomputable abbrev PI := (List (Int × Int × Int × Int)) × Unit
noncomputable abbrev PO := (List (Int × Int × Int × Int)) × Unit
noncomputable abbrev rs : List ResultVar := [.tmp 2]
noncomputable def F0 (x0 : List (Int × Int × Int × Int)) : Option PO :=
  bif (x0.length : Int) == 0 then
    some ([], ())
  else
    bif decide (0 ≤ (x0.length : Int)) && decide ((x0.length : Int) ≤ (x0.length : Int)) && decide ((x0.length : Int) * 32 ≤ 140737488355328) then
      some (x0.take (List.replicate (x0.length : Int).toNat (0, 0, 0, 0) : List (Int × Int × Int × Int)).length ++ (List.replicate (x0.length : Int).toNat (0, 0, 0, 0) : List (Int × Int × Int × Int)).drop x0.length, ())
    else
      none
noncomputable def hd {R : Type} : Hand R := handNil
noncomputable def pg : Prog PO := { nt := 14, np := 1, tb := tabOf tab, hd := hd, cuts := cutsOf [], fin := endOf (tabOf tab) rs 1 pout }
noncomputable def q : FuncId → Bool := fun f => hasId [] f
theorem seg0 (x0 : List (Int × Int × Int × Int)) : arun (pg) 5000 [.code c0] (mk pin (x0, ())) = F0 x0 := by kernel_rfl
noncomputable def impl : PI → Option PO := fun x => F0 x.1
theorem impl_eq (x0 : List (Int × Int × Int × Int)) : impl (x0, ()) = F0 x0 := rfl
theorem con : Con Tryz.prog 65 1 rs.length 1 pin pout impl := by
  refine con_of_run' (nt := 14) (c := c0) tabGood Tryz.func65 (by kernel_rfl) (by kernel_rfl) (by kernel_rfl) (by kernel_rfl) (by kernel_rfl) (by kernel_rfl) (by kernel_rfl) ?_
  intro w0 O y hnp
  generalize hPost : (fun (a' : Act) (w' : World) => ∃ μ' S' st', Rel 14 w0 O μ' S' st' a' w' ∧ endOf (tabOf tab) rs 1 pout st' = some y) = Post
  have fin : ∀ (μ : Id → Option Value) (S : Nat → Prop) (st : St) (a : Act) (w : World), Rel 14 w0 O μ S st a w → endOf (tabOf tab) rs 1 pout st = some y → Post a w := fun μ S st a w h he => by rw [← hPost]; exact ⟨μ, S, st, h, he⟩
  have hp : Parts Tryz.prog 65 (pg) [] := ⟨tab_ok tabGood rfl, handNil_ok, rfl⟩
  exact good_first (hp) (runOK_of (hp) hnp trivial fin) (fun x => (seg0 x.1))
end impl_clone_of

/-! ### loop.example/wholecheck/impl.readExpr -/
namespace impl_readExpr
noncomputable abbrev c0 : Code := (Tryz.f62.body).getD .skip
noncomputable abbrev pin : Tpl := ⟨[⟨0, false, [.d (.sl .str)]⟩, ⟨1, false, [.d .str]⟩], []⟩
noncomputable abbrev pout : Tpl := ⟨[⟨0, false, [.row 600001]⟩, ⟨1, false, [.d .bool]⟩], [(600001, .row 52 false (.prod (.int .i64) (.prod (.int .i64) (.prod (.int .i64) (.last (.int .i64))))))]⟩
noncomputable abbrev p3 : Tpl := ⟨[⟨0, false, [.d (.sl .str)]⟩, ⟨1, false, [.d .str]⟩], []⟩
noncomputable def T3 : List Item := (find 3 c0 []).getD []
noncomputable abbrev PI := (List (List UInt8)) × (List UInt8) × Unit
noncomputable abbrev PO := Bool × (List (Int × Int × Int × Int)) × Unit
noncomputable abbrev P3 := (List (List UInt8)) × (List UInt8) × Unit
noncomputable abbrev rs : List ResultVar := [.tmp 4, .tmp 5]
noncomputable def F0 (J3 : P3 → Option PO) (Gimpl_NamesValid : impl_NamesValid.PI → Option impl_NamesValid.PO) (x0 : List (List UInt8)) (x1 : List UInt8) : Option PO :=
  Option.bind (Gimpl_NamesValid (x0, ())) fun y0 =>
  bif !y0.1 then
    some (false, [], ())
  else
    bif decide ((x1.length : Int) > 4000) then
      some (false, [], ())
    else
      J3 (x0, x1, ())
noncomputable def F3 (Gimpl_TermsValid : impl_TermsValid.PI → Option impl_TermsValid.PO) (Gimpl_clone_of : impl_clone_of.PI → Option impl_clone_of.PO) (Gimpl_scan_expr : impl_scan_expr.PI → Option impl_scan_expr.PO) (t0 : List (List UInt8)) (t1 : List UInt8) : Option PO :=
  Option.bind (Gimpl_scan_expr (0, t0, t1, 0, [], ())) fun y1 =>
  bif decide (y1.1 < 0) then
    some (false, [], ())
  else
    bif decide (y1.2.2.2.1 < (t1.length : Int)) then
      some (false, [], ())
    else
      Option.bind (Gimpl_TermsValid (y1.2.2.2.2.1, (t0.length : Int), ())) fun y2 =>
      bif !y2.1 then
        some (false, [], ())
      else
        Option.bind (Gimpl_clone_of (y1.2.2.2.2.1, ())) fun y3 =>
        some (true, y3.1, ())
noncomputable def hd {R : Type} (Gimpl_NamesValid : impl_NamesValid.PI → Option impl_NamesValid.PO) (Gimpl_TermsValid : impl_TermsValid.PI → Option impl_TermsValid.PO) (Gimpl_clone_of : impl_clone_of.PI → Option impl_clone_of.PO) (Gimpl_scan_expr : impl_scan_expr.PI → Option impl_scan_expr.PO) : Hand R := (handAt 108 [20] false ⟨2, 1, 2, impl_scan_expr.pin, impl_scan_expr.pout, Gimpl_scan_expr⟩ (handAt 65 [45] true ⟨1, 1, 1, impl_clone_of.pin, impl_clone_of.pout, Gimpl_clone_of⟩ (handAt 23 [38] true ⟨2, 1, 2, impl_TermsValid.pin, impl_TermsValid.pout, Gimpl_TermsValid⟩ (handAt 16 [8] true ⟨1, 1, 1, impl_NamesValid.pin, impl_NamesValid.pout, Gimpl_NamesValid⟩ handNil))))
noncomputable def pg (Gimpl_NamesValid : impl_NamesValid.PI → Option impl_NamesValid.PO) (Gimpl_TermsValid : impl_TermsValid.PI → Option impl_TermsValid.PO) (Gimpl_clone_of : impl_clone_of.PI → Option impl_clone_of.PO) (Gimpl_scan_expr : impl_scan_expr.PI → Option impl_scan_expr.PO) (J3 : List Item → P3 → Option PO) : Prog PO := { nt := 46, np := 2, tb := tabOf tab, hd := hd Gimpl_NamesValid Gimpl_TermsValid Gimpl_clone_of Gimpl_scan_expr, cuts := cutsOf [(3, cut p3 J3)], fin := endOf (tabOf tab) rs 2 pout }
noncomputable def q : FuncId → Bool := fun f => hasId [16, 23] f
theorem seg0 (Gimpl_NamesValid : impl_NamesValid.PI → Option impl_NamesValid.PO) (Gimpl_TermsValid : impl_TermsValid.PI → Option impl_TermsValid.PO) (Gimpl_clone_of : impl_clone_of.PI → Option impl_clone_of.PO) (Gimpl_scan_expr : impl_scan_expr.PI → Option impl_scan_expr.PO) (J3 : List Item → P3 → Option PO) (x0 : List (List UInt8)) (x1 : List UInt8) : arun (pg Gimpl_NamesValid Gimpl_TermsValid Gimpl_clone_of Gimpl_scan_expr J3) 5000 [.code c0] (mk pin (x0, x1, ())) = F0 (J3 T3) Gimpl_NamesValid x0 x1 := by kernel_rfl
theorem seg3 (Gimpl_NamesValid : impl_NamesValid.PI → Option impl_NamesValid.PO) (Gimpl_TermsValid : impl_TermsValid.PI → Option impl_TermsValid.PO) (Gimpl_clone_of : impl_clone_of.PI → Option impl_clone_of.PO) (Gimpl_scan_expr : impl_scan_expr.PI → Option impl_scan_expr.PO) (J3 : List Item → P3 → Option PO) (t0 : List (List UInt8)) (t1 : List UInt8) : arun1 (pg Gimpl_NamesValid Gimpl_TermsValid Gimpl_clone_of Gimpl_scan_expr J3) 5000 T3 (mk p3 (t0, t1, ())) = F3 Gimpl_TermsValid Gimpl_clone_of Gimpl_scan_expr t0 t1 := by kernel_rfl
noncomputable def L3 : P3 → Option PO := fun x => F3 impl_TermsValid.impl impl_clone_of.impl impl_scan_expr.impl x.1 x.2.1
noncomputable def impl : PI → Option PO := fun x => F0 L3 impl_NamesValid.impl x.1 x.2.1
theorem L3_eq (t0 : List (List UInt8)) (t1 : List UInt8) : L3 (t0, t1, ()) = F3 impl_TermsValid.impl impl_clone_of.impl impl_scan_expr.impl t0 t1 := rfl
theorem impl_eq (x0 : List (List UInt8)) (x1 : List UInt8) : impl (x0, x1, ()) = F0 L3 impl_NamesValid.impl x0 x1 := rfl
theorem con : Con Tryz.prog 62 2 rs.length 2 pin pout impl := by
  refine con_of_run' (nt := 46) (c := c0) tabGood Tryz.func62 (by kernel_rfl) (by kernel_rfl) (by kernel_rfl) (by kernel_rfl) (by kernel_rfl) (by kernel_rfl) (by kernel_rfl) ?_
  intro w0 O y hnp
  generalize hPost : (fun (a' : Act) (w' : World) => ∃ μ' S' st', Rel 46 w0 O μ' S' st' a' w' ∧ endOf (tabOf tab) rs 2 pout st' = some y) = Post
  have fin : ∀ (μ : Id → Option Value) (S : Nat → Prop) (st : St) (a : Act) (w : World), Rel 46 w0 O μ S st a w → endOf (tabOf tab) rs 2 pout st = some y → Post a w := fun μ S st a w h he => by rw [← hPost]; exact ⟨μ, S, st, h, he⟩
  have hp : ∀ (J3 : List Item → P3 → Option PO), Parts Tryz.prog 62 (pg impl_NamesValid.impl impl_TermsValid.impl impl_clone_of.impl impl_scan_expr.impl J3) [(3, cut p3 J3)] := fun J3 => ⟨tab_ok tabGood rfl, (handAt_ok impl_scan_expr.con (handAt_ok impl_clone_of.con (handAt_ok impl_TermsValid.con (handAt_ok impl_NamesValid.con handNil_ok)))), rfl⟩
  have g3 : Good Tryz.prog 46 w0 O Post y T3 p3 L3 := good_part (hp (atT T3 (fun _ => none))) (runOK_of (hp (atT T3 (fun _ => none))) hnp ⟨cutOK_at (p := p3) (T := T3) (J := fun _ => none) good_none, trivial⟩ fin) (fun x => (seg3 impl_NamesValid.impl impl_TermsValid.impl impl_clone_of.impl impl_scan_expr.impl (atT T3 (fun _ => none)) x.1 x.2.1))
  exact good_first (hp (atT T3 L3)) (runOK_of (hp (atT T3 L3)) hnp ⟨cutOK_at g3, trivial⟩ fin) (fun x => (seg0 impl_NamesValid.impl impl_TermsValid.impl impl_clone_of.impl impl_scan_expr.impl (atT T3 L3) x.1 x.2.1).trans (by simp only [atT_self] <;> rfl))
end impl_readExpr

/-! ### loop.example/wholecheck/impl.ReadExpr -/
namespace impl_ReadExpr
noncomputable abbrev c0 : Code := (Tryz.f18.body).getD .skip
noncomputable abbrev pin : Tpl := ⟨[⟨0, false, [.d (.sl .str)]⟩, ⟨1, false, [.d .str]⟩], []⟩
noncomputable abbrev pout : Tpl := ⟨[⟨0, false, [.row 600001]⟩, ⟨1, false, [.d .bool]⟩], [(600001, .row 52 false (.prod (.int .i64) (.prod (.int .i64) (.prod (.int .i64) (.last (.int .i64))))))]⟩
noncomputable abbrev PI := (List (List UInt8)) × (List UInt8) × Unit
noncomputable abbrev PO := Bool × (List (Int × Int × Int × Int)) × Unit
noncomputable abbrev rs : List ResultVar := [.tmp 4, .tmp 5]
noncomputable def F0 (Gimpl_readExpr : impl_readExpr.PI → Option impl_readExpr.PO) (x0 : List (List UInt8)) (x1 : List UInt8) : Option PO :=
  Option.bind (Gimpl_readExpr (x0, x1, ())) fun y0 =>
  some (y0.1, y0.2.1, ())
noncomputable def hd {R : Type} (Gimpl_readExpr : impl_readExpr.PI → Option impl_readExpr.PO) : Hand R := (handAt 62 [8] true ⟨2, 2, 2, impl_readExpr.pin, impl_readExpr.pout, Gimpl_readExpr⟩ handNil)
noncomputable def pg (Gimpl_readExpr : impl_readExpr.PI → Option impl_readExpr.PO) : Prog PO := { nt := 11, np := 2, tb := tabOf tab, hd := hd Gimpl_readExpr, cuts := cutsOf [], fin := endOf (tabOf tab) rs 2 pout }
noncomputable def q : FuncId → Bool := fun f => hasId [] f
theorem seg0 (Gimpl_readExpr : impl_readExpr.PI → Option impl_readExpr.PO) (x0 : List (List UInt8)) (x1 : List UInt8) : arun (pg Gimpl_readExpr) 5000 [.code c0] (mk pin (x0, x1, ())) = F0 Gimpl_readExpr x0 x1 := by kernel_rfl
noncomputable def impl : PI → Option PO := fun x => F0 impl_readExpr.impl x.1 x.2.1
theorem impl_eq (x0 : List (List UInt8)) (x1 : List UInt8) : impl (x0, x1, ()) = F0 impl_readExpr.impl x0 x1 := rfl
theorem con : Con Tryz.prog 18 2 rs.length 2 pin pout impl := by
  refine con_of_run' (nt := 11) (c := c0) tabGood Tryz.func18 (by kernel_rfl) (by kernel_rfl) (by kernel_rfl) (by kernel_rfl) (by kernel_rfl) (by kernel_rfl) (by kernel_rfl) ?_
  intro w0 O y hnp
  generalize hPost : (fun (a' : Act) (w' : World) => ∃ μ' S' st', Rel 11 w0 O μ' S' st' a' w' ∧ endOf (tabOf tab) rs 2 pout st' = some y) = Post
  have fin : ∀ (μ : Id → Option Value) (S : Nat → Prop) (st : St) (a : Act) (w : World), Rel 11 w0 O μ S st a w → endOf (tabOf tab) rs 2 pout st = some y → Post a w := fun μ S st a w h he => by rw [← hPost]; exact ⟨μ, S, st, h, he⟩
  have hp : Parts Tryz.prog 18 (pg impl_readExpr.impl) [] := ⟨tab_ok tabGood rfl, (handAt_ok impl_readExpr.con handNil_ok), rfl⟩
  exact good_first (hp) (runOK_of (hp) hnp trivial fin) (fun x => (seg0 impl_readExpr.impl x.1 x.2.1))
end impl_ReadExpr

/-! ### (*loop.example/wholecheck/impl.scan).put -/
namespace impl_scan_put_1
noncomputable abbrev c0 : Code := (Tryz.f64.body).getD .skip
noncomputable abbrev pin : Tpl := ⟨[⟨0, false, [.ptr 500001 0]⟩, ⟨1, true, [.d (.prod (.int .i64) (.prod (.int .i64) (.prod (.int .i64) (.last (.int .i64)))))]⟩], [(500001, .box [.row 500002, .d .str, .d (.int .i64), .row 500003]), (500002, .row 9 true .str), (500003, .row 52 true (.prod (.int .i64) (.prod (.int .i64) (.prod (.int .i64) (.last (.int .i64))))))]⟩
noncomputable abbrev pout : Tpl := ⟨[⟨0, false, [.d (.int .i64)]⟩, ⟨1, false, [.ptr 500001 0]⟩], [(500001, .box [.row 500002, .d .str, .d (.int .i64), .row 500003]), (500002, .row 9 true .str), (500003, .row 52 true (.prod (.int .i64) (.prod (.int .i64) (.prod (.int .i64) (.last (.int .i64))))))]⟩
noncomputable abbrev p1 : Tpl := ⟨[⟨0, false, [.ptr 500001 0]⟩, ⟨3, false, [.ptr 3000000 0]⟩], [(500001, .box [.row 500002, .d .str, .d (.int .i64), .row 500003]), (3000000, .box [.d (.int .i64), .d (.int .i64), .d (.int .i64), .d (.int .i64)]), (500002, .row 9 true .str), (500003, .row 52 true (.prod (.int .i64) (.prod (.int .i64) (.prod (.int .i64) (.last (.int .i64))))))]⟩
noncomputable def T1 : List Item := (find 1 c0 []).getD []
noncomputable abbrev p4 : Tpl := ⟨[⟨0, false, [.ptr 500001 0]⟩, ⟨3, false, [.ptr 3000000 0]⟩], [(500001, .box [.row 500002, .d .str, .d (.int .i64), .row 500003]), (3000000, .box [.d (.int .i64), .d (.int .i64), .d (.int .i64), .d (.int .i64)]), (500002, .row 9 true .str), (500003, .row 52 true (.prod (.int .i64) (.prod (.int .i64) (.prod (.int .i64) (.last (.int .i64))))))]⟩
noncomputable def T4 : List Item := (find 4 c0 []).getD []
noncomputable abbrev PI := (Int × Int × Int × Int) × (List UInt8) × Int × (List (List UInt8)) × (List (Int × Int × Int × Int)) × Unit
noncomputable abbrev PO := Int × (List UInt8) × Int × (List (List UInt8)) × (List (Int × Int × Int × Int)) × Unit
noncomputable abbrev P1 := (List UInt8) × Int × Int × Int × Int × Int × (List (List UInt8)) × (List (Int × Int × Int × Int)) × Unit
noncomputable abbrev P4 := (List UInt8) × Int × Int × Int × Int × Int × (List (List UInt8)) × (List (Int × Int × Int × Int)) × Unit
noncomputable abbrev rs : List ResultVar := [.tmp 4]
noncomputable def F0 (J1 : P1 → Option PO) (x1 : Int × Int × Int × Int) (c1_0 : List UInt8) (c1_1 : Int) (s2 : List (List UInt8)) (s3 : List (Int × Int × Int × Int)) : Option PO :=
  J1 (c1_0, c1_1, x1.1, x1.2.1, x1.2.2.1, x1.2.2.2, s2, s3, ())
noncomputable def F1 (J4 : P4 → Option PO) (Gslices_Index_of_1 : slices_Index_of_1.PI → Option slices_Index_of_1.PO) (c1_0 : List UInt8) (c1_1 : Int) (b0_0 : Int) (b0_1 : Int) (b0_2 : Int) (b0_3 : Int) (s2 : List (List UInt8)) (s3 : List (Int × Int × Int × Int)) : Option PO :=
  Option.bind (Gslices_Index_of_1 (s3, (b0_0, b0_1, b0_2, b0_3), ())) fun y0 =>
  bif decide (y0.1 ≥ 0) then
    some (y0.1, c1_0, c1_1, s2, s3, ())
  else
    J4 (c1_0, c1_1, b0_0, b0_1, b0_2, b0_3, s2, s3, ())
noncomputable def F4 (c1_0 : List UInt8) (c1_1 : Int) (b0_0 : Int) (b0_1 : Int) (b0_2 : Int) (b0_3 : Int) (s2 : List (List UInt8)) (s3 : List (Int × Int × Int × Int)) : Option PO :=
  bif decide ((s3.length + ([(b0_0, b0_1, b0_2, b0_3)] : List (Int × Int × Int × Int)).length) * 32 ≤ 140737488355328) then
    some (wI (((s3 ++ ([(b0_0, b0_1, b0_2, b0_3)] : List (Int × Int × Int × Int))).length : Int) - 1), c1_0, c1_1, s2, s3 ++ ([(b0_0, b0_1, b0_2, b0_3)] : List (Int × Int × Int × Int)), ())
  else
    none
noncomputable def hd {R : Type} (Gslices_Index_of_1 : slices_Index_of_1.PI → Option slices_Index_of_1.PO) : Hand R := (handAt 109 [11] true ⟨2, 1, 2, slices_Index_of_1.pin, slices_Index_of_1.pout, Gslices_Index_of_1⟩ handNil)
noncomputable def pg (Gslices_Index_of_1 : slices_Index_of_1.PI → Option slices_Index_of_1.PO) (J1 : List Item → P1 → Option PO) (J4 : List Item → P4 → Option PO) : Prog PO := { nt := 31, np := 2, tb := tabOf tab, hd := hd Gslices_Index_of_1, cuts := cutsOf [(1, cut p1 J1), (4, cut p4 J4)], fin := endOf (tabOf tab) rs 2 pout }
noncomputable def q : FuncId → Bool := fun f => hasId [109] f
theorem seg0 (Gslices_Index_of_1 : slices_Index_of_1.PI → Option slices_Index_of_1.PO) (J1 : List Item → P1 → Option PO) (J4 : List Item → P4 → Option PO) (x1 : Int × Int × Int × Int) (c1_0 : List UInt8) (c1_1 : Int) (s2 : List (List UInt8)) (s3 : List (Int × Int × Int × Int)) : arun (pg Gslices_Index_of_1 J1 J4) 5000 [.code c0] (mk pin (x1, c1_0, c1_1, s2, s3, ())) = F0 (J1 T1) x1 c1_0 c1_1 s2 s3 := by kernel_rfl
theorem seg1 (Gslices_Index_of_1 : slices_Index_of_1.PI → Option slices_Index_of_1.PO) (J1 : List Item → P1 → Option PO) (J4 : List Item → P4 → Option PO) (c1_0 : List UInt8) (c1_1 : Int) (b0_0 : Int) (b0_1 : Int) (b0_2 : Int) (b0_3 : Int) (s2 : List (List UInt8)) (s3 : List (Int × Int × Int × Int)) : arunQ (pg Gslices_Index_of_1 J1 J4) q [] [] 5000 T1 (mk p1 (c1_0, c1_1, b0_0, b0_1, b0_2, b0_3, s2, s3, ())) = List.replicate (arunQ (pg Gslices_Index_of_1 J1 J4) q [] [] 5000 T1 (mk p1 (c1_0, c1_1, b0_0, b0_1, b0_2, b0_3, s2, s3, ()))).length (F1 (J4 T4) Gslices_Index_of_1 c1_0 c1_1 b0_0 b0_1 b0_2 b0_3 s2 s3) := by kernel_rfl
theorem seg4 (Gslices_Index_of_1 : slices_Index_of_1.PI → Option slices_Index_of_1.PO) (J1 : List Item → P1 → Option PO) (J4 : List Item → P4 → Option PO) (c1_0 : List UInt8) (c1_1 : Int) (b0_0 : Int) (b0_1 : Int) (b0_2 : Int) (b0_3 : Int) (s2 : List (List UInt8)) (s3 : List (Int × Int × Int × Int)) : arunE (pg Gslices_Index_of_1 J1 J4) 5000 T4 (mk p4 (c1_0, c1_1, b0_0, b0_1, b0_2, b0_3, s2, s3, ())) = List.replicate (arunE (pg Gslices_Index_of_1 J1 J4) 5000 T4 (mk p4 (c1_0, c1_1, b0_0, b0_1, b0_2, b0_3, s2, s3, ()))).length (F4 c1_0 c1_1 b0_0 b0_1 b0_2 b0_3 s2 s3) := by kernel_rfl
noncomputable def L4 : P4 → Option PO := fun x => F4 x.1 x.2.1 x.2.2.1 x.2.2.2.1 x.2.2.2.2.1 x.2.2.2.2.2.1 x.2.2.2.2.2.2.1 x.2.2.2.2.2.2.2.1
noncomputable def L1 : P1 → Option PO := fun x => F1 L4 slices_Index_of_1.impl x.1 x.2.1 x.2.2.1 x.2.2.2.1 x.2.2.2.2.1 x.2.2.2.2.2.1 x.2.2.2.2.2.2.1 x.2.2.2.2.2.2.2.1
noncomputable def impl : PI → Option PO := fun x => F0 L1 x.1 x.2.1 x.2.2.1 x.2.2.2.1 x.2.2.2.2.1
theorem L4_eq (c1_0 : List UInt8) (c1_1 : Int) (b0_0 : Int) (b0_1 : Int) (b0_2 : Int) (b0_3 : Int) (s2 : List (List UInt8)) (s3 : List (Int × Int × Int × Int)) : L4 (c1_0, c1_1, b0_0, b0_1, b0_2, b0_3, s2, s3, ()) = F4 c1_0 c1_1 b0_0 b0_1 b0_2 b0_3 s2 s3 := rfl
theorem L1_eq (c1_0 : List UInt8) (c1_1 : Int) (b0_0 : Int) (b0_1 : Int) (b0_2 : Int) (b0_3 : Int) (s2 : List (List UInt8)) (s3 : List (Int × Int × Int × Int)) : L1 (c1_0, c1_1, b0_0, b0_1, b0_2, b0_3, s2, s3, ()) = F1 (L4) slices_Index_of_1.impl c1_0 c1_1 b0_0 b0_1 b0_2 b0_3 s2 s3 := rfl
theorem impl_eq (x1 : Int × Int × Int × Int) (c1_0 : List UInt8) (c1_1 : Int) (s2 : List (List UInt8)) (s3 : List (Int × Int × Int × Int)) : impl (x1, c1_0, c1_1, s2, s3, ()) = F0 L1 x1 c1_0 c1_1 s2 s3 := rfl
theorem con : Con Tryz.prog 64 2 rs.length 2 pin pout impl := by
  refine con_of_run' (nt := 31) (c := c0) tabGood Tryz.func64 (by kernel_rfl) (by kernel_rfl) (by kernel_rfl) (by kernel_rfl) (by kernel_rfl) (by kernel_rfl) (by kernel_rfl) ?_
  intro w0 O y hnp
  generalize hPost : (fun (a' : Act) (w' : World) => ∃ μ' S' st', Rel 31 w0 O μ' S' st' a' w' ∧ endOf (tabOf tab) rs 2 pout st' = some y) = Post
  have fin : ∀ (μ : Id → Option Value) (S : Nat → Prop) (st : St) (a : Act) (w : World), Rel 31 w0 O μ S st a w → endOf (tabOf tab) rs 2 pout st = some y → Post a w := fun μ S st a w h he => by rw [← hPost]; exact ⟨μ, S, st, h, he⟩
  have hp : ∀ (J1 : List Item → P1 → Option PO), ∀ (J4 : List Item → P4 → Option PO), Parts Tryz.prog 64 (pg slices_Index_of_1.impl J1 J4) [(1, cut p1 J1), (4, cut p4 J4)] := fun J1 J4 => ⟨tab_ok tabGood rfl, (handAt_ok slices_Index_of_1.con handNil_ok), rfl⟩
  have g4 : Good Tryz.prog 31 w0 O Post y T4 p4 L4 := good_orders (hs := hd slices_Index_of_1.impl) (cv' := hd slices_Index_of_1.impl) (Checked.mixed Tryz.checked) (hp (atT T1 (fun _ => none)) (atT T4 (fun _ => none))) (handAt_ok slices_Index_of_1.con handNil_ok) (handAt_nat handNil_nat) (handAt_nat handNil_nat) (runOK_of (hp (atT T1 (fun _ => none)) (atT T4 (fun _ => none))) hnp ⟨cutOK_at (p := p1) (T := T1) (J := fun _ => none) good_none, cutOK_at (p := p4) (T := T4) (J := fun _ => none) good_none, trivial⟩ fin) (fun x => all_same ⟨_, (seg4 slices_Index_of_1.impl (atT T1 (fun _ => none)) (atT T4 (fun _ => none)) x.1 x.2.1 x.2.2.1 x.2.2.2.1 x.2.2.2.2.1 x.2.2.2.2.2.1 x.2.2.2.2.2.2.1 x.2.2.2.2.2.2.2.1)⟩)
  have g1 : Good Tryz.prog 31 w0 O Post y T1 p1 L1 := good_quiet (hs := hd slices_Index_of_1.impl) (cv' := hd slices_Index_of_1.impl) (Checked.mixed Tryz.checked) (hp (atT T1 (fun _ => none)) (atT T4 L4)) (handAt_D slices_Index_of_1.con (by rfl) rfl handNil_D) (handAt_nat handNil_nat) (handAt_nat handNil_nat) (runOK_of (hp (atT T1 (fun _ => none)) (atT T4 L4)) hnp ⟨cutOK_at (p := p1) (T := T1) (J := fun _ => none) good_none, cutOK_at g4, trivial⟩ fin) (fun x => all_same ⟨_, (seg1 slices_Index_of_1.impl (atT T1 (fun _ => none)) (atT T4 L4) x.1 x.2.1 x.2.2.1 x.2.2.2.1 x.2.2.2.2.1 x.2.2.2.2.2.1 x.2.2.2.2.2.2.1 x.2.2.2.2.2.2.2.1).trans (by simp only [atT_self] <;> rfl)⟩)
  exact good_first (hp (atT T1 L1) (atT T4 (fun _ => none))) (runOK_of (hp (atT T1 L1) (atT T4 (fun _ => none))) hnp ⟨cutOK_at g1, cutOK_at (p := p4) (T := T4) (J := fun _ => none) good_none, trivial⟩ fin) (fun x => (seg0 slices_Index_of_1.impl (atT T1 L1) (atT T4 (fun _ => none)) x.1 x.2.1 x.2.2.1 x.2.2.2.1 x.2.2.2.2.1).trans (by simp only [atT_self] <;> rfl))
end impl_scan_put_1

/-! ### loop.example/wholecheck/impl.Trimmed$1 -/
namespace impl_Trimmed_1
noncomputable abbrev c0 : Code := (Tryz.f63.body).getD .skip
noncomputable abbrev pin : Tpl := ⟨[⟨0, false, [.d (.int .i64)]⟩, ⟨1, false, [.ptr 500001 0]⟩, ⟨2, false, [.ptr 500002 0]⟩, ⟨3, false, [.ptr 500003 0]⟩], [(500001, .box [.d (.sl (.prod (.int .i64) (.prod (.int .i64) (.prod (.int .i64) (.last (.int .i64))))))]), (500002, .box [.fn 63 [(500001, 0), (500002, 0), (500003, 0)]]), (500003, .box [.ptr 500004 0]), (500004, .box [.row 500005, .d .str, .d (.int .i64), .row 500006]), (500005, .row 9 true .str), (500006, .row 52 true (.prod (.int .i64) (.prod (.int .i64) (.prod (.int .i64) (.last (.int .i64))))))]⟩
noncomputable abbrev pout : Tpl := ⟨[⟨0, false, [.d (.int .i64)]⟩, ⟨2, false, [.ptr 500001 0]⟩, ⟨3, false, [.ptr 500002 0]⟩, ⟨4, false, [.ptr 500003 0]⟩], [(500001, .box [.d (.sl (.prod (.int .i64) (.prod (.int .i64) (.prod (.int .i64) (.last (.int .i64))))))]), (500002, .box [.fn 63 [(500001, 0), (500002, 0), (500003, 0)]]), (500003, .box [.ptr 500004 0]), (500004, .box [.row 500005, .d .str, .d (.int .i64), .row 500006]), (500005, .row 9 true .str), (500006, .row 52 true (.prod (.int .i64) (.prod (.int .i64) (.prod (.int .i64) (.last (.int .i64))))))]⟩
noncomputable abbrev PI := Int × (List (Int × Int × Int × Int)) × (List UInt8) × Int × (List (List UInt8)) × (List (Int × Int × Int × Int)) × Unit
noncomputable abbrev PO := Int × (List (Int × Int × Int × Int)) × (List UInt8) × Int × (List (List UInt8)) × (List (Int × Int × Int × Int)) × Unit
noncomputable abbrev rs : List ResultVar := [.tmp 5]
noncomputable def F0 (Gimpl_Trimmed_1 : PI → Option PO) (Gimpl_scan_put_1 : impl_scan_put_1.PI → Option impl_scan_put_1.PO) (x0 : Int) (c1_0 : List (Int × Int × Int × Int)) (c4_0 : List UInt8) (c4_1 : Int) (s5 : List (List UInt8)) (s6 : List (Int × Int × Int × Int)) : Option PO :=
  bif inb x0 c1_0.length then
    bif decide ((c1_0.getD x0.toNat (0, 0, 0, 0)).1 ≥ 2) then
      Option.bind (Gimpl_Trimmed_1 ((c1_0.getD x0.toNat (0, 0, 0, 0)).2.2.1, c1_0, c4_0, c4_1, s5, s6, ())) fun y0 =>
      bif (c1_0.getD x0.toNat (0, 0, 0, 0)).1 == 7 then
        Option.bind (Gimpl_scan_put_1 (((c1_0.getD x0.toNat (0, 0, 0, 0)).1, (c1_0.getD x0.toNat (0, 0, 0, 0)).2.1, y0.1, y0.1), y0.2.2.1, y0.2.2.2.1, y0.2.2.2.2.1, y0.2.2.2.2.2.1, ())) fun y1 =>
        some (y1.1, y0.2.1, y1.2.1, y1.2.2.1, y1.2.2.2.1, y1.2.2.2.2.1, ())
      else
        Option.bind (Gimpl_Trimmed_1 ((c1_0.getD x0.toNat (0, 0, 0, 0)).2.2.2, y0.2.1, y0.2.2.1, y0.2.2.2.1, y0.2.2.2.2.1, y0.2.2.2.2.2.1, ())) fun y2 =>
        Option.bind (Gimpl_scan_put_1 (((c1_0.getD x0.toNat (0, 0, 0, 0)).1, (c1_0.getD x0.toNat (0, 0, 0, 0)).2.1, y0.1, y2.1), y2.2.2.1, y2.2.2.2.1, y2.2.2.2.2.1, y2.2.2.2.2.2.1, ())) fun y3 =>
        some (y3.1, y2.2.1, y3.2.1, y3.2.2.1, y3.2.2.2.1, y3.2.2.2.2.1, ())
    else
      Option.bind (Gimpl_scan_put_1 (c1_0.getD x0.toNat (0, 0, 0, 0), c4_0, c4_1, s5, s6, ())) fun y4 =>
      some (y4.1, c1_0, y4.2.1, y4.2.2.1, y4.2.2.2.1, y4.2.2.2.2.1, ())
  else
    none
noncomputable def hd {R : Type} (Gimpl_Trimmed_1 : PI → Option PO) (Gimpl_scan_put_1 : impl_scan_put_1.PI → Option impl_scan_put_1.PO) : Hand R := (handAt 64 [32] true ⟨2, 1, 2, impl_scan_put_1.pin, impl_scan_put_1.pout, Gimpl_scan_put_1⟩ (handAt 63 [17, 28] false ⟨4, 1, 4, pin, pout, Gimpl_Trimmed_1⟩ handNil))
noncomputable def pg (Gimpl_Trimmed_1 : PI → Option PO) (Gimpl_scan_put_1 : impl_scan_put_1.PI → Option impl_scan_put_1.PO) : Prog PO := { nt := 33, np := 4, tb := tabOf tab, hd := hd Gimpl_Trimmed_1 Gimpl_scan_put_1, cuts := cutsOf [], fin := endOf (tabOf tab) rs 4 pout }
noncomputable def q : FuncId → Bool := fun f => hasId [] f
theorem seg0 (Gimpl_Trimmed_1 : PI → Option PO) (Gimpl_scan_put_1 : impl_scan_put_1.PI → Option impl_scan_put_1.PO) (x0 : Int) (c1_0 : List (Int × Int × Int × Int)) (c4_0 : List UInt8) (c4_1 : Int) (s5 : List (List UInt8)) (s6 : List (Int × Int × Int × Int)) : arun (pg Gimpl_Trimmed_1 Gimpl_scan_put_1) 5000 [.code c0] (mk pin (x0, c1_0, c4_0, c4_1, s5, s6, ())) = F0 Gimpl_Trimmed_1 Gimpl_scan_put_1 x0 c1_0 c4_0 c4_1 s5 s6 := by kernel_rfl
noncomputable def step (Gself : PI → Option PO) : PI → Option PO := fun x => F0 Gself impl_scan_put_1.impl x.1 x.2.1 x.2.2.1 x.2.2.2.1 x.2.2.2.2.1 x.2.2.2.2.2.1
noncomputable def impl : PI → Option PO := lfp step
theorem F0_le {Gself Gself' : PI → Option PO} (hG : OLe Gself Gself') {Gimpl_scan_put_1 : impl_scan_put_1.PI → Option impl_scan_put_1.PO} (x0 : Int) (c1_0 : List (Int × Int × Int × Int)) (c4_0 : List UInt8) (c4_1 : Int) (s5 : List (List UInt8)) (s6 : List (Int × Int × Int × Int)) : OptLe (F0 Gself Gimpl_scan_put_1 x0 c1_0 c4_0 c4_1 s5 s6) (F0 Gself' Gimpl_scan_put_1 x0 c1_0 c4_0 c4_1 s5 s6) := by unfold F0; exact .cond (.cond (.bind (.of hG _) fun _ => .cond (.refl _) (.bind (.of hG _) fun _ => .refl _)) (.refl _)) (.refl _)
theorem step_mono : OMono step := fun G G' hG x => F0_le hG x.1 x.2.1 x.2.2.1 x.2.2.2.1 x.2.2.2.2.1 x.2.2.2.2.2.1
theorem impl_eq (x0 : Int) (c1_0 : List (Int × Int × Int × Int)) (c4_0 : List UInt8) (c4_1 : Int) (s5 : List (List UInt8)) (s6 : List (Int × Int × Int × Int)) : impl (x0, c1_0, c4_0, c4_1, s5, s6, ()) = F0 impl impl_scan_put_1.impl x0 c1_0 c4_0 c4_1 s5 s6 := congrFun (lfp_eq step_mono) _
theorem con_step (Gself : PI → Option PO) (hself : Con Tryz.prog 63 4 rs.length 4 pin pout Gself) : Con Tryz.prog 63 4 rs.length 4 pin pout (step Gself) := by
  refine con_of_run' (nt := 33) (c := c0) tabGood Tryz.func63 (by kernel_rfl) (by kernel_rfl) (by kernel_rfl) (by kernel_rfl) (by kernel_rfl) (by kernel_rfl) (by kernel_rfl) ?_
  intro w0 O y hnp
  generalize hPost : (fun (a' : Act) (w' : World) => ∃ μ' S' st', Rel 33 w0 O μ' S' st' a' w' ∧ endOf (tabOf tab) rs 4 pout st' = some y) = Post
  have fin : ∀ (μ : Id → Option Value) (S : Nat → Prop) (st : St) (a : Act) (w : World), Rel 33 w0 O μ S st a w → endOf (tabOf tab) rs 4 pout st = some y → Post a w := fun μ S st a w h he => by rw [← hPost]; exact ⟨μ, S, st, h, he⟩
  have hp : Parts Tryz.prog 63 (pg Gself impl_scan_put_1.impl) [] := ⟨tab_ok tabGood rfl, (handAt_ok impl_scan_put_1.con (handAt_ok hself handNil_ok)), rfl⟩
  exact good_first (hp) (runOK_of (hp) hnp trivial fin) (fun x => (seg0 Gself impl_scan_put_1.impl x.1 x.2.1 x.2.2.1 x.2.2.2.1 x.2.2.2.2.1 x.2.2.2.2.2.1))
theorem con : Con Tryz.prog 63 4 rs.length 4 pin pout impl := con_lfp (c := c0) Tryz.func63 (by kernel_rfl) (by kernel_rfl) (by kernel_rfl) con_step
end impl_Trimmed_1

/-! ### loop.example/wholecheck/impl.Trimmed -/
namespace impl_Trimmed
noncomputable abbrev c0 : Code := (Tryz.f19.body).getD .skip
noncomputable abbrev pin : Tpl := ⟨[⟨0, false, [.d (.sl (.prod (.int .i64) (.prod (.int .i64) (.prod (.int .i64) (.last (.int .i64))))))]⟩, ⟨1, false, [.d (.int .i64)]⟩], []⟩
noncomputable abbrev pout : Tpl := ⟨[⟨0, false, [.row 600001]⟩], [(600001, .row 52 false (.prod (.int .i64) (.prod (.int .i64) (.prod (.int .i64) (.last (.int .i64))))))]⟩
noncomputable abbrev p5 : Tpl := ⟨[⟨2, false, [.ptr 3000000 0]⟩, ⟨5, false, [.row 3000001]⟩, ⟨17, false, [.d (.sl (.prod (.int .i64) (.prod (.int .i64) (.prod (.int .i64) (.last (.int .i64))))))]⟩, ⟨18, false, [.d (.int .i64)]⟩, ⟨19, false, [.d (.int .i64)]⟩], [(3000000, .box [.d (.sl (.prod (.int .i64) (.prod (.int .i64) (.prod (.int .i64) (.last (.int .i64))))))]), (3000001, .row 3 false (.int .i64))]⟩
noncomputable def T5 : List Item := (find 5 c0 []).getD []
noncomputable abbrev p9 : Tpl := ⟨[⟨2, false, [.ptr 3000000 0]⟩, ⟨5, false, [.row 3000001]⟩, ⟨6, false, [.d (.int .i64)]⟩, ⟨7, false, [.ptr 3000002 0]⟩, ⟨17, false, [.d (.sl (.prod (.int .i64) (.prod (.int .i64) (.prod (.int .i64) (.last (.int .i64))))))]⟩, ⟨18, false, [.d (.int .i64)]⟩, ⟨19, false, [.d (.int .i64)]⟩], [(3000000, .box [.d (.sl (.prod (.int .i64) (.prod (.int .i64) (.prod (.int .i64) (.last (.int .i64))))))]), (3000001, .row 3 false (.int .i64)), (3000002, .box [.d (.int .i64), .d (.int .i64), .d (.int .i64), .d (.int .i64)])]⟩
noncomputable def T9 : List Item := (find 9 c0 []).getD []
noncomputable abbrev p11 : Tpl := ⟨[⟨2, false, [.ptr 3000000 0]⟩, ⟨5, false, [.row 3000001]⟩, ⟨6, false, [.d (.int .i64)]⟩, ⟨7, false, [.ptr 3000002 0]⟩, ⟨17, false, [.d (.sl (.prod (.int .i64) (.prod (.int .i64) (.prod (.int .i64) (.last (.int .i64))))))]⟩, ⟨18, false, [.d (.int .i64)]⟩, ⟨19, false, [.d (.int .i64)]⟩], [(3000000, .box [.d (.sl (.prod (.int .i64) (.prod (.int .i64) (.prod (.int .i64) (.last (.int .i64))))))]), (3000001, .row 3 false (.int .i64)), (3000002, .box [.d (.int .i64), .d (.int .i64), .d (.int .i64), .d (.int .i64)])]⟩
noncomputable def T11 : List Item := (find 11 c0 []).getD []
noncomputable abbrev p12 : Tpl := ⟨[⟨2, false, [.ptr 3000000 0]⟩, ⟨5, false, [.row 3000001]⟩, ⟨6, false, [.d (.int .i64)]⟩, ⟨17, false, [.d (.sl (.prod (.int .i64) (.prod (.int .i64) (.prod (.int .i64) (.last (.int .i64))))))]⟩, ⟨18, false, [.d (.int .i64)]⟩, ⟨19, false, [.d (.int .i64)]⟩], [(3000000, .box [.d (.sl (.prod (.int .i64) (.prod (.int .i64) (.prod (.int .i64) (.last (.int .i64))))))]), (3000001, .row 3 false (.int .i64))]⟩
noncomputable def T12 : List Item := (find 12 c0 []).getD []
noncomputable abbrev PI := (List (Int × Int × Int × Int)) × Int × Unit
noncomputable abbrev PO := (List (Int × Int × Int × Int)) × Unit
noncomputable abbrev P5 := (List (Int × Int × Int × Int)) × Int × Int × (List (Int × Int × Int × Int)) × (List Int) × Unit
noncomputable abbrev P9 := Int × (List (Int × Int × Int × Int)) × Int × Int × (List (Int × Int × Int × Int)) × (List Int) × Int × Int × Int × Int × Unit
noncomputable abbrev P11 := Int × (List (Int × Int × Int × Int)) × Int × Int × (List (Int × Int × Int × Int)) × (List Int) × Int × Int × Int × Int × Unit
noncomputable abbrev P12 := Int × (List (Int × Int × Int × Int)) × Int × Int × (List (Int × Int × Int × Int)) × (List Int) × Unit
noncomputable abbrev rs : List ResultVar := [.tmp 4]
noncomputable def F0 (J5 : P5 → Option PO) (Gimpl_TermsValid : impl_TermsValid.PI → Option impl_TermsValid.PO) (x0 : List (Int × Int × Int × Int)) (x1 : Int) : Option PO :=
  Option.bind (Gimpl_TermsValid (x0, x1, ())) fun y0 =>
  bif !y0.1 then
    some ([], ())
  else
    bif decide (0 ≤ (x0.length : Int)) && decide ((x0.length : Int) ≤ (x0.length : Int)) && decide ((x0.length : Int) * 8 ≤ 140737488355328) then
      J5 (x0, (x0.length : Int), 0, x0, (List.replicate (x0.length : Int).toNat 0 : List Int), ())
    else
      none
noncomputable def F5 (J9 : P9 → Option PO) (J12 : P12 → Option PO) (Gimpl_Trimmed_1 : impl_Trimmed_1.PI → Option impl_Trimmed_1.PO) (Gimpl_clone_of : impl_clone_of.PI → Option impl_clone_of.PO) (t17 : List (Int × Int × Int × Int)) (t18 : Int) (t19 : Int) (b0_0 : List (Int × Int × Int × Int)) (r1 : List Int) : Option PO :=
  bif decide (t19 < t18) then
    bif inb t19 t17.length then
      bif inb t19 r1.length then
        bif decide ((t17.getD t19.toNat (0, 0, 0, 0)).1 ≥ 2) then
          J9 (t19, t17, t18, t19, b0_0, r1.set t19.toNat 1, (t17.getD t19.toNat (0, 0, 0, 0)).1, (t17.getD t19.toNat (0, 0, 0, 0)).2.1, (t17.getD t19.toNat (0, 0, 0, 0)).2.2.1, (t17.getD t19.toNat (0, 0, 0, 0)).2.2.2, ())
        else
          J12 (t19, t17, t18, t19, b0_0, r1.set t19.toNat 1, ())
      else
        none
    else
      none
  else
    bif inb (wI ((b0_0.length : Int) - 1)) r1.length then
      bif decide (r1.getD (wI ((b0_0.length : Int) - 1)).toNat 0 ≥ 4000) then
        some ([], ())
      else
        Option.bind (Gimpl_Trimmed_1 (wI ((b0_0.length : Int) - 1), b0_0, [], 0, [], [], ())) fun y1 =>
        Option.bind (Gimpl_clone_of (y1.2.2.2.2.2.1, ())) fun y2 =>
        some (y2.1, ())
    else
      none
noncomputable def F9 (J11 : P11 → Option PO) (J12 : P12 → Option PO) (t6 : Int) (t17 : List (Int × Int × Int × Int)) (t18 : Int) (t19 : Int) (b0_0 : List (Int × Int × Int × Int)) (r1 : List Int) (b2_0 : Int) (b2_1 : Int) (b2_2 : Int) (b2_3 : Int) : Option PO :=
  bif inb t6 r1.length then
    bif inb b2_2 r1.length then
      bif inb t6 r1.length then
        bif b2_0 != 7 then
          J11 (t6, t17, t18, t19, b0_0, r1.set t6.toNat (wI ((r1.getD t6.toNat 0) + (r1.getD b2_2.toNat 0))), b2_0, b2_1, b2_2, b2_3, ())
        else
          J12 (t6, t17, t18, t19, b0_0, r1.set t6.toNat (wI ((r1.getD t6.toNat 0) + (r1.getD b2_2.toNat 0))), ())
      else
        none
    else
      none
  else
    none
noncomputable def F11 (J12 : P12 → Option PO) (t6 : Int) (t17 : List (Int × Int × Int × Int)) (t18 : Int) (t19 : Int) (b0_0 : List (Int × Int × Int × Int)) (r1 : List Int) (b2_0 : Int) (b2_1 : Int) (b2_2 : Int) (b2_3 : Int) : Option PO :=
  bif inb t6 r1.length then
    bif inb b2_3 r1.length then
      bif inb t6 r1.length then
        J12 (t6, t17, t18, t19, b0_0, r1.set t6.toNat (wI ((r1.getD t6.toNat 0) + (r1.getD b2_3.toNat 0))), ())
      else
        none
    else
      none
  else
    none
noncomputable def F12 (J5 : P5 → Option PO) (t6 : Int) (t17 : List (Int × Int × Int × Int)) (t18 : Int) (t19 : Int) (b0_0 : List (Int × Int × Int × Int)) (r1 : List Int) : Option PO :=
  bif inb t6 r1.length then
    bif inb t6 r1.length then
      J5 (t17, t18, wI (t19 + 1), b0_0, r1.set t6.toNat (bif decide ((4000 : Int) < r1.getD t6.toNat 0) then 4000 else r1.getD t6.toNat 0), ())
    else
      none
  else
    none
noncomputable def hd {R : Type} (Gimpl_TermsValid : impl_TermsValid.PI → Option impl_TermsValid.PO) (Gimpl_Trimmed_1 : impl_Trimmed_1.PI → Option impl_Trimmed_1.PO) (Gimpl_clone_of : impl_clone_of.PI → Option impl_clone_of.PO) : Hand R := (handAt 65 [83] true ⟨1, 1, 1, impl_clone_of.pin, impl_clone_of.pout, Gimpl_clone_of⟩ (handAt 63 [78] false ⟨4, 1, 4, impl_Trimmed_1.pin, impl_Trimmed_1.pout, Gimpl_Trimmed_1⟩ (handAt 23 [12] true ⟨2, 1, 2, impl_TermsValid.pin, impl_TermsValid.pout, Gimpl_TermsValid⟩ handNil)))
noncomputable def pg (Gimpl_TermsValid : impl_TermsValid.PI → Option impl_TermsValid.PO) (Gimpl_Trimmed_1 : impl_Trimmed_1.PI → Option impl_Trimmed_1.PO) (Gimpl_clone_of : impl_clone_of.PI → Option impl_clone_of.PO) (J5 : List Item → P5 → Option PO) (J9 : List Item → P9 → Option PO) (J11 : List Item → P11 → Option PO) (J12 : List Item → P12 → Option PO) : Prog PO := { nt := 84, np := 2, tb := tabOf tab, hd := hd Gimpl_TermsValid Gimpl_Trimmed_1 Gimpl_clone_of, cuts := cutsOf [(5, cut p5 J5), (9, cut p9 J9), (11, cut p11 J11), (12, cut p12 J12)], fin := endOf (tabOf tab) rs 2 pout }
noncomputable def q : FuncId → Bool := fun f => hasId [23] f
theorem seg0 (Gimpl_TermsValid : impl_TermsValid.PI → Option impl_TermsValid.PO) (Gimpl_Trimmed_1 : impl_Trimmed_1.PI → Option impl_Trimmed_1.PO) (Gimpl_clone_of : impl_clone_of.PI → Option impl_clone_of.PO) (J5 : List Item → P5 → Option PO) (J9 : List Item → P9 → Option PO) (J11 : List Item → P11 → Option PO) (J12 : List Item → P12 → Option PO) (x0 : List (Int × Int × Int × Int)) (x1 : Int) : arun (pg Gimpl_TermsValid Gimpl_Trimmed_1 Gimpl_clone_of J5 J9 J11 J12) 5000 [.code c0] (mk pin (x0, x1, ())) = F0 (J5 T5) Gimpl_TermsValid x0 x1 := by kernel_rfl
theorem seg5 (Gimpl_TermsValid : impl_TermsValid.PI → Option impl_TermsValid.PO) (Gimpl_Trimmed_1 : impl_Trimmed_1.PI → Option impl_Trimmed_1.PO) (Gimpl_clone_of : impl_clone_of.PI → Option impl_clone_of.PO) (J5 : List Item → P5 → Option PO) (J9 : List Item → P9 → Option PO) (J11 : List Item → P11 → Option PO) (J12 : List Item → P12 → Option PO) (t17 : List (Int × Int × Int × Int)) (t18 : Int) (t19 : Int) (b0_0 : List (Int × Int × Int × Int)) (r1 : List Int) : arun1 (pg Gimpl_TermsValid Gimpl_Trimmed_1 Gimpl_clone_of J5 J9 J11 J12) 5000 T5 (mk p5 (t17, t18, t19, b0_0, r1, ())) = F5 (J9 T9) (J12 T12) Gimpl_Trimmed_1 Gimpl_clone_of t17 t18 t19 b0_0 r1 := by kernel_rfl
theorem seg9 (Gimpl_TermsValid : impl_TermsValid.PI → Option impl_TermsValid.PO) (Gimpl_Trimmed_1 : impl_Trimmed_1.PI → Option impl_Trimmed_1.PO) (Gimpl_clone_of : impl_clone_of.PI → Option impl_clone_of.PO) (J5 : List Item → P5 → Option PO) (J9 : List Item → P9 → Option PO) (J11 : List Item → P11 → Option PO) (J12 : List Item → P12 → Option PO) (t6 : Int) (t17 : List (Int × Int × Int × Int)) (t18 : Int) (t19 : Int) (b0_0 : List (Int × Int × Int × Int)) (r1 : List Int) (b2_0 : Int) (b2_1 : Int) (b2_2 : Int) (b2_3 : Int) : arunQ (pg Gimpl_TermsValid Gimpl_Trimmed_1 Gimpl_clone_of J5 J9 J11 J12) q [3000001] [3, 8] 5000 T9 (mk p9 (t6, t17, t18, t19, b0_0, r1, b2_0, b2_1, b2_2, b2_3, ())) = List.replicate (arunQ (pg Gimpl_TermsValid Gimpl_Trimmed_1 Gimpl_clone_of J5 J9 J11 J12) q [3000001] [3, 8] 5000 T9 (mk p9 (t6, t17, t18, t19, b0_0, r1, b2_0, b2_1, b2_2, b2_3, ()))).length (F9 (J11 T11) (J12 T12) t6 t17 t18 t19 b0_0 r1 b2_0 b2_1 b2_2 b2_3) := by kernel_rfl
theorem seg11 (Gimpl_TermsValid : impl_TermsValid.PI → Option impl_TermsValid.PO) (Gimpl_Trimmed_1 : impl_Trimmed_1.PI → Option impl_Trimmed_1.PO) (Gimpl_clone_of : impl_clone_of.PI → Option impl_clone_of.PO) (J5 : List Item → P5 → Option PO) (J9 : List Item → P9 → Option PO) (J11 : List Item → P11 → Option PO) (J12 : List Item → P12 → Option PO) (t6 : Int) (t17 : List (Int × Int × Int × Int)) (t18 : Int) (t19 : Int) (b0_0 : List (Int × Int × Int × Int)) (r1 : List Int) (b2_0 : Int) (b2_1 : Int) (b2_2 : Int) (b2_3 : Int) : arunQ (pg Gimpl_TermsValid Gimpl_Trimmed_1 Gimpl_clone_of J5 J9 J11 J12) q [3000001] [3, 8] 5000 T11 (mk p11 (t6, t17, t18, t19, b0_0, r1, b2_0, b2_1, b2_2, b2_3, ())) = List.replicate (arunQ (pg Gimpl_TermsValid Gimpl_Trimmed_1 Gimpl_clone_of J5 J9 J11 J12) q [3000001] [3, 8] 5000 T11 (mk p11 (t6, t17, t18, t19, b0_0, r1, b2_0, b2_1, b2_2, b2_3, ()))).length (F11 (J12 T12) t6 t17 t18 t19 b0_0 r1 b2_0 b2_1 b2_2 b2_3) := by kernel_rfl
theorem seg12 (Gimpl_TermsValid : impl_TermsValid.PI → Option impl_TermsValid.PO) (Gimpl_Trimmed_1 : impl_Trimmed_1.PI → Option impl_Trimmed_1.PO) (Gimpl_clone_of : impl_clone_of.PI → Option impl_clone_of.PO) (J5 : List Item → P5 → Option PO) (J9 : List Item → P9 → Option PO) (J11 : List Item → P11 → Option PO) (J12 : List Item → P12 → Option PO) (t6 : Int) (t17 : List (Int × Int × Int × Int)) (t18 : Int) (t19 : Int) (b0_0 : List (Int × Int × Int × Int)) (r1 : List Int) : arun1 (pg Gimpl_TermsValid Gimpl_Trimmed_1 Gimpl_clone_of J5 J9 J11 J12) 5000 T12 (mk p12 (t6, t17, t18, t19, b0_0, r1, ())) = F12 (J5 T5) t6 t17 t18 t19 b0_0 r1 := by kernel_rfl
noncomputable def L12 (J5 : P5 → Option PO) : P12 → Option PO := fun x => F12 J5 x.1 x.2.1 x.2.2.1 x.2.2.2.1 x.2.2.2.2.1 x.2.2.2.2.2.1
noncomputable def L11 (J5 : P5 → Option PO) : P11 → Option PO := fun x => F11 (L12 J5) x.1 x.2.1 x.2.2.1 x.2.2.2.1 x.2.2.2.2.1 x.2.2.2.2.2.1 x.2.2.2.2.2.2.1 x.2.2.2.2.2.2.2.1 x.2.2.2.2.2.2.2.2.1 x.2.2.2.2.2.2.2.2.2.1
noncomputable def L9 (J5 : P5 → Option PO) : P9 → Option PO := fun x => F9 (L11 J5) (L12 J5) x.1 x.2.1 x.2.2.1 x.2.2.2.1 x.2.2.2.2.1 x.2.2.2.2.2.1 x.2.2.2.2.2.2.1 x.2.2.2.2.2.2.2.1 x.2.2.2.2.2.2.2.2.1 x.2.2.2.2.2.2.2.2.2.1
noncomputable def L5 : P5 → Option PO := lfp fun J5 x => F5 (L9 J5) (L12 J5) impl_Trimmed_1.impl impl_clone_of.impl x.1 x.2.1 x.2.2.1 x.2.2.2.1 x.2.2.2.2.1
noncomputable def impl : PI → Option PO := fun x => F0 L5 impl_TermsValid.impl x.1 x.2.1
theorem F12_le {J5 J5' : P5 → Option PO} (h5 : OLe J5 J5') (t6 : Int) (t17 : List (Int × Int × Int × Int)) (t18 : Int) (t19 : Int) (b0_0 : List (Int × Int × Int × Int)) (r1 : List Int) : OptLe (F12 J5 t6 t17 t18 t19 b0_0 r1) (F12 J5' t6 t17 t18 t19 b0_0 r1) := by unfold F12; exact .cond (.cond (.of h5 _) (.refl _)) (.refl _)
theorem F11_le {J12 J12' : P12 → Option PO} (h12 : OLe J12 J12') (t6 : Int) (t17 : List (Int × Int × Int × Int)) (t18 : Int) (t19 : Int) (b0_0 : List (Int × Int × Int × Int)) (r1 : List Int) (b2_0 : Int) (b2_1 : Int) (b2_2 : Int) (b2_3 : Int) : OptLe (F11 J12 t6 t17 t18 t19 b0_0 r1 b2_0 b2_1 b2_2 b2_3) (F11 J12' t6 t17 t18 t19 b0_0 r1 b2_0 b2_1 b2_2 b2_3) := by unfold F11; exact .cond (.cond (.cond (.of h12 _) (.refl _)) (.refl _)) (.refl _)
theorem F9_le {J11 J11' : P11 → Option PO} (h11 : OLe J11 J11') {J12 J12' : P12 → Option PO} (h12 : OLe J12 J12') (t6 : Int) (t17 : List (Int × Int × Int × Int)) (t18 : Int) (t19 : Int) (b0_0 : List (Int × Int × Int × Int)) (r1 : List Int) (b2_0 : Int) (b2_1 : Int) (b2_2 : Int) (b2_3 : Int) : OptLe (F9 J11 J12 t6 t17 t18 t19 b0_0 r1 b2_0 b2_1 b2_2 b2_3) (F9 J11' J12' t6 t17 t18 t19 b0_0 r1 b2_0 b2_1 b2_2 b2_3) := by unfold F9; exact .cond (.cond (.cond (.cond (.of h11 _) (.of h12 _)) (.refl _)) (.refl _)) (.refl _)
theorem F5_le {J9 J9' : P9 → Option PO} (h9 : OLe J9 J9') {J12 J12' : P12 → Option PO} (h12 : OLe J12 J12') {Gimpl_Trimmed_1 : impl_Trimmed_1.PI → Option impl_Trimmed_1.PO} {Gimpl_clone_of : impl_clone_of.PI → Option impl_clone_of.PO} (t17 : List (Int × Int × Int × Int)) (t18 : Int) (t19 : Int) (b0_0 : List (Int × Int × Int × Int)) (r1 : List Int) : OptLe (F5 J9 J12 Gimpl_Trimmed_1 Gimpl_clone_of t17 t18 t19 b0_0 r1) (F5 J9' J12' Gimpl_Trimmed_1 Gimpl_clone_of t17 t18 t19 b0_0 r1) := by unfold F5; exact .cond (.cond (.cond (.cond (.of h9 _) (.of h12 _)) (.refl _)) (.refl _)) (.refl _)
theorem L12_eq (J5 : P5 → Option PO) (t6 : Int) (t17 : List (Int × Int × Int × Int)) (t18 : Int) (t19 : Int) (b0_0 : List (Int × Int × Int × Int)) (r1 : List Int) : L12 J5 (t6, t17, t18, t19, b0_0, r1, ()) = F12 J5 t6 t17 t18 t19 b0_0 r1 := rfl
theorem L12_le {J5 J5' : P5 → Option PO} (h5 : OLe J5 J5') : OLe (L12 J5) (L12 J5') := fun x => F12_le h5 x.1 x.2.1 x.2.2.1 x.2.2.2.1 x.2.2.2.2.1 x.2.2.2.2.2.1
theorem L11_eq (J5 : P5 → Option PO) (t6 : Int) (t17 : List (Int × Int × Int × Int)) (t18 : Int) (t19 : Int) (b0_0 : List (Int × Int × Int × Int)) (r1 : List Int) (b2_0 : Int) (b2_1 : Int) (b2_2 : Int) (b2_3 : Int) : L11 J5 (t6, t17, t18, t19, b0_0, r1, b2_0, b2_1, b2_2, b2_3, ()) = F11 (L12 J5) t6 t17 t18 t19 b0_0 r1 b2_0 b2_1 b2_2 b2_3 := rfl
theorem L11_le {J5 J5' : P5 → Option PO} (h5 : OLe J5 J5') : OLe (L11 J5) (L11 J5') := fun x => F11_le (L12_le h5) x.1 x.2.1 x.2.2.1 x.2.2.2.1 x.2.2.2.2.1 x.2.2.2.2.2.1 x.2.2.2.2.2.2.1 x.2.2.2.2.2.2.2.1 x.2.2.2.2.2.2.2.2.1 x.2.2.2.2.2.2.2.2.2.1
theorem L9_eq (J5 : P5 → Option PO) (t6 : Int) (t17 : List (Int × Int × Int × Int)) (t18 : Int) (t19 : Int) (b0_0 : List (Int × Int × Int × Int)) (r1 : List Int) (b2_0 : Int) (b2_1 : Int) (b2_2 : Int) (b2_3 : Int) : L9 J5 (t6, t17, t18, t19, b0_0, r1, b2_0, b2_1, b2_2, b2_3, ()) = F9 (L11 J5) (L12 J5) t6 t17 t18 t19 b0_0 r1 b2_0 b2_1 b2_2 b2_3 := rfl
theorem L9_le {J5 J5' : P5 → Option PO} (h5 : OLe J5 J5') : OLe (L9 J5) (L9 J5') := fun x => F9_le (L11_le h5) (L12_le h5) x.1 x.2.1 x.2.2.1 x.2.2.2.1 x.2.2.2.2.1 x.2.2.2.2.2.1 x.2.2.2.2.2.2.1 x.2.2.2.2.2.2.2.1 x.2.2.2.2.2.2.2.2.1 x.2.2.2.2.2.2.2.2.2.1
theorem L5_mono : OMono fun J5 (x : P5) => F5 (L9 J5) (L12 J5) impl_Trimmed_1.impl impl_clone_of.impl x.1 x.2.1 x.2.2.1 x.2.2.2.1 x.2.2.2.2.1 := fun J J' h5 x => F5_le (L9_le h5) (L12_le h5) x.1 x.2.1 x.2.2.1 x.2.2.2.1 x.2.2.2.2.1
theorem L5_eq (t17 : List (Int × Int × Int × Int)) (t18 : Int) (t19 : Int) (b0_0 : List (Int × Int × Int × Int)) (r1 : List Int) : L5 (t17, t18, t19, b0_0, r1, ()) = F5 (L9 (L5)) (L12 (L5)) impl_Trimmed_1.impl impl_clone_of.impl t17 t18 t19 b0_0 r1 := congrFun (lfp_eq (L5_mono)) _
theorem impl_eq (x0 : List (Int × Int × Int × Int)) (x1 : Int) : impl (x0, x1, ()) = F0 L5 impl_TermsValid.impl x0 x1 := rfl
theorem con : Con Tryz.prog 19 2 rs.length 2 pin pout impl := by
  refine con_of_run' (nt := 84) (c := c0) tabGood Tryz.func19 (by kernel_rfl) (by kernel_rfl) (by kernel_rfl) (by kernel_rfl) (by kernel_rfl) (by kernel_rfl) (by kernel_rfl) ?_
  intro w0 O y hnp
  generalize hPost : (fun (a' : Act) (w' : World) => ∃ μ' S' st', Rel 84 w0 O μ' S' st' a' w' ∧ endOf (tabOf tab) rs 2 pout st' = some y) = Post
  have fin : ∀ (μ : Id → Option Value) (S : Nat → Prop) (st : St) (a : Act) (w : World), Rel 84 w0 O μ S st a w → endOf (tabOf tab) rs 2 pout st = some y → Post a w := fun μ S st a w h he => by rw [← hPost]; exact ⟨μ, S, st, h, he⟩
  have hp : ∀ (J5 : List Item → P5 → Option PO), ∀ (J9 : List Item → P9 → Option PO), ∀ (J11 : List Item → P11 → Option PO), ∀ (J12 : List Item → P12 → Option PO), Parts Tryz.prog 19 (pg impl_TermsValid.impl impl_Trimmed_1.impl impl_clone_of.impl J5 J9 J11 J12) [(5, cut p5 J5), (9, cut p9 J9), (11, cut p11 J11), (12, cut p12 J12)] := fun J5 J9 J11 J12 => ⟨tab_ok tabGood rfl, (handAt_ok impl_clone_of.con (handAt_ok impl_Trimmed_1.con (handAt_ok impl_TermsValid.con handNil_ok))), rfl⟩
  have g12 : ∀ (J5 : P5 → Option PO), Good Tryz.prog 84 w0 O Post y T5 p5 J5 → Good Tryz.prog 84 w0 O Post y T12 p12 (L12 J5) := fun J5 h5 => good_part (hp (atT T5 J5) (atT T9 (fun _ => none)) (atT T11 (fun _ => none)) (atT T12 (fun _ => none))) (runOK_of (hp (atT T5 J5) (atT T9 (fun _ => none)) (atT T11 (fun _ => none)) (atT T12 (fun _ => none))) hnp ⟨cutOK_at h5, cutOK_at (p := p9) (T := T9) (J := fun _ => none) good_none, cutOK_at (p := p11) (T := T11) (J := fun _ => none) good_none, cutOK_at (p := p12) (T := T12) (J := fun _ => none) good_none, trivial⟩ fin) (fun x => (seg12 impl_TermsValid.impl impl_Trimmed_1.impl impl_clone_of.impl (atT T5 J5) (atT T9 (fun _ => none)) (atT T11 (fun _ => none)) (atT T12 (fun _ => none)) x.1 x.2.1 x.2.2.1 x.2.2.2.1 x.2.2.2.2.1 x.2.2.2.2.2.1).trans (by simp only [atT_self] <;> rfl))
  have g11 : ∀ (J5 : P5 → Option PO), Good Tryz.prog 84 w0 O Post y T5 p5 J5 → Good Tryz.prog 84 w0 O Post y T11 p11 (L11 J5) := fun J5 h5 => good_quiet (hs := hd impl_TermsValid.impl impl_Trimmed_1.impl impl_clone_of.impl) (cv' := hd impl_TermsValid.impl impl_Trimmed_1.impl impl_clone_of.impl) (Checked.mixed Tryz.checked) (hp (atT T5 (fun _ => none)) (atT T9 (fun _ => none)) (atT T11 (fun _ => none)) (atT T12 (L12 J5))) (handAt_D' rfl (handAt_D' rfl (handAt_D impl_TermsValid.con (by rfl) rfl handNil_D))) (handAt_nat (handAt_nat (handAt_nat handNil_nat))) (handAt_nat (handAt_nat (handAt_nat handNil_nat))) (runOK_of (hp (atT T5 (fun _ => none)) (atT T9 (fun _ => none)) (atT T11 (fun _ => none)) (atT T12 (L12 J5))) hnp ⟨cutOK_at (p := p5) (T := T5) (J := fun _ => none) good_none, cutOK_at (p := p9) (T := T9) (J := fun _ => none) good_none, cutOK_at (p := p11) (T := T11) (J := fun _ => none) good_none, cutOK_at (g12 J5 h5), trivial⟩ fin) (fun x => all_same ⟨_, (seg11 impl_TermsValid.impl impl_Trimmed_1.impl impl_clone_of.impl (atT T5 (fun _ => none)) (atT T9 (fun _ => none)) (atT T11 (fun _ => none)) (atT T12 (L12 J5)) x.1 x.2.1 x.2.2.1 x.2.2.2.1 x.2.2.2.2.1 x.2.2.2.2.2.1 x.2.2.2.2.2.2.1 x.2.2.2.2.2.2.2.1 x.2.2.2.2.2.2.2.2.1 x.2.2.2.2.2.2.2.2.2.1).trans (by simp only [atT_self] <;> rfl)⟩)
  have g9 : ∀ (J5 : P5 → Option PO), Good Tryz.prog 84 w0 O Post y T5 p5 J5 → Good Tryz.prog 84 w0 O Post y T9 p9 (L9 J5) := fun J5 h5 => good_quiet (hs := hd impl_TermsValid.impl impl_Trimmed_1.impl impl_clone_of.impl) (cv' := hd impl_TermsValid.impl impl_Trimmed_1.impl impl_clone_of.impl) (Checked.mixed Tryz.checked) (hp (atT T5 (fun _ => none)) (atT T9 (fun _ => none)) (atT T11 (L11 J5)) (atT T12 (L12 J5))) (handAt_D' rfl (handAt_D' rfl (handAt_D impl_TermsValid.con (by rfl) rfl handNil_D))) (handAt_nat (handAt_nat (handAt_nat handNil_nat))) (handAt_nat (handAt_nat (handAt_nat handNil_nat))) (runOK_of (hp (atT T5 (fun _ => none)) (atT T9 (fun _ => none)) (atT T11 (L11 J5)) (atT T12 (L12 J5))) hnp ⟨cutOK_at (p := p5) (T := T5) (J := fun _ => none) good_none, cutOK_at (p := p9) (T := T9) (J := fun _ => none) good_none, cutOK_at (g11 J5 h5), cutOK_at (g12 J5 h5), trivial⟩ fin) (fun x => all_same ⟨_, (seg9 impl_TermsValid.impl impl_Trimmed_1.impl impl_clone_of.impl (atT T5 (fun _ => none)) (atT T9 (fun _ => none)) (atT T11 (L11 J5)) (atT T12 (L12 J5)) x.1 x.2.1 x.2.2.1 x.2.2.2.1 x.2.2.2.2.1 x.2.2.2.2.2.1 x.2.2.2.2.2.2.1 x.2.2.2.2.2.2.2.1 x.2.2.2.2.2.2.2.2.1 x.2.2.2.2.2.2.2.2.2.1).trans (by simp only [atT_self] <;> rfl)⟩)
  have g5 : Good Tryz.prog 84 w0 O Post y T5 p5 L5 := good_lfp fun J5 h5 => good_part (hp (atT T5 (fun _ => none)) (atT T9 (L9 J5)) (atT T11 (fun _ => none)) (atT T12 (L12 J5))) (runOK_of (hp (atT T5 (fun _ => none)) (atT T9 (L9 J5)) (atT T11 (fun _ => none)) (atT T12 (L12 J5))) hnp ⟨cutOK_at (p := p5) (T := T5) (J := fun _ => none) good_none, cutOK_at (g9 J5 h5), cutOK_at (p := p11) (T := T11) (J := fun _ => none) good_none, cutOK_at (g12 J5 h5), trivial⟩ fin) (fun x => (seg5 impl_TermsValid.impl impl_Trimmed_1.impl impl_clone_of.impl (atT T5 (fun _ => none)) (atT T9 (L9 J5)) (atT T11 (fun _ => none)) (atT T12 (L12 J5)) x.1 x.2.1 x.2.2.1 x.2.2.2.1 x.2.2.2.2.1).trans (by simp only [atT_self] <;> rfl))
  exact good_first (hp (atT T5 L5) (atT T9 (fun _ => none)) (atT T11 (fun _ => none)) (atT T12 (fun _ => none))) (runOK_of (hp (atT T5 L5) (atT T9 (fun _ => none)) (atT T11 (fun _ => none)) (atT T12 (fun _ => none))) hnp ⟨cutOK_at g5, cutOK_at (p := p9) (T := T9) (J := fun _ => none) good_none, cutOK_at (p := p11) (T := T11) (J := fun _ => none) good_none, cutOK_at (p := p12) (T := T12) (J := fun _ => none) good_none, trivial⟩ fin) (fun x => (seg0 impl_TermsValid.impl impl_Trimmed_1.impl impl_clone_of.impl (atT T5 L5) (atT T9 (fun _ => none)) (atT T11 (fun _ => none)) (atT T12 (fun _ => none)) x.1 x.2.1).trans (by simp only [atT_self] <;> rfl))
end impl_Trimmed

/-! ### loop.example/wholecheck/impl.stateOk$1 -/
namespace impl_stateOk_1
noncomputable abbrev c0 : Code := (Tryz.f111.body).getD .skip
noncomputable abbrev pin : Tpl := ⟨[⟨0, false, [.d (.int .i64)]⟩], []⟩
noncomputable abbrev pout : Tpl := ⟨[⟨0, false, [.d .bool]⟩], []⟩
noncomputable abbrev PI := Int × Unit
noncomputable abbrev PO := Bool × Unit
noncomputable abbrev rs : List ResultVar := [.tmp 2]
noncomputable def F0 (Gimpl_in : impl_in.PI → Option impl_in.PO) (x0 : Int) : Option PO :=
  Option.bind (Gimpl_in (x0, (-9999), 9999, ())) fun y0 =>
  some (!y0.1, ())
noncomputable def hd {R : Type} (Gimpl_in : impl_in.PI → Option impl_in.PO) : Hand R := (handAt 74 [4] true ⟨3, 1, 3, impl_in.pin, impl_in.pout, Gimpl_in⟩ handNil)
noncomputable def pg (Gimpl_in : impl_in.PI → Option impl_in.PO) : Prog PO := { nt := 6, np := 1, tb := tabOf tab, hd := hd Gimpl_in, cuts := cutsOf [], fin := endOf (tabOf tab) rs 1 pout }
noncomputable def q : FuncId → Bool := fun f => hasId [74] f
theorem seg0 (Gimpl_in : impl_in.PI → Option impl_in.PO) (x0 : Int) : arun (pg Gimpl_in) 5000 [.code c0] (mk pin (x0, ())) = F0 Gimpl_in x0 := by kernel_rfl
noncomputable def impl : PI → Option PO := fun x => F0 impl_in.impl x.1
theorem impl_eq (x0 : Int) : impl (x0, ()) = F0 impl_in.impl x0 := rfl
theorem con : Con Tryz.prog 111 1 rs.length 1 pin pout impl := by
  refine con_of_run' (nt := 6) (c := c0) tabGood Tryz.func111 (by kernel_rfl) (by kernel_rfl) (by kernel_rfl) (by kernel_rfl) (by kernel_rfl) (by kernel_rfl) (by kernel_rfl) ?_
  intro w0 O y hnp
  generalize hPost : (fun (a' : Act) (w' : World) => ∃ μ' S' st', Rel 6 w0 O μ' S' st' a' w' ∧ endOf (tabOf tab) rs 1 pout st' = some y) = Post
  have fin : ∀ (μ : Id → Option Value) (S : Nat → Prop) (st : St) (a : Act) (w : World), Rel 6 w0 O μ S st a w → endOf (tabOf tab) rs 1 pout st = some y → Post a w := fun μ S st a w h he => by rw [← hPost]; exact ⟨μ, S, st, h, he⟩
  have hp : Parts Tryz.prog 111 (pg impl_in.impl) [] := ⟨tab_ok tabGood rfl, (handAt_ok impl_in.con handNil_ok), rfl⟩
  exact good_first (hp) (runOK_of (hp) hnp trivial fin) (fun x => (seg0 impl_in.impl x.1))
end impl_stateOk_1

/-! ### slices.IndexFunc[[]int,int] -/
namespace slices_IndexFunc_of
noncomputable abbrev c0 : Code := (Tryz.f154.body).getD .skip
noncomputable abbrev pin : Tpl := ⟨[⟨0, false, [.d (.sl (.int .i64))]⟩, ⟨1, false, [.fn 111 []]⟩], []⟩
noncomputable abbrev pout : Tpl := ⟨[⟨0, false, [.d (.int .i64)]⟩, ⟨2, false, [.fn 111 []]⟩], []⟩
noncomputable abbrev p2 : Tpl := ⟨[⟨0, false, [.d (.sl (.int .i64))]⟩, ⟨1, false, [.fn 111 []]⟩, ⟨7, false, [.d (.int .i64)]⟩, ⟨8, false, [.d (.int .i64)]⟩], []⟩
noncomputable def T2 : List Item := (find 2 c0 []).getD []
noncomputable abbrev PI := (List Int) × Unit
noncomputable abbrev PO := Int × Unit
noncomputable abbrev P2 := (List Int) × Int × Int × Unit
noncomputable abbrev rs : List ResultVar := [.tmp 4]
noncomputable def F0 (J2 : P2 → Option PO) (x0 : List Int) : Option PO :=
  J2 (x0, (x0.length : Int), 0, ())
noncomputable def F2 (J2 : P2 → Option PO) (Gimpl_stateOk_1 : impl_stateOk_1.PI → Option impl_stateOk_1.PO) (t0 : List Int) (t7 : Int) (t8 : Int) : Option PO :=
  bif decide (t8 < t7) then
    bif inb t8 t0.length then
      Option.bind (Gimpl_stateOk_1 (t0.getD t8.toNat 0, ())) fun y0 =>
      bif y0.1 then
        some (t8, ())
      else
        J2 (t0, t7, wI (t8 + 1), ())
    else
      none
  else
    some ((-1), ())
noncomputable def hd {R : Type} (Gimpl_stateOk_1 : impl_stateOk_1.PI → Option impl_stateOk_1.PO) : Hand R := (handAt 111 [16] true ⟨1, 1, 1, impl_stateOk_1.pin, impl_stateOk_1.pout, Gimpl_stateOk_1⟩ handNil)
noncomputable def pg (Gimpl_stateOk_1 : impl_stateOk_1.PI → Option impl_stateOk_1.PO) (J2 : List Item → P2 → Option PO) : Prog PO := { nt := 19, np := 2, tb := tabOf tab, hd := hd Gimpl_stateOk_1, cuts := cutsOf [(2, cut p2 J2)], fin := endOf (tabOf tab) rs 2 pout }
noncomputable def q : FuncId → Bool := fun f => hasId [111] f
theorem seg0 (Gimpl_stateOk_1 : impl_stateOk_1.PI → Option impl_stateOk_1.PO) (J2 : List Item → P2 → Option PO) (x0 : List Int) : arun (pg Gimpl_stateOk_1 J2) 5000 [.code c0] (mk pin (x0, ())) = F0 (J2 T2) x0 := by kernel_rfl
theorem seg2 (Gimpl_stateOk_1 : impl_stateOk_1.PI → Option impl_stateOk_1.PO) (J2 : List Item → P2 → Option PO) (t0 : List Int) (t7 : Int) (t8 : Int) : arun1 (pg Gimpl_stateOk_1 J2) 5000 T2 (mk p2 (t0, t7, t8, ())) = F2 (J2 T2) Gimpl_stateOk_1 t0 t7 t8 := by kernel_rfl
noncomputable def L2 : P2 → Option PO := lfp fun J2 x => F2 J2 impl_stateOk_1.impl x.1 x.2.1 x.2.2.1
noncomputable def impl : PI → Option PO := fun x => F0 L2 x.1
theorem F2_le {J2 J2' : P2 → Option PO} (h2 : OLe J2 J2') {Gimpl_stateOk_1 : impl_stateOk_1.PI → Option impl_stateOk_1.PO} (t0 : List Int) (t7 : Int) (t8 : Int) : OptLe (F2 J2 Gimpl_stateOk_1 t0 t7 t8) (F2 J2' Gimpl_stateOk_1 t0 t7 t8) := by unfold F2; exact .cond (.cond (.bind (.refl _) fun _ => .cond (.refl _) (.of h2 _)) (.refl _)) (.refl _)
theorem L2_mono : OMono fun J2 (x : P2) => F2 J2 impl_stateOk_1.impl x.1 x.2.1 x.2.2.1 := fun J J' h2 x => F2_le h2 x.1 x.2.1 x.2.2.1
theorem L2_eq (t0 : List Int) (t7 : Int) (t8 : Int) : L2 (t0, t7, t8, ()) = F2 (L2) impl_stateOk_1.impl t0 t7 t8 := congrFun (lfp_eq (L2_mono)) _
theorem impl_eq (x0 : List Int) : impl (x0, ()) = F0 L2 x0 := rfl
theorem con : Con Tryz.prog 154 2 rs.length 2 pin pout impl := by
  refine con_of_run' (nt := 19) (c := c0) tabGood Tryz.func154 (by kernel_rfl) (by kernel_rfl) (by kernel_rfl) (by kernel_rfl) (by kernel_rfl) (by kernel_rfl) (by kernel_rfl) ?_
  intro w0 O y hnp
  generalize hPost : (fun (a' : Act) (w' : World) => ∃ μ' S' st', Rel 19 w0 O μ' S' st' a' w' ∧ endOf (tabOf tab) rs 2 pout st' = some y) = Post
  have fin : ∀ (μ : Id → Option Value) (S : Nat → Prop) (st : St) (a : Act) (w : World), Rel 19 w0 O μ S st a w → endOf (tabOf tab) rs 2 pout st = some y → Post a w := fun μ S st a w h he => by rw [← hPost]; exact ⟨μ, S, st, h, he⟩
  have hp : ∀ (J2 : List Item → P2 → Option PO), Parts Tryz.prog 154 (pg impl_stateOk_1.impl J2) [(2, cut p2 J2)] := fun J2 => ⟨tab_ok tabGood rfl, (handAt_ok impl_stateOk_1.con handNil_ok), rfl⟩
  have g2 : Good Tryz.prog 19 w0 O Post y T2 p2 L2 := good_lfp fun J2 h2 => good_part (hp (atT T2 J2)) (runOK_of (hp (atT T2 J2)) hnp ⟨cutOK_at h2, trivial⟩ fin) (fun x => (seg2 impl_stateOk_1.impl (atT T2 J2) x.1 x.2.1 x.2.2.1).trans (by simp only [atT_self] <;> rfl))
  exact good_first (hp (atT T2 L2)) (runOK_of (hp (atT T2 L2)) hnp ⟨cutOK_at g2, trivial⟩ fin) (fun x => (seg0 impl_stateOk_1.impl (atT T2 L2) x.1).trans (by simp only [atT_self] <;> rfl))
end slices_IndexFunc_of

/-! ### slices.ContainsFunc[[]int,int] -/
namespace slices_ContainsFunc_of
noncomputable abbrev c0 : Code := (Tryz.f110.body).getD .skip
noncomputable abbrev pin : Tpl := ⟨[⟨0, false, [.d (.sl (.int .i64))]⟩, ⟨1, false, [.fn 111 []]⟩], []⟩
noncomputable abbrev pout : Tpl := ⟨[⟨0, false, [.d .bool]⟩, ⟨2, false, [.fn 111 []]⟩], []⟩
noncomputable abbrev PI := (List Int) × Unit
noncomputable abbrev PO := Bool × Unit
noncomputable abbrev rs : List ResultVar := [.tmp 4]
noncomputable def F0 (Gslices_IndexFunc_of : slices_IndexFunc_of.PI → Option slices_IndexFunc_of.PO) (x0 : List Int) : Option PO :=
  Option.bind (Gslices_IndexFunc_of (x0, ())) fun y0 =>
  some (decide (y0.1 ≥ 0), ())
noncomputable def hd {R : Type} (Gslices_IndexFunc_of : slices_IndexFunc_of.PI → Option slices_IndexFunc_of.PO) : Hand R := (handAt 154 [7] true ⟨2, 1, 2, slices_IndexFunc_of.pin, slices_IndexFunc_of.pout, Gslices_IndexFunc_of⟩ handNil)
noncomputable def pg (Gslices_IndexFunc_of : slices_IndexFunc_of.PI → Option slices_IndexFunc_of.PO) : Prog PO := { nt := 9, np := 2, tb := tabOf tab, hd := hd Gslices_IndexFunc_of, cuts := cutsOf [], fin := endOf (tabOf tab) rs 2 pout }
noncomputable def q : FuncId → Bool := fun f => hasId [] f
theorem seg0 (Gslices_IndexFunc_of : slices_IndexFunc_of.PI → Option slices_IndexFunc_of.PO) (x0 : List Int) : arun (pg Gslices_IndexFunc_of) 5000 [.code c0] (mk pin (x0, ())) = F0 Gslices_IndexFunc_of x0 := by kernel_rfl
noncomputable def impl : PI → Option PO := fun x => F0 slices_IndexFunc_of.impl x.1
theorem impl_eq (x0 : List Int) : impl (x0, ()) = F0 slices_IndexFunc_of.impl x0 := rfl
theorem con : Con Tryz.prog 110 2 rs.length 2 pin pout impl := by
  refine con_of_run' (nt := 9) (c := c0) tabGood Tryz.func110 (by kernel_rfl) (by kernel_rfl) (by kernel_rfl) (by kernel_rfl) (by kernel_rfl) (by kernel_rfl) (by kernel_rfl) ?_
  intro w0 O y hnp
  generalize hPost : (fun (a' : Act) (w' : World) => ∃ μ' S' st', Rel 9 w0 O μ' S' st' a' w' ∧ endOf (tabOf tab) rs 2 pout st' = some y) = Post
  have fin : ∀ (μ : Id → Option Value) (S : Nat → Prop) (st : St) (a : Act) (w : World), Rel 9 w0 O μ S st a w → endOf (tabOf tab) rs 2 pout st = some y → Post a w := fun μ S st a w h he => by rw [← hPost]; exact ⟨μ, S, st, h, he⟩
  have hp : Parts Tryz.prog 110 (pg slices_IndexFunc_of.impl) [] := ⟨tab_ok tabGood rfl, (handAt_ok slices_IndexFunc_of.con handNil_ok), rfl⟩
  exact good_first (hp) (runOK_of (hp) hnp trivial fin) (fun x => (seg0 slices_IndexFunc_of.impl x.1))
end slices_ContainsFunc_of

/-! ### loop.example/wholecheck/impl.stateOk -/
namespace impl_stateOk
noncomputable abbrev c0 : Code := (Tryz.f66.body).getD .skip
noncomputable abbrev pin : Tpl := ⟨[⟨0, false, [.d (.sl (.int .i64))]⟩], []⟩
noncomputable abbrev pout : Tpl := ⟨[⟨0, false, [.d .bool]⟩], []⟩
noncomputable abbrev PI := (List Int) × Unit
noncomputable abbrev PO := Bool × Unit
noncomputable abbrev rs : List ResultVar := [.tmp 2]
noncomputable def F0 (Gslices_ContainsFunc_of : slices_ContainsFunc_of.PI → Option slices_ContainsFunc_of.PO) (x0 : List Int) : Option PO :=
  bif decide ((x0.length : Int) ≤ 5) then
    Option.bind (Gslices_ContainsFunc_of (x0, ())) fun y0 =>
    some (!y0.1, ())
  else
    some (false, ())
noncomputable def hd {R : Type} (Gslices_ContainsFunc_of : slices_ContainsFunc_of.PI → Option slices_ContainsFunc_of.PO) : Hand R := (handAt 110 [8] true ⟨2, 1, 2, slices_ContainsFunc_of.pin, slices_ContainsFunc_of.pout, Gslices_ContainsFunc_of⟩ handNil)
noncomputable def pg (Gslices_ContainsFunc_of : slices_ContainsFunc_of.PI → Option slices_ContainsFunc_of.PO) : Prog PO := { nt := 11, np := 1, tb := tabOf tab, hd := hd Gslices_ContainsFunc_of, cuts := cutsOf [], fin := endOf (tabOf tab) rs 1 pout }
noncomputable def q : FuncId → Bool := fun f => hasId [] f
theorem seg0 (Gslices_ContainsFunc_of : slices_ContainsFunc_of.PI → Option slices_ContainsFunc_of.PO) (x0 : List Int) : arun (pg Gslices_ContainsFunc_of) 5000 [.code c0] (mk pin (x0, ())) = F0 Gslices_ContainsFunc_of x0 := by kernel_rfl
noncomputable def impl : PI → Option PO := fun x => F0 slices_ContainsFunc_of.impl x.1
theorem impl_eq (x0 : List Int) : impl (x0, ()) = F0 slices_ContainsFunc_of.impl x0 := rfl
theorem con : Con Tryz.prog 66 1 rs.length 1 pin pout impl := by
  refine con_of_run' (nt := 11) (c := c0) tabGood Tryz.func66 (by kernel_rfl) (by kernel_rfl) (by kernel_rfl) (by kernel_rfl) (by kernel_rfl) (by kernel_rfl) (by kernel_rfl) ?_
  intro w0 O y hnp
  generalize hPost : (fun (a' : Act) (w' : World) => ∃ μ' S' st', Rel 11 w0 O μ' S' st' a' w' ∧ endOf (tabOf tab) rs 1 pout st' = some y) = Post
  have fin : ∀ (μ : Id → Option Value) (S : Nat → Prop) (st : St) (a : Act) (w : World), Rel 11 w0 O μ S st a w → endOf (tabOf tab) rs 1 pout st = some y → Post a w := fun μ S st a w h he => by rw [← hPost]; exact ⟨μ, S, st, h, he⟩
  have hp : Parts Tryz.prog 66 (pg slices_ContainsFunc_of.impl) [] := ⟨tab_ok tabGood rfl, (handAt_ok slices_ContainsFunc_of.con handNil_ok), rfl⟩
  exact good_first (hp) (runOK_of (hp) hnp trivial fin) (fun x => (seg0 slices_ContainsFunc_of.impl x.1))
end impl_stateOk

/-! ### loop.example/wholecheck/impl.held -/
namespace impl_held
noncomputable abbrev c0 : Code := (Tryz.f155.body).getD .skip
noncomputable abbrev pin : Tpl := ⟨[⟨0, false, [.d (.int .i64)]⟩], []⟩
noncomputable abbrev pout : Tpl := ⟨[⟨0, false, [.d (.int .i64)]⟩], []⟩
noncomputable abbrev PI := Int × Unit
noncomputable abbrev PO := Int × Unit
noncomputable abbrev rs : List ResultVar := [.tmp 2]
noncomputable def F0 (x0 : Int) : Option PO :=
  some (bif decide (((-9999) : Int) < bif decide (x0 < 9999) then x0 else 9999) then bif decide (x0 < 9999) then x0 else 9999 else (-9999), ())
noncomputable def hd {R : Type} : Hand R := handNil
noncomputable def pg : Prog PO := { nt := 6, np := 1, tb := tabOf tab, hd := hd, cuts := cutsOf [], fin := endOf (tabOf tab) rs 1 pout }
noncomputable def q : FuncId → Bool := fun f => hasId [] f
theorem seg0 (x0 : Int) : arun (pg) 5000 [.code c0] (mk pin (x0, ())) = F0 x0 := by kernel_rfl
noncomputable def impl : PI → Option PO := fun x => F0 x.1
theorem impl_eq (x0 : Int) : impl (x0, ()) = F0 x0 := rfl
theorem con : Con Tryz.prog 155 1 rs.length 1 pin pout impl := by
  refine con_of_run' (nt := 6) (c := c0) tabGood Tryz.func155 (by kernel_rfl) (by kernel_rfl) (by kernel_rfl) (by kernel_rfl) (by kernel_rfl) (by kernel_rfl) (by kernel_rfl) ?_
  intro w0 O y hnp
  generalize hPost : (fun (a' : Act) (w' : World) => ∃ μ' S' st', Rel 6 w0 O μ' S' st' a' w' ∧ endOf (tabOf tab) rs 1 pout st' = some y) = Post
  have fin : ∀ (μ : Id → Option Value) (S : Nat → Prop) (st : St) (a : Act) (w : World), Rel 6 w0 O μ S st a w → endOf (tabOf tab) rs 1 pout st = some y → Post a w := fun μ S st a w h he => by rw [← hPost]; exact ⟨μ, S, st, h, he⟩
  have hp : Parts Tryz.prog 155 (pg) [] := ⟨tab_ok tabGood rfl, handNil_ok, rfl⟩
  exact good_first (hp) (runOK_of (hp) hnp trivial fin) (fun x => (seg0 x.1))
end impl_held

/-! ### loop.example/wholecheck/impl.bit -/
namespace impl_bit
noncomputable abbrev c0 : Code := (Tryz.f156.body).getD .skip
noncomputable abbrev pin : Tpl := ⟨[⟨0, false, [.d .bool]⟩], []⟩
noncomputable abbrev pout : Tpl := ⟨[⟨0, false, [.d (.int .i64)]⟩], []⟩
noncomputable abbrev PI := Bool × Unit
noncomputable abbrev PO := Int × Unit
noncomputable abbrev rs : List ResultVar := [.tmp 2]
noncomputable def F0 (x0 : Bool) : Option PO :=
  bif x0 then
    some (1, ())
  else
    some (0, ())
noncomputable def hd {R : Type} : Hand R := handNil
noncomputable def pg : Prog PO := { nt := 4, np := 1, tb := tabOf tab, hd := hd, cuts := cutsOf [], fin := endOf (tabOf tab) rs 1 pout }
noncomputable def q : FuncId → Bool := fun f => hasId [] f
theorem seg0 (x0 : Bool) : arun (pg) 5000 [.code c0] (mk pin (x0, ())) = F0 x0 := by kernel_rfl
noncomputable def impl : PI → Option PO := fun x => F0 x.1
theorem impl_eq (x0 : Bool) : impl (x0, ()) = F0 x0 := rfl
theorem con : Con Tryz.prog 156 1 rs.length 1 pin pout impl := by
  refine con_of_run' (nt := 4) (c := c0) tabGood Tryz.func156 (by kernel_rfl) (by kernel_rfl) (by kernel_rfl) (by kernel_rfl) (by kernel_rfl) (by kernel_rfl) (by kernel_rfl) ?_
  intro w0 O y hnp
  generalize hPost : (fun (a' : Act) (w' : World) => ∃ μ' S' st', Rel 4 w0 O μ' S' st' a' w' ∧ endOf (tabOf tab) rs 1 pout st' = some y) = Post
  have fin : ∀ (μ : Id → Option Value) (S : Nat → Prop) (st : St) (a : Act) (w : World), Rel 4 w0 O μ S st a w → endOf (tabOf tab) rs 1 pout st = some y → Post a w := fun μ S st a w h he => by rw [← hPost]; exact ⟨μ, S, st, h, he⟩
  have hp : Parts Tryz.prog 156 (pg) [] := ⟨tab_ok tabGood rfl, handNil_ok, rfl⟩
  exact good_first (hp) (runOK_of (hp) hnp trivial fin) (fun x => (seg0 x.1))
end impl_bit

/-! ### loop.example/wholecheck/impl.do -/
namespace impl_do
noncomputable abbrev c0 : Code := (Tryz.f112.body).getD .skip
noncomputable abbrev pin : Tpl := ⟨[⟨0, false, [.d (.int .i64)]⟩, ⟨1, false, [.d (.int .i64)]⟩, ⟨2, false, [.d (.int .i64)]⟩], []⟩
noncomputable abbrev pout : Tpl := ⟨[⟨0, false, [.d (.int .i64)]⟩], []⟩
noncomputable abbrev PI := Int × Int × Int × Unit
noncomputable abbrev PO := Int × Unit
noncomputable abbrev rs : List ResultVar := [.tmp 6]
noncomputable def F0 (Gimpl_bit : impl_bit.PI → Option impl_bit.PO) (Gimpl_held : impl_held.PI → Option impl_held.PO) (x0 : Int) (x1 : Int) (x2 : Int) : Option PO :=
  bif x0 == 2 then
    Option.bind (Gimpl_held (wI (x1 + x2), ())) fun y0 =>
    some (y0.1, ())
  else
    bif x0 == 3 then
      Option.bind (Gimpl_held (wI (x1 - x2), ())) fun y1 =>
      some (y1.1, ())
    else
      bif x0 == 4 then
        Option.bind (Gimpl_held (wI (x1 * x2), ())) fun y2 =>
        some (y2.1, ())
      else
        bif x0 == 5 then
          Option.bind (Gimpl_bit (decide (x1 < x2), ())) fun y3 =>
          some (y3.1, ())
        else
          bif x0 == 6 then
            Option.bind (Gimpl_bit (x1 == x2, ())) fun y4 =>
            some (y4.1, ())
          else
            bif x0 == 7 then
              some (wI (1 - x1), ())
            else
              bif x0 == 8 then
                some (bif decide (x2 < x1) then x2 else x1, ())
              else
                some (bif decide (x1 < x2) then x2 else x1, ())
noncomputable def hd {R : Type} (Gimpl_bit : impl_bit.PI → Option impl_bit.PO) (Gimpl_held : impl_held.PI → Option impl_held.PO) : Hand R := (handAt 156 [31, 37] true ⟨1, 1, 1, impl_bit.pin, impl_bit.pout, Gimpl_bit⟩ (handAt 155 [13, 19, 25] true ⟨1, 1, 1, impl_held.pin, impl_held.pout, Gimpl_held⟩ handNil))
noncomputable def pg (Gimpl_bit : impl_bit.PI → Option impl_bit.PO) (Gimpl_held : impl_held.PI → Option impl_held.PO) : Prog PO := { nt := 50, np := 3, tb := tabOf tab, hd := hd Gimpl_bit Gimpl_held, cuts := cutsOf [], fin := endOf (tabOf tab) rs 3 pout }
noncomputable def q : FuncId → Bool := fun f => hasId [155, 156] f
theorem seg0 (Gimpl_bit : impl_bit.PI → Option impl_bit.PO) (Gimpl_held : impl_held.PI → Option impl_held.PO) (x0 : Int) (x1 : Int) (x2 : Int) : arun (pg Gimpl_bit Gimpl_held) 5000 [.code c0] (mk pin (x0, x1, x2, ())) = F0 Gimpl_bit Gimpl_held x0 x1 x2 := by kernel_rfl
noncomputable def impl : PI → Option PO := fun x => F0 impl_bit.impl impl_held.impl x.1 x.2.1 x.2.2.1
theorem impl_eq (x0 : Int) (x1 : Int) (x2 : Int) : impl (x0, x1, x2, ()) = F0 impl_bit.impl impl_held.impl x0 x1 x2 := rfl
theorem con : Con Tryz.prog 112 3 rs.length 3 pin pout impl := by
  refine con_of_run' (nt := 50) (c := c0) tabGood Tryz.func112 (by kernel_rfl) (by kernel_rfl) (by kernel_rfl) (by kernel_rfl) (by kernel_rfl) (by kernel_rfl) (by kernel_rfl) ?_
  intro w0 O y hnp
  generalize hPost : (fun (a' : Act) (w' : World) => ∃ μ' S' st', Rel 50 w0 O μ' S' st' a' w' ∧ endOf (tabOf tab) rs 3 pout st' = some y) = Post
  have fin : ∀ (μ : Id → Option Value) (S : Nat → Prop) (st : St) (a : Act) (w : World), Rel 50 w0 O μ S st a w → endOf (tabOf tab) rs 3 pout st = some y → Post a w := fun μ S st a w h he => by rw [← hPost]; exact ⟨μ, S, st, h, he⟩
  have hp : Parts Tryz.prog 112 (pg impl_bit.impl impl_held.impl) [] := ⟨tab_ok tabGood rfl, (handAt_ok impl_bit.con (handAt_ok impl_held.con handNil_ok)), rfl⟩
  exact good_first (hp) (runOK_of (hp) hnp trivial fin) (fun x => (seg0 impl_bit.impl impl_held.impl x.1 x.2.1 x.2.2.1))
end impl_do

/-! ### loop.example/wholecheck/impl.eval -/
namespace impl_eval
noncomputable abbrev c0 : Code := (Tryz.f67.body).getD .skip
noncomputable abbrev pin : Tpl := ⟨[⟨0, false, [.d (.sl (.prod (.int .i64) (.prod (.int .i64) (.prod (.int .i64) (.last (.int .i64))))))]⟩, ⟨1, false, [.d (.sl (.int .i64))]⟩], []⟩
noncomputable abbrev pout : Tpl := ⟨[⟨0, false, [.d (.int .i64)]⟩], []⟩
noncomputable abbrev p3 : Tpl := ⟨[⟨1, false, [.d (.sl (.int .i64))]⟩, ⟨5, false, [.row 3000000]⟩, ⟨11, false, [.d (.sl (.prod (.int .i64) (.prod (.int .i64) (.prod (.int .i64) (.last (.int .i64))))))]⟩, ⟨12, false, [.d (.int .i64)]⟩, ⟨13, false, [.d (.int .i64)]⟩], [(3000000, .row 3 false (.int .i64))]⟩
noncomputable def T3 : List Item := (find 3 c0 []).getD []
noncomputable abbrev p6 : Tpl := ⟨[⟨1, false, [.d (.sl (.int .i64))]⟩, ⟨5, false, [.row 3000000]⟩, ⟨6, false, [.d (.int .i64)]⟩, ⟨7, false, [.ptr 3000001 0]⟩, ⟨11, false, [.d (.sl (.prod (.int .i64) (.prod (.int .i64) (.prod (.int .i64) (.last (.int .i64))))))]⟩, ⟨12, false, [.d (.int .i64)]⟩, ⟨13, false, [.d (.int .i64)]⟩], [(3000000, .row 3 false (.int .i64)), (3000001, .box [.d (.int .i64), .d (.int .i64), .d (.int .i64), .d (.int .i64)])]⟩
noncomputable def T6 : List Item := (find 6 c0 []).getD []
noncomputable abbrev PI := (List (Int × Int × Int × Int)) × (List Int) × Unit
noncomputable abbrev PO := Int × Unit
noncomputable abbrev P3 := (List Int) × (List (Int × Int × Int × Int)) × Int × Int × (List Int) × Unit
noncomputable abbrev P6 := (List Int) × Int × (List (Int × Int × Int × Int)) × Int × Int × (List Int) × Int × Int × Int × Int × Unit
noncomputable abbrev rs : List ResultVar := [.tmp 4]
noncomputable def F0 (J3 : P3 → Option PO) (x0 : List (Int × Int × Int × Int)) (x1 : List Int) : Option PO :=
  bif decide (0 ≤ (x0.length : Int)) && decide ((x0.length : Int) ≤ (x0.length : Int)) && decide ((x0.length : Int) * 8 ≤ 140737488355328) then
    J3 (x1, x0, (x0.length : Int), 0, (List.replicate (x0.length : Int).toNat 0 : List Int), ())
  else
    none
noncomputable def F3 (J3 : P3 → Option PO) (J6 : P6 → Option PO) (t1 : List Int) (t11 : List (Int × Int × Int × Int)) (t12 : Int) (t13 : Int) (r0 : List Int) : Option PO :=
  bif decide (t13 < t12) then
    bif inb t13 t11.length then
      bif (t11.getD t13.toNat (0, 0, 0, 0)).1 == 0 then
        bif inb t13 r0.length then
          J3 (t1, t11, t12, wI (t13 + 1), r0.set t13.toNat (t11.getD t13.toNat (0, 0, 0, 0)).2.1, ())
        else
          none
      else
        bif (t11.getD t13.toNat (0, 0, 0, 0)).1 == 1 then
          bif inb (t11.getD t13.toNat (0, 0, 0, 0)).2.1 t1.length then
            bif inb t13 r0.length then
              J3 (t1, t11, t12, wI (t13 + 1), r0.set t13.toNat (t1.getD (t11.getD t13.toNat (0, 0, 0, 0)).2.1.toNat 0), ())
            else
              none
          else
            none
        else
          J6 (t1, t13, t11, t12, t13, r0, (t11.getD t13.toNat (0, 0, 0, 0)).1, (t11.getD t13.toNat (0, 0, 0, 0)).2.1, (t11.getD t13.toNat (0, 0, 0, 0)).2.2.1, (t11.getD t13.toNat (0, 0, 0, 0)).2.2.2, ())
    else
      none
  else
    bif inb (wI ((r0.length : Int) - 1)) r0.length then
      some (r0.getD (wI ((r0.length : Int) - 1)).toNat 0, ())
    else
      none
noncomputable def F6 (J3 : P3 → Option PO) (Gimpl_do : impl_do.PI → Option impl_do.PO) (t1 : List Int) (t6 : Int) (t11 : List (Int × Int × Int × Int)) (t12 : Int) (t13 : Int) (r0 : List Int) (b1_0 : Int) (b1_1 : Int) (b1_2 : Int) (b1_3 : Int) : Option PO :=
  bif inb b1_2 r0.length then
    bif inb b1_3 r0.length then
      Option.bind (Gimpl_do (b1_0, r0.getD b1_2.toNat 0, r0.getD b1_3.toNat 0, ())) fun y0 =>
      bif inb t6 r0.length then
        J3 (t1, t11, t12, wI (t13 + 1), r0.set t6.toNat y0.1, ())
      else
        none
    else
      none
  else
    none
noncomputable def hd {R : Type} (Gimpl_do : impl_do.PI → Option impl_do.PO) : Hand R := (handAt 112 [34] true ⟨3, 1, 3, impl_do.pin, impl_do.pout, Gimpl_do⟩ handNil)
noncomputable def pg (Gimpl_do : impl_do.PI → Option impl_do.PO) (J3 : List Item → P3 → Option PO) (J6 : List Item → P6 → Option PO) : Prog PO := { nt := 60, np := 2, tb := tabOf tab, hd := hd Gimpl_do, cuts := cutsOf [(3, cut p3 J3), (6, cut p6 J6)], fin := endOf (tabOf tab) rs 2 pout }
noncomputable def q : FuncId → Bool := fun f => hasId [112] f
theorem seg0 (Gimpl_do : impl_do.PI → Option impl_do.PO) (J3 : List Item → P3 → Option PO) (J6 : List Item → P6 → Option PO) (x0 : List (Int × Int × Int × Int)) (x1 : List Int) : arun (pg Gimpl_do J3 J6) 5000 [.code c0] (mk pin (x0, x1, ())) = F0 (J3 T3) x0 x1 := by kernel_rfl
theorem seg3 (Gimpl_do : impl_do.PI → Option impl_do.PO) (J3 : List Item → P3 → Option PO) (J6 : List Item → P6 → Option PO) (t1 : List Int) (t11 : List (Int × Int × Int × Int)) (t12 : Int) (t13 : Int) (r0 : List Int) : arun1 (pg Gimpl_do J3 J6) 5000 T3 (mk p3 (t1, t11, t12, t13, r0, ())) = F3 (J3 T3) (J6 T6) t1 t11 t12 t13 r0 := by kernel_rfl
theorem seg6 (Gimpl_do : impl_do.PI → Option impl_do.PO) (J3 : List Item → P3 → Option PO) (J6 : List Item → P6 → Option PO) (t1 : List Int) (t6 : Int) (t11 : List (Int × Int × Int × Int)) (t12 : Int) (t13 : Int) (r0 : List Int) (b1_0 : Int) (b1_1 : Int) (b1_2 : Int) (b1_3 : Int) : arunQ (pg Gimpl_do J3 J6) q [3000000] [8, 13] 5000 T6 (mk p6 (t1, t6, t11, t12, t13, r0, b1_0, b1_1, b1_2, b1_3, ())) = List.replicate (arunQ (pg Gimpl_do J3 J6) q [3000000] [8, 13] 5000 T6 (mk p6 (t1, t6, t11, t12, t13, r0, b1_0, b1_1, b1_2, b1_3, ()))).length (F6 (J3 T3) Gimpl_do t1 t6 t11 t12 t13 r0 b1_0 b1_1 b1_2 b1_3) := by kernel_rfl
noncomputable def L6 (J3 : P3 → Option PO) : P6 → Option PO := fun x => F6 J3 impl_do.impl x.1 x.2.1 x.2.2.1 x.2.2.2.1 x.2.2.2.2.1 x.2.2.2.2.2.1 x.2.2.2.2.2.2.1 x.2.2.2.2.2.2.2.1 x.2.2.2.2.2.2.2.2.1 x.2.2.2.2.2.2.2.2.2.1
noncomputable def L3 : P3 → Option PO := lfp fun J3 x => F3 J3 (L6 J3) x.1 x.2.1 x.2.2.1 x.2.2.2.1 x.2.2.2.2.1
noncomputable def impl : PI → Option PO := fun x => F0 L3 x.1 x.2.1
theorem F6_le {J3 J3' : P3 → Option PO} (h3 : OLe J3 J3') {Gimpl_do : impl_do.PI → Option impl_do.PO} (t1 : List Int) (t6 : Int) (t11 : List (Int × Int × Int × Int)) (t12 : Int) (t13 : Int) (r0 : List Int) (b1_0 : Int) (b1_1 : Int) (b1_2 : Int) (b1_3 : Int) : OptLe (F6 J3 Gimpl_do t1 t6 t11 t12 t13 r0 b1_0 b1_1 b1_2 b1_3) (F6 J3' Gimpl_do t1 t6 t11 t12 t13 r0 b1_0 b1_1 b1_2 b1_3) := by unfold F6; exact .cond (.cond (.bind (.refl _) fun _ => .cond (.of h3 _) (.refl _)) (.refl _)) (.refl _)
theorem F3_le {J3 J3' : P3 → Option PO} (h3 : OLe J3 J3') {J6 J6' : P6 → Option PO} (h6 : OLe J6 J6') (t1 : List Int) (t11 : List (Int × Int × Int × Int)) (t12 : Int) (t13 : Int) (r0 : List Int) : OptLe (F3 J3 J6 t1 t11 t12 t13 r0) (F3 J3' J6' t1 t11 t12 t13 r0) := by unfold F3; exact .cond (.cond (.cond (.cond (.of h3 _) (.refl _)) (.cond (.cond (.cond (.of h3 _) (.refl _)) (.refl _)) (.of h6 _))) (.refl _)) (.refl _)
theorem L6_eq (J3 : P3 → Option PO) (t1 : List Int) (t6 : Int) (t11 : List (Int × Int × Int × Int)) (t12 : Int) (t13 : Int) (r0 : List Int) (b1_0 : Int) (b1_1 : Int) (b1_2 : Int) (b1_3 : Int) : L6 J3 (t1, t6, t11, t12, t13, r0, b1_0, b1_1, b1_2, b1_3, ()) = F6 J3 impl_do.impl t1 t6 t11 t12 t13 r0 b1_0 b1_1 b1_2 b1_3 := rfl
theorem L6_le {J3 J3' : P3 → Option PO} (h3 : OLe J3 J3') : OLe (L6 J3) (L6 J3') := fun x => F6_le h3 x.1 x.2.1 x.2.2.1 x.2.2.2.1 x.2.2.2.2.1 x.2.2.2.2.2.1 x.2.2.2.2.2.2.1 x.2.2.2.2.2.2.2.1 x.2.2.2.2.2.2.2.2.1 x.2.2.2.2.2.2.2.2.2.1
theorem L3_mono : OMono fun J3 (x : P3) => F3 J3 (L6 J3) x.1 x.2.1 x.2.2.1 x.2.2.2.1 x.2.2.2.2.1 := fun J J' h3 x => F3_le h3 (L6_le h3) x.1 x.2.1 x.2.2.1 x.2.2.2.1 x.2.2.2.2.1
theorem L3_eq (t1 : List Int) (t11 : List (Int × Int × Int × Int)) (t12 : Int) (t13 : Int) (r0 : List Int) : L3 (t1, t11, t12, t13, r0, ()) = F3 (L3) (L6 (L3)) t1 t11 t12 t13 r0 := congrFun (lfp_eq (L3_mono)) _
theorem impl_eq (x0 : List (Int × Int × Int × Int)) (x1 : List Int) : impl (x0, x1, ()) = F0 L3 x0 x1 := rfl
theorem con : Con Tryz.prog 67 2 rs.length 2 pin pout impl := by
  refine con_of_run' (nt := 60) (c := c0) tabGood Tryz.func67 (by kernel_rfl) (by kernel_rfl) (by kernel_rfl) (by kernel_rfl) (by kernel_rfl) (by kernel_rfl) (by kernel_rfl) ?_
  intro w0 O y hnp
  generalize hPost : (fun (a' : Act) (w' : World) => ∃ μ' S' st', Rel 60 w0 O μ' S' st' a' w' ∧ endOf (tabOf tab) rs 2 pout st' = some y) = Post
  have fin : ∀ (μ : Id → Option Value) (S : Nat → Prop) (st : St) (a : Act) (w : World), Rel 60 w0 O μ S st a w → endOf (tabOf tab) rs 2 pout st = some y → Post a w := fun μ S st a w h he => by rw [← hPost]; exact ⟨μ, S, st, h, he⟩
  have hp : ∀ (J3 : List Item → P3 → Option PO), ∀ (J6 : List Item → P6 → Option PO), Parts Tryz.prog 67 (pg impl_do.impl J3 J6) [(3, cut p3 J3), (6, cut p6 J6)] := fun J3 J6 => ⟨tab_ok tabGood rfl, (handAt_ok impl_do.con handNil_ok), rfl⟩
  have g6 : ∀ (J3 : P3 → Option PO), Good Tryz.prog 60 w0 O Post y T3 p3 J3 → Good Tryz.prog 60 w0 O Post y T6 p6 (L6 J3) := fun J3 h3 => good_quiet (hs := hd impl_do.impl) (cv' := hd impl_do.impl) (Checked.mixed Tryz.checked) (hp (atT T3 J3) (atT T6 (fun _ => none))) (handAt_D impl_do.con (by rfl) rfl handNil_D) (handAt_nat handNil_nat) (handAt_nat handNil_nat) (runOK_of (hp (atT T3 J3) (atT T6 (fun _ => none))) hnp ⟨cutOK_at h3, cutOK_at (p := p6) (T := T6) (J := fun _ => none) good_none, trivial⟩ fin) (fun x => all_same ⟨_, (seg6 impl_do.impl (atT T3 J3) (atT T6 (fun _ => none)) x.1 x.2.1 x.2.2.1 x.2.2.2.1 x.2.2.2.2.1 x.2.2.2.2.2.1 x.2.2.2.2.2.2.1 x.2.2.2.2.2.2.2.1 x.2.2.2.2.2.2.2.2.1 x.2.2.2.2.2.2.2.2.2.1).trans (by simp only [atT_self] <;> rfl)⟩)
  have g3 : Good Tryz.prog 60 w0 O Post y T3 p3 L3 := good_lfp fun J3 h3 => good_part (hp (atT T3 J3) (atT T6 (L6 J3))) (runOK_of (hp (atT T3 J3) (atT T6 (L6 J3))) hnp ⟨cutOK_at h3, cutOK_at (g6 J3 h3), trivial⟩ fin) (fun x => (seg3 impl_do.impl (atT T3 J3) (atT T6 (L6 J3)) x.1 x.2.1 x.2.2.1 x.2.2.2.1 x.2.2.2.2.1).trans (by simp only [atT_self] <;> rfl))
  exact good_first (hp (atT T3 L3) (atT T6 (fun _ => none))) (runOK_of (hp (atT T3 L3) (atT T6 (fun _ => none))) hnp ⟨cutOK_at g3, cutOK_at (p := p6) (T := T6) (J := fun _ => none) good_none, trivial⟩ fin) (fun x => (seg0 impl_do.impl (atT T3 L3) (atT T6 (fun _ => none)) x.1 x.2.1).trans (by simp only [atT_self] <;> rfl))
end impl_eval

/-! ### loop.example/wholecheck/impl.Eval -/
namespace impl_Eval
noncomputable abbrev c0 : Code := (Tryz.f20.body).getD .skip
noncomputable abbrev pin : Tpl := ⟨[⟨0, false, [.d (.sl (.prod (.int .i64) (.prod (.int .i64) (.prod (.int .i64) (.last (.int .i64))))))]⟩, ⟨1, false, [.d (.sl (.int .i64))]⟩], []⟩
noncomputable abbrev pout : Tpl := ⟨[⟨0, false, [.d (.int .i64)]⟩, ⟨1, false, [.d .bool]⟩], []⟩
noncomputable abbrev PI := (List (Int × Int × Int × Int)) × (List Int) × Unit
noncomputable abbrev PO := Int × Bool × Unit
noncomputable abbrev rs : List ResultVar := [.tmp 4, .tmp 5]
noncomputable def F0 (Gimpl_TermsValid : impl_TermsValid.PI → Option impl_TermsValid.PO) (Gimpl_eval : impl_eval.PI → Option impl_eval.PO) (Gimpl_stateOk : impl_stateOk.PI → Option impl_stateOk.PO) (x0 : List (Int × Int × Int × Int)) (x1 : List Int) : Option PO :=
  Option.bind (Gimpl_stateOk (x1, ())) fun y0 =>
  bif !y0.1 then
    some (0, false, ())
  else
    Option.bind (Gimpl_TermsValid (x0, (x1.length : Int), ())) fun y1 =>
    bif !y1.1 then
      some (0, false, ())
    else
      Option.bind (Gimpl_eval (x0, x1, ())) fun y2 =>
      some (y2.1, true, ())
noncomputable def hd {R : Type} (Gimpl_TermsValid : impl_TermsValid.PI → Option impl_TermsValid.PO) (Gimpl_eval : impl_eval.PI → Option impl_eval.PO) (Gimpl_stateOk : impl_stateOk.PI → Option impl_stateOk.PO) : Hand R := (handAt 67 [18] true ⟨2, 1, 2, impl_eval.pin, impl_eval.pout, Gimpl_eval⟩ (handAt 66 [7] true ⟨1, 1, 1, impl_stateOk.pin, impl_stateOk.pout, Gimpl_stateOk⟩ (handAt 23 [13] true ⟨2, 1, 2, impl_TermsValid.pin, impl_TermsValid.pout, Gimpl_TermsValid⟩ handNil)))
noncomputable def pg (Gimpl_TermsValid : impl_TermsValid.PI → Option impl_TermsValid.PO) (Gimpl_eval : impl_eval.PI → Option impl_eval.PO) (Gimpl_stateOk : impl_stateOk.PI → Option impl_stateOk.PO) : Prog PO := { nt := 19, np := 2, tb := tabOf tab, hd := hd Gimpl_TermsValid Gimpl_eval Gimpl_stateOk, cuts := cutsOf [], fin := endOf (tabOf tab) rs 2 pout }
noncomputable def q : FuncId → Bool := fun f => hasId [23, 66, 67] f
theorem seg0 (Gimpl_TermsValid : impl_TermsValid.PI → Option impl_TermsValid.PO) (Gimpl_eval : impl_eval.PI → Option impl_eval.PO) (Gimpl_stateOk : impl_stateOk.PI → Option impl_stateOk.PO) (x0 : List (Int × Int × Int × Int)) (x1 : List Int) : arun (pg Gimpl_TermsValid Gimpl_eval Gimpl_stateOk) 5000 [.code c0] (mk pin (x0, x1, ())) = F0 Gimpl_TermsValid Gimpl_eval Gimpl_stateOk x0 x1 := by kernel_rfl
noncomputable def impl : PI → Option PO := fun x => F0 impl_TermsValid.impl impl_eval.impl impl_stateOk.impl x.1 x.2.1
theorem impl_eq (x0 : List (Int × Int × Int × Int)) (x1 : List Int) : impl (x0, x1, ()) = F0 impl_TermsValid.impl impl_eval.impl impl_stateOk.impl x0 x1 := rfl
theorem con : Con Tryz.prog 20 2 rs.length 2 pin pout impl := by
  refine con_of_run' (nt := 19) (c := c0) tabGood Tryz.func20 (by kernel_rfl) (by kernel_rfl) (by kernel_rfl) (by kernel_rfl) (by kernel_rfl) (by kernel_rfl) (by kernel_rfl) ?_
  intro w0 O y hnp
  generalize hPost : (fun (a' : Act) (w' : World) => ∃ μ' S' st', Rel 19 w0 O μ' S' st' a' w' ∧ endOf (tabOf tab) rs 2 pout st' = some y) = Post
  have fin : ∀ (μ : Id → Option Value) (S : Nat → Prop) (st : St) (a : Act) (w : World), Rel 19 w0 O μ S st a w → endOf (tabOf tab) rs 2 pout st = some y → Post a w := fun μ S st a w h he => by rw [← hPost]; exact ⟨μ, S, st, h, he⟩
  have hp : Parts Tryz.prog 20 (pg impl_TermsValid.impl impl_eval.impl impl_stateOk.impl) [] := ⟨tab_ok tabGood rfl, (handAt_ok impl_eval.con (handAt_ok impl_stateOk.con (handAt_ok impl_TermsValid.con handNil_ok))), rfl⟩
  exact good_first (hp) (runOK_of (hp) hnp trivial fin) (fun x => (seg0 impl_TermsValid.impl impl_eval.impl impl_stateOk.impl x.1 x.2.1))
end impl_Eval

/-! ### loop.example/wholecheck/laws.FnExprBack -/
namespace laws_FnExprBack
noncomputable abbrev c0 : Code := (Tryz.f4.body).getD .skip
noncomputable abbrev pin : Tpl := ⟨[⟨0, false, [.d (.sl (.int .u8))]⟩], []⟩
noncomputable abbrev pout : Tpl := ⟨[⟨0, false, [.d .bool]⟩], []⟩
noncomputable abbrev p7 : Tpl := ⟨[⟨3, false, [.row 3000000]⟩, ⟨4, false, [.row 3000001]⟩, ⟨5, false, [.d .str]⟩], [(3000000, .row 9 false .str), (3000001, .row 52 false (.prod (.int .i64) (.prod (.int .i64) (.prod (.int .i64) (.last (.int .i64))))))]⟩
noncomputable def T7 : List Item := (find 7 c0 []).getD []
noncomputable abbrev p13 : Tpl := ⟨[⟨3, false, [.row 3000000]⟩, ⟨4, false, [.row 3000001]⟩, ⟨5, false, [.d .str]⟩, ⟨6, false, [.row 3000002]⟩, ⟨8, false, [.row 3000003]⟩], [(3000000, .row 9 false .str), (3000001, .row 52 false (.prod (.int .i64) (.prod (.int .i64) (.prod (.int .i64) (.last (.int .i64)))))), (3000002, .row 52 false (.prod (.int .i64) (.prod (.int .i64) (.prod (.int .i64) (.last (.int .i64)))))), (3000003, .row 52 false (.prod (.int .i64) (.prod (.int .i64) (.prod (.int .i64) (.last (.int .i64))))))]⟩
noncomputable def T13 : List Item := (find 13 c0 []).getD []
noncomputable abbrev p14 : Tpl := ⟨[⟨3, false, [.row 3000000]⟩, ⟨4, false, [.row 3000001]⟩, ⟨5, false, [.d .str]⟩, ⟨6, false, [.row 3000002]⟩, ⟨8, false, [.row 3000003]⟩, ⟨60, false, [.d (.int .i64)]⟩, ⟨61, false, [.d (.int .i64)]⟩], [(3000000, .row 9 false .str), (3000001, .row 52 false (.prod (.int .i64) (.prod (.int .i64) (.prod (.int .i64) (.last (.int .i64)))))), (3000002, .row 52 false (.prod (.int .i64) (.prod (.int .i64) (.prod (.int .i64) (.last (.int .i64)))))), (3000003, .row 52 false (.prod (.int .i64) (.prod (.int .i64) (.prod (.int .i64) (.last (.int .i64))))))]⟩
noncomputable def T14 : List Item := (find 14 c0 []).getD []
noncomputable abbrev p16 : Tpl := ⟨[⟨3, false, [.row 3000000]⟩, ⟨4, false, [.row 3000001]⟩, ⟨5, false, [.d .str]⟩, ⟨6, false, [.row 3000002]⟩, ⟨8, false, [.row 3000003]⟩, ⟨9, false, [.d (.int .i64)]⟩, ⟨60, false, [.d (.int .i64)]⟩, ⟨61, false, [.d (.int .i64)]⟩], [(3000000, .row 9 false .str), (3000001, .row 52 false (.prod (.int .i64) (.prod (.int .i64) (.prod (.int .i64) (.last (.int .i64)))))), (3000002, .row 52 false (.prod (.int .i64) (.prod (.int .i64) (.prod (.int .i64) (.last (.int .i64)))))), (3000003, .row 52 false (.prod (.int .i64) (.prod (.int .i64) (.prod (.int .i64) (.last (.int .i64))))))]⟩
noncomputable def T16 : List Item := (find 16 c0 []).getD []
noncomputable abbrev PI := (List Int) × Unit
noncomputable abbrev PO := Bool × Unit
noncomputable abbrev P7 := (List UInt8) × (List (List UInt8)) × (List (Int × Int × Int × Int)) × Unit
noncomputable abbrev P13 := (List UInt8) × (List (List UInt8)) × (List (Int × Int × Int × Int)) × (List (Int × Int × Int × Int)) × (List (Int × Int × Int × Int)) × Unit
noncomputable abbrev P14 := (List UInt8) × Int × Int × (List (List UInt8)) × (List (Int × Int × Int × Int)) × (List (Int × Int × Int × Int)) × (List (Int × Int × Int × Int)) × Unit
noncomputable abbrev P16 := (List UInt8) × Int × Int × Int × (List (List UInt8)) × (List (Int × Int × Int × Int)) × (List (Int × Int × Int × Int)) × (List (Int × Int × Int × Int)) × Unit
noncomputable abbrev rs : List ResultVar := [.tmp 2]
noncomputable def F0 (J7 : P7 → Option PO) (Gimpl_NamesValid : impl_NamesValid.PI → Option impl_NamesValid.PO) (Gimpl_WriteExpr : impl_WriteExpr.PI → Option impl_WriteExpr.PO) (Gspec_DrawWriteExpr : spec_DrawWriteExpr.PI → Option spec_DrawWriteExpr.PO) (Gspec_NamesValid : spec_NamesValid.PI → Option spec_NamesValid.PO) (Gspec_WriteExpr : spec_WriteExpr.PI → Option spec_WriteExpr.PO) (x0 : List Int) : Option PO :=
  bif decide ((x0.length : Int) > 1048576) then
    some (true, ())
  else
    Option.bind (Gspec_DrawWriteExpr (x0, ())) fun y0 =>
    Option.bind (Gimpl_WriteExpr (y0.1, y0.2.1, ())) fun y1 =>
    Option.bind (Gspec_WriteExpr (y0.1, y0.2.1, ())) fun y2 =>
    bif !(y1.1 == y2.1) then
      some (false, ())
    else
      Option.bind (Gimpl_NamesValid (y0.1, ())) fun y3 =>
      Option.bind (Gspec_NamesValid (y0.1, ())) fun y4 =>
      bif !(y3.1 == y4.1) then
        some (false, ())
      else
        J7 (y1.1, y0.1, y0.2.1, ())
noncomputable def F7 (J13 : P13 → Option PO) (Gimpl_ReadExpr : impl_ReadExpr.PI → Option impl_ReadExpr.PO) (Gimpl_Trimmed : impl_Trimmed.PI → Option impl_Trimmed.PO) (t5 : List UInt8) (r0 : List (List UInt8)) (r1 : List (Int × Int × Int × Int)) : Option PO :=
  bif t5 == [] then
    some (true, ())
  else
    Option.bind (Gimpl_ReadExpr (r0, t5, ())) fun y5 =>
    Option.bind (Gimpl_Trimmed (r1, (r0.length : Int), ())) fun y6 =>
    bif !y5.1 then
      some (false, ())
    else
      bif (y5.2.1.length : Int) != (y6.1.length : Int) then
        some (false, ())
      else
        J13 (t5, r0, r1, y5.2.1, y6.1, ())
noncomputable def F13 (J14 : P14 → Option PO) (t5 : List UInt8) (r0 : List (List UInt8)) (r1 : List (Int × Int × Int × Int)) (r2 : List (Int × Int × Int × Int)) (r3 : List (Int × Int × Int × Int)) : Option PO :=
  J14 (t5, (r2.length : Int), 0, r0, r1, r2, r3, ())
noncomputable def F14 (J16 : P16 → Option PO) (Gimpl_Eval : impl_Eval.PI → Option impl_Eval.PO) (Gimpl_WriteExpr : impl_WriteExpr.PI → Option impl_WriteExpr.PO) (t5 : List UInt8) (t60 : Int) (t61 : Int) (r0 : List (List UInt8)) (r1 : List (Int × Int × Int × Int)) (r2 : List (Int × Int × Int × Int)) (r3 : List (Int × Int × Int × Int)) : Option PO :=
  bif decide (t61 < t60) then
    J16 (t5, t61, t60, t61, r0, r1, r2, r3, ())
  else
    bif decide (0 ≤ (r0.length : Int)) && decide ((r0.length : Int) ≤ (([3, (-1), 2, 0, 1] : List Int).length : Int)) then
      Option.bind (Gimpl_Eval (r1, (([3, (-1), 2, 0, 1] : List Int).drop 0).take ((r0.length : Int).toNat - 0), ())) fun y7 =>
      Option.bind (Gimpl_Eval (r2, (([3, (-1), 2, 0, 1] : List Int).drop 0).take ((r0.length : Int).toNat - 0), ())) fun y8 =>
      bif y7.2.1 then
        bif y8.2.1 then
          bif y7.1 == y8.1 then
            Option.bind (Gimpl_WriteExpr (r0, r2, ())) fun y9 =>
            some (y9.1 == t5, ())
          else
            some (false, ())
        else
          some (false, ())
      else
        some (false, ())
    else
      none
noncomputable def F16 (J14 : P14 → Option PO) (t5 : List UInt8) (t9 : Int) (t60 : Int) (t61 : Int) (r0 : List (List UInt8)) (r1 : List (Int × Int × Int × Int)) (r2 : List (Int × Int × Int × Int)) (r3 : List (Int × Int × Int × Int)) : Option PO :=
  bif inb t9 r2.length then
    bif inb t9 r3.length then
      bif !(((r2.getD t9.toNat (0, 0, 0, 0)).1 == (r3.getD t9.toNat (0, 0, 0, 0)).1) && (((r2.getD t9.toNat (0, 0, 0, 0)).2.1 == (r3.getD t9.toNat (0, 0, 0, 0)).2.1) && (((r2.getD t9.toNat (0, 0, 0, 0)).2.2.1 == (r3.getD t9.toNat (0, 0, 0, 0)).2.2.1) && ((r2.getD t9.toNat (0, 0, 0, 0)).2.2.2 == (r3.getD t9.toNat (0, 0, 0, 0)).2.2.2)))) then
        some (false, ())
      else
        J14 (t5, t60, wI (t61 + 1), r0, r1, r2, r3, ())
    else
      none
  else
    none
noncomputable def hd {R : Type} (Gimpl_Eval : impl_Eval.PI → Option impl_Eval.PO) (Gimpl_NamesValid : impl_NamesValid.PI → Option impl_NamesValid.PO) (Gimpl_ReadExpr : impl_ReadExpr.PI → Option impl_ReadExpr.PO) (Gimpl_Trimmed : impl_Trimmed.PI → Option impl_Trimmed.PO) (Gimpl_WriteExpr : impl_WriteExpr.PI → Option impl_WriteExpr.PO) (Gspec_DrawWriteExpr : spec_DrawWriteExpr.PI → Option spec_DrawWriteExpr.PO) (Gspec_NamesValid : spec_NamesValid.PI → Option spec_NamesValid.PO) (Gspec_WriteExpr : spec_WriteExpr.PI → Option spec_WriteExpr.PO) : Hand R := (handAt 20 [81, 87] true ⟨2, 2, 2, impl_Eval.pin, impl_Eval.pout, Gimpl_Eval⟩ (handAt 19 [49] true ⟨2, 1, 2, impl_Trimmed.pin, impl_Trimmed.pout, Gimpl_Trimmed⟩ (handAt 18 [43] true ⟨2, 2, 2, impl_ReadExpr.pin, impl_ReadExpr.pout, Gimpl_ReadExpr⟩ (handAt 17 [35] true ⟨1, 1, 1, spec_NamesValid.pin, spec_NamesValid.pout, Gspec_NamesValid⟩ (handAt 16 [33] true ⟨1, 1, 1, impl_NamesValid.pin, impl_NamesValid.pout, Gimpl_NamesValid⟩ (handAt 15 [29] true ⟨2, 1, 2, spec_WriteExpr.pin, spec_WriteExpr.pout, Gspec_WriteExpr⟩ (handAt 14 [25, 102] true ⟨2, 1, 2, impl_WriteExpr.pin, impl_WriteExpr.pout, Gimpl_WriteExpr⟩ (handAt 13 [20] true ⟨1, 2, 1, spec_DrawWriteExpr.pin, spec_DrawWriteExpr.pout, Gspec_DrawWriteExpr⟩ handNil))))))))
noncomputable def pg (Gimpl_Eval : impl_Eval.PI → Option impl_Eval.PO) (Gimpl_NamesValid : impl_NamesValid.PI → Option impl_NamesValid.PO) (Gimpl_ReadExpr : impl_ReadExpr.PI → Option impl_ReadExpr.PO) (Gimpl_Trimmed : impl_Trimmed.PI → Option impl_Trimmed.PO) (Gimpl_WriteExpr : impl_WriteExpr.PI → Option impl_WriteExpr.PO) (Gspec_DrawWriteExpr : spec_DrawWriteExpr.PI → Option spec_DrawWriteExpr.PO) (Gspec_NamesValid : spec_NamesValid.PI → Option spec_NamesValid.PO) (Gspec_WriteExpr : spec_WriteExpr.PI → Option spec_WriteExpr.PO) (J7 : List Item → P7 → Option PO) (J13 : List Item → P13 → Option PO) (J14 : List Item → P14 → Option PO) (J16 : List Item → P16 → Option PO) : Prog PO := { nt := 106, np := 1, tb := tabOf tab, hd := hd Gimpl_Eval Gimpl_NamesValid Gimpl_ReadExpr Gimpl_Trimmed Gimpl_WriteExpr Gspec_DrawWriteExpr Gspec_NamesValid Gspec_WriteExpr, cuts := cutsOf [(7, cut p7 J7), (13, cut p13 J13), (14, cut p14 J14), (16, cut p16 J16)], fin := endOf (tabOf tab) rs 1 pout }
noncomputable def q : FuncId → Bool := fun f => hasId [14, 15, 16, 17, 20] f
theorem seg0 (Gimpl_Eval : impl_Eval.PI → Option impl_Eval.PO) (Gimpl_NamesValid : impl_NamesValid.PI → Option impl_NamesValid.PO) (Gimpl_ReadExpr : impl_ReadExpr.PI → Option impl_ReadExpr.PO) (Gimpl_Trimmed : impl_Trimmed.PI → Option impl_Trimmed.PO) (Gimpl_WriteExpr : impl_WriteExpr.PI → Option impl_WriteExpr.PO) (Gspec_DrawWriteExpr : spec_DrawWriteExpr.PI → Option spec_DrawWriteExpr.PO) (Gspec_NamesValid : spec_NamesValid.PI → Option spec_NamesValid.PO) (Gspec_WriteExpr : spec_WriteExpr.PI → Option spec_WriteExpr.PO) (J7 : List Item → P7 → Option PO) (J13 : List Item → P13 → Option PO) (J14 : List Item → P14 → Option PO) (J16 : List Item → P16 → Option PO) (x0 : List Int) : arun (pg Gimpl_Eval Gimpl_NamesValid Gimpl_ReadExpr Gimpl_Trimmed Gimpl_WriteExpr Gspec_DrawWriteExpr Gspec_NamesValid Gspec_WriteExpr J7 J13 J14 J16) 5000 [.code c0] (mk pin (x0, ())) = F0 (J7 T7) Gimpl_NamesValid Gimpl_WriteExpr Gspec_DrawWriteExpr Gspec_NamesValid Gspec_WriteExpr x0 := by kernel_rfl
theorem seg7 (Gimpl_Eval : impl_Eval.PI → Option impl_Eval.PO) (Gimpl_NamesValid : impl_NamesValid.PI → Option impl_NamesValid.PO) (Gimpl_ReadExpr : impl_ReadExpr.PI → Option impl_ReadExpr.PO) (Gimpl_Trimmed : impl_Trimmed.PI → Option impl_Trimmed.PO) (Gimpl_WriteExpr : impl_WriteExpr.PI → Option impl_WriteExpr.PO) (Gspec_DrawWriteExpr : spec_DrawWriteExpr.PI → Option spec_DrawWriteExpr.PO) (Gspec_NamesValid : spec_NamesValid.PI → Option spec_NamesValid.PO) (Gspec_WriteExpr : spec_WriteExpr.PI → Option spec_WriteExpr.PO) (J7 : List Item → P7 → Option PO) (J13 : List Item → P13 → Option PO) (J14 : List Item → P14 → Option PO) (J16 : List Item → P16 → Option PO) (t5 : List UInt8) (r0 : List (List UInt8)) (r1 : List (Int × Int × Int × Int)) : arun1 (pg Gimpl_Eval Gimpl_NamesValid Gimpl_ReadExpr Gimpl_Trimmed Gimpl_WriteExpr Gspec_DrawWriteExpr Gspec_NamesValid Gspec_WriteExpr J7 J13 J14 J16) 5000 T7 (mk p7 (t5, r0, r1, ())) = F7 (J13 T13) Gimpl_ReadExpr Gimpl_Trimmed t5 r0 r1 := by kernel_rfl
theorem seg13 (Gimpl_Eval : impl_Eval.PI → Option impl_Eval.PO) (Gimpl_NamesValid : impl_NamesValid.PI → Option impl_NamesValid.PO) (Gimpl_ReadExpr : impl_ReadExpr.PI → Option impl_ReadExpr.PO) (Gimpl_Trimmed : impl_Trimmed.PI → Option impl_Trimmed.PO) (Gimpl_WriteExpr : impl_WriteExpr.PI → Option impl_WriteExpr.PO) (Gspec_DrawWriteExpr : spec_DrawWriteExpr.PI → Option spec_DrawWriteExpr.PO) (Gspec_NamesValid : spec_NamesValid.PI → Option spec_NamesValid.PO) (Gspec_WriteExpr : spec_WriteExpr.PI → Option spec_WriteExpr.PO) (J7 : List Item → P7 → Option PO) (J13 : List Item → P13 → Option PO) (J14 : List Item → P14 → Option PO) (J16 : List Item → P16 → Option PO) (t5 : List UInt8) (r0 : List (List UInt8)) (r1 : List (Int × Int × Int × Int)) (r2 : List (Int × Int × Int × Int)) (r3 : List (Int × Int × Int × Int)) : arun1 (pg Gimpl_Eval Gimpl_NamesValid Gimpl_ReadExpr Gimpl_Trimmed Gimpl_WriteExpr Gspec_DrawWriteExpr Gspec_NamesValid Gspec_WriteExpr J7 J13 J14 J16) 5000 T13 (mk p13 (t5, r0, r1, r2, r3, ())) = F13 (J14 T14) t5 r0 r1 r2 r3 := by kernel_rfl
theorem seg14 (Gimpl_Eval : impl_Eval.PI → Option impl_Eval.PO) (Gimpl_NamesValid : impl_NamesValid.PI → Option impl_NamesValid.PO) (Gimpl_ReadExpr : impl_ReadExpr.PI → Option impl_ReadExpr.PO) (Gimpl_Trimmed : impl_Trimmed.PI → Option impl_Trimmed.PO) (Gimpl_WriteExpr : impl_WriteExpr.PI → Option impl_WriteExpr.PO) (Gspec_DrawWriteExpr : spec_DrawWriteExpr.PI → Option spec_DrawWriteExpr.PO) (Gspec_NamesValid : spec_NamesValid.PI → Option spec_NamesValid.PO) (Gspec_WriteExpr : spec_WriteExpr.PI → Option spec_WriteExpr.PO) (J7 : List Item → P7 → Option PO) (J13 : List Item → P13 → Option PO) (J14 : List Item → P14 → Option PO) (J16 : List Item → P16 → Option PO) (t5 : List UInt8) (t60 : Int) (t61 : Int) (r0 : List (List UInt8)) (r1 : List (Int × Int × Int × Int)) (r2 : List (Int × Int × Int × Int)) (r3 : List (Int × Int × Int × Int)) : arun1 (pg Gimpl_Eval Gimpl_NamesValid Gimpl_ReadExpr Gimpl_Trimmed Gimpl_WriteExpr Gspec_DrawWriteExpr Gspec_NamesValid Gspec_WriteExpr J7 J13 J14 J16) 5000 T14 (mk p14 (t5, t60, t61, r0, r1, r2, r3, ())) = F14 (J16 T16) Gimpl_Eval Gimpl_WriteExpr t5 t60 t61 r0 r1 r2 r3 := by kernel_rfl
theorem seg16 (Gimpl_Eval : impl_Eval.PI → Option impl_Eval.PO) (Gimpl_NamesValid : impl_NamesValid.PI → Option impl_NamesValid.PO) (Gimpl_ReadExpr : impl_ReadExpr.PI → Option impl_ReadExpr.PO) (Gimpl_Trimmed : impl_Trimmed.PI → Option impl_Trimmed.PO) (Gimpl_WriteExpr : impl_WriteExpr.PI → Option impl_WriteExpr.PO) (Gspec_DrawWriteExpr : spec_DrawWriteExpr.PI → Option spec_DrawWriteExpr.PO) (Gspec_NamesValid : spec_NamesValid.PI → Option spec_NamesValid.PO) (Gspec_WriteExpr : spec_WriteExpr.PI → Option spec_WriteExpr.PO) (J7 : List Item → P7 → Option PO) (J13 : List Item → P13 → Option PO) (J14 : List Item → P14 → Option PO) (J16 : List Item → P16 → Option PO) (t5 : List UInt8) (t9 : Int) (t60 : Int) (t61 : Int) (r0 : List (List UInt8)) (r1 : List (Int × Int × Int × Int)) (r2 : List (Int × Int × Int × Int)) (r3 : List (Int × Int × Int × Int)) : arunQ (pg Gimpl_Eval Gimpl_NamesValid Gimpl_ReadExpr Gimpl_Trimmed Gimpl_WriteExpr Gspec_DrawWriteExpr Gspec_NamesValid Gspec_WriteExpr J7 J13 J14 J16) q [] [] 5000 T16 (mk p16 (t5, t9, t60, t61, r0, r1, r2, r3, ())) = List.replicate (arunQ (pg Gimpl_Eval Gimpl_NamesValid Gimpl_ReadExpr Gimpl_Trimmed Gimpl_WriteExpr Gspec_DrawWriteExpr Gspec_NamesValid Gspec_WriteExpr J7 J13 J14 J16) q [] [] 5000 T16 (mk p16 (t5, t9, t60, t61, r0, r1, r2, r3, ()))).length (F16 (J14 T14) t5 t9 t60 t61 r0 r1 r2 r3) := by kernel_rfl
noncomputable def L16 (J14 : P14 → Option PO) : P16 → Option PO := fun x => F16 J14 x.1 x.2.1 x.2.2.1 x.2.2.2.1 x.2.2.2.2.1 x.2.2.2.2.2.1 x.2.2.2.2.2.2.1 x.2.2.2.2.2.2.2.1
noncomputable def L14 : P14 → Option PO := lfp fun J14 x => F14 (L16 J14) impl_Eval.impl impl_WriteExpr.impl x.1 x.2.1 x.2.2.1 x.2.2.2.1 x.2.2.2.2.1 x.2.2.2.2.2.1 x.2.2.2.2.2.2.1
noncomputable def L13 : P13 → Option PO := fun x => F13 L14 x.1 x.2.1 x.2.2.1 x.2.2.2.1 x.2.2.2.2.1
noncomputable def L7 : P7 → Option PO := fun x => F7 L13 impl_ReadExpr.impl impl_Trimmed.impl x.1 x.2.1 x.2.2.1
noncomputable def impl : PI → Option PO := fun x => F0 L7 impl_NamesValid.impl impl_WriteExpr.impl spec_DrawWriteExpr.impl spec_NamesValid.impl spec_WriteExpr.impl x.1
theorem F16_le {J14 J14' : P14 → Option PO} (h14 : OLe J14 J14') (t5 : List UInt8) (t9 : Int) (t60 : Int) (t61 : Int) (r0 : List (List UInt8)) (r1 : List (Int × Int × Int × Int)) (r2 : List (Int × Int × Int × Int)) (r3 : List (Int × Int × Int × Int)) : OptLe (F16 J14 t5 t9 t60 t61 r0 r1 r2 r3) (F16 J14' t5 t9 t60 t61 r0 r1 r2 r3) := by unfold F16; exact .cond (.cond (.cond (.refl _) (.of h14 _)) (.refl _)) (.refl _)
theorem F14_le {J16 J16' : P16 → Option PO} (h16 : OLe J16 J16') {Gimpl_Eval : impl_Eval.PI → Option impl_Eval.PO} {Gimpl_WriteExpr : impl_WriteExpr.PI → Option impl_WriteExpr.PO} (t5 : List UInt8) (t60 : Int) (t61 : Int) (r0 : List (List UInt8)) (r1 : List (Int × Int × Int × Int)) (r2 : List (Int × Int × Int × Int)) (r3 : List (Int × Int × Int × Int)) : OptLe (F14 J16 Gimpl_Eval Gimpl_WriteExpr t5 t60 t61 r0 r1 r2 r3) (F14 J16' Gimpl_Eval Gimpl_WriteExpr t5 t60 t61 r0 r1 r2 r3) := by unfold F14; exact .cond (.of h16 _) (.refl _)
theorem L16_eq (J14 : P14 → Option PO) (t5 : List UInt8) (t9 : Int) (t60 : Int) (t61 : Int) (r0 : List (List UInt8)) (r1 : List (Int × Int × Int × Int)) (r2 : List (Int × Int × Int × Int)) (r3 : List (Int × Int × Int × Int)) : L16 J14 (t5, t9, t60, t61, r0, r1, r2, r3, ()) = F16 J14 t5 t9 t60 t61 r0 r1 r2 r3 := rfl
theorem L16_le {J14 J14' : P14 → Option PO} (h14 : OLe J14 J14') : OLe (L16 J14) (L16 J14') := fun x => F16_le h14 x.1 x.2.1 x.2.2.1 x.2.2.2.1 x.2.2.2.2.1 x.2.2.2.2.2.1 x.2.2.2.2.2.2.1 x.2.2.2.2.2.2.2.1
theorem L14_mono : OMono fun J14 (x : P14) => F14 (L16 J14) impl_Eval.impl impl_WriteExpr.impl x.1 x.2.1 x.2.2.1 x.2.2.2.1 x.2.2.2.2.1 x.2.2.2.2.2.1 x.2.2.2.2.2.2.1 := fun J J' h14 x => F14_le (L16_le h14) x.1 x.2.1 x.2.2.1 x.2.2.2.1 x.2.2.2.2.1 x.2.2.2.2.2.1 x.2.2.2.2.2.2.1
theorem L14_eq (t5 : List UInt8) (t60 : Int) (t61 : Int) (r0 : List (List UInt8)) (r1 : List (Int × Int × Int × Int)) (r2 : List (Int × Int × Int × Int)) (r3 : List (Int × Int × Int × Int)) : L14 (t5, t60, t61, r0, r1, r2, r3, ()) = F14 (L16 (L14)) impl_Eval.impl impl_WriteExpr.impl t5 t60 t61 r0 r1 r2 r3 := congrFun (lfp_eq (L14_mono)) _
theorem L13_eq (t5 : List UInt8) (r0 : List (List UInt8)) (r1 : List (Int × Int × Int × Int)) (r2 : List (Int × Int × Int × Int)) (r3 : List (Int × Int × Int × Int)) : L13 (t5, r0, r1, r2, r3, ()) = F13 (L14) t5 r0 r1 r2 r3 := rfl
theorem L7_eq (t5 : List UInt8) (r0 : List (List UInt8)) (r1 : List (Int × Int × Int × Int)) : L7 (t5, r0, r1, ()) = F7 (L13) impl_ReadExpr.impl impl_Trimmed.impl t5 r0 r1 := rfl
theorem impl_eq (x0 : List Int) : impl (x0, ()) = F0 L7 impl_NamesValid.impl impl_WriteExpr.impl spec_DrawWriteExpr.impl spec_NamesValid.impl spec_WriteExpr.impl x0 := rfl
theorem con : Con Tryz.prog 4 1 rs.length 1 pin pout impl := by
  refine con_of_run' (nt := 106) (c := c0) tabGood Tryz.func4 (by kernel_rfl) (by kernel_rfl) (by kernel_rfl) (by kernel_rfl) (by kernel_rfl) (by kernel_rfl) (by kernel_rfl) ?_
  intro w0 O y hnp
  generalize hPost : (fun (a' : Act) (w' : World) => ∃ μ' S' st', Rel 106 w0 O μ' S' st' a' w' ∧ endOf (tabOf tab) rs 1 pout st' = some y) = Post
  have fin : ∀ (μ : Id → Option Value) (S : Nat → Prop) (st : St) (a : Act) (w : World), Rel 106 w0 O μ S st a w → endOf (tabOf tab) rs 1 pout st = some y → Post a w := fun μ S st a w h he => by rw [← hPost]; exact ⟨μ, S, st, h, he⟩
  have hp : ∀ (J7 : List Item → P7 → Option PO), ∀ (J13 : List Item → P13 → Option PO), ∀ (J14 : List Item → P14 → Option PO), ∀ (J16 : List Item → P16 → Option PO), Parts Tryz.prog 4 (pg impl_Eval.impl impl_NamesValid.impl impl_ReadExpr.impl impl_Trimmed.impl impl_WriteExpr.impl spec_DrawWriteExpr.impl spec_NamesValid.impl spec_WriteExpr.impl J7 J13 J14 J16) [(7, cut p7 J7), (13, cut p13 J13), (14, cut p14 J14), (16, cut p16 J16)] := fun J7 J13 J14 J16 => ⟨tab_ok tabGood rfl, (handAt_ok impl_Eval.con (handAt_ok impl_Trimmed.con (handAt_ok impl_ReadExpr.con (handAt_ok spec_NamesValid.con (handAt_ok impl_NamesValid.con (handAt_ok spec_WriteExpr.con (handAt_ok impl_WriteExpr.con (handAt_ok spec_DrawWriteExpr.con handNil_ok)))))))), rfl⟩
  have g16 : ∀ (J14 : P14 → Option PO), Good Tryz.prog 106 w0 O Post y T14 p14 J14 → Good Tryz.prog 106 w0 O Post y T16 p16 (L16 J14) := fun J14 h14 => good_quiet (hs := hd impl_Eval.impl impl_NamesValid.impl impl_ReadExpr.impl impl_Trimmed.impl impl_WriteExpr.impl spec_DrawWriteExpr.impl spec_NamesValid.impl spec_WriteExpr.impl) (cv' := hd impl_Eval.impl impl_NamesValid.impl impl_ReadExpr.impl impl_Trimmed.impl impl_WriteExpr.impl spec_DrawWriteExpr.impl spec_NamesValid.impl spec_WriteExpr.impl) (Checked.mixed Tryz.checked) (hp (atT T7 (fun _ => none)) (atT T13 (fun _ => none)) (atT T14 J14) (atT T16 (fun _ => none))) (handAt_D impl_Eval.con (by rfl) rfl (handAt_D' rfl (handAt_D' rfl (handAt_D spec_NamesValid.con (by rfl) rfl (handAt_D impl_NamesValid.con (by rfl) rfl (handAt_D spec_WriteExpr.con (by rfl) rfl (handAt_D impl_WriteExpr.con (by rfl) rfl (handAt_D' rfl handNil_D)))))))) (handAt_nat (handAt_nat (handAt_nat (handAt_nat (handAt_nat (handAt_nat (handAt_nat (handAt_nat handNil_nat)))))))) (handAt_nat (handAt_nat (handAt_nat (handAt_nat (handAt_nat (handAt_nat (handAt_nat (handAt_nat handNil_nat)))))))) (runOK_of (hp (atT T7 (fun _ => none)) (atT T13 (fun _ => none)) (atT T14 J14) (atT T16 (fun _ => none))) hnp ⟨cutOK_at (p := p7) (T := T7) (J := fun _ => none) good_none, cutOK_at (p := p13) (T := T13) (J := fun _ => none) good_none, cutOK_at h14, cutOK_at (p := p16) (T := T16) (J := fun _ => none) good_none, trivial⟩ fin) (fun x => all_same ⟨_, (seg16 impl_Eval.impl impl_NamesValid.impl impl_ReadExpr.impl impl_Trimmed.impl impl_WriteExpr.impl spec_DrawWriteExpr.impl spec_NamesValid.impl spec_WriteExpr.impl (atT T7 (fun _ => none)) (atT T13 (fun _ => none)) (atT T14 J14) (atT T16 (fun _ => none)) x.1 x.2.1 x.2.2.1 x.2.2.2.1 x.2.2.2.2.1 x.2.2.2.2.2.1 x.2.2.2.2.2.2.1 x.2.2.2.2.2.2.2.1).trans (by simp only [atT_self] <;> rfl)⟩)
  have g14 : Good Tryz.prog 106 w0 O Post y T14 p14 L14 := good_lfp fun J14 h14 => good_part (hp (atT T7 (fun _ => none)) (atT T13 (fun _ => none)) (atT T14 (fun _ => none)) (atT T16 (L16 J14))) (runOK_of (hp (atT T7 (fun _ => none)) (atT T13 (fun _ => none)) (atT T14 (fun _ => none)) (atT T16 (L16 J14))) hnp ⟨cutOK_at (p := p7) (T := T7) (J := fun _ => none) good_none, cutOK_at (p := p13) (T := T13) (J := fun _ => none) good_none, cutOK_at (p := p14) (T := T14) (J := fun _ => none) good_none, cutOK_at (g16 J14 h14), trivial⟩ fin) (fun x => (seg14 impl_Eval.impl impl_NamesValid.impl impl_ReadExpr.impl impl_Trimmed.impl impl_WriteExpr.impl spec_DrawWriteExpr.impl spec_NamesValid.impl spec_WriteExpr.impl (atT T7 (fun _ => none)) (atT T13 (fun _ => none)) (atT T14 (fun _ => none)) (atT T16 (L16 J14)) x.1 x.2.1 x.2.2.1 x.2.2.2.1 x.2.2.2.2.1 x.2.2.2.2.2.1 x.2.2.2.2.2.2.1).trans (by simp only [atT_self] <;> rfl))
  have g13 : Good Tryz.prog 106 w0 O Post y T13 p13 L13 := good_part (hp (atT T7 (fun _ => none)) (atT T13 (fun _ => none)) (atT T14 L14) (atT T16 (fun _ => none))) (runOK_of (hp (atT T7 (fun _ => none)) (atT T13 (fun _ => none)) (atT T14 L14) (atT T16 (fun _ => none))) hnp ⟨cutOK_at (p := p7) (T := T7) (J := fun _ => none) good_none, cutOK_at (p := p13) (T := T13) (J := fun _ => none) good_none, cutOK_at g14, cutOK_at (p := p16) (T := T16) (J := fun _ => none) good_none, trivial⟩ fin) (fun x => (seg13 impl_Eval.impl impl_NamesValid.impl impl_ReadExpr.impl impl_Trimmed.impl impl_WriteExpr.impl spec_DrawWriteExpr.impl spec_NamesValid.impl spec_WriteExpr.impl (atT T7 (fun _ => none)) (atT T13 (fun _ => none)) (atT T14 L14) (atT T16 (fun _ => none)) x.1 x.2.1 x.2.2.1 x.2.2.2.1 x.2.2.2.2.1).trans (by simp only [atT_self] <;> rfl))
  have g7 : Good Tryz.prog 106 w0 O Post y T7 p7 L7 := good_part (hp (atT T7 (fun _ => none)) (atT T13 L13) (atT T14 (fun _ => none)) (atT T16 (fun _ => none))) (runOK_of (hp (atT T7 (fun _ => none)) (atT T13 L13) (atT T14 (fun _ => none)) (atT T16 (fun _ => none))) hnp ⟨cutOK_at (p := p7) (T := T7) (J := fun _ => none) good_none, cutOK_at g13, cutOK_at (p := p14) (T := T14) (J := fun _ => none) good_none, cutOK_at (p := p16) (T := T16) (J := fun _ => none) good_none, trivial⟩ fin) (fun x => (seg7 impl_Eval.impl impl_NamesValid.impl impl_ReadExpr.impl impl_Trimmed.impl impl_WriteExpr.impl spec_DrawWriteExpr.impl spec_NamesValid.impl spec_WriteExpr.impl (atT T7 (fun _ => none)) (atT T13 L13) (atT T14 (fun _ => none)) (atT T16 (fun _ => none)) x.1 x.2.1 x.2.2.1).trans (by simp only [atT_self] <;> rfl))
  exact good_first (hp (atT T7 L7) (atT T13 (fun _ => none)) (atT T14 (fun _ => none)) (atT T16 (fun _ => none))) (runOK_of (hp (atT T7 L7) (atT T13 (fun _ => none)) (atT T14 (fun _ => none)) (atT T16 (fun _ => none))) hnp ⟨cutOK_at g7, cutOK_at (p := p13) (T := T13) (J := fun _ => none) good_none, cutOK_at (p := p14) (T := T14) (J := fun _ => none) good_none, cutOK_at (p := p16) (T := T16) (J := fun _ => none) good_none, trivial⟩ fin) (fun x => (seg0 impl_Eval.impl impl_NamesValid.impl impl_ReadExpr.impl impl_Trimmed.impl impl_WriteExpr.impl spec_DrawWriteExpr.impl spec_NamesValid.impl spec_WriteExpr.impl (atT T7 L7) (atT T13 (fun _ => none)) (atT T14 (fun _ => none)) (atT T16 (fun _ => none)) x.1).trans (by simp only [atT_self] <;> rfl))
end laws_FnExprBack
end Go.Proofs.YtfjnckjkpkhbdaaGreatDoorB
