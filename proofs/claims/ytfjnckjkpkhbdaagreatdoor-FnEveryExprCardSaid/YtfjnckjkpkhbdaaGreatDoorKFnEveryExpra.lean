/- PRINTED BY A PROGRAM OF THIS CLAIM'S AUTHOR (wip/gen): functions of the given program, their parts, their contracts. -/
import Derived.Test.YtfjnckjkpkhbdaaGreatDoorB34
import Derived.Test.YtfjnckjkpkhbdaaGreatDoorB43
import Derived.Test.YtfjnckjkpkhbdaaGreatDoorChecked
import Derived.Test.YtfjnckjkpkhbdaaGreatDoorLFnEveryExpr
set_option linter.unusedVariables false
set_option linter.unusedSimpArgs false
set_option maxRecDepth 100000
namespace Go.Proofs.YtfjnckjkpkhbdaaGreatDoorB
open Go
abbrev Q4 := Int × Int × Int × Int
abbrev Bs := List UInt8
abbrev i64 : Ty := .int .i64
abbrev q4 : Ty := .prod i64 (.prod i64 (.prod i64 (.last i64)))
def tab : Tab := [(3, { kind := .scalar, zero := [.d (.int .i64) (0 : Int)], bytes := 8, data := some (.int .i64), eqf := none }),
  (4, { kind := .scalar, zero := [.d .bool false], bytes := 1, data := some .bool, eqf := none }),
  (5, { kind := .scalar, zero := [.d (.int .u8) (0 : Int)], bytes := 1, data := some (.int .u8), eqf := none }),
  (9, { kind := .scalar, zero := [.d .str ([] : List UInt8)], bytes := 16, data := some .str, eqf := none }),
  (22, { kind := .slice 9, zero := [.nilS], bytes := 24, data := some (.sl .str), eqf := none }),
  (42, { kind := .slice 5, zero := [.nilS], bytes := 24, data := some (.sl (.int .u8)), eqf := none }),
  (43, { kind := .slice 52, zero := [.nilS], bytes := 24, data := some (.sl (.prod (.int .i64) (.prod (.int .i64) (.prod (.int .i64) (.last (.int .i64)))))), eqf := none }),
  (52, { kind := .struct [(0, 1), (1, 1), (2, 1), (3, 1)], zero := [.d (.int .i64) (0 : Int), .d (.int .i64) (0 : Int), .d (.int .i64) (0 : Int), .d (.int .i64) (0 : Int)], bytes := 32, data := some (.prod (.int .i64) (.prod (.int .i64) (.prod (.int .i64) (.last (.int .i64))))), eqf := some [(.int .i64), (.int .i64), (.int .i64), (.int .i64)] }),
  (53, { kind := .slice 3, zero := [.nilS], bytes := 24, data := some (.sl (.int .i64)), eqf := none }),
  (86, { kind := .iface, zero := [.nilif], bytes := 16, data := none, eqf := none }),
  (97, { kind := .scalar, zero := [.nilfn], bytes := 8, data := none, eqf := none }),
  (103, { kind := .scalar, zero := [.nilp], bytes := 8, data := none, eqf := none }),
  (105, { kind := .struct [(0, 1), (1, 1), (2, 1), (3, 1)], zero := [.nilS, .d .str ([] : List UInt8), .d (.int .i64) (0 : Int), .nilS], bytes := 72, data := some (.prod (.sl .str) (.prod .str (.prod (.int .i64) (.last (.sl (.prod (.int .i64) (.prod (.int .i64) (.prod (.int .i64) (.last (.int .i64)))))))))), eqf := none }),
  (114, { kind := .struct [(0, 1), (1, 1), (2, 1), (3, 1), (4, 1)], zero := [.d .str ([] : List UInt8), .d (.int .i64) (0 : Int), .nilS, .nilS, .d .bool false], bytes := 80, data := some (.prod .str (.prod (.int .i64) (.prod (.sl .str) (.prod (.sl (.prod (.int .i64) (.prod (.int .i64) (.prod (.int .i64) (.last (.int .i64)))))) (.last .bool))))), eqf := none }),
  (145, { kind := .struct [(0, 1), (1, 1)], zero := [.nilS, .d (.int .i64) (0 : Int)], bytes := 32, data := some (.prod (.sl (.int .u8)) (.last (.int .i64))), eqf := none }),
  (191, { kind := .map (.int .u8) (.int .i64), zero := [.undef], bytes := 8, data := none, eqf := none })]
theorem tabGood : tabB Tryz.prog tab = true := by kernel_rfl

/-! ### loop.example/wholecheck/spec.l40Open -/
namespace spec_l40Open
noncomputable abbrev c0 : Code := (Tryz.f51.body).getD .skip
noncomputable abbrev pin : Tpl := ⟨[⟨0, false, [.d (.sl (.int .u8))]⟩], []⟩
noncomputable abbrev pout : Tpl := ⟨[⟨0, false, [.ptr 600001 0]⟩], [(600001, .box [.d (.sl (.int .u8)), .d i64])]⟩
noncomputable abbrev PI := (List Int) × Unit
noncomputable abbrev PO := (List Int) × Int × Unit
noncomputable abbrev G := PI → Option PO
noncomputable abbrev rs : List ResultVar := [.tmp 2]
noncomputable def F0 (x0 : List Int) : Option PO :=
  bif decide ((x0.length : Int) > 2000) then
    bif decide (2000 ≤ (x0.length : Int)) then
      some ((x0.take 2000).drop 0, 0, ())
    else
      none
  else
    some (x0, 0, ())
noncomputable def hd {R : Type} : Hand R := handNil
noncomputable def pg : Prog PO := { nt := 11, np := 0, tb := tabOf tab, hd := hd, cuts := cutsOf [], fin := endOf (tabOf tab) rs 0 pout }
noncomputable def q : FuncId → Bool := fun f => hasId [] f
theorem seg0 (x0 : List Int) : arun (pg) 5000 [.code c0] (mk pin (x0, ())) = F0 x0 := by kernel_rfl
noncomputable def impl : G := fun x => F0 x.1
theorem impl_eq (x0 : List Int) : impl (x0, ()) = F0 x0 := rfl
theorem con : Con Tryz.prog 51 1 rs.length 0 pin pout impl := by
  refine con_of_run3 (nt := 11) (c := c0) tabGood Tryz.func51 (by kernel_rfl) (by kernel_rfl) (by kernel_rfl) (by kernel_rfl) (by kernel_rfl) (by kernel_rfl) (by kernel_rfl) ?_
  intro w0 O y Post hnp fin
  have hp : Parts Tryz.prog 51 (pg) [] := ⟨tab_ok tabGood rfl, handNil_ok, rfl⟩
  exact good_first (hp) (runOK_of (hp) hnp trivial fin) (fun x => (seg0 x.1))
end spec_l40Open

/-! ### (*loop.example/wholecheck/spec.l40Rd).pick -/
namespace spec_l40Rd_pick
noncomputable abbrev c0 : Code := (Tryz.f53.body).getD .skip
noncomputable abbrev pin : Tpl := ⟨[⟨0, false, [.ptr 500001 0]⟩, ⟨1, false, [.d i64]⟩], [(500001, .box [.d (.sl (.int .u8)), .d i64])]⟩
noncomputable abbrev pout : Tpl := ⟨[⟨0, false, [.d i64]⟩, ⟨1, false, [.ptr 500001 0]⟩], [(500001, .box [.d (.sl (.int .u8)), .d i64])]⟩
noncomputable abbrev p4 : Tpl := ⟨[⟨0, false, [.ptr 500001 0]⟩, ⟨1, false, [.d i64]⟩], [(500001, .box [.d (.sl (.int .u8)), .d i64])]⟩
noncomputable def T4 : List Item := (find 4 c0 []).getD []
noncomputable abbrev p7 : Tpl := ⟨[⟨0, false, [.ptr 500001 0]⟩, ⟨1, false, [.d i64]⟩, ⟨5, false, [.d i64]⟩], [(500001, .box [.d (.sl (.int .u8)), .d i64])]⟩
noncomputable def T7 : List Item := (find 7 c0 []).getD []
noncomputable abbrev PI := Int × (List Int) × Int × Unit
noncomputable abbrev PO := Int × (List Int) × Int × Unit
noncomputable abbrev G := PI → Option PO
noncomputable abbrev P4 := Int × (List Int) × Int × Unit
noncomputable abbrev C4 := P4 → Option PO
noncomputable abbrev P7 := Int × Int × (List Int) × Int × Unit
noncomputable abbrev C7 := P7 → Option PO
noncomputable abbrev rs : List ResultVar := [.tmp 4]
noncomputable def F0 (J4 : C4) (x1 : Int) (c1_0 : List Int) (c1_1 : Int) : Option PO :=
  bif decide (x1 < 1) then
    some (0, c1_0, wI (c1_1 + 1), ())
  else
    bif (c1_0.length : Int) == 0 then
      some (0, c1_0, wI (c1_1 + 1), ())
    else
      J4 (x1, c1_0, wI (c1_1 + 1), ())
noncomputable def F4 (J7 : C7) (t1 : Int) (c1_0 : List Int) (c1_1 : Int) : Option PO :=
  bif decide (wI (c1_1 - 1) < (c1_0.length : Int)) then
    bif inb (wI (c1_1 - 1)) c1_0.length then
      bif decide (t1 = 0) then
        none
      else
        some (Int.tmod (wI (c1_0.getD (wI (c1_1 - 1)).toNat 0)) t1, c1_0, c1_1, ())
    else
      none
  else
    J7 (t1, wI (c1_1 - 1), c1_0, c1_1, ())
noncomputable def F7 (t1 : Int) (t5 : Int) (c1_0 : List Int) (c1_1 : Int) : Option PO :=
  bif decide ((c1_0.length : Int) = 0) then
    none
  else
    bif inb (Int.tmod t5 (c1_0.length : Int)) c1_0.length then
      bif decide ((c1_0.length : Int) = 0) then
        none
      else
        bif inb (Int.tmod (wI ((wI (t5 * 7)) + 3)) (c1_0.length : Int)) c1_0.length then
          bif decide ((c1_0.length : Int) = 0) then
            none
          else
            bif decide (t1 = 0) then
              none
            else
              some (Int.tmod (xorI .i64 (wI ((wI ((wI ((wI ((wI (c1_0.getD (Int.tmod t5 (c1_0.length : Int)).toNat 0)) * 131)) + (wI ((wI (c1_0.getD (Int.tmod (wI ((wI (t5 * 7)) + 3)) (c1_0.length : Int)).toNat 0)) * 1117)))) + (wI (t5 * 29)))) + (wI ((wI (Int.tdiv t5 (c1_0.length : Int))) * 53)))) (wI (Int.tdiv (wI ((wI ((wI ((wI ((wI (c1_0.getD (Int.tmod t5 (c1_0.length : Int)).toNat 0)) * 131)) + (wI ((wI (c1_0.getD (Int.tmod (wI ((wI (t5 * 7)) + 3)) (c1_0.length : Int)).toNat 0)) * 1117)))) + (wI (t5 * 29)))) + (wI ((wI (Int.tdiv t5 (c1_0.length : Int))) * 53)))) 64))) t1, c1_0, c1_1, ())
        else
          none
    else
      none
noncomputable def hd {R : Type} : Hand R := handNil
noncomputable def pg (J4 : List Item → C4) (J7 : List Item → C7) : Prog PO := { nt := 99, np := 2, tb := tabOf tab, hd := hd, cuts := cutsOf [(4, cut p4 J4), (7, cut p7 J7)], fin := endOf (tabOf tab) rs 2 pout }
noncomputable def q : FuncId → Bool := fun f => hasId [] f
theorem seg0 (J4 : List Item → C4) (J7 : List Item → C7) (x1 : Int) (c1_0 : List Int) (c1_1 : Int) : arun (pg J4 J7) 5000 [.code c0] (mk pin (x1, c1_0, c1_1, ())) = F0 (J4 T4) x1 c1_0 c1_1 := by kernel_rfl
theorem seg4 (J4 : List Item → C4) (J7 : List Item → C7) (t1 : Int) (c1_0 : List Int) (c1_1 : Int) : arun1 (pg J4 J7) 5000 T4 (mk p4 (t1, c1_0, c1_1, ())) = F4 (J7 T7) t1 c1_0 c1_1 := by kernel_rfl
theorem seg7 (J4 : List Item → C4) (J7 : List Item → C7) (t1 : Int) (t5 : Int) (c1_0 : List Int) (c1_1 : Int) : arunQ (pg J4 J7) q [] [] 5000 T7 (mk p7 (t1, t5, c1_0, c1_1, ())) = List.replicate (arunQ (pg J4 J7) q [] [] 5000 T7 (mk p7 (t1, t5, c1_0, c1_1, ()))).length (F7 t1 t5 c1_0 c1_1) := by kernel_rfl
noncomputable def L7 : C7 := fun x => F7 x.1 x.2.1 x.2.2.1 x.2.2.2.1
noncomputable def L4 : C4 := fun x => F4 L7 x.1 x.2.1 x.2.2.1
noncomputable def impl : G := fun x => F0 L4 x.1 x.2.1 x.2.2.1
theorem L7_eq (t1 : Int) (t5 : Int) (c1_0 : List Int) (c1_1 : Int) : L7 (t1, t5, c1_0, c1_1, ()) = F7 t1 t5 c1_0 c1_1 := rfl
theorem L4_eq (t1 : Int) (c1_0 : List Int) (c1_1 : Int) : L4 (t1, c1_0, c1_1, ()) = F4 (L7) t1 c1_0 c1_1 := rfl
theorem impl_eq (x1 : Int) (c1_0 : List Int) (c1_1 : Int) : impl (x1, c1_0, c1_1, ()) = F0 L4 x1 c1_0 c1_1 := rfl
theorem con : Con Tryz.prog 53 2 rs.length 2 pin pout impl := by
  refine con_of_run3 (nt := 99) (c := c0) tabGood Tryz.func53 (by kernel_rfl) (by kernel_rfl) (by kernel_rfl) (by kernel_rfl) (by kernel_rfl) (by kernel_rfl) (by kernel_rfl) ?_
  intro w0 O y Post hnp fin
  have hp : ∀ (J4 : List Item → C4), ∀ (J7 : List Item → C7), Parts Tryz.prog 53 (pg J4 J7) [(4, cut p4 J4), (7, cut p7 J7)] := fun J4 J7 => ⟨tab_ok tabGood rfl, handNil_ok, rfl⟩
  have g7 : Good Tryz.prog 99 w0 O Post y T7 p7 L7 := good_quiet (hs := hd) (cv' := hd) (Checked.mixed Tryz.checked) (hp (atT T4 (fun _ => none)) (atT T7 (fun _ => none))) handNil_D handNil_nat handNil_nat (runOK_of (hp (atT T4 (fun _ => none)) (atT T7 (fun _ => none))) hnp ⟨cutOK_at (p := p4) (T := T4) (J := fun _ => none) good_none, cutOK_at (p := p7) (T := T7) (J := fun _ => none) good_none, trivial⟩ fin) (fun x => all_same ⟨_, (seg7 (atT T4 (fun _ => none)) (atT T7 (fun _ => none)) x.1 x.2.1 x.2.2.1 x.2.2.2.1)⟩)
  have g4 : Good Tryz.prog 99 w0 O Post y T4 p4 L4 := good_part (hp (atT T4 (fun _ => none)) (atT T7 L7)) (runOK_of (hp (atT T4 (fun _ => none)) (atT T7 L7)) hnp ⟨cutOK_at (p := p4) (T := T4) (J := fun _ => none) good_none, cutOK_at g7, trivial⟩ fin) (fun x => (seg4 (atT T4 (fun _ => none)) (atT T7 L7) x.1 x.2.1 x.2.2.1).trans (by simp only [atT_self] <;> rfl))
  exact good_first (hp (atT T4 L4) (atT T7 (fun _ => none))) (runOK_of (hp (atT T4 L4) (atT T7 (fun _ => none))) hnp ⟨cutOK_at g4, cutOK_at (p := p7) (T := T7) (J := fun _ => none) good_none, trivial⟩ fin) (fun x => (seg0 (atT T4 L4) (atT T7 (fun _ => none)) x.1 x.2.1 x.2.2.1).trans (by simp only [atT_self] <;> rfl))
end spec_l40Rd_pick

/-! ### (*loop.example/wholecheck/spec.l40Rd).of -/
namespace spec_l40Rd_of
noncomputable abbrev c0 : Code := (Tryz.f103.body).getD .skip
noncomputable abbrev pin : Tpl := ⟨[⟨0, false, [.ptr 500001 0]⟩, ⟨1, false, [.d (.sl .str)]⟩], [(500001, .box [.d (.sl (.int .u8)), .d i64])]⟩
noncomputable abbrev pout : Tpl := ⟨[⟨0, false, [.d .str]⟩, ⟨1, false, [.ptr 500001 0]⟩], [(500001, .box [.d (.sl (.int .u8)), .d i64])]⟩
noncomputable abbrev PI := (List Bs) × (List Int) × Int × Unit
noncomputable abbrev PO := Bs × (List Int) × Int × Unit
noncomputable abbrev G := PI → Option PO
noncomputable abbrev rs : List ResultVar := [.tmp 4]
noncomputable def F0 (Gspec_l40Rd_pick : spec_l40Rd_pick.G) (x1 : List Bs) (c1_0 : List Int) (c1_1 : Int) : Option PO :=
  Option.bind (Gspec_l40Rd_pick ((x1.length : Int), c1_0, c1_1, ())) fun y0 =>
  bif inb y0.1 x1.length then
    some (x1.getD y0.1.toNat [], y0.2.1, y0.2.2.1, ())
  else
    none
noncomputable def hd {R : Type} (Gspec_l40Rd_pick : spec_l40Rd_pick.G) : Hand R := (handAt 53 [9] false ⟨2, 1, 2, spec_l40Rd_pick.pin, spec_l40Rd_pick.pout, Gspec_l40Rd_pick⟩ handNil)
noncomputable def pg (Gspec_l40Rd_pick : spec_l40Rd_pick.G) : Prog PO := { nt := 12, np := 2, tb := tabOf tab, hd := hd Gspec_l40Rd_pick, cuts := cutsOf [], fin := endOf (tabOf tab) rs 2 pout }
noncomputable def q : FuncId → Bool := fun f => hasId [] f
theorem seg0 (Gspec_l40Rd_pick : spec_l40Rd_pick.G) (x1 : List Bs) (c1_0 : List Int) (c1_1 : Int) : arun (pg Gspec_l40Rd_pick) 5000 [.code c0] (mk pin (x1, c1_0, c1_1, ())) = F0 Gspec_l40Rd_pick x1 c1_0 c1_1 := by kernel_rfl
noncomputable def impl : G := fun x => F0 spec_l40Rd_pick.impl x.1 x.2.1 x.2.2.1
theorem impl_eq (x1 : List Bs) (c1_0 : List Int) (c1_1 : Int) : impl (x1, c1_0, c1_1, ()) = F0 spec_l40Rd_pick.impl x1 c1_0 c1_1 := rfl
theorem con : Con Tryz.prog 103 2 rs.length 2 pin pout impl := by
  refine con_of_run3 (nt := 12) (c := c0) tabGood Tryz.func103 (by kernel_rfl) (by kernel_rfl) (by kernel_rfl) (by kernel_rfl) (by kernel_rfl) (by kernel_rfl) (by kernel_rfl) ?_
  intro w0 O y Post hnp fin
  have hp : Parts Tryz.prog 103 (pg spec_l40Rd_pick.impl) [] := ⟨tab_ok tabGood rfl, (handAt_ok spec_l40Rd_pick.con handNil_ok), rfl⟩
  exact good_first (hp) (runOK_of (hp) hnp trivial fin) (fun x => (seg0 spec_l40Rd_pick.impl x.1 x.2.1 x.2.2.1))
end spec_l40Rd_of

/-! ### loop.example/wholecheck/spec.l30Names -/
namespace spec_l30Names
noncomputable abbrev c0 : Code := (Tryz.f52.body).getD .skip
noncomputable abbrev pin : Tpl := ⟨[⟨0, false, [.ptr 500001 0]⟩, ⟨1, false, [.d i64]⟩], [(500001, .box [.d (.sl (.int .u8)), .d i64])]⟩
noncomputable abbrev pout : Tpl := ⟨[⟨0, false, [.row 600001]⟩, ⟨1, false, [.ptr 500001 0]⟩], [(600001, .row 9 false .str), (500001, .box [.d (.sl (.int .u8)), .d i64])]⟩
noncomputable abbrev p3 : Tpl := ⟨[⟨0, false, [.ptr 500001 0]⟩, ⟨1, false, [.d i64]⟩, ⟨5, false, [.row 3000000]⟩, ⟨6, false, [.d i64]⟩], [(500001, .box [.d (.sl (.int .u8)), .d i64]), (3000000, .row 9 false .str)]⟩
noncomputable def T3 : List Item := (find 3 c0 []).getD []
noncomputable abbrev PI := Int × (List Int) × Int × Unit
noncomputable abbrev PO := (List Bs) × (List Int) × Int × Unit
noncomputable abbrev G := PI → Option PO
noncomputable abbrev P3 := Int × Int × (List Int) × Int × (List Bs) × Unit
noncomputable abbrev C3 := P3 → Option PO
noncomputable abbrev rs : List ResultVar := [.tmp 4]
noncomputable def F0 (J3 : C3) (x1 : Int) (c1_0 : List Int) (c1_1 : Int) : Option PO :=
  J3 (x1, 0, c1_0, c1_1, ([] : List Bs), ())
noncomputable def F3 (J3 : C3) (Gspec_l40Rd_of : spec_l40Rd_of.G) (Gspec_l40Rd_pick : spec_l40Rd_pick.G) (t1 : Int) (t6 : Int) (c1_0 : List Int) (c1_1 : Int) (r0 : List Bs) : Option PO :=
  bif decide (t6 < t1) then
    bif inb (Int.tmod t6 5) ([([120] : Bs), ([121] : Bs), ([116, 117, 114, 110] : Bs), ([100, 111, 111, 114] : Bs), ([99, 111, 117, 110, 116] : Bs)] : List Bs).length then
      bif decide ((r0.length + ([([([120] : Bs), ([121] : Bs), ([116, 117, 114, 110] : Bs), ([100, 111, 111, 114] : Bs), ([99, 111, 117, 110, 116] : Bs)] : List Bs).getD (Int.tmod t6 5).toNat []] : List Bs).length) * 16 ≤ 140737488355328) then
        J3 (t1, wI (t6 + 1), c1_0, c1_1, r0 ++ ([([([120] : Bs), ([121] : Bs), ([116, 117, 114, 110] : Bs), ([100, 111, 111, 114] : Bs), ([99, 111, 117, 110, 116] : Bs)] : List Bs).getD (Int.tmod t6 5).toNat []] : List Bs), ())
      else
        none
    else
      none
  else
    bif decide (t1 > 0) then
      Option.bind (Gspec_l40Rd_pick (20, c1_0, c1_1, ())) fun y0 =>
      bif y0.1 == 0 then
        Option.bind (Gspec_l40Rd_pick (t1, y0.2.1, y0.2.2.1, ())) fun y1 =>
        Option.bind (Gspec_l40Rd_of (([[], ([88] : Bs), ([120] : Bs), ([97, 98, 99, 100, 101, 102, 103, 104, 105] : Bs), ([97, 49] : Bs)] : List Bs), y1.2.1, y1.2.2.1, ())) fun y2 =>
        bif inb y1.1 r0.length then
          some (r0.set y1.1.toNat y2.1, y2.2.1, y2.2.2.1, ())
        else
          none
      else
        some (r0, y0.2.1, y0.2.2.1, ())
    else
      some (r0, c1_0, c1_1, ())
noncomputable def hd {R : Type} (Gspec_l40Rd_of : spec_l40Rd_of.G) (Gspec_l40Rd_pick : spec_l40Rd_pick.G) : Hand R := (handAt 103 [34] false ⟨2, 1, 2, spec_l40Rd_of.pin, spec_l40Rd_of.pout, Gspec_l40Rd_of⟩ (handAt 53 [25, 31] false ⟨2, 1, 2, spec_l40Rd_pick.pin, spec_l40Rd_pick.pout, Gspec_l40Rd_pick⟩ handNil))
noncomputable def pg (Gspec_l40Rd_of : spec_l40Rd_of.G) (Gspec_l40Rd_pick : spec_l40Rd_pick.G) (J3 : List Item → C3) : Prog PO := { nt := 37, np := 2, tb := tabOf tab, hd := hd Gspec_l40Rd_of Gspec_l40Rd_pick, cuts := cutsOf [(3, cut p3 J3)], fin := endOf (tabOf tab) rs 2 pout }
noncomputable def q : FuncId → Bool := fun f => hasId [] f
theorem seg0 (Gspec_l40Rd_of : spec_l40Rd_of.G) (Gspec_l40Rd_pick : spec_l40Rd_pick.G) (J3 : List Item → C3) (x1 : Int) (c1_0 : List Int) (c1_1 : Int) : arun (pg Gspec_l40Rd_of Gspec_l40Rd_pick J3) 5000 [.code c0] (mk pin (x1, c1_0, c1_1, ())) = F0 (J3 T3) x1 c1_0 c1_1 := by kernel_rfl
theorem seg3 (Gspec_l40Rd_of : spec_l40Rd_of.G) (Gspec_l40Rd_pick : spec_l40Rd_pick.G) (J3 : List Item → C3) (t1 : Int) (t6 : Int) (c1_0 : List Int) (c1_1 : Int) (r0 : List Bs) : arun1 (pg Gspec_l40Rd_of Gspec_l40Rd_pick J3) 5000 T3 (mk p3 (t1, t6, c1_0, c1_1, r0, ())) = F3 (J3 T3) Gspec_l40Rd_of Gspec_l40Rd_pick t1 t6 c1_0 c1_1 r0 := by kernel_rfl
noncomputable def L3 : C3 := lfp fun J3 x => F3 J3 spec_l40Rd_of.impl spec_l40Rd_pick.impl x.1 x.2.1 x.2.2.1 x.2.2.2.1 x.2.2.2.2.1
noncomputable def impl : G := fun x => F0 L3 x.1 x.2.1 x.2.2.1
theorem F3_le {J3 J3' : C3} (h3 : OLe J3 J3') {Gspec_l40Rd_of : spec_l40Rd_of.G} {Gspec_l40Rd_pick : spec_l40Rd_pick.G} (t1 : Int) (t6 : Int) (c1_0 : List Int) (c1_1 : Int) (r0 : List Bs) : OptLe (F3 J3 Gspec_l40Rd_of Gspec_l40Rd_pick t1 t6 c1_0 c1_1 r0) (F3 J3' Gspec_l40Rd_of Gspec_l40Rd_pick t1 t6 c1_0 c1_1 r0) := by unfold F3; exact .cond (.cond (.cond (.of h3 _) (.refl _)) (.refl _)) (.refl _)
theorem L3_mono : OMono fun J3 (x : P3) => F3 J3 spec_l40Rd_of.impl spec_l40Rd_pick.impl x.1 x.2.1 x.2.2.1 x.2.2.2.1 x.2.2.2.2.1 := fun J J' h3 x => F3_le h3 x.1 x.2.1 x.2.2.1 x.2.2.2.1 x.2.2.2.2.1
theorem L3_eq (t1 : Int) (t6 : Int) (c1_0 : List Int) (c1_1 : Int) (r0 : List Bs) : L3 (t1, t6, c1_0, c1_1, r0, ()) = F3 (L3) spec_l40Rd_of.impl spec_l40Rd_pick.impl t1 t6 c1_0 c1_1 r0 := congrFun (lfp_eq (L3_mono)) _
theorem impl_eq (x1 : Int) (c1_0 : List Int) (c1_1 : Int) : impl (x1, c1_0, c1_1, ()) = F0 L3 x1 c1_0 c1_1 := rfl
theorem con : Con Tryz.prog 52 2 rs.length 2 pin pout impl := by
  refine con_of_run3 (nt := 37) (c := c0) tabGood Tryz.func52 (by kernel_rfl) (by kernel_rfl) (by kernel_rfl) (by kernel_rfl) (by kernel_rfl) (by kernel_rfl) (by kernel_rfl) ?_
  intro w0 O y Post hnp fin
  have hp : ∀ (J3 : List Item → C3), Parts Tryz.prog 52 (pg spec_l40Rd_of.impl spec_l40Rd_pick.impl J3) [(3, cut p3 J3)] := fun J3 => ⟨tab_ok tabGood rfl, (handAt_ok spec_l40Rd_of.con (handAt_ok spec_l40Rd_pick.con handNil_ok)), rfl⟩
  have g3 : Good Tryz.prog 37 w0 O Post y T3 p3 L3 := good_lfp fun J3 h3 => good_part (hp (atT T3 J3)) (runOK_of (hp (atT T3 J3)) hnp ⟨cutOK_at h3, trivial⟩ fin) (fun x => (seg3 spec_l40Rd_of.impl spec_l40Rd_pick.impl (atT T3 J3) x.1 x.2.1 x.2.2.1 x.2.2.2.1 x.2.2.2.2.1).trans (by simp only [atT_self] <;> rfl))
  exact good_first (hp (atT T3 L3)) (runOK_of (hp (atT T3 L3)) hnp ⟨cutOK_at g3, trivial⟩ fin) (fun x => (seg0 spec_l40Rd_of.impl spec_l40Rd_pick.impl (atT T3 L3) x.1 x.2.1 x.2.2.1).trans (by simp only [atT_self] <;> rfl))
end spec_l30Names

/-! ### (*loop.example/wholecheck/spec.l40Rd).num -/
namespace spec_l40Rd_num
noncomputable abbrev c0 : Code := (Tryz.f73.body).getD .skip
noncomputable abbrev pin : Tpl := ⟨[⟨0, false, [.ptr 500001 0]⟩, ⟨1, false, [.d (.sl i64)]⟩], [(500001, .box [.d (.sl (.int .u8)), .d i64])]⟩
noncomputable abbrev pout : Tpl := ⟨[⟨0, false, [.d i64]⟩, ⟨1, false, [.ptr 500001 0]⟩], [(500001, .box [.d (.sl (.int .u8)), .d i64])]⟩
noncomputable abbrev PI := (List Int) × (List Int) × Int × Unit
noncomputable abbrev PO := Int × (List Int) × Int × Unit
noncomputable abbrev G := PI → Option PO
noncomputable abbrev rs : List ResultVar := [.tmp 4]
noncomputable def F0 (Gspec_l40Rd_pick : spec_l40Rd_pick.G) (x1 : List Int) (c1_0 : List Int) (c1_1 : Int) : Option PO :=
  Option.bind (Gspec_l40Rd_pick ((x1.length : Int), c1_0, c1_1, ())) fun y0 =>
  bif inb y0.1 x1.length then
    some (x1.getD y0.1.toNat 0, y0.2.1, y0.2.2.1, ())
  else
    none
noncomputable def hd {R : Type} (Gspec_l40Rd_pick : spec_l40Rd_pick.G) : Hand R := (handAt 53 [9] false ⟨2, 1, 2, spec_l40Rd_pick.pin, spec_l40Rd_pick.pout, Gspec_l40Rd_pick⟩ handNil)
noncomputable def pg (Gspec_l40Rd_pick : spec_l40Rd_pick.G) : Prog PO := { nt := 12, np := 2, tb := tabOf tab, hd := hd Gspec_l40Rd_pick, cuts := cutsOf [], fin := endOf (tabOf tab) rs 2 pout }
noncomputable def q : FuncId → Bool := fun f => hasId [] f
theorem seg0 (Gspec_l40Rd_pick : spec_l40Rd_pick.G) (x1 : List Int) (c1_0 : List Int) (c1_1 : Int) : arun (pg Gspec_l40Rd_pick) 5000 [.code c0] (mk pin (x1, c1_0, c1_1, ())) = F0 Gspec_l40Rd_pick x1 c1_0 c1_1 := by kernel_rfl
noncomputable def impl : G := fun x => F0 spec_l40Rd_pick.impl x.1 x.2.1 x.2.2.1
theorem impl_eq (x1 : List Int) (c1_0 : List Int) (c1_1 : Int) : impl (x1, c1_0, c1_1, ()) = F0 spec_l40Rd_pick.impl x1 c1_0 c1_1 := rfl
theorem con : Con Tryz.prog 73 2 rs.length 2 pin pout impl := by
  refine con_of_run3 (nt := 12) (c := c0) tabGood Tryz.func73 (by kernel_rfl) (by kernel_rfl) (by kernel_rfl) (by kernel_rfl) (by kernel_rfl) (by kernel_rfl) (by kernel_rfl) ?_
  intro w0 O y Post hnp fin
  have hp : Parts Tryz.prog 73 (pg spec_l40Rd_pick.impl) [] := ⟨tab_ok tabGood rfl, (handAt_ok spec_l40Rd_pick.con handNil_ok), rfl⟩
  exact good_first (hp) (runOK_of (hp) hnp trivial fin) (fun x => (seg0 spec_l40Rd_pick.impl x.1 x.2.1 x.2.2.1))
end spec_l40Rd_num

/-! ### loop.example/wholecheck/spec.l1Number -/
namespace spec_l1Number
noncomputable abbrev c0 : Code := (Tryz.f113.body).getD .skip
noncomputable abbrev pin : Tpl := ⟨[⟨0, false, [.ptr 500001 0]⟩], [(500001, .box [.d (.sl (.int .u8)), .d i64])]⟩
noncomputable abbrev pout : Tpl := ⟨[⟨0, false, [.d i64]⟩, ⟨1, false, [.ptr 500001 0]⟩], [(500001, .box [.d (.sl (.int .u8)), .d i64])]⟩
noncomputable abbrev PI := (List Int) × Int × Unit
noncomputable abbrev PO := Int × (List Int) × Int × Unit
noncomputable abbrev G := PI → Option PO
noncomputable abbrev rs : List ResultVar := [.tmp 2]
noncomputable def F0 (Gspec_l40Rd_num : spec_l40Rd_num.G) (Gspec_l40Rd_pick : spec_l40Rd_pick.G) (c1_0 : List Int) (c1_1 : Int) : Option PO :=
  Option.bind (Gspec_l40Rd_pick (4, c1_0, c1_1, ())) fun y0 =>
  Option.bind (Gspec_l40Rd_pick (4, y0.2.1, y0.2.2.1, ())) fun y1 =>
  Option.bind (Gspec_l40Rd_pick (7, y1.2.1, y1.2.2.1, ())) fun y2 =>
  Option.bind (Gspec_l40Rd_pick (200, y2.2.1, y2.2.2.1, ())) fun y3 =>
  Option.bind (Gspec_l40Rd_pick (4, y3.2.1, y3.2.2.1, ())) fun y4 =>
  bif inb y4.1 ([9999, (-9999), 5000, 100] : List Int).length then
    Option.bind (Gspec_l40Rd_num (([y0.1, y1.1, wI (y2.1 - 3), 1, 0, wI (y3.1 - 100), ([9999, (-9999), 5000, 100] : List Int).getD y4.1.toNat 0] : List Int), y4.2.1, y4.2.2.1, ())) fun y5 =>
    some (y5.1, y5.2.1, y5.2.2.1, ())
  else
    none
noncomputable def hd {R : Type} (Gspec_l40Rd_num : spec_l40Rd_num.G) (Gspec_l40Rd_pick : spec_l40Rd_pick.G) : Hand R := (handAt 73 [20] false ⟨2, 1, 2, spec_l40Rd_num.pin, spec_l40Rd_num.pout, Gspec_l40Rd_num⟩ (handAt 53 [5, 7, 9, 12, 16] false ⟨2, 1, 2, spec_l40Rd_pick.pin, spec_l40Rd_pick.pout, Gspec_l40Rd_pick⟩ handNil))
noncomputable def pg (Gspec_l40Rd_num : spec_l40Rd_num.G) (Gspec_l40Rd_pick : spec_l40Rd_pick.G) : Prog PO := { nt := 21, np := 1, tb := tabOf tab, hd := hd Gspec_l40Rd_num Gspec_l40Rd_pick, cuts := cutsOf [], fin := endOf (tabOf tab) rs 1 pout }
noncomputable def q : FuncId → Bool := fun f => hasId [] f
theorem seg0 (Gspec_l40Rd_num : spec_l40Rd_num.G) (Gspec_l40Rd_pick : spec_l40Rd_pick.G) (c1_0 : List Int) (c1_1 : Int) : arun (pg Gspec_l40Rd_num Gspec_l40Rd_pick) 5000 [.code c0] (mk pin (c1_0, c1_1, ())) = F0 Gspec_l40Rd_num Gspec_l40Rd_pick c1_0 c1_1 := by kernel_rfl
noncomputable def impl : G := fun x => F0 spec_l40Rd_num.impl spec_l40Rd_pick.impl x.1 x.2.1
theorem impl_eq (c1_0 : List Int) (c1_1 : Int) : impl (c1_0, c1_1, ()) = F0 spec_l40Rd_num.impl spec_l40Rd_pick.impl c1_0 c1_1 := rfl
theorem con : Con Tryz.prog 113 1 rs.length 1 pin pout impl := by
  refine con_of_run3 (nt := 21) (c := c0) tabGood Tryz.func113 (by kernel_rfl) (by kernel_rfl) (by kernel_rfl) (by kernel_rfl) (by kernel_rfl) (by kernel_rfl) (by kernel_rfl) ?_
  intro w0 O y Post hnp fin
  have hp : Parts Tryz.prog 113 (pg spec_l40Rd_num.impl spec_l40Rd_pick.impl) [] := ⟨tab_ok tabGood rfl, (handAt_ok spec_l40Rd_num.con (handAt_ok spec_l40Rd_pick.con handNil_ok)), rfl⟩
  exact good_first (hp) (runOK_of (hp) hnp trivial fin) (fun x => (seg0 spec_l40Rd_num.impl spec_l40Rd_pick.impl x.1 x.2.1))
end spec_l1Number

/-! ### loop.example/wholecheck/spec.l1In -/
namespace spec_l1In
noncomputable abbrev c0 : Code := (Tryz.f107.body).getD .skip
noncomputable abbrev pin : Tpl := ⟨[⟨0, false, [.d i64]⟩, ⟨1, false, [.d i64]⟩, ⟨2, false, [.d i64]⟩], []⟩
noncomputable abbrev pout : Tpl := ⟨[⟨0, false, [.d .bool]⟩], []⟩
noncomputable abbrev PI := Int × Int × Int × Unit
noncomputable abbrev PO := Bool × Unit
noncomputable abbrev G := PI → Option PO
noncomputable abbrev rs : List ResultVar := [.tmp 6]
noncomputable def F0 (x0 : Int) (x1 : Int) (x2 : Int) : Option PO :=
  bif decide (x0 ≥ x1) then
    some (decide (x0 ≤ x2), ())
  else
    some (false, ())
noncomputable def hd {R : Type} : Hand R := handNil
noncomputable def pg : Prog PO := { nt := 15, np := 3, tb := tabOf tab, hd := hd, cuts := cutsOf [], fin := endOf (tabOf tab) rs 3 pout }
noncomputable def q : FuncId → Bool := fun f => hasId [] f
theorem seg0 (x0 : Int) (x1 : Int) (x2 : Int) : arun (pg) 5000 [.code c0] (mk pin (x0, x1, x2, ())) = F0 x0 x1 x2 := by kernel_rfl
noncomputable def impl : G := fun x => F0 x.1 x.2.1 x.2.2.1
theorem impl_eq (x0 : Int) (x1 : Int) (x2 : Int) : impl (x0, x1, x2, ()) = F0 x0 x1 x2 := rfl
theorem con : Con Tryz.prog 107 3 rs.length 3 pin pout impl := by
  refine con_of_run3 (nt := 15) (c := c0) tabGood Tryz.func107 (by kernel_rfl) (by kernel_rfl) (by kernel_rfl) (by kernel_rfl) (by kernel_rfl) (by kernel_rfl) (by kernel_rfl) ?_
  intro w0 O y Post hnp fin
  have hp : Parts Tryz.prog 107 (pg) [] := ⟨tab_ok tabGood rfl, handNil_ok, rfl⟩
  exact good_first (hp) (runOK_of (hp) hnp trivial fin) (fun x => (seg0 x.1 x.2.1 x.2.2.1))
end spec_l1In

/-! ### loop.example/wholecheck/spec.l1One -/
namespace spec_l1One
noncomputable abbrev c0 : Code := (Tryz.f56.body).getD .skip
noncomputable abbrev pin : Tpl := ⟨[⟨0, false, [.d i64]⟩], []⟩
noncomputable abbrev pout : Tpl := ⟨[⟨0, false, [.d .bool]⟩], []⟩
noncomputable abbrev PI := Int × Unit
noncomputable abbrev PO := Bool × Unit
noncomputable abbrev G := PI → Option PO
noncomputable abbrev rs : List ResultVar := [.tmp 2]
noncomputable def F0 (x0 : Int) : Option PO :=
  some (x0 == 7, ())
noncomputable def hd {R : Type} : Hand R := handNil
noncomputable def pg : Prog PO := { nt := 5, np := 1, tb := tabOf tab, hd := hd, cuts := cutsOf [], fin := endOf (tabOf tab) rs 1 pout }
noncomputable def q : FuncId → Bool := fun f => hasId [] f
theorem seg0 (x0 : Int) : arun (pg) 5000 [.code c0] (mk pin (x0, ())) = F0 x0 := by kernel_rfl
noncomputable def impl : G := fun x => F0 x.1
theorem impl_eq (x0 : Int) : impl (x0, ()) = F0 x0 := rfl
theorem con : Con Tryz.prog 56 1 rs.length 1 pin pout impl := by
  refine con_of_run3 (nt := 5) (c := c0) tabGood Tryz.func56 (by kernel_rfl) (by kernel_rfl) (by kernel_rfl) (by kernel_rfl) (by kernel_rfl) (by kernel_rfl) (by kernel_rfl) ?_
  intro w0 O y Post hnp fin
  have hp : Parts Tryz.prog 56 (pg) [] := ⟨tab_ok tabGood rfl, handNil_ok, rfl⟩
  exact good_first (hp) (runOK_of (hp) hnp trivial fin) (fun x => (seg0 x.1))
end spec_l1One

/-! ### loop.example/wholecheck/spec.l1Kind -/
namespace spec_l1Kind
noncomputable abbrev c0 : Code := (Tryz.f115.body).getD .skip
noncomputable abbrev pin : Tpl := ⟨[⟨0, true, [.d q4]⟩, ⟨1, false, [.d (.sl i64)]⟩, ⟨2, false, [.d i64]⟩], []⟩
noncomputable abbrev pout : Tpl := ⟨[⟨0, false, [.d i64]⟩], []⟩
noncomputable abbrev p3 : Tpl := ⟨[⟨1, false, [.d (.sl i64)]⟩, ⟨2, false, [.d i64]⟩, ⟨3, false, [.ptr 3000000 0]⟩], [(3000000, .box [.d i64, .d i64, .d i64, .d i64])]⟩
noncomputable def T3 : List Item := (find 3 c0 []).getD []
noncomputable abbrev p5 : Tpl := ⟨[⟨1, false, [.d (.sl i64)]⟩, ⟨3, false, [.ptr 3000000 0]⟩], [(3000000, .box [.d i64, .d i64, .d i64, .d i64])]⟩
noncomputable def T5 : List Item := (find 5 c0 []).getD []
noncomputable abbrev p7 : Tpl := ⟨[⟨1, false, [.d (.sl i64)]⟩, ⟨3, false, [.ptr 3000000 0]⟩], [(3000000, .box [.d i64, .d i64, .d i64, .d i64])]⟩
noncomputable def T7 : List Item := (find 7 c0 []).getD []
noncomputable abbrev p10 : Tpl := ⟨[⟨1, false, [.d (.sl i64)]⟩, ⟨3, false, [.ptr 3000000 0]⟩, ⟨7, false, [.d i64]⟩], [(3000000, .box [.d i64, .d i64, .d i64, .d i64])]⟩
noncomputable def T10 : List Item := (find 10 c0 []).getD []
noncomputable abbrev PI := Q4 × (List Int) × Int × Unit
noncomputable abbrev PO := Int × Unit
noncomputable abbrev G := PI → Option PO
noncomputable abbrev P3 := (List Int) × Int × Int × Int × Int × Int × Unit
noncomputable abbrev C3 := P3 → Option PO
noncomputable abbrev P5 := (List Int) × Int × Int × Int × Int × Unit
noncomputable abbrev C5 := P5 → Option PO
noncomputable abbrev P7 := (List Int) × Int × Int × Int × Int × Unit
noncomputable abbrev C7 := P7 → Option PO
noncomputable abbrev P10 := (List Int) × Int × Int × Int × Int × Int × Unit
noncomputable abbrev C10 := P10 → Option PO
noncomputable abbrev rs : List ResultVar := [.tmp 6]
noncomputable def F0 (J3 : C3) (Gspec_l1In : spec_l1In.G) (x0 : Int × Int × Int × Int) (x1 : List Int) (x2 : Int) : Option PO :=
  bif x0.1 == 0 then
    Option.bind (Gspec_l1In (x0.2.1, (-9999), 9999, ())) fun y0 =>
    bif y0.1 then
      bif x0.2.2.1 == 0 then
        bif x0.2.2.2 == 0 then
          some (1, ())
        else
          J3 (x1, x2, x0.1, x0.2.1, x0.2.2.1, x0.2.2.2, ())
      else
        J3 (x1, x2, x0.1, x0.2.1, x0.2.2.1, x0.2.2.2, ())
    else
      J3 (x1, x2, x0.1, x0.2.1, x0.2.2.1, x0.2.2.2, ())
  else
    J3 (x1, x2, x0.1, x0.2.1, x0.2.2.1, x0.2.2.2, ())
noncomputable def F3 (J5 : C5) (Gspec_l1In : spec_l1In.G) (t1 : List Int) (t2 : Int) (b0_0 : Int) (b0_1 : Int) (b0_2 : Int) (b0_3 : Int) : Option PO :=
  bif b0_0 == 1 then
    Option.bind (Gspec_l1In (b0_1, 0, wI (t2 - 1), ())) fun y1 =>
    bif y1.1 then
      bif b0_2 == 0 then
        bif b0_3 == 0 then
          some (1, ())
        else
          J5 (t1, b0_0, b0_1, b0_2, b0_3, ())
      else
        J5 (t1, b0_0, b0_1, b0_2, b0_3, ())
    else
      J5 (t1, b0_0, b0_1, b0_2, b0_3, ())
  else
    J5 (t1, b0_0, b0_1, b0_2, b0_3, ())
noncomputable def F5 (J7 : C7) (Gspec_l1In : spec_l1In.G) (t1 : List Int) (b0_0 : Int) (b0_1 : Int) (b0_2 : Int) (b0_3 : Int) : Option PO :=
  Option.bind (Gspec_l1In (b0_0, 2, 9, ())) fun y2 =>
  bif !y2.1 then
    some (0, ())
  else
    bif b0_1 != 0 then
      some (0, ())
    else
      Option.bind (Gspec_l1In (b0_2, 0, wI ((t1.length : Int) - 1), ())) fun y3 =>
      bif !y3.1 then
        some (0, ())
      else
        Option.bind (Gspec_l1In (b0_3, 0, wI ((t1.length : Int) - 1), ())) fun y4 =>
        bif !y4.1 then
          some (0, ())
        else
          J7 (t1, b0_0, b0_1, b0_2, b0_3, ())
noncomputable def F7 (J10 : C10) (t1 : List Int) (b0_0 : Int) (b0_1 : Int) (b0_2 : Int) (b0_3 : Int) : Option PO :=
  bif decide (b0_0 ≥ 7) then
    J10 (t1, 2, b0_0, b0_1, b0_2, b0_3, ())
  else
    J10 (t1, 1, b0_0, b0_1, b0_2, b0_3, ())
noncomputable def F10 (Gspec_l1One : spec_l1One.G) (t1 : List Int) (t7 : Int) (b0_0 : Int) (b0_1 : Int) (b0_2 : Int) (b0_3 : Int) : Option PO :=
  bif inb b0_2 t1.length then
    bif t1.getD b0_2.toNat 0 != t7 then
      some (0, ())
    else
      bif inb b0_3 t1.length then
        bif t1.getD b0_3.toNat 0 != t7 then
          some (0, ())
        else
          Option.bind (Gspec_l1One (b0_0, ())) fun y5 =>
          bif y5.1 then
            bif b0_3 != b0_2 then
              some (0, ())
            else
              bif decide (b0_0 ≥ 5) then
                some (2, ())
              else
                some (1, ())
          else
            bif decide (b0_0 ≥ 5) then
              some (2, ())
            else
              some (1, ())
      else
        none
  else
    none
noncomputable def hd {R : Type} (Gspec_l1In : spec_l1In.G) (Gspec_l1One : spec_l1One.G) : Hand R := (handAt 107 [14, 34, 48, 61, 70] true ⟨3, 1, 3, spec_l1In.pin, spec_l1In.pout, Gspec_l1In⟩ (handAt 56 [95] true ⟨1, 1, 1, spec_l1One.pin, spec_l1One.pout, Gspec_l1One⟩ handNil))
noncomputable def pg (Gspec_l1In : spec_l1In.G) (Gspec_l1One : spec_l1One.G) (J3 : List Item → C3) (J5 : List Item → C5) (J7 : List Item → C7) (J10 : List Item → C10) : Prog PO := { nt := 107, np := 3, tb := tabOf tab, hd := hd Gspec_l1In Gspec_l1One, cuts := cutsOf [(3, cut p3 J3), (5, cut p5 J5), (7, cut p7 J7), (10, cut p10 J10)], fin := endOf (tabOf tab) rs 3 pout }
noncomputable def q : FuncId → Bool := fun f => hasId [56, 107] f
theorem seg0 (Gspec_l1In : spec_l1In.G) (Gspec_l1One : spec_l1One.G) (J3 : List Item → C3) (J5 : List Item → C5) (J7 : List Item → C7) (J10 : List Item → C10) (x0 : Int × Int × Int × Int) (x1 : List Int) (x2 : Int) : arun (pg Gspec_l1In Gspec_l1One J3 J5 J7 J10) 5000 [.code c0] (mk pin (x0, x1, x2, ())) = F0 (J3 T3) Gspec_l1In x0 x1 x2 := by kernel_rfl
theorem seg3 (Gspec_l1In : spec_l1In.G) (Gspec_l1One : spec_l1One.G) (J3 : List Item → C3) (J5 : List Item → C5) (J7 : List Item → C7) (J10 : List Item → C10) (t1 : List Int) (t2 : Int) (b0_0 : Int) (b0_1 : Int) (b0_2 : Int) (b0_3 : Int) : arun1 (pg Gspec_l1In Gspec_l1One J3 J5 J7 J10) 5000 T3 (mk p3 (t1, t2, b0_0, b0_1, b0_2, b0_3, ())) = F3 (J5 T5) Gspec_l1In t1 t2 b0_0 b0_1 b0_2 b0_3 := by kernel_rfl
theorem seg5 (Gspec_l1In : spec_l1In.G) (Gspec_l1One : spec_l1One.G) (J3 : List Item → C3) (J5 : List Item → C5) (J7 : List Item → C7) (J10 : List Item → C10) (t1 : List Int) (b0_0 : Int) (b0_1 : Int) (b0_2 : Int) (b0_3 : Int) : arun1 (pg Gspec_l1In Gspec_l1One J3 J5 J7 J10) 5000 T5 (mk p5 (t1, b0_0, b0_1, b0_2, b0_3, ())) = F5 (J7 T7) Gspec_l1In t1 b0_0 b0_1 b0_2 b0_3 := by kernel_rfl
theorem seg7 (Gspec_l1In : spec_l1In.G) (Gspec_l1One : spec_l1One.G) (J3 : List Item → C3) (J5 : List Item → C5) (J7 : List Item → C7) (J10 : List Item → C10) (t1 : List Int) (b0_0 : Int) (b0_1 : Int) (b0_2 : Int) (b0_3 : Int) : arun1 (pg Gspec_l1In Gspec_l1One J3 J5 J7 J10) 5000 T7 (mk p7 (t1, b0_0, b0_1, b0_2, b0_3, ())) = F7 (J10 T10) t1 b0_0 b0_1 b0_2 b0_3 := by kernel_rfl
theorem seg10 (Gspec_l1In : spec_l1In.G) (Gspec_l1One : spec_l1One.G) (J3 : List Item → C3) (J5 : List Item → C5) (J7 : List Item → C7) (J10 : List Item → C10) (t1 : List Int) (t7 : Int) (b0_0 : Int) (b0_1 : Int) (b0_2 : Int) (b0_3 : Int) : arun1 (pg Gspec_l1In Gspec_l1One J3 J5 J7 J10) 5000 T10 (mk p10 (t1, t7, b0_0, b0_1, b0_2, b0_3, ())) = F10 Gspec_l1One t1 t7 b0_0 b0_1 b0_2 b0_3 := by kernel_rfl
noncomputable def L10 : C10 := fun x => F10 spec_l1One.impl x.1 x.2.1 x.2.2.1 x.2.2.2.1 x.2.2.2.2.1 x.2.2.2.2.2.1
noncomputable def L7 : C7 := fun x => F7 L10 x.1 x.2.1 x.2.2.1 x.2.2.2.1 x.2.2.2.2.1
noncomputable def L5 : C5 := fun x => F5 L7 spec_l1In.impl x.1 x.2.1 x.2.2.1 x.2.2.2.1 x.2.2.2.2.1
noncomputable def L3 : C3 := fun x => F3 L5 spec_l1In.impl x.1 x.2.1 x.2.2.1 x.2.2.2.1 x.2.2.2.2.1 x.2.2.2.2.2.1
noncomputable def impl : G := fun x => F0 L3 spec_l1In.impl x.1 x.2.1 x.2.2.1
theorem L10_eq (t1 : List Int) (t7 : Int) (b0_0 : Int) (b0_1 : Int) (b0_2 : Int) (b0_3 : Int) : L10 (t1, t7, b0_0, b0_1, b0_2, b0_3, ()) = F10 spec_l1One.impl t1 t7 b0_0 b0_1 b0_2 b0_3 := rfl
theorem L7_eq (t1 : List Int) (b0_0 : Int) (b0_1 : Int) (b0_2 : Int) (b0_3 : Int) : L7 (t1, b0_0, b0_1, b0_2, b0_3, ()) = F7 (L10) t1 b0_0 b0_1 b0_2 b0_3 := rfl
theorem L5_eq (t1 : List Int) (b0_0 : Int) (b0_1 : Int) (b0_2 : Int) (b0_3 : Int) : L5 (t1, b0_0, b0_1, b0_2, b0_3, ()) = F5 (L7) spec_l1In.impl t1 b0_0 b0_1 b0_2 b0_3 := rfl
theorem L3_eq (t1 : List Int) (t2 : Int) (b0_0 : Int) (b0_1 : Int) (b0_2 : Int) (b0_3 : Int) : L3 (t1, t2, b0_0, b0_1, b0_2, b0_3, ()) = F3 (L5) spec_l1In.impl t1 t2 b0_0 b0_1 b0_2 b0_3 := rfl
theorem impl_eq (x0 : Int × Int × Int × Int) (x1 : List Int) (x2 : Int) : impl (x0, x1, x2, ()) = F0 L3 spec_l1In.impl x0 x1 x2 := rfl
theorem con : Con Tryz.prog 115 3 rs.length 3 pin pout impl := by
  refine con_of_run3 (nt := 107) (c := c0) tabGood Tryz.func115 (by kernel_rfl) (by kernel_rfl) (by kernel_rfl) (by kernel_rfl) (by kernel_rfl) (by kernel_rfl) (by kernel_rfl) ?_
  intro w0 O y Post hnp fin
  have hp : ∀ (J3 : List Item → C3), ∀ (J5 : List Item → C5), ∀ (J7 : List Item → C7), ∀ (J10 : List Item → C10), Parts Tryz.prog 115 (pg spec_l1In.impl spec_l1One.impl J3 J5 J7 J10) [(3, cut p3 J3), (5, cut p5 J5), (7, cut p7 J7), (10, cut p10 J10)] := fun J3 J5 J7 J10 => ⟨tab_ok tabGood rfl, (handAt_ok spec_l1In.con (handAt_ok spec_l1One.con handNil_ok)), rfl⟩
  have g10 : Good Tryz.prog 107 w0 O Post y T10 p10 L10 := good_part (hp (atT T3 (fun _ => none)) (atT T5 (fun _ => none)) (atT T7 (fun _ => none)) (atT T10 (fun _ => none))) (runOK_of (hp (atT T3 (fun _ => none)) (atT T5 (fun _ => none)) (atT T7 (fun _ => none)) (atT T10 (fun _ => none))) hnp ⟨cutOK_at (p := p3) (T := T3) (J := fun _ => none) good_none, cutOK_at (p := p5) (T := T5) (J := fun _ => none) good_none, cutOK_at (p := p7) (T := T7) (J := fun _ => none) good_none, cutOK_at (p := p10) (T := T10) (J := fun _ => none) good_none, trivial⟩ fin) (fun x => (seg10 spec_l1In.impl spec_l1One.impl (atT T3 (fun _ => none)) (atT T5 (fun _ => none)) (atT T7 (fun _ => none)) (atT T10 (fun _ => none)) x.1 x.2.1 x.2.2.1 x.2.2.2.1 x.2.2.2.2.1 x.2.2.2.2.2.1))
  have g7 : Good Tryz.prog 107 w0 O Post y T7 p7 L7 := good_part (hp (atT T3 (fun _ => none)) (atT T5 (fun _ => none)) (atT T7 (fun _ => none)) (atT T10 L10)) (runOK_of (hp (atT T3 (fun _ => none)) (atT T5 (fun _ => none)) (atT T7 (fun _ => none)) (atT T10 L10)) hnp ⟨cutOK_at (p := p3) (T := T3) (J := fun _ => none) good_none, cutOK_at (p := p5) (T := T5) (J := fun _ => none) good_none, cutOK_at (p := p7) (T := T7) (J := fun _ => none) good_none, cutOK_at g10, trivial⟩ fin) (fun x => (seg7 spec_l1In.impl spec_l1One.impl (atT T3 (fun _ => none)) (atT T5 (fun _ => none)) (atT T7 (fun _ => none)) (atT T10 L10) x.1 x.2.1 x.2.2.1 x.2.2.2.1 x.2.2.2.2.1).trans (by simp only [atT_self] <;> rfl))
  have g5 : Good Tryz.prog 107 w0 O Post y T5 p5 L5 := good_part (hp (atT T3 (fun _ => none)) (atT T5 (fun _ => none)) (atT T7 L7) (atT T10 (fun _ => none))) (runOK_of (hp (atT T3 (fun _ => none)) (atT T5 (fun _ => none)) (atT T7 L7) (atT T10 (fun _ => none))) hnp ⟨cutOK_at (p := p3) (T := T3) (J := fun _ => none) good_none, cutOK_at (p := p5) (T := T5) (J := fun _ => none) good_none, cutOK_at g7, cutOK_at (p := p10) (T := T10) (J := fun _ => none) good_none, trivial⟩ fin) (fun x => (seg5 spec_l1In.impl spec_l1One.impl (atT T3 (fun _ => none)) (atT T5 (fun _ => none)) (atT T7 L7) (atT T10 (fun _ => none)) x.1 x.2.1 x.2.2.1 x.2.2.2.1 x.2.2.2.2.1).trans (by simp only [atT_self] <;> rfl))
  have g3 : Good Tryz.prog 107 w0 O Post y T3 p3 L3 := good_part (hp (atT T3 (fun _ => none)) (atT T5 L5) (atT T7 (fun _ => none)) (atT T10 (fun _ => none))) (runOK_of (hp (atT T3 (fun _ => none)) (atT T5 L5) (atT T7 (fun _ => none)) (atT T10 (fun _ => none))) hnp ⟨cutOK_at (p := p3) (T := T3) (J := fun _ => none) good_none, cutOK_at g5, cutOK_at (p := p7) (T := T7) (J := fun _ => none) good_none, cutOK_at (p := p10) (T := T10) (J := fun _ => none) good_none, trivial⟩ fin) (fun x => (seg3 spec_l1In.impl spec_l1One.impl (atT T3 (fun _ => none)) (atT T5 L5) (atT T7 (fun _ => none)) (atT T10 (fun _ => none)) x.1 x.2.1 x.2.2.1 x.2.2.2.1 x.2.2.2.2.1 x.2.2.2.2.2.1).trans (by simp only [atT_self] <;> rfl))
  exact good_first (hp (atT T3 L3) (atT T5 (fun _ => none)) (atT T7 (fun _ => none)) (atT T10 (fun _ => none))) (runOK_of (hp (atT T3 L3) (atT T5 (fun _ => none)) (atT T7 (fun _ => none)) (atT T10 (fun _ => none))) hnp ⟨cutOK_at g3, cutOK_at (p := p5) (T := T5) (J := fun _ => none) good_none, cutOK_at (p := p7) (T := T7) (J := fun _ => none) good_none, cutOK_at (p := p10) (T := T10) (J := fun _ => none) good_none, trivial⟩ fin) (fun x => (seg0 spec_l1In.impl spec_l1One.impl (atT T3 L3) (atT T5 (fun _ => none)) (atT T7 (fun _ => none)) (atT T10 (fun _ => none)) x.1 x.2.1 x.2.2.1).trans (by simp only [atT_self] <;> rfl))
end spec_l1Kind

/-! ### loop.example/wholecheck/spec.l1Pick -/
namespace spec_l1Pick
noncomputable abbrev c0 : Code := (Tryz.f114.body).getD .skip
noncomputable abbrev pin : Tpl := ⟨[⟨0, false, [.ptr 500001 0]⟩, ⟨1, false, [.row 500002]⟩, ⟨2, false, [.d i64]⟩], [(500001, .box [.d (.sl (.int .u8)), .d i64]), (500002, .row 3 false i64)]⟩
noncomputable abbrev pout : Tpl := ⟨[⟨0, false, [.d i64]⟩, ⟨1, false, [.ptr 500001 0]⟩, ⟨2, false, [.row 500002]⟩], [(500001, .box [.d (.sl (.int .u8)), .d i64]), (500002, .row 3 false i64)]⟩
noncomputable abbrev p3 : Tpl := ⟨[⟨0, false, [.ptr 500001 0]⟩, ⟨1, false, [.row 500002]⟩, ⟨2, false, [.d i64]⟩, ⟨7, false, [.d i64]⟩, ⟨8, false, [.d i64]⟩], [(500001, .box [.d (.sl (.int .u8)), .d i64]), (500002, .row 3 false i64)]⟩
noncomputable def T3 : List Item := (find 3 c0 []).getD []
noncomputable abbrev PI := Int × (List Int) × Int × (List Int) × Unit
noncomputable abbrev PO := Int × (List Int) × Int × (List Int) × Unit
noncomputable abbrev G := PI → Option PO
noncomputable abbrev P3 := Int × Int × Int × (List Int) × Int × (List Int) × Unit
noncomputable abbrev C3 := P3 → Option PO
noncomputable abbrev rs : List ResultVar := [.tmp 6]
noncomputable def F0 (J3 : C3) (Gspec_l40Rd_pick : spec_l40Rd_pick.G) (x2 : Int) (c1_0 : List Int) (c1_1 : Int) (s2 : List Int) : Option PO :=
  Option.bind (Gspec_l40Rd_pick ((s2.length : Int), c1_0, c1_1, ())) fun y0 =>
  J3 (x2, y0.1, 0, y0.2.1, y0.2.2.1, s2, ())
noncomputable def F3 (J3 : C3) (t2 : Int) (t7 : Int) (t8 : Int) (c1_0 : List Int) (c1_1 : Int) (s2 : List Int) : Option PO :=
  bif decide (t8 < (s2.length : Int)) then
    bif decide ((s2.length : Int) = 0) then
      none
    else
      bif inb (Int.tmod (wI (t7 + t8)) (s2.length : Int)) s2.length then
        bif s2.getD (Int.tmod (wI (t7 + t8)) (s2.length : Int)).toNat 0 == t2 then
          some (Int.tmod (wI (t7 + t8)) (s2.length : Int), c1_0, c1_1, s2, ())
        else
          J3 (t2, t7, wI (t8 + 1), c1_0, c1_1, s2, ())
      else
        none
  else
    some ((-1), c1_0, c1_1, s2, ())
noncomputable def hd {R : Type} (Gspec_l40Rd_pick : spec_l40Rd_pick.G) : Hand R := (handAt 53 [13] false ⟨2, 1, 2, spec_l40Rd_pick.pin, spec_l40Rd_pick.pout, Gspec_l40Rd_pick⟩ handNil)
noncomputable def pg (Gspec_l40Rd_pick : spec_l40Rd_pick.G) (J3 : List Item → C3) : Prog PO := { nt := 33, np := 3, tb := tabOf tab, hd := hd Gspec_l40Rd_pick, cuts := cutsOf [(3, cut p3 J3)], fin := endOf (tabOf tab) rs 3 pout }
noncomputable def q : FuncId → Bool := fun f => hasId [] f
theorem seg0 (Gspec_l40Rd_pick : spec_l40Rd_pick.G) (J3 : List Item → C3) (x2 : Int) (c1_0 : List Int) (c1_1 : Int) (s2 : List Int) : arun (pg Gspec_l40Rd_pick J3) 5000 [.code c0] (mk pin (x2, c1_0, c1_1, s2, ())) = F0 (J3 T3) Gspec_l40Rd_pick x2 c1_0 c1_1 s2 := by kernel_rfl
theorem seg3 (Gspec_l40Rd_pick : spec_l40Rd_pick.G) (J3 : List Item → C3) (t2 : Int) (t7 : Int) (t8 : Int) (c1_0 : List Int) (c1_1 : Int) (s2 : List Int) : arun1 (pg Gspec_l40Rd_pick J3) 5000 T3 (mk p3 (t2, t7, t8, c1_0, c1_1, s2, ())) = F3 (J3 T3) t2 t7 t8 c1_0 c1_1 s2 := by kernel_rfl
noncomputable def L3 : C3 := lfp fun J3 x => F3 J3 x.1 x.2.1 x.2.2.1 x.2.2.2.1 x.2.2.2.2.1 x.2.2.2.2.2.1
noncomputable def impl : G := fun x => F0 L3 spec_l40Rd_pick.impl x.1 x.2.1 x.2.2.1 x.2.2.2.1
theorem F3_le {J3 J3' : C3} (h3 : OLe J3 J3') (t2 : Int) (t7 : Int) (t8 : Int) (c1_0 : List Int) (c1_1 : Int) (s2 : List Int) : OptLe (F3 J3 t2 t7 t8 c1_0 c1_1 s2) (F3 J3' t2 t7 t8 c1_0 c1_1 s2) := by unfold F3; exact .cond (.cond (.refl _) (.cond (.cond (.refl _) (.of h3 _)) (.refl _))) (.refl _)
theorem L3_mono : OMono fun J3 (x : P3) => F3 J3 x.1 x.2.1 x.2.2.1 x.2.2.2.1 x.2.2.2.2.1 x.2.2.2.2.2.1 := fun J J' h3 x => F3_le h3 x.1 x.2.1 x.2.2.1 x.2.2.2.1 x.2.2.2.2.1 x.2.2.2.2.2.1
theorem L3_eq (t2 : Int) (t7 : Int) (t8 : Int) (c1_0 : List Int) (c1_1 : Int) (s2 : List Int) : L3 (t2, t7, t8, c1_0, c1_1, s2, ()) = F3 (L3) t2 t7 t8 c1_0 c1_1 s2 := congrFun (lfp_eq (L3_mono)) _
theorem impl_eq (x2 : Int) (c1_0 : List Int) (c1_1 : Int) (s2 : List Int) : impl (x2, c1_0, c1_1, s2, ()) = F0 L3 spec_l40Rd_pick.impl x2 c1_0 c1_1 s2 := rfl
theorem con : Con Tryz.prog 114 3 rs.length 3 pin pout impl := by
  refine con_of_run3 (nt := 33) (c := c0) tabGood Tryz.func114 (by kernel_rfl) (by kernel_rfl) (by kernel_rfl) (by kernel_rfl) (by kernel_rfl) (by kernel_rfl) (by kernel_rfl) ?_
  intro w0 O y Post hnp fin
  have hp : ∀ (J3 : List Item → C3), Parts Tryz.prog 114 (pg spec_l40Rd_pick.impl J3) [(3, cut p3 J3)] := fun J3 => ⟨tab_ok tabGood rfl, (handAt_ok spec_l40Rd_pick.con handNil_ok), rfl⟩
  have g3 : Good Tryz.prog 33 w0 O Post y T3 p3 L3 := good_lfp fun J3 h3 => good_part (hp (atT T3 J3)) (runOK_of (hp (atT T3 J3)) hnp ⟨cutOK_at h3, trivial⟩ fin) (fun x => (seg3 spec_l40Rd_pick.impl (atT T3 J3) x.1 x.2.1 x.2.2.1 x.2.2.2.1 x.2.2.2.2.1 x.2.2.2.2.2.1).trans (by simp only [atT_self] <;> rfl))
  exact good_first (hp (atT T3 L3)) (runOK_of (hp (atT T3 L3)) hnp ⟨cutOK_at g3, trivial⟩ fin) (fun x => (seg0 spec_l40Rd_pick.impl (atT T3 L3) x.1 x.2.1 x.2.2.1 x.2.2.2.1).trans (by simp only [atT_self] <;> rfl))
end spec_l1Pick

/-! ### loop.example/wholecheck/spec.l1Terms -/
namespace spec_l1Terms
noncomputable abbrev c0 : Code := (Tryz.f68.body).getD .skip
noncomputable abbrev pin : Tpl := ⟨[⟨0, false, [.ptr 500001 0]⟩, ⟨1, false, [.d i64]⟩, ⟨2, false, [.d i64]⟩, ⟨3, false, [.d i64]⟩], [(500001, .box [.d (.sl (.int .u8)), .d i64])]⟩
noncomputable abbrev pout : Tpl := ⟨[⟨0, false, [.row 600001]⟩, ⟨1, false, [.ptr 500001 0]⟩], [(600001, .row 52 false q4), (500001, .box [.d (.sl (.int .u8)), .d i64])]⟩
noncomputable abbrev p4 : Tpl := ⟨[⟨0, false, [.ptr 500001 0]⟩, ⟨1, false, [.d i64]⟩, ⟨2, false, [.d i64]⟩, ⟨9, false, [.row 3000000]⟩, ⟨10, false, [.row 3000001]⟩, ⟨11, false, [.d i64]⟩], [(500001, .box [.d (.sl (.int .u8)), .d i64]), (3000000, .row 52 false q4), (3000001, .row 3 false i64)]⟩
noncomputable def T4 : List Item := (find 4 c0 []).getD []
noncomputable abbrev p15 : Tpl := ⟨[⟨0, false, [.ptr 500001 0]⟩, ⟨1, false, [.d i64]⟩, ⟨2, false, [.d i64]⟩, ⟨9, false, [.row 3000000]⟩, ⟨10, false, [.row 3000001]⟩, ⟨11, false, [.d i64]⟩, ⟨12, false, [.d i64]⟩, ⟨13, false, [.ptr 3000002 0]⟩, ⟨14, false, [.d i64]⟩], [(500001, .box [.d (.sl (.int .u8)), .d i64]), (3000000, .row 52 false q4), (3000001, .row 3 false i64), (3000002, .box [.d i64, .d i64, .d i64, .d i64])]⟩
noncomputable def T15 : List Item := (find 15 c0 []).getD []
noncomputable abbrev p19 : Tpl := ⟨[⟨0, false, [.ptr 500001 0]⟩, ⟨1, false, [.d i64]⟩, ⟨2, false, [.d i64]⟩, ⟨9, false, [.row 3000000]⟩, ⟨10, false, [.row 3000001]⟩, ⟨11, false, [.d i64]⟩, ⟨13, false, [.ptr 3000002 0]⟩], [(500001, .box [.d (.sl (.int .u8)), .d i64]), (3000000, .row 52 false q4), (3000001, .row 3 false i64), (3000002, .box [.d i64, .d i64, .d i64, .d i64])]⟩
noncomputable def T19 : List Item := (find 19 c0 []).getD []
noncomputable abbrev p26 : Tpl := ⟨[⟨0, false, [.ptr 500001 0]⟩, ⟨2, false, [.d i64]⟩, ⟨9, false, [.row 3000000]⟩, ⟨10, false, [.row 3000001]⟩], [(500001, .box [.d (.sl (.int .u8)), .d i64]), (3000000, .row 52 false q4), (3000001, .row 3 false i64)]⟩
noncomputable def T26 : List Item := (find 26 c0 []).getD []
noncomputable abbrev PI := Int × Int × Int × (List Int) × Int × Unit
noncomputable abbrev PO := (List Q4) × (List Int) × Int × Unit
noncomputable abbrev G := PI → Option PO
noncomputable abbrev P4 := Int × Int × Int × (List Int) × Int × (List Q4) × (List Int) × Unit
noncomputable abbrev C4 := P4 → Option PO
noncomputable abbrev P15 := Int × Int × Int × Int × Int × (List Int) × Int × (List Q4) × (List Int) × Int × Int × Int × Int × Unit
noncomputable abbrev C15 := P15 → Option PO
noncomputable abbrev P19 := Int × Int × Int × (List Int) × Int × (List Q4) × (List Int) × Int × Int × Int × Int × Unit
noncomputable abbrev C19 := P19 → Option PO
noncomputable abbrev P26 := Int × (List Int) × Int × (List Q4) × (List Int) × Unit
noncomputable abbrev C26 := P26 → Option PO
noncomputable abbrev rs : List ResultVar := [.tmp 8]
noncomputable def F0 (J4 : C4) (Gspec_l40Rd_pick : spec_l40Rd_pick.G) (x1 : Int) (x2 : Int) (x3 : Int) (c1_0 : List Int) (c1_1 : Int) : Option PO :=
  Option.bind (Gspec_l40Rd_pick (x3, c1_0, c1_1, ())) fun y0 =>
  J4 (x1, x2, wI (2 + y0.1), y0.2.1, y0.2.2.1, ([] : List Q4), ([] : List Int), ())
noncomputable def F4 (J15 : C15) (J19 : C19) (J26 : C26) (Gspec_l1Number : spec_l1Number.G) (Gspec_l40Rd_num : spec_l40Rd_num.G) (Gspec_l40Rd_pick : spec_l40Rd_pick.G) (t1 : Int) (t2 : Int) (t11 : Int) (c1_0 : List Int) (c1_1 : Int) (r0 : List Q4) (r1 : List Int) : Option PO :=
  bif decide (t11 > 0) then
    Option.bind (Gspec_l40Rd_num (([0, 1, 1, 2, 3, 4, 5, 6, 5, 6, 7, 8, 9] : List Int), c1_0, c1_1, ())) fun y1 =>
    bif (r0.length : Int) == 0 then
      Option.bind (Gspec_l1Number (y1.2.1, y1.2.2.1, ())) fun y2 =>
      bif decide (t1 > 0) then
        bif y1.1 != 0 then
          Option.bind (Gspec_l40Rd_pick (t1, y2.2.1, y2.2.2.1, ())) fun y3 =>
          J19 (t1, t2, t11, y3.2.1, y3.2.2.1, r0, r1, 1, y3.1, 0, 0, ())
        else
          J19 (t1, t2, t11, y2.2.1, y2.2.2.1, r0, r1, 0, y2.1, 0, 0, ())
      else
        J19 (t1, t2, t11, y2.2.1, y2.2.2.1, r0, r1, 0, y2.1, 0, 0, ())
    else
      bif decide (y1.1 < 2) then
        Option.bind (Gspec_l1Number (y1.2.1, y1.2.2.1, ())) fun y4 =>
        bif decide (t1 > 0) then
          bif y1.1 != 0 then
            Option.bind (Gspec_l40Rd_pick (t1, y4.2.1, y4.2.2.1, ())) fun y5 =>
            J19 (t1, t2, t11, y5.2.1, y5.2.2.1, r0, r1, 1, y5.1, 0, 0, ())
          else
            J19 (t1, t2, t11, y4.2.1, y4.2.2.1, r0, r1, 0, y4.1, 0, 0, ())
        else
          J19 (t1, t2, t11, y4.2.1, y4.2.2.1, r0, r1, 0, y4.1, 0, 0, ())
      else
        bif decide (y1.1 ≥ 7) then
          J15 (t1, t2, t11, y1.1, 2, y1.2.1, y1.2.2.1, r0, r1, y1.1, 0, 0, 0, ())
        else
          J15 (t1, t2, t11, y1.1, 1, y1.2.1, y1.2.2.1, r0, r1, y1.1, 0, 0, 0, ())
  else
    bif (r0.length : Int) == 0 then
      bif decide ((r0.length + ([(0, 1, 0, 0)] : List Q4).length) * 32 ≤ 140737488355328) then
        bif decide ((r1.length + ([1] : List Int).length) * 8 ≤ 140737488355328) then
          J26 (t2, c1_0, c1_1, r0 ++ ([(0, 1, 0, 0)] : List Q4), r1 ++ ([1] : List Int), ())
        else
          none
      else
        none
    else
      J26 (t2, c1_0, c1_1, r0, r1, ())
noncomputable def F15 (J19 : C19) (Gspec_l1One : spec_l1One.G) (Gspec_l1Pick : spec_l1Pick.G) (t1 : Int) (t2 : Int) (t11 : Int) (t12 : Int) (t14 : Int) (c1_0 : List Int) (c1_1 : Int) (r0 : List Q4) (r1 : List Int) (b2_0 : Int) (b2_1 : Int) (b2_2 : Int) (b2_3 : Int) : Option PO :=
  Option.bind (Gspec_l1Pick (t14, c1_0, c1_1, r1, ())) fun y6 =>
  Option.bind (Gspec_l1Pick (t14, y6.2.1, y6.2.2.1, y6.2.2.2.1, ())) fun y7 =>
  Option.bind (Gspec_l1One (t12, ())) fun y8 =>
  bif y8.1 then
    J19 (t1, t2, t11, y7.2.1, y7.2.2.1, r0, y7.2.2.2.1, b2_0, b2_1, y6.1, y6.1, ())
  else
    J19 (t1, t2, t11, y7.2.1, y7.2.2.1, r0, y7.2.2.2.1, b2_0, b2_1, y6.1, y7.1, ())
noncomputable def F19 (J4 : C4) (Gspec_l1Kind : spec_l1Kind.G) (t1 : Int) (t2 : Int) (t11 : Int) (c1_0 : List Int) (c1_1 : Int) (r0 : List Q4) (r1 : List Int) (b2_0 : Int) (b2_1 : Int) (b2_2 : Int) (b2_3 : Int) : Option PO :=
  Option.bind (Gspec_l1Kind ((b2_0, b2_1, b2_2, b2_3), r1, t1, ())) fun y9 =>
  bif y9.1 != 0 then
    bif decide ((r0.length + ([(b2_0, b2_1, b2_2, b2_3)] : List Q4).length) * 32 ≤ 140737488355328) then
      bif decide ((r1.length + ([y9.1] : List Int).length) * 8 ≤ 140737488355328) then
        J4 (t1, t2, wI (t11 - 1), c1_0, c1_1, r0 ++ ([(b2_0, b2_1, b2_2, b2_3)] : List Q4), r1 ++ ([y9.1] : List Int), ())
      else
        none
    else
      none
  else
    J4 (t1, t2, wI (t11 - 1), c1_0, c1_1, r0, r1, ())
noncomputable def F26 (Gspec_l1Pick : spec_l1Pick.G) (Gspec_l40Rd_num : spec_l40Rd_num.G) (t2 : Int) (c1_0 : List Int) (c1_1 : Int) (r0 : List Q4) (r1 : List Int) : Option PO :=
  bif t2 == 2 then
    bif inb (wI ((r0.length : Int) - 1)) r1.length then
      bif r1.getD (wI ((r0.length : Int) - 1)).toNat 0 != t2 then
        Option.bind (Gspec_l40Rd_num (([5, 6] : List Int), c1_0, c1_1, ())) fun y10 =>
        Option.bind (Gspec_l1Pick (1, y10.2.1, y10.2.2.1, r1, ())) fun y11 =>
        bif decide ((r0.length + ([(y10.1, 0, wI ((r0.length : Int) - 1), y11.1)] : List Q4).length) * 32 ≤ 140737488355328) then
          some (r0 ++ ([(y10.1, 0, wI ((r0.length : Int) - 1), y11.1)] : List Q4), y11.2.1, y11.2.2.1, ())
        else
          none
      else
        bif t2 == 1 then
          bif inb (wI ((r0.length : Int) - 1)) r1.length then
            bif r1.getD (wI ((r0.length : Int) - 1)).toNat 0 != t2 then
              Option.bind (Gspec_l1Pick (1, c1_0, c1_1, r1, ())) fun y12 =>
              Option.bind (Gspec_l40Rd_num (([2, 3] : List Int), y12.2.1, y12.2.2.1, ())) fun y13 =>
              Option.bind (Gspec_l1Pick (1, y13.2.1, y13.2.2.1, y12.2.2.2.1, ())) fun y14 =>
              bif decide ((r0.length + ([(y13.1, 0, y12.1, y14.1)] : List Q4).length) * 32 ≤ 140737488355328) then
                some (r0 ++ ([(y13.1, 0, y12.1, y14.1)] : List Q4), y14.2.1, y14.2.2.1, ())
              else
                none
            else
              some (r0, c1_0, c1_1, ())
          else
            none
        else
          some (r0, c1_0, c1_1, ())
    else
      none
  else
    bif t2 == 1 then
      bif inb (wI ((r0.length : Int) - 1)) r1.length then
        bif r1.getD (wI ((r0.length : Int) - 1)).toNat 0 != t2 then
          Option.bind (Gspec_l1Pick (1, c1_0, c1_1, r1, ())) fun y15 =>
          Option.bind (Gspec_l40Rd_num (([2, 3] : List Int), y15.2.1, y15.2.2.1, ())) fun y16 =>
          Option.bind (Gspec_l1Pick (1, y16.2.1, y16.2.2.1, y15.2.2.2.1, ())) fun y17 =>
          bif decide ((r0.length + ([(y16.1, 0, y15.1, y17.1)] : List Q4).length) * 32 ≤ 140737488355328) then
            some (r0 ++ ([(y16.1, 0, y15.1, y17.1)] : List Q4), y17.2.1, y17.2.2.1, ())
          else
            none
        else
          some (r0, c1_0, c1_1, ())
      else
        none
    else
      some (r0, c1_0, c1_1, ())
noncomputable def hd {R : Type} (Gspec_l1Kind : spec_l1Kind.G) (Gspec_l1Number : spec_l1Number.G) (Gspec_l1One : spec_l1One.G) (Gspec_l1Pick : spec_l1Pick.G) (Gspec_l40Rd_num : spec_l40Rd_num.G) (Gspec_l40Rd_pick : spec_l40Rd_pick.G) : Hand R := (handAt 115 [73] true ⟨3, 1, 3, spec_l1Kind.pin, spec_l1Kind.pout, Gspec_l1Kind⟩ (handAt 114 [58, 63, 114, 130, 138] false ⟨3, 1, 3, spec_l1Pick.pin, spec_l1Pick.pout, Gspec_l1Pick⟩ (handAt 113 [41] false ⟨1, 1, 1, spec_l1Number.pin, spec_l1Number.pout, Gspec_l1Number⟩ (handAt 73 [30, 110, 134] false ⟨2, 1, 2, spec_l40Rd_num.pin, spec_l40Rd_num.pout, Gspec_l40Rd_num⟩ (handAt 56 [66] true ⟨1, 1, 1, spec_l1One.pin, spec_l1One.pout, Gspec_l1One⟩ (handAt 53 [22, 51] false ⟨2, 1, 2, spec_l40Rd_pick.pin, spec_l40Rd_pick.pout, Gspec_l40Rd_pick⟩ handNil))))))
noncomputable def pg (Gspec_l1Kind : spec_l1Kind.G) (Gspec_l1Number : spec_l1Number.G) (Gspec_l1One : spec_l1One.G) (Gspec_l1Pick : spec_l1Pick.G) (Gspec_l40Rd_num : spec_l40Rd_num.G) (Gspec_l40Rd_pick : spec_l40Rd_pick.G) (J4 : List Item → C4) (J15 : List Item → C15) (J19 : List Item → C19) (J26 : List Item → C26) : Prog PO := { nt := 143, np := 4, tb := tabOf tab, hd := hd Gspec_l1Kind Gspec_l1Number Gspec_l1One Gspec_l1Pick Gspec_l40Rd_num Gspec_l40Rd_pick, cuts := cutsOf [(4, cut p4 J4), (15, cut p15 J15), (19, cut p19 J19), (26, cut p26 J26)], fin := endOf (tabOf tab) rs 4 pout }
noncomputable def q : FuncId → Bool := fun f => hasId [56, 115] f
theorem seg0 (Gspec_l1Kind : spec_l1Kind.G) (Gspec_l1Number : spec_l1Number.G) (Gspec_l1One : spec_l1One.G) (Gspec_l1Pick : spec_l1Pick.G) (Gspec_l40Rd_num : spec_l40Rd_num.G) (Gspec_l40Rd_pick : spec_l40Rd_pick.G) (J4 : List Item → C4) (J15 : List Item → C15) (J19 : List Item → C19) (J26 : List Item → C26) (x1 : Int) (x2 : Int) (x3 : Int) (c1_0 : List Int) (c1_1 : Int) : arun (pg Gspec_l1Kind Gspec_l1Number Gspec_l1One Gspec_l1Pick Gspec_l40Rd_num Gspec_l40Rd_pick J4 J15 J19 J26) 5000 [.code c0] (mk pin (x1, x2, x3, c1_0, c1_1, ())) = F0 (J4 T4) Gspec_l40Rd_pick x1 x2 x3 c1_0 c1_1 := by kernel_rfl
theorem seg4 (Gspec_l1Kind : spec_l1Kind.G) (Gspec_l1Number : spec_l1Number.G) (Gspec_l1One : spec_l1One.G) (Gspec_l1Pick : spec_l1Pick.G) (Gspec_l40Rd_num : spec_l40Rd_num.G) (Gspec_l40Rd_pick : spec_l40Rd_pick.G) (J4 : List Item → C4) (J15 : List Item → C15) (J19 : List Item → C19) (J26 : List Item → C26) (t1 : Int) (t2 : Int) (t11 : Int) (c1_0 : List Int) (c1_1 : Int) (r0 : List Q4) (r1 : List Int) : arun1 (pg Gspec_l1Kind Gspec_l1Number Gspec_l1One Gspec_l1Pick Gspec_l40Rd_num Gspec_l40Rd_pick J4 J15 J19 J26) 5000 T4 (mk p4 (t1, t2, t11, c1_0, c1_1, r0, r1, ())) = F4 (J15 T15) (J19 T19) (J26 T26) Gspec_l1Number Gspec_l40Rd_num Gspec_l40Rd_pick t1 t2 t11 c1_0 c1_1 r0 r1 := by kernel_rfl
theorem seg15 (Gspec_l1Kind : spec_l1Kind.G) (Gspec_l1Number : spec_l1Number.G) (Gspec_l1One : spec_l1One.G) (Gspec_l1Pick : spec_l1Pick.G) (Gspec_l40Rd_num : spec_l40Rd_num.G) (Gspec_l40Rd_pick : spec_l40Rd_pick.G) (J4 : List Item → C4) (J15 : List Item → C15) (J19 : List Item → C19) (J26 : List Item → C26) (t1 : Int) (t2 : Int) (t11 : Int) (t12 : Int) (t14 : Int) (c1_0 : List Int) (c1_1 : Int) (r0 : List Q4) (r1 : List Int) (b2_0 : Int) (b2_1 : Int) (b2_2 : Int) (b2_3 : Int) : arun1 (pg Gspec_l1Kind Gspec_l1Number Gspec_l1One Gspec_l1Pick Gspec_l40Rd_num Gspec_l40Rd_pick J4 J15 J19 J26) 5000 T15 (mk p15 (t1, t2, t11, t12, t14, c1_0, c1_1, r0, r1, b2_0, b2_1, b2_2, b2_3, ())) = F15 (J19 T19) Gspec_l1One Gspec_l1Pick t1 t2 t11 t12 t14 c1_0 c1_1 r0 r1 b2_0 b2_1 b2_2 b2_3 := by kernel_rfl
theorem seg19 (Gspec_l1Kind : spec_l1Kind.G) (Gspec_l1Number : spec_l1Number.G) (Gspec_l1One : spec_l1One.G) (Gspec_l1Pick : spec_l1Pick.G) (Gspec_l40Rd_num : spec_l40Rd_num.G) (Gspec_l40Rd_pick : spec_l40Rd_pick.G) (J4 : List Item → C4) (J15 : List Item → C15) (J19 : List Item → C19) (J26 : List Item → C26) (t1 : Int) (t2 : Int) (t11 : Int) (c1_0 : List Int) (c1_1 : Int) (r0 : List Q4) (r1 : List Int) (b2_0 : Int) (b2_1 : Int) (b2_2 : Int) (b2_3 : Int) : arun1 (pg Gspec_l1Kind Gspec_l1Number Gspec_l1One Gspec_l1Pick Gspec_l40Rd_num Gspec_l40Rd_pick J4 J15 J19 J26) 5000 T19 (mk p19 (t1, t2, t11, c1_0, c1_1, r0, r1, b2_0, b2_1, b2_2, b2_3, ())) = F19 (J4 T4) Gspec_l1Kind t1 t2 t11 c1_0 c1_1 r0 r1 b2_0 b2_1 b2_2 b2_3 := by kernel_rfl
theorem seg26 (Gspec_l1Kind : spec_l1Kind.G) (Gspec_l1Number : spec_l1Number.G) (Gspec_l1One : spec_l1One.G) (Gspec_l1Pick : spec_l1Pick.G) (Gspec_l40Rd_num : spec_l40Rd_num.G) (Gspec_l40Rd_pick : spec_l40Rd_pick.G) (J4 : List Item → C4) (J15 : List Item → C15) (J19 : List Item → C19) (J26 : List Item → C26) (t2 : Int) (c1_0 : List Int) (c1_1 : Int) (r0 : List Q4) (r1 : List Int) : arun1 (pg Gspec_l1Kind Gspec_l1Number Gspec_l1One Gspec_l1Pick Gspec_l40Rd_num Gspec_l40Rd_pick J4 J15 J19 J26) 5000 T26 (mk p26 (t2, c1_0, c1_1, r0, r1, ())) = F26 Gspec_l1Pick Gspec_l40Rd_num t2 c1_0 c1_1 r0 r1 := by kernel_rfl
noncomputable def L26 : C26 := fun x => F26 spec_l1Pick.impl spec_l40Rd_num.impl x.1 x.2.1 x.2.2.1 x.2.2.2.1 x.2.2.2.2.1
noncomputable def L19 (J4 : C4) : C19 := fun x => F19 J4 spec_l1Kind.impl x.1 x.2.1 x.2.2.1 x.2.2.2.1 x.2.2.2.2.1 x.2.2.2.2.2.1 x.2.2.2.2.2.2.1 x.2.2.2.2.2.2.2.1 x.2.2.2.2.2.2.2.2.1 x.2.2.2.2.2.2.2.2.2.1 x.2.2.2.2.2.2.2.2.2.2.1
noncomputable def L15 (J4 : C4) : C15 := fun x => F15 (L19 J4) spec_l1One.impl spec_l1Pick.impl x.1 x.2.1 x.2.2.1 x.2.2.2.1 x.2.2.2.2.1 x.2.2.2.2.2.1 x.2.2.2.2.2.2.1 x.2.2.2.2.2.2.2.1 x.2.2.2.2.2.2.2.2.1 x.2.2.2.2.2.2.2.2.2.1 x.2.2.2.2.2.2.2.2.2.2.1 x.2.2.2.2.2.2.2.2.2.2.2.1 x.2.2.2.2.2.2.2.2.2.2.2.2.1
noncomputable def L4 : C4 := lfp fun J4 x => F4 (L15 J4) (L19 J4) L26 spec_l1Number.impl spec_l40Rd_num.impl spec_l40Rd_pick.impl x.1 x.2.1 x.2.2.1 x.2.2.2.1 x.2.2.2.2.1 x.2.2.2.2.2.1 x.2.2.2.2.2.2.1
noncomputable def impl : G := fun x => F0 L4 spec_l40Rd_pick.impl x.1 x.2.1 x.2.2.1 x.2.2.2.1 x.2.2.2.2.1
theorem F19_le {J4 J4' : C4} (h4 : OLe J4 J4') {Gspec_l1Kind : spec_l1Kind.G} (t1 : Int) (t2 : Int) (t11 : Int) (c1_0 : List Int) (c1_1 : Int) (r0 : List Q4) (r1 : List Int) (b2_0 : Int) (b2_1 : Int) (b2_2 : Int) (b2_3 : Int) : OptLe (F19 J4 Gspec_l1Kind t1 t2 t11 c1_0 c1_1 r0 r1 b2_0 b2_1 b2_2 b2_3) (F19 J4' Gspec_l1Kind t1 t2 t11 c1_0 c1_1 r0 r1 b2_0 b2_1 b2_2 b2_3) := by unfold F19; exact .bind (.refl _) fun _ => .cond (.cond (.cond (.of h4 _) (.refl _)) (.refl _)) (.of h4 _)
theorem F15_le {J19 J19' : C19} (h19 : OLe J19 J19') {Gspec_l1One : spec_l1One.G} {Gspec_l1Pick : spec_l1Pick.G} (t1 : Int) (t2 : Int) (t11 : Int) (t12 : Int) (t14 : Int) (c1_0 : List Int) (c1_1 : Int) (r0 : List Q4) (r1 : List Int) (b2_0 : Int) (b2_1 : Int) (b2_2 : Int) (b2_3 : Int) : OptLe (F15 J19 Gspec_l1One Gspec_l1Pick t1 t2 t11 t12 t14 c1_0 c1_1 r0 r1 b2_0 b2_1 b2_2 b2_3) (F15 J19' Gspec_l1One Gspec_l1Pick t1 t2 t11 t12 t14 c1_0 c1_1 r0 r1 b2_0 b2_1 b2_2 b2_3) := by unfold F15; exact .bind (.refl _) fun _ => .bind (.refl _) fun _ => .bind (.refl _) fun _ => .cond (.of h19 _) (.of h19 _)
theorem F4_le {J15 J15' : C15} (h15 : OLe J15 J15') {J19 J19' : C19} (h19 : OLe J19 J19') {J26 J26' : C26} (h26 : OLe J26 J26') {Gspec_l1Number : spec_l1Number.G} {Gspec_l40Rd_num : spec_l40Rd_num.G} {Gspec_l40Rd_pick : spec_l40Rd_pick.G} (t1 : Int) (t2 : Int) (t11 : Int) (c1_0 : List Int) (c1_1 : Int) (r0 : List Q4) (r1 : List Int) : OptLe (F4 J15 J19 J26 Gspec_l1Number Gspec_l40Rd_num Gspec_l40Rd_pick t1 t2 t11 c1_0 c1_1 r0 r1) (F4 J15' J19' J26' Gspec_l1Number Gspec_l40Rd_num Gspec_l40Rd_pick t1 t2 t11 c1_0 c1_1 r0 r1) := by unfold F4; exact .cond (.bind (.refl _) fun _ => .cond (.bind (.refl _) fun _ => .cond (.cond (.bind (.refl _) fun _ => .of h19 _) (.of h19 _)) (.of h19 _)) (.cond (.bind (.refl _) fun _ => .cond (.cond (.bind (.refl _) fun _ => .of h19 _) (.of h19 _)) (.of h19 _)) (.cond (.of h15 _) (.of h15 _)))) (.cond (.cond (.cond (.of h26 _) (.refl _)) (.refl _)) (.of h26 _))
theorem L26_eq (t2 : Int) (c1_0 : List Int) (c1_1 : Int) (r0 : List Q4) (r1 : List Int) : L26 (t2, c1_0, c1_1, r0, r1, ()) = F26 spec_l1Pick.impl spec_l40Rd_num.impl t2 c1_0 c1_1 r0 r1 := rfl
theorem L19_eq (J4 : C4) (t1 : Int) (t2 : Int) (t11 : Int) (c1_0 : List Int) (c1_1 : Int) (r0 : List Q4) (r1 : List Int) (b2_0 : Int) (b2_1 : Int) (b2_2 : Int) (b2_3 : Int) : L19 J4 (t1, t2, t11, c1_0, c1_1, r0, r1, b2_0, b2_1, b2_2, b2_3, ()) = F19 J4 spec_l1Kind.impl t1 t2 t11 c1_0 c1_1 r0 r1 b2_0 b2_1 b2_2 b2_3 := rfl
theorem L19_le {J4 J4' : C4} (h4 : OLe J4 J4') : OLe (L19 J4) (L19 J4') := fun x => F19_le h4 x.1 x.2.1 x.2.2.1 x.2.2.2.1 x.2.2.2.2.1 x.2.2.2.2.2.1 x.2.2.2.2.2.2.1 x.2.2.2.2.2.2.2.1 x.2.2.2.2.2.2.2.2.1 x.2.2.2.2.2.2.2.2.2.1 x.2.2.2.2.2.2.2.2.2.2.1
theorem L15_eq (J4 : C4) (t1 : Int) (t2 : Int) (t11 : Int) (t12 : Int) (t14 : Int) (c1_0 : List Int) (c1_1 : Int) (r0 : List Q4) (r1 : List Int) (b2_0 : Int) (b2_1 : Int) (b2_2 : Int) (b2_3 : Int) : L15 J4 (t1, t2, t11, t12, t14, c1_0, c1_1, r0, r1, b2_0, b2_1, b2_2, b2_3, ()) = F15 (L19 J4) spec_l1One.impl spec_l1Pick.impl t1 t2 t11 t12 t14 c1_0 c1_1 r0 r1 b2_0 b2_1 b2_2 b2_3 := rfl
theorem L15_le {J4 J4' : C4} (h4 : OLe J4 J4') : OLe (L15 J4) (L15 J4') := fun x => F15_le (L19_le h4) x.1 x.2.1 x.2.2.1 x.2.2.2.1 x.2.2.2.2.1 x.2.2.2.2.2.1 x.2.2.2.2.2.2.1 x.2.2.2.2.2.2.2.1 x.2.2.2.2.2.2.2.2.1 x.2.2.2.2.2.2.2.2.2.1 x.2.2.2.2.2.2.2.2.2.2.1 x.2.2.2.2.2.2.2.2.2.2.2.1 x.2.2.2.2.2.2.2.2.2.2.2.2.1
theorem L4_mono : OMono fun J4 (x : P4) => F4 (L15 J4) (L19 J4) L26 spec_l1Number.impl spec_l40Rd_num.impl spec_l40Rd_pick.impl x.1 x.2.1 x.2.2.1 x.2.2.2.1 x.2.2.2.2.1 x.2.2.2.2.2.1 x.2.2.2.2.2.2.1 := fun J J' h4 x => F4_le (L15_le h4) (L19_le h4) (fun _ _ h => h) x.1 x.2.1 x.2.2.1 x.2.2.2.1 x.2.2.2.2.1 x.2.2.2.2.2.1 x.2.2.2.2.2.2.1
theorem L4_eq (t1 : Int) (t2 : Int) (t11 : Int) (c1_0 : List Int) (c1_1 : Int) (r0 : List Q4) (r1 : List Int) : L4 (t1, t2, t11, c1_0, c1_1, r0, r1, ()) = F4 (L15 (L4)) (L19 (L4)) (L26) spec_l1Number.impl spec_l40Rd_num.impl spec_l40Rd_pick.impl t1 t2 t11 c1_0 c1_1 r0 r1 := congrFun (lfp_eq (L4_mono)) _
theorem impl_eq (x1 : Int) (x2 : Int) (x3 : Int) (c1_0 : List Int) (c1_1 : Int) : impl (x1, x2, x3, c1_0, c1_1, ()) = F0 L4 spec_l40Rd_pick.impl x1 x2 x3 c1_0 c1_1 := rfl
theorem con : Con Tryz.prog 68 4 rs.length 4 pin pout impl := by
  refine con_of_run3 (nt := 143) (c := c0) tabGood Tryz.func68 (by kernel_rfl) (by kernel_rfl) (by kernel_rfl) (by kernel_rfl) (by kernel_rfl) (by kernel_rfl) (by kernel_rfl) ?_
  intro w0 O y Post hnp fin
  have hp : ∀ (J4 : List Item → C4), ∀ (J15 : List Item → C15), ∀ (J19 : List Item → C19), ∀ (J26 : List Item → C26), Parts Tryz.prog 68 (pg spec_l1Kind.impl spec_l1Number.impl spec_l1One.impl spec_l1Pick.impl spec_l40Rd_num.impl spec_l40Rd_pick.impl J4 J15 J19 J26) [(4, cut p4 J4), (15, cut p15 J15), (19, cut p19 J19), (26, cut p26 J26)] := fun J4 J15 J19 J26 => ⟨tab_ok tabGood rfl, (handAt_ok spec_l1Kind.con (handAt_ok spec_l1Pick.con (handAt_ok spec_l1Number.con (handAt_ok spec_l40Rd_num.con (handAt_ok spec_l1One.con (handAt_ok spec_l40Rd_pick.con handNil_ok)))))), rfl⟩
  have g26 : Good Tryz.prog 143 w0 O Post y T26 p26 L26 := good_part (hp (atT T4 (fun _ => none)) (atT T15 (fun _ => none)) (atT T19 (fun _ => none)) (atT T26 (fun _ => none))) (runOK_of (hp (atT T4 (fun _ => none)) (atT T15 (fun _ => none)) (atT T19 (fun _ => none)) (atT T26 (fun _ => none))) hnp ⟨cutOK_at (p := p4) (T := T4) (J := fun _ => none) good_none, cutOK_at (p := p15) (T := T15) (J := fun _ => none) good_none, cutOK_at (p := p19) (T := T19) (J := fun _ => none) good_none, cutOK_at (p := p26) (T := T26) (J := fun _ => none) good_none, trivial⟩ fin) (fun x => (seg26 spec_l1Kind.impl spec_l1Number.impl spec_l1One.impl spec_l1Pick.impl spec_l40Rd_num.impl spec_l40Rd_pick.impl (atT T4 (fun _ => none)) (atT T15 (fun _ => none)) (atT T19 (fun _ => none)) (atT T26 (fun _ => none)) x.1 x.2.1 x.2.2.1 x.2.2.2.1 x.2.2.2.2.1))
  have g19 : ∀ (J4 : C4), Good Tryz.prog 143 w0 O Post y T4 p4 J4 → Good Tryz.prog 143 w0 O Post y T19 p19 (L19 J4) := fun J4 h4 => good_part (hp (atT T4 J4) (atT T15 (fun _ => none)) (atT T19 (fun _ => none)) (atT T26 (fun _ => none))) (runOK_of (hp (atT T4 J4) (atT T15 (fun _ => none)) (atT T19 (fun _ => none)) (atT T26 (fun _ => none))) hnp ⟨cutOK_at h4, cutOK_at (p := p15) (T := T15) (J := fun _ => none) good_none, cutOK_at (p := p19) (T := T19) (J := fun _ => none) good_none, cutOK_at (p := p26) (T := T26) (J := fun _ => none) good_none, trivial⟩ fin) (fun x => (seg19 spec_l1Kind.impl spec_l1Number.impl spec_l1One.impl spec_l1Pick.impl spec_l40Rd_num.impl spec_l40Rd_pick.impl (atT T4 J4) (atT T15 (fun _ => none)) (atT T19 (fun _ => none)) (atT T26 (fun _ => none)) x.1 x.2.1 x.2.2.1 x.2.2.2.1 x.2.2.2.2.1 x.2.2.2.2.2.1 x.2.2.2.2.2.2.1 x.2.2.2.2.2.2.2.1 x.2.2.2.2.2.2.2.2.1 x.2.2.2.2.2.2.2.2.2.1 x.2.2.2.2.2.2.2.2.2.2.1).trans (by simp only [atT_self] <;> rfl))
  have g15 : ∀ (J4 : C4), Good Tryz.prog 143 w0 O Post y T4 p4 J4 → Good Tryz.prog 143 w0 O Post y T15 p15 (L15 J4) := fun J4 h4 => good_part (hp (atT T4 (fun _ => none)) (atT T15 (fun _ => none)) (atT T19 (L19 J4)) (atT T26 (fun _ => none))) (runOK_of (hp (atT T4 (fun _ => none)) (atT T15 (fun _ => none)) (atT T19 (L19 J4)) (atT T26 (fun _ => none))) hnp ⟨cutOK_at (p := p4) (T := T4) (J := fun _ => none) good_none, cutOK_at (p := p15) (T := T15) (J := fun _ => none) good_none, cutOK_at (g19 J4 h4), cutOK_at (p := p26) (T := T26) (J := fun _ => none) good_none, trivial⟩ fin) (fun x => (seg15 spec_l1Kind.impl spec_l1Number.impl spec_l1One.impl spec_l1Pick.impl spec_l40Rd_num.impl spec_l40Rd_pick.impl (atT T4 (fun _ => none)) (atT T15 (fun _ => none)) (atT T19 (L19 J4)) (atT T26 (fun _ => none)) x.1 x.2.1 x.2.2.1 x.2.2.2.1 x.2.2.2.2.1 x.2.2.2.2.2.1 x.2.2.2.2.2.2.1 x.2.2.2.2.2.2.2.1 x.2.2.2.2.2.2.2.2.1 x.2.2.2.2.2.2.2.2.2.1 x.2.2.2.2.2.2.2.2.2.2.1 x.2.2.2.2.2.2.2.2.2.2.2.1 x.2.2.2.2.2.2.2.2.2.2.2.2.1).trans (by simp only [atT_self] <;> rfl))
  have g4 : Good Tryz.prog 143 w0 O Post y T4 p4 L4 := good_lfp fun J4 h4 => good_part (hp (atT T4 (fun _ => none)) (atT T15 (L15 J4)) (atT T19 (L19 J4)) (atT T26 L26)) (runOK_of (hp (atT T4 (fun _ => none)) (atT T15 (L15 J4)) (atT T19 (L19 J4)) (atT T26 L26)) hnp ⟨cutOK_at (p := p4) (T := T4) (J := fun _ => none) good_none, cutOK_at (g15 J4 h4), cutOK_at (g19 J4 h4), cutOK_at g26, trivial⟩ fin) (fun x => (seg4 spec_l1Kind.impl spec_l1Number.impl spec_l1One.impl spec_l1Pick.impl spec_l40Rd_num.impl spec_l40Rd_pick.impl (atT T4 (fun _ => none)) (atT T15 (L15 J4)) (atT T19 (L19 J4)) (atT T26 L26) x.1 x.2.1 x.2.2.1 x.2.2.2.1 x.2.2.2.2.1 x.2.2.2.2.2.1 x.2.2.2.2.2.2.1).trans (by simp only [atT_self] <;> rfl))
  exact good_first (hp (atT T4 L4) (atT T15 (fun _ => none)) (atT T19 (fun _ => none)) (atT T26 (fun _ => none))) (runOK_of (hp (atT T4 L4) (atT T15 (fun _ => none)) (atT T19 (fun _ => none)) (atT T26 (fun _ => none))) hnp ⟨cutOK_at g4, cutOK_at (p := p15) (T := T15) (J := fun _ => none) good_none, cutOK_at (p := p19) (T := T19) (J := fun _ => none) good_none, cutOK_at (p := p26) (T := T26) (J := fun _ => none) good_none, trivial⟩ fin) (fun x => (seg0 spec_l1Kind.impl spec_l1Number.impl spec_l1One.impl spec_l1Pick.impl spec_l40Rd_num.impl spec_l40Rd_pick.impl (atT T4 L4) (atT T15 (fun _ => none)) (atT T19 (fun _ => none)) (atT T26 (fun _ => none)) x.1 x.2.1 x.2.2.1 x.2.2.2.1 x.2.2.2.2.1).trans (by simp only [atT_self] <;> rfl))
end spec_l1Terms

/-! ### loop.example/wholecheck/spec.l30Name -/
namespace spec_l30Name
noncomputable abbrev c0 : Code := (Tryz.f60.body).getD .skip
noncomputable abbrev pin : Tpl := ⟨[⟨0, false, [.d .str]⟩], []⟩
noncomputable abbrev pout : Tpl := ⟨[⟨0, false, [.d .bool]⟩], []⟩
noncomputable abbrev p2 : Tpl := ⟨[⟨0, false, [.d .str]⟩, ⟨3, false, [.d i64]⟩], []⟩
noncomputable def T2 : List Item := (find 2 c0 []).getD []
noncomputable abbrev PI := Bs × Unit
noncomputable abbrev PO := Bool × Unit
noncomputable abbrev G := PI → Option PO
noncomputable abbrev P2 := Bs × Int × Unit
noncomputable abbrev C2 := P2 → Option PO
noncomputable abbrev rs : List ResultVar := [.tmp 2]
noncomputable def F0 (J2 : C2) (x0 : Bs) : Option PO :=
  J2 (x0, 0, ())
noncomputable def F2 (J2 : C2) (Gspec_l1In : spec_l1In.G) (t0 : Bs) (t3 : Int) : Option PO :=
  bif decide (t3 < (t0.length : Int)) then
    bif inb t3 t0.length then
      bif decide (((t0.getD t3.toNat 0).toNat : Int) < 97) then
        some (false, ())
      else
        bif inb t3 t0.length then
          bif decide (((t0.getD t3.toNat 0).toNat : Int) > 122) then
            some (false, ())
          else
            J2 (t0, wI (t3 + 1), ())
        else
          none
    else
      none
  else
    Option.bind (Gspec_l1In ((t0.length : Int), 1, 8, ())) fun y0 =>
    some (y0.1, ())
noncomputable def hd {R : Type} (Gspec_l1In : spec_l1In.G) : Hand R := (handAt 107 [22] true ⟨3, 1, 3, spec_l1In.pin, spec_l1In.pout, Gspec_l1In⟩ handNil)
noncomputable def pg (Gspec_l1In : spec_l1In.G) (J2 : List Item → C2) : Prog PO := { nt := 23, np := 1, tb := tabOf tab, hd := hd Gspec_l1In, cuts := cutsOf [(2, cut p2 J2)], fin := endOf (tabOf tab) rs 1 pout }
noncomputable def q : FuncId → Bool := fun f => hasId [107] f
theorem seg0 (Gspec_l1In : spec_l1In.G) (J2 : List Item → C2) (x0 : Bs) : arun (pg Gspec_l1In J2) 5000 [.code c0] (mk pin (x0, ())) = F0 (J2 T2) x0 := by kernel_rfl
theorem seg2 (Gspec_l1In : spec_l1In.G) (J2 : List Item → C2) (t0 : Bs) (t3 : Int) : arun1 (pg Gspec_l1In J2) 5000 T2 (mk p2 (t0, t3, ())) = F2 (J2 T2) Gspec_l1In t0 t3 := by kernel_rfl
noncomputable def L2 : C2 := lfp fun J2 x => F2 J2 spec_l1In.impl x.1 x.2.1
noncomputable def impl : G := fun x => F0 L2 x.1
theorem F2_le {J2 J2' : C2} (h2 : OLe J2 J2') {Gspec_l1In : spec_l1In.G} (t0 : Bs) (t3 : Int) : OptLe (F2 J2 Gspec_l1In t0 t3) (F2 J2' Gspec_l1In t0 t3) := by unfold F2; exact .cond (.cond (.cond (.refl _) (.cond (.cond (.refl _) (.of h2 _)) (.refl _))) (.refl _)) (.refl _)
theorem L2_mono : OMono fun J2 (x : P2) => F2 J2 spec_l1In.impl x.1 x.2.1 := fun J J' h2 x => F2_le h2 x.1 x.2.1
theorem L2_eq (t0 : Bs) (t3 : Int) : L2 (t0, t3, ()) = F2 (L2) spec_l1In.impl t0 t3 := congrFun (lfp_eq (L2_mono)) _
theorem impl_eq (x0 : Bs) : impl (x0, ()) = F0 L2 x0 := rfl
theorem con : Con Tryz.prog 60 1 rs.length 1 pin pout impl := by
  refine con_of_run3 (nt := 23) (c := c0) tabGood Tryz.func60 (by kernel_rfl) (by kernel_rfl) (by kernel_rfl) (by kernel_rfl) (by kernel_rfl) (by kernel_rfl) (by kernel_rfl) ?_
  intro w0 O y Post hnp fin
  have hp : ∀ (J2 : List Item → C2), Parts Tryz.prog 60 (pg spec_l1In.impl J2) [(2, cut p2 J2)] := fun J2 => ⟨tab_ok tabGood rfl, (handAt_ok spec_l1In.con handNil_ok), rfl⟩
  have g2 : Good Tryz.prog 23 w0 O Post y T2 p2 L2 := good_lfp fun J2 h2 => good_part (hp (atT T2 J2)) (runOK_of (hp (atT T2 J2)) hnp ⟨cutOK_at h2, trivial⟩ fin) (fun x => (seg2 spec_l1In.impl (atT T2 J2) x.1 x.2.1).trans (by simp only [atT_self] <;> rfl))
  exact good_first (hp (atT T2 L2)) (runOK_of (hp (atT T2 L2)) hnp ⟨cutOK_at g2, trivial⟩ fin) (fun x => (seg0 spec_l1In.impl (atT T2 L2) x.1).trans (by simp only [atT_self] <;> rfl))
end spec_l30Name

/-! ### loop.example/wholecheck/spec.l30At -/
namespace spec_l30At
noncomputable abbrev c0 : Code := (Tryz.f61.body).getD .skip
noncomputable abbrev pin : Tpl := ⟨[⟨0, false, [.d (.sl .str)]⟩, ⟨1, false, [.d .str]⟩], []⟩
noncomputable abbrev pout : Tpl := ⟨[⟨0, false, [.d i64]⟩], []⟩
noncomputable abbrev p2 : Tpl := ⟨[⟨0, false, [.d (.sl .str)]⟩, ⟨1, false, [.d .str]⟩, ⟨5, false, [.d i64]⟩], []⟩
noncomputable def T2 : List Item := (find 2 c0 []).getD []
noncomputable abbrev PI := (List Bs) × Bs × Unit
noncomputable abbrev PO := Int × Unit
noncomputable abbrev G := PI → Option PO
noncomputable abbrev P2 := (List Bs) × Bs × Int × Unit
noncomputable abbrev C2 := P2 → Option PO
noncomputable abbrev rs : List ResultVar := [.tmp 4]
noncomputable def F0 (J2 : C2) (x0 : List Bs) (x1 : Bs) : Option PO :=
  J2 (x0, x1, 0, ())
noncomputable def F2 (J2 : C2) (t0 : List Bs) (t1 : Bs) (t5 : Int) : Option PO :=
  bif decide (t5 < (t0.length : Int)) then
    bif inb t5 t0.length then
      bif (t0.getD t5.toNat []) == t1 then
        some (t5, ())
      else
        J2 (t0, t1, wI (t5 + 1), ())
    else
      none
  else
    some ((-1), ())
noncomputable def hd {R : Type} : Hand R := handNil
noncomputable def pg (J2 : List Item → C2) : Prog PO := { nt := 19, np := 2, tb := tabOf tab, hd := hd, cuts := cutsOf [(2, cut p2 J2)], fin := endOf (tabOf tab) rs 2 pout }
noncomputable def q : FuncId → Bool := fun f => hasId [] f
theorem seg0 (J2 : List Item → C2) (x0 : List Bs) (x1 : Bs) : arun (pg J2) 5000 [.code c0] (mk pin (x0, x1, ())) = F0 (J2 T2) x0 x1 := by kernel_rfl
theorem seg2 (J2 : List Item → C2) (t0 : List Bs) (t1 : Bs) (t5 : Int) : arun1 (pg J2) 5000 T2 (mk p2 (t0, t1, t5, ())) = F2 (J2 T2) t0 t1 t5 := by kernel_rfl
noncomputable def L2 : C2 := lfp fun J2 x => F2 J2 x.1 x.2.1 x.2.2.1
noncomputable def impl : G := fun x => F0 L2 x.1 x.2.1
theorem F2_le {J2 J2' : C2} (h2 : OLe J2 J2') (t0 : List Bs) (t1 : Bs) (t5 : Int) : OptLe (F2 J2 t0 t1 t5) (F2 J2' t0 t1 t5) := by unfold F2; exact .cond (.cond (.cond (.refl _) (.of h2 _)) (.refl _)) (.refl _)
theorem L2_mono : OMono fun J2 (x : P2) => F2 J2 x.1 x.2.1 x.2.2.1 := fun J J' h2 x => F2_le h2 x.1 x.2.1 x.2.2.1
theorem L2_eq (t0 : List Bs) (t1 : Bs) (t5 : Int) : L2 (t0, t1, t5, ()) = F2 (L2) t0 t1 t5 := congrFun (lfp_eq (L2_mono)) _
theorem impl_eq (x0 : List Bs) (x1 : Bs) : impl (x0, x1, ()) = F0 L2 x0 x1 := rfl
theorem con : Con Tryz.prog 61 2 rs.length 2 pin pout impl := by
  refine con_of_run3 (nt := 19) (c := c0) tabGood Tryz.func61 (by kernel_rfl) (by kernel_rfl) (by kernel_rfl) (by kernel_rfl) (by kernel_rfl) (by kernel_rfl) (by kernel_rfl) ?_
  intro w0 O y Post hnp fin
  have hp : ∀ (J2 : List Item → C2), Parts Tryz.prog 61 (pg J2) [(2, cut p2 J2)] := fun J2 => ⟨tab_ok tabGood rfl, handNil_ok, rfl⟩
  have g2 : Good Tryz.prog 19 w0 O Post y T2 p2 L2 := good_lfp fun J2 h2 => good_part (hp (atT T2 J2)) (runOK_of (hp (atT T2 J2)) hnp ⟨cutOK_at h2, trivial⟩ fin) (fun x => (seg2 (atT T2 J2) x.1 x.2.1 x.2.2.1).trans (by simp only [atT_self] <;> rfl))
  exact good_first (hp (atT T2 L2)) (runOK_of (hp (atT T2 L2)) hnp ⟨cutOK_at g2, trivial⟩ fin) (fun x => (seg0 (atT T2 L2) x.1 x.2.1).trans (by simp only [atT_self] <;> rfl))
end spec_l30At

/-! ### loop.example/wholecheck/spec.NamesValid -/
namespace spec_NamesValid
noncomputable abbrev c0 : Code := (Tryz.f17.body).getD .skip
noncomputable abbrev pin : Tpl := ⟨[⟨0, false, [.d (.sl .str)]⟩], []⟩
noncomputable abbrev pout : Tpl := ⟨[⟨0, false, [.d .bool]⟩], []⟩
noncomputable abbrev p2 : Tpl := ⟨[⟨0, false, [.d (.sl .str)]⟩, ⟨3, false, [.d i64]⟩], []⟩
noncomputable def T2 : List Item := (find 2 c0 []).getD []
noncomputable abbrev p4 : Tpl := ⟨[⟨0, false, [.d (.sl .str)]⟩, ⟨3, false, [.d i64]⟩], []⟩
noncomputable def T4 : List Item := (find 4 c0 []).getD []
noncomputable abbrev PI := (List Bs) × Unit
noncomputable abbrev PO := Bool × Unit
noncomputable abbrev G := PI → Option PO
noncomputable abbrev P2 := (List Bs) × Int × Unit
noncomputable abbrev C2 := P2 → Option PO
noncomputable abbrev P4 := (List Bs) × Int × Unit
noncomputable abbrev C4 := P4 → Option PO
noncomputable abbrev rs : List ResultVar := [.tmp 2]
noncomputable def F0 (J2 : C2) (x0 : List Bs) : Option PO :=
  J2 (x0, 0, ())
noncomputable def F2 (J4 : C4) (t0 : List Bs) (t3 : Int) : Option PO :=
  bif decide (t3 < (t0.length : Int)) then
    J4 (t0, t3, ())
  else
    some (decide ((t0.length : Int) ≤ 5), ())
noncomputable def F4 (J2 : C2) (Gspec_l30At : spec_l30At.G) (Gspec_l30Name : spec_l30Name.G) (t0 : List Bs) (t3 : Int) : Option PO :=
  bif inb t3 t0.length then
    Option.bind (Gspec_l30Name (t0.getD t3.toNat [], ())) fun y0 =>
    bif !y0.1 then
      some (false, ())
    else
      bif decide (0 ≤ t3) && decide (t3 ≤ (t0.length : Int)) then
        bif inb t3 t0.length then
          Option.bind (Gspec_l30At ((t0.take t3.toNat).drop 0, t0.getD t3.toNat [], ())) fun y1 =>
          bif decide (y1.1 ≥ 0) then
            some (false, ())
          else
            J2 (t0, wI (t3 + 1), ())
        else
          none
      else
        none
  else
    none
noncomputable def hd {R : Type} (Gspec_l30At : spec_l30At.G) (Gspec_l30Name : spec_l30Name.G) : Hand R := (handAt 61 [24] true ⟨2, 1, 2, spec_l30At.pin, spec_l30At.pout, Gspec_l30At⟩ (handAt 60 [14] true ⟨1, 1, 1, spec_l30Name.pin, spec_l30Name.pout, Gspec_l30Name⟩ handNil))
noncomputable def pg (Gspec_l30At : spec_l30At.G) (Gspec_l30Name : spec_l30Name.G) (J2 : List Item → C2) (J4 : List Item → C4) : Prog PO := { nt := 30, np := 1, tb := tabOf tab, hd := hd Gspec_l30At Gspec_l30Name, cuts := cutsOf [(2, cut p2 J2), (4, cut p4 J4)], fin := endOf (tabOf tab) rs 1 pout }
noncomputable def q : FuncId → Bool := fun f => hasId [60, 61] f
theorem seg0 (Gspec_l30At : spec_l30At.G) (Gspec_l30Name : spec_l30Name.G) (J2 : List Item → C2) (J4 : List Item → C4) (x0 : List Bs) : arun (pg Gspec_l30At Gspec_l30Name J2 J4) 5000 [.code c0] (mk pin (x0, ())) = F0 (J2 T2) x0 := by kernel_rfl
theorem seg2 (Gspec_l30At : spec_l30At.G) (Gspec_l30Name : spec_l30Name.G) (J2 : List Item → C2) (J4 : List Item → C4) (t0 : List Bs) (t3 : Int) : arun1 (pg Gspec_l30At Gspec_l30Name J2 J4) 5000 T2 (mk p2 (t0, t3, ())) = F2 (J4 T4) t0 t3 := by kernel_rfl
theorem seg4 (Gspec_l30At : spec_l30At.G) (Gspec_l30Name : spec_l30Name.G) (J2 : List Item → C2) (J4 : List Item → C4) (t0 : List Bs) (t3 : Int) : arunQ (pg Gspec_l30At Gspec_l30Name J2 J4) q [] [] 5000 T4 (mk p4 (t0, t3, ())) = List.replicate (arunQ (pg Gspec_l30At Gspec_l30Name J2 J4) q [] [] 5000 T4 (mk p4 (t0, t3, ()))).length (F4 (J2 T2) Gspec_l30At Gspec_l30Name t0 t3) := by kernel_rfl
noncomputable def L4 (J2 : C2) : C4 := fun x => F4 J2 spec_l30At.impl spec_l30Name.impl x.1 x.2.1
noncomputable def L2 : C2 := lfp fun J2 x => F2 (L4 J2) x.1 x.2.1
noncomputable def impl : G := fun x => F0 L2 x.1
theorem F4_le {J2 J2' : C2} (h2 : OLe J2 J2') {Gspec_l30At : spec_l30At.G} {Gspec_l30Name : spec_l30Name.G} (t0 : List Bs) (t3 : Int) : OptLe (F4 J2 Gspec_l30At Gspec_l30Name t0 t3) (F4 J2' Gspec_l30At Gspec_l30Name t0 t3) := by unfold F4; exact .cond (.bind (.refl _) fun _ => .cond (.refl _) (.cond (.cond (.bind (.refl _) fun _ => .cond (.refl _) (.of h2 _)) (.refl _)) (.refl _))) (.refl _)
theorem F2_le {J4 J4' : C4} (h4 : OLe J4 J4') (t0 : List Bs) (t3 : Int) : OptLe (F2 J4 t0 t3) (F2 J4' t0 t3) := by unfold F2; exact .cond (.of h4 _) (.refl _)
theorem L4_eq (J2 : C2) (t0 : List Bs) (t3 : Int) : L4 J2 (t0, t3, ()) = F4 J2 spec_l30At.impl spec_l30Name.impl t0 t3 := rfl
theorem L4_le {J2 J2' : C2} (h2 : OLe J2 J2') : OLe (L4 J2) (L4 J2') := fun x => F4_le h2 x.1 x.2.1
theorem L2_mono : OMono fun J2 (x : P2) => F2 (L4 J2) x.1 x.2.1 := fun J J' h2 x => F2_le (L4_le h2) x.1 x.2.1
theorem L2_eq (t0 : List Bs) (t3 : Int) : L2 (t0, t3, ()) = F2 (L4 (L2)) t0 t3 := congrFun (lfp_eq (L2_mono)) _
theorem impl_eq (x0 : List Bs) : impl (x0, ()) = F0 L2 x0 := rfl
theorem con : Con Tryz.prog 17 1 rs.length 1 pin pout impl := by
  refine con_of_run3 (nt := 30) (c := c0) tabGood Tryz.func17 (by kernel_rfl) (by kernel_rfl) (by kernel_rfl) (by kernel_rfl) (by kernel_rfl) (by kernel_rfl) (by kernel_rfl) ?_
  intro w0 O y Post hnp fin
  have hp : ∀ (J2 : List Item → C2), ∀ (J4 : List Item → C4), Parts Tryz.prog 17 (pg spec_l30At.impl spec_l30Name.impl J2 J4) [(2, cut p2 J2), (4, cut p4 J4)] := fun J2 J4 => ⟨tab_ok tabGood rfl, (handAt_ok spec_l30At.con (handAt_ok spec_l30Name.con handNil_ok)), rfl⟩
  have g4 : ∀ (J2 : C2), Good Tryz.prog 30 w0 O Post y T2 p2 J2 → Good Tryz.prog 30 w0 O Post y T4 p4 (L4 J2) := fun J2 h2 => good_quiet (hs := hd spec_l30At.impl spec_l30Name.impl) (cv' := hd spec_l30At.impl spec_l30Name.impl) (Checked.mixed Tryz.checked) (hp (atT T2 J2) (atT T4 (fun _ => none))) (handAt_D spec_l30At.con (by rfl) rfl (handAt_D spec_l30Name.con (by rfl) rfl handNil_D)) (handAt_nat (handAt_nat handNil_nat)) (handAt_nat (handAt_nat handNil_nat)) (runOK_of (hp (atT T2 J2) (atT T4 (fun _ => none))) hnp ⟨cutOK_at h2, cutOK_at (p := p4) (T := T4) (J := fun _ => none) good_none, trivial⟩ fin) (fun x => all_same ⟨_, (seg4 spec_l30At.impl spec_l30Name.impl (atT T2 J2) (atT T4 (fun _ => none)) x.1 x.2.1).trans (by simp only [atT_self] <;> rfl)⟩)
  have g2 : Good Tryz.prog 30 w0 O Post y T2 p2 L2 := good_lfp fun J2 h2 => good_part (hp (atT T2 (fun _ => none)) (atT T4 (L4 J2))) (runOK_of (hp (atT T2 (fun _ => none)) (atT T4 (L4 J2))) hnp ⟨cutOK_at (p := p2) (T := T2) (J := fun _ => none) good_none, cutOK_at (g4 J2 h2), trivial⟩ fin) (fun x => (seg2 spec_l30At.impl spec_l30Name.impl (atT T2 (fun _ => none)) (atT T4 (L4 J2)) x.1 x.2.1).trans (by simp only [atT_self] <;> rfl))
  exact good_first (hp (atT T2 L2) (atT T4 (fun _ => none))) (runOK_of (hp (atT T2 L2) (atT T4 (fun _ => none))) hnp ⟨cutOK_at g2, cutOK_at (p := p4) (T := T4) (J := fun _ => none) good_none, trivial⟩ fin) (fun x => (seg0 spec_l30At.impl spec_l30Name.impl (atT T2 L2) (atT T4 (fun _ => none)) x.1).trans (by simp only [atT_self] <;> rfl))
end spec_NamesValid

/-! ### loop.example/wholecheck/spec.KindsOf -/
namespace spec_KindsOf
noncomputable abbrev c0 : Code := (Tryz.f104.body).getD .skip
noncomputable abbrev pin : Tpl := ⟨[⟨0, false, [.d (.sl q4)]⟩, ⟨1, false, [.d i64]⟩], []⟩
noncomputable abbrev pout : Tpl := ⟨[⟨0, false, [.row 600001]⟩], [(600001, .row 3 false i64)]⟩
noncomputable abbrev p3 : Tpl := ⟨[⟨0, false, [.d (.sl q4)]⟩, ⟨1, false, [.d i64]⟩], []⟩
noncomputable def T3 : List Item := (find 3 c0 []).getD []
noncomputable abbrev p5 : Tpl := ⟨[⟨0, false, [.d (.sl q4)]⟩, ⟨1, false, [.d i64]⟩, ⟨5, false, [.row 3000000]⟩, ⟨6, false, [.d i64]⟩], [(3000000, .row 3 false i64)]⟩
noncomputable def T5 : List Item := (find 5 c0 []).getD []
noncomputable abbrev PI := (List Q4) × Int × Unit
noncomputable abbrev PO := (List Int) × Unit
noncomputable abbrev G := PI → Option PO
noncomputable abbrev P3 := (List Q4) × Int × Unit
noncomputable abbrev C3 := P3 → Option PO
noncomputable abbrev P5 := (List Q4) × Int × Int × (List Int) × Unit
noncomputable abbrev C5 := P5 → Option PO
noncomputable abbrev rs : List ResultVar := [.tmp 4]
noncomputable def F0 (J3 : C3) (Gspec_l1In : spec_l1In.G) (x0 : List Q4) (x1 : Int) : Option PO :=
  Option.bind (Gspec_l1In (x1, 0, 5, ())) fun y0 =>
  bif !y0.1 then
    some ([], ())
  else
    Option.bind (Gspec_l1In ((x0.length : Int), 1, 40, ())) fun y1 =>
    bif !y1.1 then
      some ([], ())
    else
      J3 (x0, x1, ())
noncomputable def F3 (J5 : C5) (t0 : List Q4) (t1 : Int) : Option PO :=
  J5 (t0, t1, 0, ([] : List Int), ())
noncomputable def F5 (J5 : C5) (Gspec_l1Kind : spec_l1Kind.G) (t0 : List Q4) (t1 : Int) (t6 : Int) (r0 : List Int) : Option PO :=
  bif decide (t6 < (t0.length : Int)) then
    bif inb t6 t0.length then
      Option.bind (Gspec_l1Kind (t0.getD t6.toNat (0, 0, 0, 0), r0, t1, ())) fun y2 =>
      bif y2.1 == 0 then
        some ([], ())
      else
        bif decide ((r0.length + ([y2.1] : List Int).length) * 8 ≤ 140737488355328) then
          J5 (t0, t1, wI (t6 + 1), r0 ++ ([y2.1] : List Int), ())
        else
          none
    else
      none
  else
    some (r0, ())
noncomputable def hd {R : Type} (Gspec_l1In : spec_l1In.G) (Gspec_l1Kind : spec_l1Kind.G) : Hand R := (handAt 115 [30] true ⟨3, 1, 3, spec_l1Kind.pin, spec_l1Kind.pout, Gspec_l1Kind⟩ (handAt 107 [9, 14] true ⟨3, 1, 3, spec_l1In.pin, spec_l1In.pout, Gspec_l1In⟩ handNil))
noncomputable def pg (Gspec_l1In : spec_l1In.G) (Gspec_l1Kind : spec_l1Kind.G) (J3 : List Item → C3) (J5 : List Item → C5) : Prog PO := { nt := 38, np := 2, tb := tabOf tab, hd := hd Gspec_l1In Gspec_l1Kind, cuts := cutsOf [(3, cut p3 J3), (5, cut p5 J5)], fin := endOf (tabOf tab) rs 2 pout }
noncomputable def q : FuncId → Bool := fun f => hasId [107, 115] f
theorem seg0 (Gspec_l1In : spec_l1In.G) (Gspec_l1Kind : spec_l1Kind.G) (J3 : List Item → C3) (J5 : List Item → C5) (x0 : List Q4) (x1 : Int) : arun (pg Gspec_l1In Gspec_l1Kind J3 J5) 5000 [.code c0] (mk pin (x0, x1, ())) = F0 (J3 T3) Gspec_l1In x0 x1 := by kernel_rfl
theorem seg3 (Gspec_l1In : spec_l1In.G) (Gspec_l1Kind : spec_l1Kind.G) (J3 : List Item → C3) (J5 : List Item → C5) (t0 : List Q4) (t1 : Int) : arun1 (pg Gspec_l1In Gspec_l1Kind J3 J5) 5000 T3 (mk p3 (t0, t1, ())) = F3 (J5 T5) t0 t1 := by kernel_rfl
theorem seg5 (Gspec_l1In : spec_l1In.G) (Gspec_l1Kind : spec_l1Kind.G) (J3 : List Item → C3) (J5 : List Item → C5) (t0 : List Q4) (t1 : Int) (t6 : Int) (r0 : List Int) : arun1 (pg Gspec_l1In Gspec_l1Kind J3 J5) 5000 T5 (mk p5 (t0, t1, t6, r0, ())) = F5 (J5 T5) Gspec_l1Kind t0 t1 t6 r0 := by kernel_rfl
noncomputable def L5 : C5 := lfp fun J5 x => F5 J5 spec_l1Kind.impl x.1 x.2.1 x.2.2.1 x.2.2.2.1
noncomputable def L3 : C3 := fun x => F3 L5 x.1 x.2.1
noncomputable def impl : G := fun x => F0 L3 spec_l1In.impl x.1 x.2.1
theorem F5_le {J5 J5' : C5} (h5 : OLe J5 J5') {Gspec_l1Kind : spec_l1Kind.G} (t0 : List Q4) (t1 : Int) (t6 : Int) (r0 : List Int) : OptLe (F5 J5 Gspec_l1Kind t0 t1 t6 r0) (F5 J5' Gspec_l1Kind t0 t1 t6 r0) := by unfold F5; exact .cond (.cond (.bind (.refl _) fun _ => .cond (.refl _) (.cond (.of h5 _) (.refl _))) (.refl _)) (.refl _)
theorem L5_mono : OMono fun J5 (x : P5) => F5 J5 spec_l1Kind.impl x.1 x.2.1 x.2.2.1 x.2.2.2.1 := fun J J' h5 x => F5_le h5 x.1 x.2.1 x.2.2.1 x.2.2.2.1
theorem L5_eq (t0 : List Q4) (t1 : Int) (t6 : Int) (r0 : List Int) : L5 (t0, t1, t6, r0, ()) = F5 (L5) spec_l1Kind.impl t0 t1 t6 r0 := congrFun (lfp_eq (L5_mono)) _
theorem L3_eq (t0 : List Q4) (t1 : Int) : L3 (t0, t1, ()) = F3 (L5) t0 t1 := rfl
theorem impl_eq (x0 : List Q4) (x1 : Int) : impl (x0, x1, ()) = F0 L3 spec_l1In.impl x0 x1 := rfl
theorem con : Con Tryz.prog 104 2 rs.length 2 pin pout impl := by
  refine con_of_run3 (nt := 38) (c := c0) tabGood Tryz.func104 (by kernel_rfl) (by kernel_rfl) (by kernel_rfl) (by kernel_rfl) (by kernel_rfl) (by kernel_rfl) (by kernel_rfl) ?_
  intro w0 O y Post hnp fin
  have hp : ∀ (J3 : List Item → C3), ∀ (J5 : List Item → C5), Parts Tryz.prog 104 (pg spec_l1In.impl spec_l1Kind.impl J3 J5) [(3, cut p3 J3), (5, cut p5 J5)] := fun J3 J5 => ⟨tab_ok tabGood rfl, (handAt_ok spec_l1Kind.con (handAt_ok spec_l1In.con handNil_ok)), rfl⟩
  have g5 : Good Tryz.prog 38 w0 O Post y T5 p5 L5 := good_lfp fun J5 h5 => good_part (hp (atT T3 (fun _ => none)) (atT T5 J5)) (runOK_of (hp (atT T3 (fun _ => none)) (atT T5 J5)) hnp ⟨cutOK_at (p := p3) (T := T3) (J := fun _ => none) good_none, cutOK_at h5, trivial⟩ fin) (fun x => (seg5 spec_l1In.impl spec_l1Kind.impl (atT T3 (fun _ => none)) (atT T5 J5) x.1 x.2.1 x.2.2.1 x.2.2.2.1).trans (by simp only [atT_self] <;> rfl))
  have g3 : Good Tryz.prog 38 w0 O Post y T3 p3 L3 := good_part (hp (atT T3 (fun _ => none)) (atT T5 L5)) (runOK_of (hp (atT T3 (fun _ => none)) (atT T5 L5)) hnp ⟨cutOK_at (p := p3) (T := T3) (J := fun _ => none) good_none, cutOK_at g5, trivial⟩ fin) (fun x => (seg3 spec_l1In.impl spec_l1Kind.impl (atT T3 (fun _ => none)) (atT T5 L5) x.1 x.2.1).trans (by simp only [atT_self] <;> rfl))
  exact good_first (hp (atT T3 L3) (atT T5 (fun _ => none))) (runOK_of (hp (atT T3 L3) (atT T5 (fun _ => none))) hnp ⟨cutOK_at g3, cutOK_at (p := p5) (T := T5) (J := fun _ => none) good_none, trivial⟩ fin) (fun x => (seg0 spec_l1In.impl spec_l1Kind.impl (atT T3 L3) (atT T5 (fun _ => none)) x.1 x.2.1).trans (by simp only [atT_self] <;> rfl))
end spec_KindsOf

/-! ### loop.example/wholecheck/spec.TermsValid -/
namespace spec_TermsValid
noncomputable abbrev c0 : Code := (Tryz.f55.body).getD .skip
noncomputable abbrev pin : Tpl := ⟨[⟨0, false, [.d (.sl q4)]⟩, ⟨1, false, [.d i64]⟩], []⟩
noncomputable abbrev pout : Tpl := ⟨[⟨0, false, [.d .bool]⟩], []⟩
noncomputable abbrev PI := (List Q4) × Int × Unit
noncomputable abbrev PO := Bool × Unit
noncomputable abbrev G := PI → Option PO
noncomputable abbrev rs : List ResultVar := [.tmp 4]
noncomputable def F0 (Gspec_KindsOf : spec_KindsOf.G) (x0 : List Q4) (x1 : Int) : Option PO :=
  Option.bind (Gspec_KindsOf (x0, x1, ())) fun y0 =>
  some (decide ((y0.1.length : Int) > 0), ())
noncomputable def hd {R : Type} (Gspec_KindsOf : spec_KindsOf.G) : Hand R := (handAt 104 [7] true ⟨2, 1, 2, spec_KindsOf.pin, spec_KindsOf.pout, Gspec_KindsOf⟩ handNil)
noncomputable def pg (Gspec_KindsOf : spec_KindsOf.G) : Prog PO := { nt := 10, np := 2, tb := tabOf tab, hd := hd Gspec_KindsOf, cuts := cutsOf [], fin := endOf (tabOf tab) rs 2 pout }
noncomputable def q : FuncId → Bool := fun f => hasId [] f
theorem seg0 (Gspec_KindsOf : spec_KindsOf.G) (x0 : List Q4) (x1 : Int) : arun (pg Gspec_KindsOf) 5000 [.code c0] (mk pin (x0, x1, ())) = F0 Gspec_KindsOf x0 x1 := by kernel_rfl
noncomputable def impl : G := fun x => F0 spec_KindsOf.impl x.1 x.2.1
theorem impl_eq (x0 : List Q4) (x1 : Int) : impl (x0, x1, ()) = F0 spec_KindsOf.impl x0 x1 := rfl
theorem con : Con Tryz.prog 55 2 rs.length 2 pin pout impl := by
  refine con_of_run3 (nt := 10) (c := c0) tabGood Tryz.func55 (by kernel_rfl) (by kernel_rfl) (by kernel_rfl) (by kernel_rfl) (by kernel_rfl) (by kernel_rfl) (by kernel_rfl) ?_
  intro w0 O y Post hnp fin
  have hp : Parts Tryz.prog 55 (pg spec_KindsOf.impl) [] := ⟨tab_ok tabGood rfl, (handAt_ok spec_KindsOf.con handNil_ok), rfl⟩
  exact good_first (hp) (runOK_of (hp) hnp trivial fin) (fun x => (seg0 spec_KindsOf.impl x.1 x.2.1))
end spec_TermsValid

/-! ### loop.example/wholecheck/spec.l40Dec -/
namespace spec_l40Dec
noncomputable abbrev c0 : Code := (Tryz.f39.body).getD .skip
noncomputable abbrev pin : Tpl := ⟨[⟨0, false, [.d i64]⟩], []⟩
noncomputable abbrev pout : Tpl := ⟨[⟨0, false, [.d .str]⟩], []⟩
noncomputable abbrev p6 : Tpl := ⟨[⟨0, false, [.d i64]⟩, ⟨3, false, [.d .str]⟩], []⟩
noncomputable def T6 : List Item := (find 6 c0 []).getD []
noncomputable abbrev PI := Int × Unit
noncomputable abbrev PO := Bs × Unit
noncomputable abbrev G := PI → Option PO
noncomputable abbrev P6 := Int × Bs × Unit
noncomputable abbrev C6 := P6 → Option PO
noncomputable abbrev rs : List ResultVar := [.tmp 2]
noncomputable def F0 (J6 : C6) (Gspec_l40Dec : G) (x0 : Int) : Option PO :=
  bif decide (x0 < (-9223372036854775807)) then
    some (([45, 57, 50, 50, 51, 51, 55, 50, 48, 51, 54, 56, 53, 52, 55, 55, 53, 56, 48, 56] : Bs), ())
  else
    bif decide (x0 < 0) then
      Option.bind (Gspec_l40Dec (wI (0 - x0), ())) fun y0 =>
      bif decide (([45] : Bs).length + y0.1.length ≤ 140737488355328) then
        some (([45] : Bs) ++ y0.1, ())
      else
        none
    else
      J6 (x0, [], ())
noncomputable def F6 (J6 : C6) (t0 : Int) (t3 : Bs) : Option PO :=
  bif decide (t0 > 9) then
    bif decide ((strOf ([IntKind.u8.wrap (wI (48 + (Int.tmod t0 10)))] : List Int)).length + t3.length ≤ 140737488355328) then
      J6 (wI (Int.tdiv t0 10), (strOf ([IntKind.u8.wrap (wI (48 + (Int.tmod t0 10)))] : List Int)) ++ t3, ())
    else
      none
  else
    bif decide ((strOf ([IntKind.u8.wrap (wI (48 + t0))] : List Int)).length + t3.length ≤ 140737488355328) then
      some ((strOf ([IntKind.u8.wrap (wI (48 + t0))] : List Int)) ++ t3, ())
    else
      none
noncomputable def hd {R : Type} (Gspec_l40Dec : G) : Hand R := (handAt 39 [10] true ⟨1, 1, 0, pin, pout, Gspec_l40Dec⟩ handNil)
noncomputable def pg (Gspec_l40Dec : G) (J6 : List Item → C6) : Prog PO := { nt := 31, np := 0, tb := tabOf tab, hd := hd Gspec_l40Dec, cuts := cutsOf [(6, cut p6 J6)], fin := endOf (tabOf tab) rs 0 pout }
noncomputable def q : FuncId → Bool := fun f => hasId [39] f
theorem seg0 (Gspec_l40Dec : G) (J6 : List Item → C6) (x0 : Int) : arun (pg Gspec_l40Dec J6) 5000 [.code c0] (mk pin (x0, ())) = F0 (J6 T6) Gspec_l40Dec x0 := by kernel_rfl
theorem seg6 (Gspec_l40Dec : G) (J6 : List Item → C6) (t0 : Int) (t3 : Bs) : arun1 (pg Gspec_l40Dec J6) 5000 T6 (mk p6 (t0, t3, ())) = F6 (J6 T6) t0 t3 := by kernel_rfl
noncomputable def L6 (Gself : G) : C6 := lfp fun J6 x => F6 J6 x.1 x.2.1
noncomputable def step (Gself : G) : G := fun x => F0 (L6 Gself) Gself x.1
noncomputable def impl : G := lfp step
theorem F6_le {J6 J6' : C6} (h6 : OLe J6 J6') (t0 : Int) (t3 : Bs) : OptLe (F6 J6 t0 t3) (F6 J6' t0 t3) := by unfold F6; exact .cond (.cond (.of h6 _) (.refl _)) (.refl _)
theorem F0_le {J6 J6' : C6} (h6 : OLe J6 J6') {Gself Gself' : G} (hG : OLe Gself Gself') (x0 : Int) : OptLe (F0 J6 Gself x0) (F0 J6' Gself' x0) := by unfold F0; exact .cond (.refl _) (.cond (.bind (.of hG _) fun _ => .refl _) (.of h6 _))
theorem L6_mono (Gself : G) : OMono fun J6 (x : P6) => F6 J6 x.1 x.2.1 := fun J J' h6 x => F6_le h6 x.1 x.2.1
theorem L6_eq (Gself : G) (t0 : Int) (t3 : Bs) : L6 Gself (t0, t3, ()) = F6 (L6 Gself) t0 t3 := congrFun (lfp_eq (L6_mono Gself)) _
theorem L6_le {Gself Gself' : G} (hG : OLe Gself Gself') : OLe (L6 Gself) (L6 Gself') := lfp_le (L6_mono Gself') fun J x => F6_le (fun _ _ h => h) x.1 x.2.1
theorem step_mono : OMono step := fun G G' hG x => F0_le (L6_le hG) hG x.1
theorem impl_eq (x0 : Int) : impl (x0, ()) = F0 (L6 impl) impl x0 := congrFun (lfp_eq step_mono) _
theorem con_step (Gself : G) (hself : Con Tryz.prog 39 1 rs.length 0 pin pout Gself) : Con Tryz.prog 39 1 rs.length 0 pin pout (step Gself) := by
  refine con_of_run3 (nt := 31) (c := c0) tabGood Tryz.func39 (by kernel_rfl) (by kernel_rfl) (by kernel_rfl) (by kernel_rfl) (by kernel_rfl) (by kernel_rfl) (by kernel_rfl) ?_
  intro w0 O y Post hnp fin
  have hp : ∀ (J6 : List Item → C6), Parts Tryz.prog 39 (pg Gself J6) [(6, cut p6 J6)] := fun J6 => ⟨tab_ok tabGood rfl, (handAt_ok hself handNil_ok), rfl⟩
  have g6 : Good Tryz.prog 31 w0 O Post y T6 p6 (L6 Gself) := good_lfp fun J6 h6 => good_part (hp (atT T6 J6)) (runOK_of (hp (atT T6 J6)) hnp ⟨cutOK_at h6, trivial⟩ fin) (fun x => (seg6 Gself (atT T6 J6) x.1 x.2.1).trans (by simp only [atT_self] <;> rfl))
  exact good_first (hp (atT T6 (L6 Gself))) (runOK_of (hp (atT T6 (L6 Gself))) hnp ⟨cutOK_at g6, trivial⟩ fin) (fun x => (seg0 Gself (atT T6 (L6 Gself)) x.1).trans (by simp only [atT_self] <;> rfl))
theorem con : Con Tryz.prog 39 1 rs.length 0 pin pout impl := con_lfp (c := c0) Tryz.func39 (by kernel_rfl) (by kernel_rfl) (by kernel_rfl) con_step
end spec_l40Dec

/-! ### loop.example/wholecheck/spec.l1Sign -/
namespace spec_l1Sign
noncomputable abbrev c0 : Code := (Tryz.f57.body).getD .skip
noncomputable abbrev pin : Tpl := ⟨[⟨0, false, [.d i64]⟩], []⟩
noncomputable abbrev pout : Tpl := ⟨[⟨0, false, [.d .str]⟩], []⟩
noncomputable abbrev PI := Int × Unit
noncomputable abbrev PO := Bs × Unit
noncomputable abbrev G := PI → Option PO
noncomputable abbrev rs : List ResultVar := [.tmp 2]
noncomputable def F0 (x0 : Int) : Option PO :=
  bif inb x0 ([[], [], ([43] : Bs), ([45] : Bs), ([42] : Bs), ([60] : Bs), ([61] : Bs), ([33] : Bs), ([38] : Bs), ([124] : Bs)] : List Bs).length then
    some (([[], [], ([43] : Bs), ([45] : Bs), ([42] : Bs), ([60] : Bs), ([61] : Bs), ([33] : Bs), ([38] : Bs), ([124] : Bs)] : List Bs).getD x0.toNat [], ())
  else
    none
noncomputable def hd {R : Type} : Hand R := handNil
noncomputable def pg : Prog PO := { nt := 7, np := 1, tb := tabOf tab, hd := hd, cuts := cutsOf [], fin := endOf (tabOf tab) rs 1 pout }
noncomputable def q : FuncId → Bool := fun f => hasId [] f
theorem seg0 (x0 : Int) : arun (pg) 5000 [.code c0] (mk pin (x0, ())) = F0 x0 := by kernel_rfl
noncomputable def impl : G := fun x => F0 x.1
theorem impl_eq (x0 : Int) : impl (x0, ()) = F0 x0 := rfl
theorem con : Con Tryz.prog 57 1 rs.length 1 pin pout impl := by
  refine con_of_run3 (nt := 7) (c := c0) tabGood Tryz.func57 (by kernel_rfl) (by kernel_rfl) (by kernel_rfl) (by kernel_rfl) (by kernel_rfl) (by kernel_rfl) (by kernel_rfl) ?_
  intro w0 O y Post hnp fin
  have hp : Parts Tryz.prog 57 (pg) [] := ⟨tab_ok tabGood rfl, handNil_ok, rfl⟩
  exact good_first (hp) (runOK_of (hp) hnp trivial fin) (fun x => (seg0 x.1))
end spec_l1Sign

/-! ### loop.example/wholecheck/spec.WriteExpr -/
namespace spec_WriteExpr
noncomputable abbrev c0 : Code := (Tryz.f15.body).getD .skip
noncomputable abbrev pin : Tpl := ⟨[⟨0, false, [.d (.sl .str)]⟩, ⟨1, false, [.d (.sl q4)]⟩], []⟩
noncomputable abbrev pout : Tpl := ⟨[⟨0, false, [.d .str]⟩], []⟩
noncomputable abbrev p3 : Tpl := ⟨[⟨0, false, [.d (.sl .str)]⟩, ⟨1, false, [.d (.sl q4)]⟩], []⟩
noncomputable def T3 : List Item := (find 3 c0 []).getD []
noncomputable abbrev p5 : Tpl := ⟨[⟨0, false, [.d (.sl .str)]⟩, ⟨1, false, [.d (.sl q4)]⟩, ⟨5, false, [.row 3000000]⟩, ⟨6, false, [.d i64]⟩], [(3000000, .row 9 false .str)]⟩
noncomputable def T5 : List Item := (find 5 c0 []).getD []
noncomputable abbrev p15 : Tpl := ⟨[⟨0, false, [.d (.sl .str)]⟩, ⟨1, false, [.d (.sl q4)]⟩, ⟨5, false, [.row 3000000]⟩, ⟨6, false, [.d i64]⟩, ⟨7, false, [.ptr 3000001 0]⟩], [(3000000, .row 9 false .str), (3000001, .box [.d i64, .d i64, .d i64, .d i64])]⟩
noncomputable def T15 : List Item := (find 15 c0 []).getD []
noncomputable abbrev p16 : Tpl := ⟨[⟨0, false, [.d (.sl .str)]⟩, ⟨1, false, [.d (.sl q4)]⟩, ⟨5, false, [.row 3000000]⟩, ⟨6, false, [.d i64]⟩, ⟨8, false, [.d .str]⟩], [(3000000, .row 9 false .str)]⟩
noncomputable def T16 : List Item := (find 16 c0 []).getD []
noncomputable abbrev PI := (List Bs) × (List Q4) × Unit
noncomputable abbrev PO := Bs × Unit
noncomputable abbrev G := PI → Option PO
noncomputable abbrev P3 := (List Bs) × (List Q4) × Unit
noncomputable abbrev C3 := P3 → Option PO
noncomputable abbrev P5 := (List Bs) × (List Q4) × Int × (List Bs) × Unit
noncomputable abbrev C5 := P5 → Option PO
noncomputable abbrev P15 := (List Bs) × (List Q4) × Int × (List Bs) × Int × Int × Int × Int × Unit
noncomputable abbrev C15 := P15 → Option PO
noncomputable abbrev P16 := (List Bs) × (List Q4) × Int × Bs × (List Bs) × Unit
noncomputable abbrev C16 := P16 → Option PO
noncomputable abbrev rs : List ResultVar := [.tmp 4]
noncomputable def F0 (J3 : C3) (Gspec_NamesValid : spec_NamesValid.G) (Gspec_TermsValid : spec_TermsValid.G) (x0 : List Bs) (x1 : List Q4) : Option PO :=
  Option.bind (Gspec_NamesValid (x0, ())) fun y0 =>
  bif !y0.1 then
    some ([], ())
  else
    Option.bind (Gspec_TermsValid (x1, (x0.length : Int), ())) fun y1 =>
    bif !y1.1 then
      some ([], ())
    else
      J3 (x0, x1, ())
noncomputable def F3 (J5 : C5) (t0 : List Bs) (t1 : List Q4) : Option PO :=
  J5 (t0, t1, 0, ([] : List Bs), ())
noncomputable def F5 (J15 : C15) (J16 : C16) (Gspec_l1One : spec_l1One.G) (Gspec_l40Dec : spec_l40Dec.G) (t0 : List Bs) (t1 : List Q4) (t6 : Int) (r0 : List Bs) : Option PO :=
  bif decide (t6 < (t1.length : Int)) then
    bif inb t6 t1.length then
      bif (t1.getD t6.toNat (0, 0, 0, 0)).1 == 0 then
        Option.bind (Gspec_l40Dec ((t1.getD t6.toNat (0, 0, 0, 0)).2.1, ())) fun y2 =>
        J16 (t0, t1, t6, y2.1, r0, ())
      else
        bif (t1.getD t6.toNat (0, 0, 0, 0)).1 == 1 then
          bif inb (t1.getD t6.toNat (0, 0, 0, 0)).2.1 t0.length then
            J16 (t0, t1, t6, t0.getD (t1.getD t6.toNat (0, 0, 0, 0)).2.1.toNat [], r0, ())
          else
            none
        else
          Option.bind (Gspec_l1One ((t1.getD t6.toNat (0, 0, 0, 0)).1, ())) fun y3 =>
          bif y3.1 then
            bif inb (t1.getD t6.toNat (0, 0, 0, 0)).2.2.1 r0.length then
              bif decide (([33] : Bs).length + (r0.getD (t1.getD t6.toNat (0, 0, 0, 0)).2.2.1.toNat []).length ≤ 140737488355328) then
                J16 (t0, t1, t6, ([33] : Bs) ++ (r0.getD (t1.getD t6.toNat (0, 0, 0, 0)).2.2.1.toNat []), r0, ())
              else
                none
            else
              none
          else
            J15 (t0, t1, t6, r0, (t1.getD t6.toNat (0, 0, 0, 0)).1, (t1.getD t6.toNat (0, 0, 0, 0)).2.1, (t1.getD t6.toNat (0, 0, 0, 0)).2.2.1, (t1.getD t6.toNat (0, 0, 0, 0)).2.2.2, ())
    else
      none
  else
    bif inb (wI ((r0.length : Int) - 1)) r0.length then
      some (r0.getD (wI ((r0.length : Int) - 1)).toNat [], ())
    else
      none
noncomputable def F15 (J16 : C16) (Gspec_l1Sign : spec_l1Sign.G) (t0 : List Bs) (t1 : List Q4) (t6 : Int) (r0 : List Bs) (b1_0 : Int) (b1_1 : Int) (b1_2 : Int) (b1_3 : Int) : Option PO :=
  bif inb b1_2 r0.length then
    bif decide (([40] : Bs).length + (r0.getD b1_2.toNat []).length ≤ 140737488355328) then
      bif decide ((([40] : Bs) ++ (r0.getD b1_2.toNat [])).length + ([32] : Bs).length ≤ 140737488355328) then
        bif inb b1_3 r0.length then
          Option.bind (Gspec_l1Sign (b1_0, ())) fun y4 =>
          bif decide (((([40] : Bs) ++ (r0.getD b1_2.toNat [])) ++ ([32] : Bs)).length + y4.1.length ≤ 140737488355328) then
            bif decide ((((([40] : Bs) ++ (r0.getD b1_2.toNat [])) ++ ([32] : Bs)) ++ y4.1).length + ([32] : Bs).length ≤ 140737488355328) then
              bif decide (((((([40] : Bs) ++ (r0.getD b1_2.toNat [])) ++ ([32] : Bs)) ++ y4.1) ++ ([32] : Bs)).length + (r0.getD b1_3.toNat []).length ≤ 140737488355328) then
                bif decide ((((((([40] : Bs) ++ (r0.getD b1_2.toNat [])) ++ ([32] : Bs)) ++ y4.1) ++ ([32] : Bs)) ++ (r0.getD b1_3.toNat [])).length + ([41] : Bs).length ≤ 140737488355328) then
                  J16 (t0, t1, t6, (((((([40] : Bs) ++ (r0.getD b1_2.toNat [])) ++ ([32] : Bs)) ++ y4.1) ++ ([32] : Bs)) ++ (r0.getD b1_3.toNat [])) ++ ([41] : Bs), r0, ())
                else
                  none
              else
                none
            else
              none
          else
            none
        else
          none
      else
        none
    else
      none
  else
    none
noncomputable def F16 (J5 : C5) (t0 : List Bs) (t1 : List Q4) (t6 : Int) (t8 : Bs) (r0 : List Bs) : Option PO :=
  bif decide ((t8.length : Int) > 4000) then
    some ([], ())
  else
    bif decide ((r0.length + ([t8] : List Bs).length) * 16 ≤ 140737488355328) then
      J5 (t0, t1, wI (t6 + 1), r0 ++ ([t8] : List Bs), ())
    else
      none
noncomputable def hd {R : Type} (Gspec_NamesValid : spec_NamesValid.G) (Gspec_TermsValid : spec_TermsValid.G) (Gspec_l1One : spec_l1One.G) (Gspec_l1Sign : spec_l1Sign.G) (Gspec_l40Dec : spec_l40Dec.G) : Hand R := (handAt 57 [62] true ⟨1, 1, 1, spec_l1Sign.pin, spec_l1Sign.pout, Gspec_l1Sign⟩ (handAt 56 [46] true ⟨1, 1, 1, spec_l1One.pin, spec_l1One.pout, Gspec_l1One⟩ (handAt 55 [16] true ⟨2, 1, 2, spec_TermsValid.pin, spec_TermsValid.pout, Gspec_TermsValid⟩ (handAt 39 [35] true ⟨1, 1, 0, spec_l40Dec.pin, spec_l40Dec.pout, Gspec_l40Dec⟩ (handAt 17 [10] true ⟨1, 1, 1, spec_NamesValid.pin, spec_NamesValid.pout, Gspec_NamesValid⟩ handNil)))))
noncomputable def pg (Gspec_NamesValid : spec_NamesValid.G) (Gspec_TermsValid : spec_TermsValid.G) (Gspec_l1One : spec_l1One.G) (Gspec_l1Sign : spec_l1Sign.G) (Gspec_l40Dec : spec_l40Dec.G) (J3 : List Item → C3) (J5 : List Item → C5) (J15 : List Item → C15) (J16 : List Item → C16) : Prog PO := { nt := 85, np := 2, tb := tabOf tab, hd := hd Gspec_NamesValid Gspec_TermsValid Gspec_l1One Gspec_l1Sign Gspec_l40Dec, cuts := cutsOf [(3, cut p3 J3), (5, cut p5 J5), (15, cut p15 J15), (16, cut p16 J16)], fin := endOf (tabOf tab) rs 2 pout }
noncomputable def q : FuncId → Bool := fun f => hasId [17, 39, 55, 56, 57] f
theorem seg0 (Gspec_NamesValid : spec_NamesValid.G) (Gspec_TermsValid : spec_TermsValid.G) (Gspec_l1One : spec_l1One.G) (Gspec_l1Sign : spec_l1Sign.G) (Gspec_l40Dec : spec_l40Dec.G) (J3 : List Item → C3) (J5 : List Item → C5) (J15 : List Item → C15) (J16 : List Item → C16) (x0 : List Bs) (x1 : List Q4) : arun (pg Gspec_NamesValid Gspec_TermsValid Gspec_l1One Gspec_l1Sign Gspec_l40Dec J3 J5 J15 J16) 5000 [.code c0] (mk pin (x0, x1, ())) = F0 (J3 T3) Gspec_NamesValid Gspec_TermsValid x0 x1 := by kernel_rfl
theorem seg3 (Gspec_NamesValid : spec_NamesValid.G) (Gspec_TermsValid : spec_TermsValid.G) (Gspec_l1One : spec_l1One.G) (Gspec_l1Sign : spec_l1Sign.G) (Gspec_l40Dec : spec_l40Dec.G) (J3 : List Item → C3) (J5 : List Item → C5) (J15 : List Item → C15) (J16 : List Item → C16) (t0 : List Bs) (t1 : List Q4) : arun1 (pg Gspec_NamesValid Gspec_TermsValid Gspec_l1One Gspec_l1Sign Gspec_l40Dec J3 J5 J15 J16) 5000 T3 (mk p3 (t0, t1, ())) = F3 (J5 T5) t0 t1 := by kernel_rfl
theorem seg5 (Gspec_NamesValid : spec_NamesValid.G) (Gspec_TermsValid : spec_TermsValid.G) (Gspec_l1One : spec_l1One.G) (Gspec_l1Sign : spec_l1Sign.G) (Gspec_l40Dec : spec_l40Dec.G) (J3 : List Item → C3) (J5 : List Item → C5) (J15 : List Item → C15) (J16 : List Item → C16) (t0 : List Bs) (t1 : List Q4) (t6 : Int) (r0 : List Bs) : arun1 (pg Gspec_NamesValid Gspec_TermsValid Gspec_l1One Gspec_l1Sign Gspec_l40Dec J3 J5 J15 J16) 5000 T5 (mk p5 (t0, t1, t6, r0, ())) = F5 (J15 T15) (J16 T16) Gspec_l1One Gspec_l40Dec t0 t1 t6 r0 := by kernel_rfl
theorem seg15 (Gspec_NamesValid : spec_NamesValid.G) (Gspec_TermsValid : spec_TermsValid.G) (Gspec_l1One : spec_l1One.G) (Gspec_l1Sign : spec_l1Sign.G) (Gspec_l40Dec : spec_l40Dec.G) (J3 : List Item → C3) (J5 : List Item → C5) (J15 : List Item → C15) (J16 : List Item → C16) (t0 : List Bs) (t1 : List Q4) (t6 : Int) (r0 : List Bs) (b1_0 : Int) (b1_1 : Int) (b1_2 : Int) (b1_3 : Int) : arunQ (pg Gspec_NamesValid Gspec_TermsValid Gspec_l1One Gspec_l1Sign Gspec_l40Dec J3 J5 J15 J16) q [] [] 5000 T15 (mk p15 (t0, t1, t6, r0, b1_0, b1_1, b1_2, b1_3, ())) = List.replicate (arunQ (pg Gspec_NamesValid Gspec_TermsValid Gspec_l1One Gspec_l1Sign Gspec_l40Dec J3 J5 J15 J16) q [] [] 5000 T15 (mk p15 (t0, t1, t6, r0, b1_0, b1_1, b1_2, b1_3, ()))).length (F15 (J16 T16) Gspec_l1Sign t0 t1 t6 r0 b1_0 b1_1 b1_2 b1_3) := by kernel_rfl
theorem seg16 (Gspec_NamesValid : spec_NamesValid.G) (Gspec_TermsValid : spec_TermsValid.G) (Gspec_l1One : spec_l1One.G) (Gspec_l1Sign : spec_l1Sign.G) (Gspec_l40Dec : spec_l40Dec.G) (J3 : List Item → C3) (J5 : List Item → C5) (J15 : List Item → C15) (J16 : List Item → C16) (t0 : List Bs) (t1 : List Q4) (t6 : Int) (t8 : Bs) (r0 : List Bs) : arun1 (pg Gspec_NamesValid Gspec_TermsValid Gspec_l1One Gspec_l1Sign Gspec_l40Dec J3 J5 J15 J16) 5000 T16 (mk p16 (t0, t1, t6, t8, r0, ())) = F16 (J5 T5) t0 t1 t6 t8 r0 := by kernel_rfl
noncomputable def L16 (J5 : C5) : C16 := fun x => F16 J5 x.1 x.2.1 x.2.2.1 x.2.2.2.1 x.2.2.2.2.1
noncomputable def L15 (J5 : C5) : C15 := fun x => F15 (L16 J5) spec_l1Sign.impl x.1 x.2.1 x.2.2.1 x.2.2.2.1 x.2.2.2.2.1 x.2.2.2.2.2.1 x.2.2.2.2.2.2.1 x.2.2.2.2.2.2.2.1
noncomputable def L5 : C5 := lfp fun J5 x => F5 (L15 J5) (L16 J5) spec_l1One.impl spec_l40Dec.impl x.1 x.2.1 x.2.2.1 x.2.2.2.1
noncomputable def L3 : C3 := fun x => F3 L5 x.1 x.2.1
noncomputable def impl : G := fun x => F0 L3 spec_NamesValid.impl spec_TermsValid.impl x.1 x.2.1
theorem F16_le {J5 J5' : C5} (h5 : OLe J5 J5') (t0 : List Bs) (t1 : List Q4) (t6 : Int) (t8 : Bs) (r0 : List Bs) : OptLe (F16 J5 t0 t1 t6 t8 r0) (F16 J5' t0 t1 t6 t8 r0) := by unfold F16; exact .cond (.refl _) (.cond (.of h5 _) (.refl _))
theorem F15_le {J16 J16' : C16} (h16 : OLe J16 J16') {Gspec_l1Sign : spec_l1Sign.G} (t0 : List Bs) (t1 : List Q4) (t6 : Int) (r0 : List Bs) (b1_0 : Int) (b1_1 : Int) (b1_2 : Int) (b1_3 : Int) : OptLe (F15 J16 Gspec_l1Sign t0 t1 t6 r0 b1_0 b1_1 b1_2 b1_3) (F15 J16' Gspec_l1Sign t0 t1 t6 r0 b1_0 b1_1 b1_2 b1_3) := by unfold F15; exact .cond (.cond (.cond (.cond (.bind (.refl _) fun _ => .cond (.cond (.cond (.cond (.of h16 _) (.refl _)) (.refl _)) (.refl _)) (.refl _)) (.refl _)) (.refl _)) (.refl _)) (.refl _)
theorem F5_le {J15 J15' : C15} (h15 : OLe J15 J15') {J16 J16' : C16} (h16 : OLe J16 J16') {Gspec_l1One : spec_l1One.G} {Gspec_l40Dec : spec_l40Dec.G} (t0 : List Bs) (t1 : List Q4) (t6 : Int) (r0 : List Bs) : OptLe (F5 J15 J16 Gspec_l1One Gspec_l40Dec t0 t1 t6 r0) (F5 J15' J16' Gspec_l1One Gspec_l40Dec t0 t1 t6 r0) := by unfold F5; exact .cond (.cond (.cond (.bind (.refl _) fun _ => .of h16 _) (.cond (.cond (.of h16 _) (.refl _)) (.bind (.refl _) fun _ => .cond (.cond (.cond (.of h16 _) (.refl _)) (.refl _)) (.of h15 _)))) (.refl _)) (.refl _)
theorem L16_eq (J5 : C5) (t0 : List Bs) (t1 : List Q4) (t6 : Int) (t8 : Bs) (r0 : List Bs) : L16 J5 (t0, t1, t6, t8, r0, ()) = F16 J5 t0 t1 t6 t8 r0 := rfl
theorem L16_le {J5 J5' : C5} (h5 : OLe J5 J5') : OLe (L16 J5) (L16 J5') := fun x => F16_le h5 x.1 x.2.1 x.2.2.1 x.2.2.2.1 x.2.2.2.2.1
theorem L15_eq (J5 : C5) (t0 : List Bs) (t1 : List Q4) (t6 : Int) (r0 : List Bs) (b1_0 : Int) (b1_1 : Int) (b1_2 : Int) (b1_3 : Int) : L15 J5 (t0, t1, t6, r0, b1_0, b1_1, b1_2, b1_3, ()) = F15 (L16 J5) spec_l1Sign.impl t0 t1 t6 r0 b1_0 b1_1 b1_2 b1_3 := rfl
theorem L15_le {J5 J5' : C5} (h5 : OLe J5 J5') : OLe (L15 J5) (L15 J5') := fun x => F15_le (L16_le h5) x.1 x.2.1 x.2.2.1 x.2.2.2.1 x.2.2.2.2.1 x.2.2.2.2.2.1 x.2.2.2.2.2.2.1 x.2.2.2.2.2.2.2.1
theorem L5_mono : OMono fun J5 (x : P5) => F5 (L15 J5) (L16 J5) spec_l1One.impl spec_l40Dec.impl x.1 x.2.1 x.2.2.1 x.2.2.2.1 := fun J J' h5 x => F5_le (L15_le h5) (L16_le h5) x.1 x.2.1 x.2.2.1 x.2.2.2.1
theorem L5_eq (t0 : List Bs) (t1 : List Q4) (t6 : Int) (r0 : List Bs) : L5 (t0, t1, t6, r0, ()) = F5 (L15 (L5)) (L16 (L5)) spec_l1One.impl spec_l40Dec.impl t0 t1 t6 r0 := congrFun (lfp_eq (L5_mono)) _
theorem L3_eq (t0 : List Bs) (t1 : List Q4) : L3 (t0, t1, ()) = F3 (L5) t0 t1 := rfl
theorem impl_eq (x0 : List Bs) (x1 : List Q4) : impl (x0, x1, ()) = F0 L3 spec_NamesValid.impl spec_TermsValid.impl x0 x1 := rfl
theorem con : Con Tryz.prog 15 2 rs.length 2 pin pout impl := by
  refine con_of_run3 (nt := 85) (c := c0) tabGood Tryz.func15 (by kernel_rfl) (by kernel_rfl) (by kernel_rfl) (by kernel_rfl) (by kernel_rfl) (by kernel_rfl) (by kernel_rfl) ?_
  intro w0 O y Post hnp fin
  have hp : ∀ (J3 : List Item → C3), ∀ (J5 : List Item → C5), ∀ (J15 : List Item → C15), ∀ (J16 : List Item → C16), Parts Tryz.prog 15 (pg spec_NamesValid.impl spec_TermsValid.impl spec_l1One.impl spec_l1Sign.impl spec_l40Dec.impl J3 J5 J15 J16) [(3, cut p3 J3), (5, cut p5 J5), (15, cut p15 J15), (16, cut p16 J16)] := fun J3 J5 J15 J16 => ⟨tab_ok tabGood rfl, (handAt_ok spec_l1Sign.con (handAt_ok spec_l1One.con (handAt_ok spec_TermsValid.con (handAt_ok spec_l40Dec.con (handAt_ok spec_NamesValid.con handNil_ok))))), rfl⟩
  have g16 : ∀ (J5 : C5), Good Tryz.prog 85 w0 O Post y T5 p5 J5 → Good Tryz.prog 85 w0 O Post y T16 p16 (L16 J5) := fun J5 h5 => good_part (hp (atT T3 (fun _ => none)) (atT T5 J5) (atT T15 (fun _ => none)) (atT T16 (fun _ => none))) (runOK_of (hp (atT T3 (fun _ => none)) (atT T5 J5) (atT T15 (fun _ => none)) (atT T16 (fun _ => none))) hnp ⟨cutOK_at (p := p3) (T := T3) (J := fun _ => none) good_none, cutOK_at h5, cutOK_at (p := p15) (T := T15) (J := fun _ => none) good_none, cutOK_at (p := p16) (T := T16) (J := fun _ => none) good_none, trivial⟩ fin) (fun x => (seg16 spec_NamesValid.impl spec_TermsValid.impl spec_l1One.impl spec_l1Sign.impl spec_l40Dec.impl (atT T3 (fun _ => none)) (atT T5 J5) (atT T15 (fun _ => none)) (atT T16 (fun _ => none)) x.1 x.2.1 x.2.2.1 x.2.2.2.1 x.2.2.2.2.1).trans (by simp only [atT_self] <;> rfl))
  have g15 : ∀ (J5 : C5), Good Tryz.prog 85 w0 O Post y T5 p5 J5 → Good Tryz.prog 85 w0 O Post y T15 p15 (L15 J5) := fun J5 h5 => good_quiet (hs := hd spec_NamesValid.impl spec_TermsValid.impl spec_l1One.impl spec_l1Sign.impl spec_l40Dec.impl) (cv' := hd spec_NamesValid.impl spec_TermsValid.impl spec_l1One.impl spec_l1Sign.impl spec_l40Dec.impl) (Checked.mixed Tryz.checked) (hp (atT T3 (fun _ => none)) (atT T5 (fun _ => none)) (atT T15 (fun _ => none)) (atT T16 (L16 J5))) (handAt_D spec_l1Sign.con (by rfl) rfl (handAt_D spec_l1One.con (by rfl) rfl (handAt_D spec_TermsValid.con (by rfl) rfl (handAt_D spec_l40Dec.con (by rfl) rfl (handAt_D spec_NamesValid.con (by rfl) rfl handNil_D))))) (handAt_nat (handAt_nat (handAt_nat (handAt_nat (handAt_nat handNil_nat))))) (handAt_nat (handAt_nat (handAt_nat (handAt_nat (handAt_nat handNil_nat))))) (runOK_of (hp (atT T3 (fun _ => none)) (atT T5 (fun _ => none)) (atT T15 (fun _ => none)) (atT T16 (L16 J5))) hnp ⟨cutOK_at (p := p3) (T := T3) (J := fun _ => none) good_none, cutOK_at (p := p5) (T := T5) (J := fun _ => none) good_none, cutOK_at (p := p15) (T := T15) (J := fun _ => none) good_none, cutOK_at (g16 J5 h5), trivial⟩ fin) (fun x => all_same ⟨_, (seg15 spec_NamesValid.impl spec_TermsValid.impl spec_l1One.impl spec_l1Sign.impl spec_l40Dec.impl (atT T3 (fun _ => none)) (atT T5 (fun _ => none)) (atT T15 (fun _ => none)) (atT T16 (L16 J5)) x.1 x.2.1 x.2.2.1 x.2.2.2.1 x.2.2.2.2.1 x.2.2.2.2.2.1 x.2.2.2.2.2.2.1 x.2.2.2.2.2.2.2.1).trans (by simp only [atT_self] <;> rfl)⟩)
  have g5 : Good Tryz.prog 85 w0 O Post y T5 p5 L5 := good_lfp fun J5 h5 => good_part (hp (atT T3 (fun _ => none)) (atT T5 (fun _ => none)) (atT T15 (L15 J5)) (atT T16 (L16 J5))) (runOK_of (hp (atT T3 (fun _ => none)) (atT T5 (fun _ => none)) (atT T15 (L15 J5)) (atT T16 (L16 J5))) hnp ⟨cutOK_at (p := p3) (T := T3) (J := fun _ => none) good_none, cutOK_at (p := p5) (T := T5) (J := fun _ => none) good_none, cutOK_at (g15 J5 h5), cutOK_at (g16 J5 h5), trivial⟩ fin) (fun x => (seg5 spec_NamesValid.impl spec_TermsValid.impl spec_l1One.impl spec_l1Sign.impl spec_l40Dec.impl (atT T3 (fun _ => none)) (atT T5 (fun _ => none)) (atT T15 (L15 J5)) (atT T16 (L16 J5)) x.1 x.2.1 x.2.2.1 x.2.2.2.1).trans (by simp only [atT_self] <;> rfl))
  have g3 : Good Tryz.prog 85 w0 O Post y T3 p3 L3 := good_part (hp (atT T3 (fun _ => none)) (atT T5 L5) (atT T15 (fun _ => none)) (atT T16 (fun _ => none))) (runOK_of (hp (atT T3 (fun _ => none)) (atT T5 L5) (atT T15 (fun _ => none)) (atT T16 (fun _ => none))) hnp ⟨cutOK_at (p := p3) (T := T3) (J := fun _ => none) good_none, cutOK_at g5, cutOK_at (p := p15) (T := T15) (J := fun _ => none) good_none, cutOK_at (p := p16) (T := T16) (J := fun _ => none) good_none, trivial⟩ fin) (fun x => (seg3 spec_NamesValid.impl spec_TermsValid.impl spec_l1One.impl spec_l1Sign.impl spec_l40Dec.impl (atT T3 (fun _ => none)) (atT T5 L5) (atT T15 (fun _ => none)) (atT T16 (fun _ => none)) x.1 x.2.1).trans (by simp only [atT_self] <;> rfl))
  exact good_first (hp (atT T3 L3) (atT T5 (fun _ => none)) (atT T15 (fun _ => none)) (atT T16 (fun _ => none))) (runOK_of (hp (atT T3 L3) (atT T5 (fun _ => none)) (atT T15 (fun _ => none)) (atT T16 (fun _ => none))) hnp ⟨cutOK_at g3, cutOK_at (p := p5) (T := T5) (J := fun _ => none) good_none, cutOK_at (p := p15) (T := T15) (J := fun _ => none) good_none, cutOK_at (p := p16) (T := T16) (J := fun _ => none) good_none, trivial⟩ fin) (fun x => (seg0 spec_NamesValid.impl spec_TermsValid.impl spec_l1One.impl spec_l1Sign.impl spec_l40Dec.impl (atT T3 L3) (atT T5 (fun _ => none)) (atT T15 (fun _ => none)) (atT T16 (fun _ => none)) x.1 x.2.1).trans (by simp only [atT_self] <;> rfl))
end spec_WriteExpr

/-! ### loop.example/wholecheck/spec.l40Many -/
namespace spec_l40Many
noncomputable abbrev c0 : Code := (Tryz.f69.body).getD .skip
noncomputable abbrev pin : Tpl := ⟨[⟨0, false, [.d .str]⟩, ⟨1, false, [.d i64]⟩], []⟩
noncomputable abbrev pout : Tpl := ⟨[⟨0, false, [.d .str]⟩], []⟩
noncomputable abbrev p2 : Tpl := ⟨[⟨0, false, [.d .str]⟩, ⟨1, false, [.d i64]⟩, ⟨5, false, [.d .str]⟩], []⟩
noncomputable def T2 : List Item := (find 2 c0 []).getD []
noncomputable abbrev PI := Bs × Int × Unit
noncomputable abbrev PO := Bs × Unit
noncomputable abbrev G := PI → Option PO
noncomputable abbrev P2 := Bs × Int × Bs × Unit
noncomputable abbrev C2 := P2 → Option PO
noncomputable abbrev rs : List ResultVar := [.tmp 4]
noncomputable def F0 (J2 : C2) (x0 : Bs) (x1 : Int) : Option PO :=
  J2 (x0, x1, [], ())
noncomputable def F2 (J2 : C2) (t0 : Bs) (t1 : Int) (t5 : Bs) : Option PO :=
  bif decide (t1 > 0) then
    bif Int.tmod t1 2 == 1 then
      bif decide (t5.length + t0.length ≤ 140737488355328) then
        bif decide (t0.length + t0.length ≤ 140737488355328) then
          J2 (t0 ++ t0, wI (Int.tdiv t1 2), t5 ++ t0, ())
        else
          none
      else
        none
    else
      bif decide (t0.length + t0.length ≤ 140737488355328) then
        J2 (t0 ++ t0, wI (Int.tdiv t1 2), t5, ())
      else
        none
  else
    some (t5, ())
noncomputable def hd {R : Type} : Hand R := handNil
noncomputable def pg (J2 : List Item → C2) : Prog PO := { nt := 20, np := 0, tb := tabOf tab, hd := hd, cuts := cutsOf [(2, cut p2 J2)], fin := endOf (tabOf tab) rs 0 pout }
noncomputable def q : FuncId → Bool := fun f => hasId [] f
theorem seg0 (J2 : List Item → C2) (x0 : Bs) (x1 : Int) : arun (pg J2) 5000 [.code c0] (mk pin (x0, x1, ())) = F0 (J2 T2) x0 x1 := by kernel_rfl
theorem seg2 (J2 : List Item → C2) (t0 : Bs) (t1 : Int) (t5 : Bs) : arun1 (pg J2) 5000 T2 (mk p2 (t0, t1, t5, ())) = F2 (J2 T2) t0 t1 t5 := by kernel_rfl
noncomputable def L2 : C2 := lfp fun J2 x => F2 J2 x.1 x.2.1 x.2.2.1
noncomputable def impl : G := fun x => F0 L2 x.1 x.2.1
theorem F2_le {J2 J2' : C2} (h2 : OLe J2 J2') (t0 : Bs) (t1 : Int) (t5 : Bs) : OptLe (F2 J2 t0 t1 t5) (F2 J2' t0 t1 t5) := by unfold F2; exact .cond (.cond (.cond (.cond (.of h2 _) (.refl _)) (.refl _)) (.cond (.of h2 _) (.refl _))) (.refl _)
theorem L2_mono : OMono fun J2 (x : P2) => F2 J2 x.1 x.2.1 x.2.2.1 := fun J J' h2 x => F2_le h2 x.1 x.2.1 x.2.2.1
theorem L2_eq (t0 : Bs) (t1 : Int) (t5 : Bs) : L2 (t0, t1, t5, ()) = F2 (L2) t0 t1 t5 := congrFun (lfp_eq (L2_mono)) _
theorem impl_eq (x0 : Bs) (x1 : Int) : impl (x0, x1, ()) = F0 L2 x0 x1 := rfl
theorem con : Con Tryz.prog 69 2 rs.length 0 pin pout impl := by
  refine con_of_run3 (nt := 20) (c := c0) tabGood Tryz.func69 (by kernel_rfl) (by kernel_rfl) (by kernel_rfl) (by kernel_rfl) (by kernel_rfl) (by kernel_rfl) (by kernel_rfl) ?_
  intro w0 O y Post hnp fin
  have hp : ∀ (J2 : List Item → C2), Parts Tryz.prog 69 (pg J2) [(2, cut p2 J2)] := fun J2 => ⟨tab_ok tabGood rfl, handNil_ok, rfl⟩
  have g2 : Good Tryz.prog 20 w0 O Post y T2 p2 L2 := good_lfp fun J2 h2 => good_part (hp (atT T2 J2)) (runOK_of (hp (atT T2 J2)) hnp ⟨cutOK_at h2, trivial⟩ fin) (fun x => (seg2 (atT T2 J2) x.1 x.2.1 x.2.2.1).trans (by simp only [atT_self] <;> rfl))
  exact good_first (hp (atT T2 L2)) (runOK_of (hp (atT T2 L2)) hnp ⟨cutOK_at g2, trivial⟩ fin) (fun x => (seg0 (atT T2 L2) x.1 x.2.1).trans (by simp only [atT_self] <;> rfl))
end spec_l40Many

/-! ### loop.example/wholecheck/spec.l30Spoil -/
namespace spec_l30Spoil
noncomputable abbrev c0 : Code := (Tryz.f70.body).getD .skip
noncomputable abbrev pin : Tpl := ⟨[⟨0, false, [.ptr 500001 0]⟩, ⟨1, false, [.d .str]⟩], [(500001, .box [.d (.sl (.int .u8)), .d i64])]⟩
noncomputable abbrev pout : Tpl := ⟨[⟨0, false, [.d .str]⟩, ⟨1, false, [.ptr 500001 0]⟩], [(500001, .box [.d (.sl (.int .u8)), .d i64])]⟩
noncomputable abbrev p3 : Tpl := ⟨[⟨0, false, [.ptr 500001 0]⟩, ⟨1, false, [.d .str]⟩], [(500001, .box [.d (.sl (.int .u8)), .d i64])]⟩
noncomputable def T3 : List Item := (find 3 c0 []).getD []
noncomputable abbrev p4 : Tpl := ⟨[⟨0, false, [.ptr 500001 0]⟩, ⟨1, false, [.d .str]⟩, ⟨5, false, [.d i64]⟩], [(500001, .box [.d (.sl (.int .u8)), .d i64])]⟩
noncomputable def T4 : List Item := (find 4 c0 []).getD []
noncomputable abbrev PI := Bs × (List Int) × Int × Unit
noncomputable abbrev PO := Bs × (List Int) × Int × Unit
noncomputable abbrev G := PI → Option PO
noncomputable abbrev P3 := Bs × (List Int) × Int × Unit
noncomputable abbrev C3 := P3 → Option PO
noncomputable abbrev P4 := Bs × Int × (List Int) × Int × Unit
noncomputable abbrev C4 := P4 → Option PO
noncomputable abbrev rs : List ResultVar := [.tmp 4]
noncomputable def F0 (J3 : C3) (Gspec_l40Rd_pick : spec_l40Rd_pick.G) (x1 : Bs) (c1_0 : List Int) (c1_1 : Int) : Option PO :=
  bif (x1.length : Int) == 0 then
    some (x1, c1_0, c1_1, ())
  else
    Option.bind (Gspec_l40Rd_pick (3, c1_0, c1_1, ())) fun y0 =>
    bif decide (y0.1 > 0) then
      some (x1, y0.2.1, y0.2.2.1, ())
    else
      J3 (x1, y0.2.1, y0.2.2.1, ())
noncomputable def F3 (J4 : C4) (Gspec_l40Rd_pick : spec_l40Rd_pick.G) (t1 : Bs) (c1_0 : List Int) (c1_1 : Int) : Option PO :=
  Option.bind (Gspec_l40Rd_pick ((t1.length : Int), c1_0, c1_1, ())) fun y1 =>
  J4 (t1, y1.1, y1.2.1, y1.2.2.1, ())
noncomputable def F4 (Gspec_l40Rd_of : spec_l40Rd_of.G) (Gspec_l40Rd_pick : spec_l40Rd_pick.G) (t1 : Bs) (t5 : Int) (c1_0 : List Int) (c1_1 : Int) : Option PO :=
  bif decide (0 ≤ t5) && decide (t5 ≤ (t1.length : Int)) then
    Option.bind (Gspec_l40Rd_of (([[], ([32] : Bs), ([40] : Bs), ([41] : Bs), ([120] : Bs), ([10] : Bs), ([48] : Bs), ([45] : Bs), ([59] : Bs), ([61] : Bs)] : List Bs), c1_0, c1_1, ())) fun y2 =>
    bif decide (((t1.take t5.toNat).drop 0).length + y2.1.length ≤ 140737488355328) then
      Option.bind (Gspec_l40Rd_pick (2, y2.2.1, y2.2.2.1, ())) fun y3 =>
      bif decide (0 ≤ wI (t5 + y3.1)) && decide (wI (t5 + y3.1) ≤ (t1.length : Int)) && decide ((t1.length : Int) ≤ (t1.length : Int)) then
        bif decide ((((t1.take t5.toNat).drop 0) ++ y2.1).length + ((t1.take (t1.length : Int).toNat).drop (wI (t5 + y3.1)).toNat).length ≤ 140737488355328) then
          some ((((t1.take t5.toNat).drop 0) ++ y2.1) ++ ((t1.take (t1.length : Int).toNat).drop (wI (t5 + y3.1)).toNat), y3.2.1, y3.2.2.1, ())
        else
          none
      else
        none
    else
      none
  else
    none
noncomputable def hd {R : Type} (Gspec_l40Rd_of : spec_l40Rd_of.G) (Gspec_l40Rd_pick : spec_l40Rd_pick.G) : Hand R := (handAt 103 [24] false ⟨2, 1, 2, spec_l40Rd_of.pin, spec_l40Rd_of.pout, Gspec_l40Rd_of⟩ (handAt 53 [11, 18, 29] false ⟨2, 1, 2, spec_l40Rd_pick.pin, spec_l40Rd_pick.pout, Gspec_l40Rd_pick⟩ handNil))
noncomputable def pg (Gspec_l40Rd_of : spec_l40Rd_of.G) (Gspec_l40Rd_pick : spec_l40Rd_pick.G) (J3 : List Item → C3) (J4 : List Item → C4) : Prog PO := { nt := 33, np := 2, tb := tabOf tab, hd := hd Gspec_l40Rd_of Gspec_l40Rd_pick, cuts := cutsOf [(3, cut p3 J3), (4, cut p4 J4)], fin := endOf (tabOf tab) rs 2 pout }
noncomputable def q : FuncId → Bool := fun f => hasId [] f
theorem seg0 (Gspec_l40Rd_of : spec_l40Rd_of.G) (Gspec_l40Rd_pick : spec_l40Rd_pick.G) (J3 : List Item → C3) (J4 : List Item → C4) (x1 : Bs) (c1_0 : List Int) (c1_1 : Int) : arun (pg Gspec_l40Rd_of Gspec_l40Rd_pick J3 J4) 5000 [.code c0] (mk pin (x1, c1_0, c1_1, ())) = F0 (J3 T3) Gspec_l40Rd_pick x1 c1_0 c1_1 := by kernel_rfl
theorem seg3 (Gspec_l40Rd_of : spec_l40Rd_of.G) (Gspec_l40Rd_pick : spec_l40Rd_pick.G) (J3 : List Item → C3) (J4 : List Item → C4) (t1 : Bs) (c1_0 : List Int) (c1_1 : Int) : arun1 (pg Gspec_l40Rd_of Gspec_l40Rd_pick J3 J4) 5000 T3 (mk p3 (t1, c1_0, c1_1, ())) = F3 (J4 T4) Gspec_l40Rd_pick t1 c1_0 c1_1 := by kernel_rfl
theorem seg4 (Gspec_l40Rd_of : spec_l40Rd_of.G) (Gspec_l40Rd_pick : spec_l40Rd_pick.G) (J3 : List Item → C3) (J4 : List Item → C4) (t1 : Bs) (t5 : Int) (c1_0 : List Int) (c1_1 : Int) : arunE (pg Gspec_l40Rd_of Gspec_l40Rd_pick J3 J4) 5000 T4 (mk p4 (t1, t5, c1_0, c1_1, ())) = List.replicate (arunE (pg Gspec_l40Rd_of Gspec_l40Rd_pick J3 J4) 5000 T4 (mk p4 (t1, t5, c1_0, c1_1, ()))).length (F4 Gspec_l40Rd_of Gspec_l40Rd_pick t1 t5 c1_0 c1_1) := by kernel_rfl
noncomputable def L4 : C4 := fun x => F4 spec_l40Rd_of.impl spec_l40Rd_pick.impl x.1 x.2.1 x.2.2.1 x.2.2.2.1
noncomputable def L3 : C3 := fun x => F3 L4 spec_l40Rd_pick.impl x.1 x.2.1 x.2.2.1
noncomputable def impl : G := fun x => F0 L3 spec_l40Rd_pick.impl x.1 x.2.1 x.2.2.1
theorem L4_eq (t1 : Bs) (t5 : Int) (c1_0 : List Int) (c1_1 : Int) : L4 (t1, t5, c1_0, c1_1, ()) = F4 spec_l40Rd_of.impl spec_l40Rd_pick.impl t1 t5 c1_0 c1_1 := rfl
theorem L3_eq (t1 : Bs) (c1_0 : List Int) (c1_1 : Int) : L3 (t1, c1_0, c1_1, ()) = F3 (L4) spec_l40Rd_pick.impl t1 c1_0 c1_1 := rfl
theorem impl_eq (x1 : Bs) (c1_0 : List Int) (c1_1 : Int) : impl (x1, c1_0, c1_1, ()) = F0 L3 spec_l40Rd_pick.impl x1 c1_0 c1_1 := rfl
theorem con : Con Tryz.prog 70 2 rs.length 2 pin pout impl := by
  refine con_of_run3 (nt := 33) (c := c0) tabGood Tryz.func70 (by kernel_rfl) (by kernel_rfl) (by kernel_rfl) (by kernel_rfl) (by kernel_rfl) (by kernel_rfl) (by kernel_rfl) ?_
  intro w0 O y Post hnp fin
  have hp : ∀ (J3 : List Item → C3), ∀ (J4 : List Item → C4), Parts Tryz.prog 70 (pg spec_l40Rd_of.impl spec_l40Rd_pick.impl J3 J4) [(3, cut p3 J3), (4, cut p4 J4)] := fun J3 J4 => ⟨tab_ok tabGood rfl, (handAt_ok spec_l40Rd_of.con (handAt_ok spec_l40Rd_pick.con handNil_ok)), rfl⟩
  have g4 : Good Tryz.prog 33 w0 O Post y T4 p4 L4 := good_orders (hs := hd spec_l40Rd_of.impl spec_l40Rd_pick.impl) (cv' := hd spec_l40Rd_of.impl spec_l40Rd_pick.impl) (Checked.mixed Tryz.checked) (hp (atT T3 (fun _ => none)) (atT T4 (fun _ => none))) (handAt_ok spec_l40Rd_of.con (handAt_ok spec_l40Rd_pick.con handNil_ok)) (handAt_nat (handAt_nat handNil_nat)) (handAt_nat (handAt_nat handNil_nat)) (runOK_of (hp (atT T3 (fun _ => none)) (atT T4 (fun _ => none))) hnp ⟨cutOK_at (p := p3) (T := T3) (J := fun _ => none) good_none, cutOK_at (p := p4) (T := T4) (J := fun _ => none) good_none, trivial⟩ fin) (fun x => all_same ⟨_, (seg4 spec_l40Rd_of.impl spec_l40Rd_pick.impl (atT T3 (fun _ => none)) (atT T4 (fun _ => none)) x.1 x.2.1 x.2.2.1 x.2.2.2.1)⟩)
  have g3 : Good Tryz.prog 33 w0 O Post y T3 p3 L3 := good_part (hp (atT T3 (fun _ => none)) (atT T4 L4)) (runOK_of (hp (atT T3 (fun _ => none)) (atT T4 L4)) hnp ⟨cutOK_at (p := p3) (T := T3) (J := fun _ => none) good_none, cutOK_at g4, trivial⟩ fin) (fun x => (seg3 spec_l40Rd_of.impl spec_l40Rd_pick.impl (atT T3 (fun _ => none)) (atT T4 L4) x.1 x.2.1 x.2.2.1).trans (by simp only [atT_self] <;> rfl))
  exact good_first (hp (atT T3 L3) (atT T4 (fun _ => none))) (runOK_of (hp (atT T3 L3) (atT T4 (fun _ => none))) hnp ⟨cutOK_at g3, cutOK_at (p := p4) (T := T4) (J := fun _ => none) good_none, trivial⟩ fin) (fun x => (seg0 spec_l40Rd_of.impl spec_l40Rd_pick.impl (atT T3 L3) (atT T4 (fun _ => none)) x.1 x.2.1 x.2.2.1).trans (by simp only [atT_self] <;> rfl))
end spec_l30Spoil

/-! ### loop.example/wholecheck/spec.DrawReadExpr -/
namespace spec_DrawReadExpr
noncomputable abbrev c0 : Code := (Tryz.f21.body).getD .skip
noncomputable abbrev pin : Tpl := ⟨[⟨0, false, [.d (.sl (.int .u8))]⟩], []⟩
noncomputable abbrev pout : Tpl := ⟨[⟨0, false, [.row 600001]⟩, ⟨1, false, [.d .str]⟩], [(600001, .row 9 false .str)]⟩
noncomputable abbrev PI := (List Int) × Unit
noncomputable abbrev PO := Bs × (List Bs) × Unit
noncomputable abbrev G := PI → Option PO
noncomputable abbrev rs : List ResultVar := [.tmp 2, .tmp 3]
noncomputable def F0 (Gspec_WriteExpr : spec_WriteExpr.G) (Gspec_l1Terms : spec_l1Terms.G) (Gspec_l30Names : spec_l30Names.G) (Gspec_l30Spoil : spec_l30Spoil.G) (Gspec_l40Many : spec_l40Many.G) (Gspec_l40Open : spec_l40Open.G) (Gspec_l40Rd_pick : spec_l40Rd_pick.G) (x0 : List Int) : Option PO :=
  Option.bind (Gspec_l40Open (x0, ())) fun y0 =>
  Option.bind (Gspec_l40Rd_pick (3, y0.1, y0.2.1, ())) fun y1 =>
  Option.bind (Gspec_l30Names (wI (1 + y1.1), y1.2.1, y1.2.2.1, ())) fun y2 =>
  Option.bind (Gspec_l40Rd_pick (3, y2.2.1, y2.2.2.1, ())) fun y3 =>
  Option.bind (Gspec_l1Terms ((y2.1.length : Int), y3.1, 8, y3.2.1, y3.2.2.1, ())) fun y4 =>
  Option.bind (Gspec_WriteExpr (y2.1, y4.1, ())) fun y5 =>
  Option.bind (Gspec_l40Rd_pick (20, y4.2.1, y4.2.2.1, ())) fun y6 =>
  bif y6.1 == 0 then
    Option.bind (Gspec_l40Rd_pick (3, y6.2.1, y6.2.2.1, ())) fun y7 =>
    Option.bind (Gspec_l40Many (([33] : Bs), wI (38 + y7.1), ())) fun y8 =>
    bif decide (y8.1.length + ([40, 120, 32, 61, 32, 48, 41] : Bs).length ≤ 140737488355328) then
      Option.bind (Gspec_l30Spoil (y8.1 ++ ([40, 120, 32, 61, 32, 48, 41] : Bs), y7.2.1, y7.2.2.1, ())) fun y9 =>
      some (y9.1, y2.1, ())
    else
      none
  else
    Option.bind (Gspec_l30Spoil (y5.1, y6.2.1, y6.2.2.1, ())) fun y10 =>
    some (y10.1, y2.1, ())
noncomputable def hd {R : Type} (Gspec_WriteExpr : spec_WriteExpr.G) (Gspec_l1Terms : spec_l1Terms.G) (Gspec_l30Names : spec_l30Names.G) (Gspec_l30Spoil : spec_l30Spoil.G) (Gspec_l40Many : spec_l40Many.G) (Gspec_l40Open : spec_l40Open.G) (Gspec_l40Rd_pick : spec_l40Rd_pick.G) : Hand R := (handAt 70 [33] false ⟨2, 1, 2, spec_l30Spoil.pin, spec_l30Spoil.pout, Gspec_l30Spoil⟩ (handAt 69 [28] true ⟨2, 1, 0, spec_l40Many.pin, spec_l40Many.pout, Gspec_l40Many⟩ (handAt 68 [20] false ⟨4, 1, 4, spec_l1Terms.pin, spec_l1Terms.pout, Gspec_l1Terms⟩ (handAt 53 [11, 19, 23, 26] false ⟨2, 1, 2, spec_l40Rd_pick.pin, spec_l40Rd_pick.pout, Gspec_l40Rd_pick⟩ (handAt 52 [13] false ⟨2, 1, 2, spec_l30Names.pin, spec_l30Names.pout, Gspec_l30Names⟩ (handAt 51 [8] false ⟨1, 1, 0, spec_l40Open.pin, spec_l40Open.pout, Gspec_l40Open⟩ (handAt 15 [21] true ⟨2, 1, 2, spec_WriteExpr.pin, spec_WriteExpr.pout, Gspec_WriteExpr⟩ handNil)))))))
noncomputable def pg (Gspec_WriteExpr : spec_WriteExpr.G) (Gspec_l1Terms : spec_l1Terms.G) (Gspec_l30Names : spec_l30Names.G) (Gspec_l30Spoil : spec_l30Spoil.G) (Gspec_l40Many : spec_l40Many.G) (Gspec_l40Open : spec_l40Open.G) (Gspec_l40Rd_pick : spec_l40Rd_pick.G) : Prog PO := { nt := 34, np := 1, tb := tabOf tab, hd := hd Gspec_WriteExpr Gspec_l1Terms Gspec_l30Names Gspec_l30Spoil Gspec_l40Many Gspec_l40Open Gspec_l40Rd_pick, cuts := cutsOf [], fin := endOf (tabOf tab) rs 1 pout }
noncomputable def q : FuncId → Bool := fun f => hasId [15, 69] f
theorem seg0 (Gspec_WriteExpr : spec_WriteExpr.G) (Gspec_l1Terms : spec_l1Terms.G) (Gspec_l30Names : spec_l30Names.G) (Gspec_l30Spoil : spec_l30Spoil.G) (Gspec_l40Many : spec_l40Many.G) (Gspec_l40Open : spec_l40Open.G) (Gspec_l40Rd_pick : spec_l40Rd_pick.G) (x0 : List Int) : arun (pg Gspec_WriteExpr Gspec_l1Terms Gspec_l30Names Gspec_l30Spoil Gspec_l40Many Gspec_l40Open Gspec_l40Rd_pick) 5000 [.code c0] (mk pin (x0, ())) = F0 Gspec_WriteExpr Gspec_l1Terms Gspec_l30Names Gspec_l30Spoil Gspec_l40Many Gspec_l40Open Gspec_l40Rd_pick x0 := by kernel_rfl
noncomputable def impl : G := fun x => F0 spec_WriteExpr.impl spec_l1Terms.impl spec_l30Names.impl spec_l30Spoil.impl spec_l40Many.impl spec_l40Open.impl spec_l40Rd_pick.impl x.1
theorem impl_eq (x0 : List Int) : impl (x0, ()) = F0 spec_WriteExpr.impl spec_l1Terms.impl spec_l30Names.impl spec_l30Spoil.impl spec_l40Many.impl spec_l40Open.impl spec_l40Rd_pick.impl x0 := rfl
theorem con : Con Tryz.prog 21 1 rs.length 1 pin pout impl := by
  refine con_of_run3 (nt := 34) (c := c0) tabGood Tryz.func21 (by kernel_rfl) (by kernel_rfl) (by kernel_rfl) (by kernel_rfl) (by kernel_rfl) (by kernel_rfl) (by kernel_rfl) ?_
  intro w0 O y Post hnp fin
  have hp : Parts Tryz.prog 21 (pg spec_WriteExpr.impl spec_l1Terms.impl spec_l30Names.impl spec_l30Spoil.impl spec_l40Many.impl spec_l40Open.impl spec_l40Rd_pick.impl) [] := ⟨tab_ok tabGood rfl, (handAt_ok spec_l30Spoil.con (handAt_ok spec_l40Many.con (handAt_ok spec_l1Terms.con (handAt_ok spec_l40Rd_pick.con (handAt_ok spec_l30Names.con (handAt_ok spec_l40Open.con (handAt_ok spec_WriteExpr.con handNil_ok))))))), rfl⟩
  exact good_first (hp) (runOK_of (hp) hnp trivial fin) (fun x => (seg0 spec_WriteExpr.impl spec_l1Terms.impl spec_l30Names.impl spec_l30Spoil.impl spec_l40Many.impl spec_l40Open.impl spec_l40Rd_pick.impl x.1))
end spec_DrawReadExpr

/-! ### loop.example/wholecheck/impl.in -/
namespace impl_in
noncomputable abbrev c0 : Code := (Tryz.f74.body).getD .skip
noncomputable abbrev pin : Tpl := ⟨[⟨0, false, [.d i64]⟩, ⟨1, false, [.d i64]⟩, ⟨2, false, [.d i64]⟩], []⟩
noncomputable abbrev pout : Tpl := ⟨[⟨0, false, [.d .bool]⟩], []⟩
noncomputable abbrev PI := Int × Int × Int × Unit
noncomputable abbrev PO := Bool × Unit
noncomputable abbrev G := PI → Option PO
noncomputable abbrev rs : List ResultVar := [.tmp 6]
noncomputable def F0 (x0 : Int) (x1 : Int) (x2 : Int) : Option PO :=
  bif decide (x0 ≥ x1) then
    some (decide (x0 ≤ x2), ())
  else
    some (false, ())
noncomputable def hd {R : Type} : Hand R := handNil
noncomputable def pg : Prog PO := { nt := 15, np := 3, tb := tabOf tab, hd := hd, cuts := cutsOf [], fin := endOf (tabOf tab) rs 3 pout }
noncomputable def q : FuncId → Bool := fun f => hasId [] f
theorem seg0 (x0 : Int) (x1 : Int) (x2 : Int) : arun (pg) 5000 [.code c0] (mk pin (x0, x1, x2, ())) = F0 x0 x1 x2 := by kernel_rfl
noncomputable def impl : G := fun x => F0 x.1 x.2.1 x.2.2.1
theorem impl_eq (x0 : Int) (x1 : Int) (x2 : Int) : impl (x0, x1, x2, ()) = F0 x0 x1 x2 := rfl
theorem con : Con Tryz.prog 74 3 rs.length 3 pin pout impl := by
  refine con_of_run3 (nt := 15) (c := c0) tabGood Tryz.func74 (by kernel_rfl) (by kernel_rfl) (by kernel_rfl) (by kernel_rfl) (by kernel_rfl) (by kernel_rfl) (by kernel_rfl) ?_
  intro w0 O y Post hnp fin
  have hp : Parts Tryz.prog 74 (pg) [] := ⟨tab_ok tabGood rfl, handNil_ok, rfl⟩
  exact good_first (hp) (runOK_of (hp) hnp trivial fin) (fun x => (seg0 x.1 x.2.1 x.2.2.1))
end impl_in

/-! ### loop.example/wholecheck/impl.nameOk -/
namespace impl_nameOk
noncomputable abbrev c0 : Code := (Tryz.f58.body).getD .skip
noncomputable abbrev pin : Tpl := ⟨[⟨0, false, [.d .str]⟩], []⟩
noncomputable abbrev pout : Tpl := ⟨[⟨0, false, [.d .bool]⟩], []⟩
noncomputable abbrev PI := Bs × Unit
noncomputable abbrev PO := Bool × Unit
noncomputable abbrev G := PI → Option PO
noncomputable abbrev rs : List ResultVar := [.tmp 2]
noncomputable def F0 (Gimpl_in : impl_in.G) (Glib_Trim : lib_Trim.G) (x0 : Bs) : Option PO :=
  Option.bind (Gimpl_in ((x0.length : Int), 1, 8, ())) fun y0 =>
  bif y0.1 then
    Option.bind (Glib_Trim (x0, ([97, 98, 99, 100, 101, 102, 103, 104, 105, 106, 107, 108, 109, 110, 111, 112, 113, 114, 115, 116, 117, 118, 119, 120, 121, 122] : Bs), ())) fun y1 =>
    some (y1.1 == [], ())
  else
    some (false, ())
noncomputable def hd {R : Type} (Gimpl_in : impl_in.G) (Glib_Trim : lib_Trim.G) : Hand R := (handAt 105 [8] true ⟨2, 1, 0, lib_Trim.pin, lib_Trim.pout, Glib_Trim⟩ (handAt 74 [5] true ⟨3, 1, 3, impl_in.pin, impl_in.pout, Gimpl_in⟩ handNil))
noncomputable def pg (Gimpl_in : impl_in.G) (Glib_Trim : lib_Trim.G) : Prog PO := { nt := 11, np := 1, tb := tabOf tab, hd := hd Gimpl_in Glib_Trim, cuts := cutsOf [], fin := endOf (tabOf tab) rs 1 pout }
noncomputable def q : FuncId → Bool := fun f => hasId [74, 105] f
theorem seg0 (Gimpl_in : impl_in.G) (Glib_Trim : lib_Trim.G) (x0 : Bs) : arun (pg Gimpl_in Glib_Trim) 5000 [.code c0] (mk pin (x0, ())) = F0 Gimpl_in Glib_Trim x0 := by kernel_rfl
noncomputable def impl : G := fun x => F0 impl_in.impl lib_Trim.impl x.1
theorem impl_eq (x0 : Bs) : impl (x0, ()) = F0 impl_in.impl lib_Trim.impl x0 := rfl
theorem con : Con Tryz.prog 58 1 rs.length 1 pin pout impl := by
  refine con_of_run3 (nt := 11) (c := c0) tabGood Tryz.func58 (by kernel_rfl) (by kernel_rfl) (by kernel_rfl) (by kernel_rfl) (by kernel_rfl) (by kernel_rfl) (by kernel_rfl) ?_
  intro w0 O y Post hnp fin
  have hp : Parts Tryz.prog 58 (pg impl_in.impl lib_Trim.impl) [] := ⟨tab_ok tabGood rfl, (handAt_ok lib_Trim.con (handAt_ok impl_in.con handNil_ok)), rfl⟩
  exact good_first (hp) (runOK_of (hp) hnp trivial fin) (fun x => (seg0 impl_in.impl lib_Trim.impl x.1))
end impl_nameOk

/-! ### slices.Index[[]string,string] -/
namespace slices_Index_of
noncomputable abbrev c0 : Code := (Tryz.f106.body).getD .skip
noncomputable abbrev pin : Tpl := ⟨[⟨0, false, [.d (.sl .str)]⟩, ⟨1, false, [.d .str]⟩], []⟩
noncomputable abbrev pout : Tpl := ⟨[⟨0, false, [.d i64]⟩], []⟩
noncomputable abbrev p2 : Tpl := ⟨[⟨0, false, [.d (.sl .str)]⟩, ⟨1, false, [.d .str]⟩, ⟨7, false, [.d i64]⟩, ⟨8, false, [.d i64]⟩], []⟩
noncomputable def T2 : List Item := (find 2 c0 []).getD []
noncomputable abbrev PI := (List Bs) × Bs × Unit
noncomputable abbrev PO := Int × Unit
noncomputable abbrev G := PI → Option PO
noncomputable abbrev P2 := (List Bs) × Bs × Int × Int × Unit
noncomputable abbrev C2 := P2 → Option PO
noncomputable abbrev rs : List ResultVar := [.tmp 4]
noncomputable def F0 (J2 : C2) (x0 : List Bs) (x1 : Bs) : Option PO :=
  J2 (x0, x1, (x0.length : Int), 0, ())
noncomputable def F2 (J2 : C2) (t0 : List Bs) (t1 : Bs) (t7 : Int) (t8 : Int) : Option PO :=
  bif decide (t8 < t7) then
    bif inb t8 t0.length then
      bif t1 == (t0.getD t8.toNat []) then
        some (t8, ())
      else
        J2 (t0, t1, t7, wI (t8 + 1), ())
    else
      none
  else
    some ((-1), ())
noncomputable def hd {R : Type} : Hand R := handNil
noncomputable def pg (J2 : List Item → C2) : Prog PO := { nt := 19, np := 2, tb := tabOf tab, hd := hd, cuts := cutsOf [(2, cut p2 J2)], fin := endOf (tabOf tab) rs 2 pout }
noncomputable def q : FuncId → Bool := fun f => hasId [] f
theorem seg0 (J2 : List Item → C2) (x0 : List Bs) (x1 : Bs) : arun (pg J2) 5000 [.code c0] (mk pin (x0, x1, ())) = F0 (J2 T2) x0 x1 := by kernel_rfl
theorem seg2 (J2 : List Item → C2) (t0 : List Bs) (t1 : Bs) (t7 : Int) (t8 : Int) : arun1 (pg J2) 5000 T2 (mk p2 (t0, t1, t7, t8, ())) = F2 (J2 T2) t0 t1 t7 t8 := by kernel_rfl
noncomputable def L2 : C2 := lfp fun J2 x => F2 J2 x.1 x.2.1 x.2.2.1 x.2.2.2.1
noncomputable def impl : G := fun x => F0 L2 x.1 x.2.1
theorem F2_le {J2 J2' : C2} (h2 : OLe J2 J2') (t0 : List Bs) (t1 : Bs) (t7 : Int) (t8 : Int) : OptLe (F2 J2 t0 t1 t7 t8) (F2 J2' t0 t1 t7 t8) := by unfold F2; exact .cond (.cond (.cond (.refl _) (.of h2 _)) (.refl _)) (.refl _)
theorem L2_mono : OMono fun J2 (x : P2) => F2 J2 x.1 x.2.1 x.2.2.1 x.2.2.2.1 := fun J J' h2 x => F2_le h2 x.1 x.2.1 x.2.2.1 x.2.2.2.1
theorem L2_eq (t0 : List Bs) (t1 : Bs) (t7 : Int) (t8 : Int) : L2 (t0, t1, t7, t8, ()) = F2 (L2) t0 t1 t7 t8 := congrFun (lfp_eq (L2_mono)) _
theorem impl_eq (x0 : List Bs) (x1 : Bs) : impl (x0, x1, ()) = F0 L2 x0 x1 := rfl
theorem con : Con Tryz.prog 106 2 rs.length 2 pin pout impl := by
  refine con_of_run3 (nt := 19) (c := c0) tabGood Tryz.func106 (by kernel_rfl) (by kernel_rfl) (by kernel_rfl) (by kernel_rfl) (by kernel_rfl) (by kernel_rfl) (by kernel_rfl) ?_
  intro w0 O y Post hnp fin
  have hp : ∀ (J2 : List Item → C2), Parts Tryz.prog 106 (pg J2) [(2, cut p2 J2)] := fun J2 => ⟨tab_ok tabGood rfl, handNil_ok, rfl⟩
  have g2 : Good Tryz.prog 19 w0 O Post y T2 p2 L2 := good_lfp fun J2 h2 => good_part (hp (atT T2 J2)) (runOK_of (hp (atT T2 J2)) hnp ⟨cutOK_at h2, trivial⟩ fin) (fun x => (seg2 (atT T2 J2) x.1 x.2.1 x.2.2.1 x.2.2.2.1).trans (by simp only [atT_self] <;> rfl))
  exact good_first (hp (atT T2 L2)) (runOK_of (hp (atT T2 L2)) hnp ⟨cutOK_at g2, trivial⟩ fin) (fun x => (seg0 (atT T2 L2) x.1 x.2.1).trans (by simp only [atT_self] <;> rfl))
end slices_Index_of

/-! ### slices.Contains[[]string,string] -/
namespace slices_Contains_of
noncomputable abbrev c0 : Code := (Tryz.f59.body).getD .skip
noncomputable abbrev pin : Tpl := ⟨[⟨0, false, [.d (.sl .str)]⟩, ⟨1, false, [.d .str]⟩], []⟩
noncomputable abbrev pout : Tpl := ⟨[⟨0, false, [.d .bool]⟩], []⟩
noncomputable abbrev PI := (List Bs) × Bs × Unit
noncomputable abbrev PO := Bool × Unit
noncomputable abbrev G := PI → Option PO
noncomputable abbrev rs : List ResultVar := [.tmp 4]
noncomputable def F0 (Gslices_Index_of : slices_Index_of.G) (x0 : List Bs) (x1 : Bs) : Option PO :=
  Option.bind (Gslices_Index_of (x0, x1, ())) fun y0 =>
  some (decide (y0.1 ≥ 0), ())
noncomputable def hd {R : Type} (Gslices_Index_of : slices_Index_of.G) : Hand R := (handAt 106 [7] true ⟨2, 1, 2, slices_Index_of.pin, slices_Index_of.pout, Gslices_Index_of⟩ handNil)
noncomputable def pg (Gslices_Index_of : slices_Index_of.G) : Prog PO := { nt := 9, np := 2, tb := tabOf tab, hd := hd Gslices_Index_of, cuts := cutsOf [], fin := endOf (tabOf tab) rs 2 pout }
noncomputable def q : FuncId → Bool := fun f => hasId [106] f
theorem seg0 (Gslices_Index_of : slices_Index_of.G) (x0 : List Bs) (x1 : Bs) : arun (pg Gslices_Index_of) 5000 [.code c0] (mk pin (x0, x1, ())) = F0 Gslices_Index_of x0 x1 := by kernel_rfl
noncomputable def impl : G := fun x => F0 slices_Index_of.impl x.1 x.2.1
theorem impl_eq (x0 : List Bs) (x1 : Bs) : impl (x0, x1, ()) = F0 slices_Index_of.impl x0 x1 := rfl
theorem con : Con Tryz.prog 59 2 rs.length 2 pin pout impl := by
  refine con_of_run3 (nt := 9) (c := c0) tabGood Tryz.func59 (by kernel_rfl) (by kernel_rfl) (by kernel_rfl) (by kernel_rfl) (by kernel_rfl) (by kernel_rfl) (by kernel_rfl) ?_
  intro w0 O y Post hnp fin
  have hp : Parts Tryz.prog 59 (pg slices_Index_of.impl) [] := ⟨tab_ok tabGood rfl, (handAt_ok slices_Index_of.con handNil_ok), rfl⟩
  exact good_first (hp) (runOK_of (hp) hnp trivial fin) (fun x => (seg0 slices_Index_of.impl x.1 x.2.1))
end slices_Contains_of

/-! ### loop.example/wholecheck/impl.NamesValid -/
namespace impl_NamesValid
noncomputable abbrev c0 : Code := (Tryz.f16.body).getD .skip
noncomputable abbrev pin : Tpl := ⟨[⟨0, false, [.d (.sl .str)]⟩], []⟩
noncomputable abbrev pout : Tpl := ⟨[⟨0, false, [.d .bool]⟩], []⟩
noncomputable abbrev p4 : Tpl := ⟨[⟨0, false, [.d (.sl .str)]⟩, ⟨8, false, [.d (.sl .str)]⟩, ⟨9, false, [.d i64]⟩, ⟨10, false, [.d i64]⟩], []⟩
noncomputable def T4 : List Item := (find 4 c0 []).getD []
noncomputable abbrev PI := (List Bs) × Unit
noncomputable abbrev PO := Bool × Unit
noncomputable abbrev G := PI → Option PO
noncomputable abbrev P4 := (List Bs) × (List Bs) × Int × Int × Unit
noncomputable abbrev C4 := P4 → Option PO
noncomputable abbrev rs : List ResultVar := [.tmp 2]
noncomputable def F0 (J4 : C4) (x0 : List Bs) : Option PO :=
  bif decide ((x0.length : Int) > 5) then
    some (false, ())
  else
    J4 (x0, x0, (x0.length : Int), 0, ())
noncomputable def F4 (J4 : C4) (Gimpl_nameOk : impl_nameOk.G) (Gslices_Contains_of : slices_Contains_of.G) (t0 : List Bs) (t8 : List Bs) (t9 : Int) (t10 : Int) : Option PO :=
  bif decide (t10 < t9) then
    bif inb t10 t8.length then
      Option.bind (Gimpl_nameOk (t8.getD t10.toNat [], ())) fun y0 =>
      bif !y0.1 then
        some (false, ())
      else
        bif decide (0 ≤ t10) && decide (t10 ≤ (t0.length : Int)) then
          Option.bind (Gslices_Contains_of ((t0.take t10.toNat).drop 0, t8.getD t10.toNat [], ())) fun y1 =>
          bif y1.1 then
            some (false, ())
          else
            J4 (t0, t8, t9, wI (t10 + 1), ())
        else
          none
    else
      none
  else
    some (true, ())
noncomputable def hd {R : Type} (Gimpl_nameOk : impl_nameOk.G) (Gslices_Contains_of : slices_Contains_of.G) : Hand R := (handAt 59 [23] true ⟨2, 1, 2, slices_Contains_of.pin, slices_Contains_of.pout, Gslices_Contains_of⟩ (handAt 58 [16] true ⟨1, 1, 1, impl_nameOk.pin, impl_nameOk.pout, Gimpl_nameOk⟩ handNil))
noncomputable def pg (Gimpl_nameOk : impl_nameOk.G) (Gslices_Contains_of : slices_Contains_of.G) (J4 : List Item → C4) : Prog PO := { nt := 26, np := 1, tb := tabOf tab, hd := hd Gimpl_nameOk Gslices_Contains_of, cuts := cutsOf [(4, cut p4 J4)], fin := endOf (tabOf tab) rs 1 pout }
noncomputable def q : FuncId → Bool := fun f => hasId [58, 59] f
theorem seg0 (Gimpl_nameOk : impl_nameOk.G) (Gslices_Contains_of : slices_Contains_of.G) (J4 : List Item → C4) (x0 : List Bs) : arun (pg Gimpl_nameOk Gslices_Contains_of J4) 5000 [.code c0] (mk pin (x0, ())) = F0 (J4 T4) x0 := by kernel_rfl
theorem seg4 (Gimpl_nameOk : impl_nameOk.G) (Gslices_Contains_of : slices_Contains_of.G) (J4 : List Item → C4) (t0 : List Bs) (t8 : List Bs) (t9 : Int) (t10 : Int) : arun1 (pg Gimpl_nameOk Gslices_Contains_of J4) 5000 T4 (mk p4 (t0, t8, t9, t10, ())) = F4 (J4 T4) Gimpl_nameOk Gslices_Contains_of t0 t8 t9 t10 := by kernel_rfl
noncomputable def L4 : C4 := lfp fun J4 x => F4 J4 impl_nameOk.impl slices_Contains_of.impl x.1 x.2.1 x.2.2.1 x.2.2.2.1
noncomputable def impl : G := fun x => F0 L4 x.1
theorem F4_le {J4 J4' : C4} (h4 : OLe J4 J4') {Gimpl_nameOk : impl_nameOk.G} {Gslices_Contains_of : slices_Contains_of.G} (t0 : List Bs) (t8 : List Bs) (t9 : Int) (t10 : Int) : OptLe (F4 J4 Gimpl_nameOk Gslices_Contains_of t0 t8 t9 t10) (F4 J4' Gimpl_nameOk Gslices_Contains_of t0 t8 t9 t10) := by unfold F4; exact .cond (.cond (.bind (.refl _) fun _ => .cond (.refl _) (.cond (.bind (.refl _) fun _ => .cond (.refl _) (.of h4 _)) (.refl _))) (.refl _)) (.refl _)
theorem L4_mono : OMono fun J4 (x : P4) => F4 J4 impl_nameOk.impl slices_Contains_of.impl x.1 x.2.1 x.2.2.1 x.2.2.2.1 := fun J J' h4 x => F4_le h4 x.1 x.2.1 x.2.2.1 x.2.2.2.1
theorem L4_eq (t0 : List Bs) (t8 : List Bs) (t9 : Int) (t10 : Int) : L4 (t0, t8, t9, t10, ()) = F4 (L4) impl_nameOk.impl slices_Contains_of.impl t0 t8 t9 t10 := congrFun (lfp_eq (L4_mono)) _
theorem impl_eq (x0 : List Bs) : impl (x0, ()) = F0 L4 x0 := rfl
theorem con : Con Tryz.prog 16 1 rs.length 1 pin pout impl := by
  refine con_of_run3 (nt := 26) (c := c0) tabGood Tryz.func16 (by kernel_rfl) (by kernel_rfl) (by kernel_rfl) (by kernel_rfl) (by kernel_rfl) (by kernel_rfl) (by kernel_rfl) ?_
  intro w0 O y Post hnp fin
  have hp : ∀ (J4 : List Item → C4), Parts Tryz.prog 16 (pg impl_nameOk.impl slices_Contains_of.impl J4) [(4, cut p4 J4)] := fun J4 => ⟨tab_ok tabGood rfl, (handAt_ok slices_Contains_of.con (handAt_ok impl_nameOk.con handNil_ok)), rfl⟩
  have g4 : Good Tryz.prog 26 w0 O Post y T4 p4 L4 := good_lfp fun J4 h4 => good_part (hp (atT T4 J4)) (runOK_of (hp (atT T4 J4)) hnp ⟨cutOK_at h4, trivial⟩ fin) (fun x => (seg4 impl_nameOk.impl slices_Contains_of.impl (atT T4 J4) x.1 x.2.1 x.2.2.1 x.2.2.2.1).trans (by simp only [atT_self] <;> rfl))
  exact good_first (hp (atT T4 L4)) (runOK_of (hp (atT T4 L4)) hnp ⟨cutOK_at g4, trivial⟩ fin) (fun x => (seg0 impl_nameOk.impl slices_Contains_of.impl (atT T4 L4) x.1).trans (by simp only [atT_self] <;> rfl))
end impl_NamesValid

/-! ### (*loop.example/wholecheck/impl.scan).run -/
namespace impl_scan_run
noncomputable abbrev c0 : Code := (Tryz.f152.body).getD .skip
noncomputable abbrev pin : Tpl := ⟨[⟨0, false, [.ptr 500001 0]⟩, ⟨1, false, [.d .str]⟩], [(500001, .box [.d (.sl .str), .d .str, .d i64, .row 500002]), (500002, .row 52 true q4)]⟩
noncomputable abbrev pout : Tpl := ⟨[⟨0, false, [.d .str]⟩, ⟨1, false, [.ptr 500001 0]⟩], [(500001, .box [.d (.sl .str), .d .str, .d i64, .row 500002]), (500002, .row 52 true q4)]⟩
noncomputable abbrev p2 : Tpl := ⟨[⟨0, false, [.ptr 500001 0]⟩, ⟨1, false, [.d .str]⟩, ⟨5, false, [.d i64]⟩], [(500001, .box [.d (.sl .str), .d .str, .d i64, .row 500002]), (500002, .row 52 true q4)]⟩
noncomputable def T2 : List Item := (find 2 c0 []).getD []
noncomputable abbrev p4 : Tpl := ⟨[⟨0, false, [.ptr 500001 0]⟩, ⟨5, false, [.d i64]⟩], [(500001, .box [.d (.sl .str), .d .str, .d i64, .row 500002]), (500002, .row 52 true q4)]⟩
noncomputable def T4 : List Item := (find 4 c0 []).getD []
noncomputable abbrev PI := Bs × (List Bs) × Bs × Int × (List Q4) × Unit
noncomputable abbrev PO := Bs × (List Bs) × Bs × Int × (List Q4) × Unit
noncomputable abbrev G := PI → Option PO
noncomputable abbrev P2 := Bs × Int × (List Bs) × Bs × Int × (List Q4) × Unit
noncomputable abbrev C2 := P2 → Option PO
noncomputable abbrev P4 := Int × (List Bs) × Bs × Int × (List Q4) × Unit
noncomputable abbrev C4 := P4 → Option PO
noncomputable abbrev rs : List ResultVar := [.tmp 4]
noncomputable def F0 (J2 : C2) (x1 : Bs) (c1_0 : List Bs) (c1_1 : Bs) (c1_2 : Int) (s2 : List Q4) : Option PO :=
  J2 (x1, c1_2, c1_0, c1_1, c1_2, s2, ())
noncomputable def F2 (J2 : C2) (J4 : C4) (Glib_IndexByte : lib_IndexByte.G) (t1 : Bs) (t5 : Int) (c1_0 : List Bs) (c1_1 : Bs) (c1_2 : Int) (s2 : List Q4) : Option PO :=
  bif decide (c1_2 < (c1_1.length : Int)) then
    bif inb c1_2 c1_1.length then
      Option.bind (Glib_IndexByte (t1, ((c1_1.getD c1_2.toNat 0).toNat : Int), ())) fun y0 =>
      bif decide (y0.1 ≥ 0) then
        J2 (t1, t5, c1_0, c1_1, wI (c1_2 + 1), s2, ())
      else
        J4 (t5, c1_0, c1_1, c1_2, s2, ())
    else
      none
  else
    J4 (t5, c1_0, c1_1, c1_2, s2, ())
noncomputable def F4 (t5 : Int) (c1_0 : List Bs) (c1_1 : Bs) (c1_2 : Int) (s2 : List Q4) : Option PO :=
  bif decide (0 ≤ t5) && decide (t5 ≤ c1_2) && decide (c1_2 ≤ (c1_1.length : Int)) then
    some ((c1_1.take c1_2.toNat).drop t5.toNat, c1_0, c1_1, c1_2, s2, ())
  else
    none
noncomputable def hd {R : Type} (Glib_IndexByte : lib_IndexByte.G) : Hand R := (handAt 179 [31] true ⟨2, 1, 0, lib_IndexByte.pin, lib_IndexByte.pout, Glib_IndexByte⟩ handNil)
noncomputable def pg (Glib_IndexByte : lib_IndexByte.G) (J2 : List Item → C2) (J4 : List Item → C4) : Prog PO := { nt := 51, np := 2, tb := tabOf tab, hd := hd Glib_IndexByte, cuts := cutsOf [(2, cut p2 J2), (4, cut p4 J4)], fin := endOf (tabOf tab) rs 2 pout }
noncomputable def q : FuncId → Bool := fun f => hasId [179] f
theorem seg0 (Glib_IndexByte : lib_IndexByte.G) (J2 : List Item → C2) (J4 : List Item → C4) (x1 : Bs) (c1_0 : List Bs) (c1_1 : Bs) (c1_2 : Int) (s2 : List Q4) : arun (pg Glib_IndexByte J2 J4) 5000 [.code c0] (mk pin (x1, c1_0, c1_1, c1_2, s2, ())) = F0 (J2 T2) x1 c1_0 c1_1 c1_2 s2 := by kernel_rfl
theorem seg2 (Glib_IndexByte : lib_IndexByte.G) (J2 : List Item → C2) (J4 : List Item → C4) (t1 : Bs) (t5 : Int) (c1_0 : List Bs) (c1_1 : Bs) (c1_2 : Int) (s2 : List Q4) : arunQ (pg Glib_IndexByte J2 J4) q [] [] 5000 T2 (mk p2 (t1, t5, c1_0, c1_1, c1_2, s2, ())) = List.replicate (arunQ (pg Glib_IndexByte J2 J4) q [] [] 5000 T2 (mk p2 (t1, t5, c1_0, c1_1, c1_2, s2, ()))).length (F2 (J2 T2) (J4 T4) Glib_IndexByte t1 t5 c1_0 c1_1 c1_2 s2) := by kernel_rfl
theorem seg4 (Glib_IndexByte : lib_IndexByte.G) (J2 : List Item → C2) (J4 : List Item → C4) (t5 : Int) (c1_0 : List Bs) (c1_1 : Bs) (c1_2 : Int) (s2 : List Q4) : arunQ (pg Glib_IndexByte J2 J4) q [] [] 5000 T4 (mk p4 (t5, c1_0, c1_1, c1_2, s2, ())) = List.replicate (arunQ (pg Glib_IndexByte J2 J4) q [] [] 5000 T4 (mk p4 (t5, c1_0, c1_1, c1_2, s2, ()))).length (F4 t5 c1_0 c1_1 c1_2 s2) := by kernel_rfl
noncomputable def L4 : C4 := fun x => F4 x.1 x.2.1 x.2.2.1 x.2.2.2.1 x.2.2.2.2.1
noncomputable def L2 : C2 := lfp fun J2 x => F2 J2 L4 lib_IndexByte.impl x.1 x.2.1 x.2.2.1 x.2.2.2.1 x.2.2.2.2.1 x.2.2.2.2.2.1
noncomputable def impl : G := fun x => F0 L2 x.1 x.2.1 x.2.2.1 x.2.2.2.1 x.2.2.2.2.1
theorem F2_le {J2 J2' : C2} (h2 : OLe J2 J2') {J4 J4' : C4} (h4 : OLe J4 J4') {Glib_IndexByte : lib_IndexByte.G} (t1 : Bs) (t5 : Int) (c1_0 : List Bs) (c1_1 : Bs) (c1_2 : Int) (s2 : List Q4) : OptLe (F2 J2 J4 Glib_IndexByte t1 t5 c1_0 c1_1 c1_2 s2) (F2 J2' J4' Glib_IndexByte t1 t5 c1_0 c1_1 c1_2 s2) := by unfold F2; exact .cond (.cond (.bind (.refl _) fun _ => .cond (.of h2 _) (.of h4 _)) (.refl _)) (.of h4 _)
theorem L4_eq (t5 : Int) (c1_0 : List Bs) (c1_1 : Bs) (c1_2 : Int) (s2 : List Q4) : L4 (t5, c1_0, c1_1, c1_2, s2, ()) = F4 t5 c1_0 c1_1 c1_2 s2 := rfl
theorem L2_mono : OMono fun J2 (x : P2) => F2 J2 L4 lib_IndexByte.impl x.1 x.2.1 x.2.2.1 x.2.2.2.1 x.2.2.2.2.1 x.2.2.2.2.2.1 := fun J J' h2 x => F2_le h2 (fun _ _ h => h) x.1 x.2.1 x.2.2.1 x.2.2.2.1 x.2.2.2.2.1 x.2.2.2.2.2.1
theorem L2_eq (t1 : Bs) (t5 : Int) (c1_0 : List Bs) (c1_1 : Bs) (c1_2 : Int) (s2 : List Q4) : L2 (t1, t5, c1_0, c1_1, c1_2, s2, ()) = F2 (L2) (L4) lib_IndexByte.impl t1 t5 c1_0 c1_1 c1_2 s2 := congrFun (lfp_eq (L2_mono)) _
theorem impl_eq (x1 : Bs) (c1_0 : List Bs) (c1_1 : Bs) (c1_2 : Int) (s2 : List Q4) : impl (x1, c1_0, c1_1, c1_2, s2, ()) = F0 L2 x1 c1_0 c1_1 c1_2 s2 := rfl
theorem con : Con Tryz.prog 152 2 rs.length 2 pin pout impl := by
  refine con_of_run3 (nt := 51) (c := c0) tabGood Tryz.func152 (by kernel_rfl) (by kernel_rfl) (by kernel_rfl) (by kernel_rfl) (by kernel_rfl) (by kernel_rfl) (by kernel_rfl) ?_
  intro w0 O y Post hnp fin
  have hp : ∀ (J2 : List Item → C2), ∀ (J4 : List Item → C4), Parts Tryz.prog 152 (pg lib_IndexByte.impl J2 J4) [(2, cut p2 J2), (4, cut p4 J4)] := fun J2 J4 => ⟨tab_ok tabGood rfl, (handAt_ok lib_IndexByte.con handNil_ok), rfl⟩
  have g4 : Good Tryz.prog 51 w0 O Post y T4 p4 L4 := good_quiet (hs := hd lib_IndexByte.impl) (cv' := hd lib_IndexByte.impl) (Checked.mixed Tryz.checked) (hp (atT T2 (fun _ => none)) (atT T4 (fun _ => none))) (handAt_D lib_IndexByte.con (by rfl) rfl handNil_D) (handAt_nat handNil_nat) (handAt_nat handNil_nat) (runOK_of (hp (atT T2 (fun _ => none)) (atT T4 (fun _ => none))) hnp ⟨cutOK_at (p := p2) (T := T2) (J := fun _ => none) good_none, cutOK_at (p := p4) (T := T4) (J := fun _ => none) good_none, trivial⟩ fin) (fun x => all_same ⟨_, (seg4 lib_IndexByte.impl (atT T2 (fun _ => none)) (atT T4 (fun _ => none)) x.1 x.2.1 x.2.2.1 x.2.2.2.1 x.2.2.2.2.1)⟩)
  have g2 : Good Tryz.prog 51 w0 O Post y T2 p2 L2 := good_lfp fun J2 h2 => good_quiet (hs := hd lib_IndexByte.impl) (cv' := hd lib_IndexByte.impl) (Checked.mixed Tryz.checked) (hp (atT T2 J2) (atT T4 L4)) (handAt_D lib_IndexByte.con (by rfl) rfl handNil_D) (handAt_nat handNil_nat) (handAt_nat handNil_nat) (runOK_of (hp (atT T2 J2) (atT T4 L4)) hnp ⟨cutOK_at h2, cutOK_at g4, trivial⟩ fin) (fun x => all_same ⟨_, (seg2 lib_IndexByte.impl (atT T2 J2) (atT T4 L4) x.1 x.2.1 x.2.2.1 x.2.2.2.1 x.2.2.2.2.1 x.2.2.2.2.2.1).trans (by simp only [atT_self] <;> rfl)⟩)
  exact good_first (hp (atT T2 L2) (atT T4 (fun _ => none))) (runOK_of (hp (atT T2 L2) (atT T4 (fun _ => none))) hnp ⟨cutOK_at g2, cutOK_at (p := p4) (T := T4) (J := fun _ => none) good_none, trivial⟩ fin) (fun x => (seg0 lib_IndexByte.impl (atT T2 L2) (atT T4 (fun _ => none)) x.1 x.2.1 x.2.2.1 x.2.2.2.1 x.2.2.2.2.1).trans (by simp only [atT_self] <;> rfl))
end impl_scan_run

/-! ### loop.example/wholecheck/impl.numberText -/
namespace impl_numberText
noncomputable abbrev c0 : Code := (Tryz.f79.body).getD .skip
noncomputable abbrev pin : Tpl := ⟨[⟨0, false, [.d .str]⟩], []⟩
noncomputable abbrev pout : Tpl := ⟨[⟨0, false, [.d i64]⟩, ⟨1, false, [.d .bool]⟩], []⟩
noncomputable abbrev PI := Bs × Unit
noncomputable abbrev PO := Int × Bool × Unit
noncomputable abbrev G := PI → Option PO
noncomputable abbrev rs : List ResultVar := [.tmp 2, .tmp 3]
noncomputable def F0 (Gimpl_in : impl_in.G) (Glib_Atoi : lib_Atoi.G) (Glib_Itoa : lib_Itoa.G) (x0 : Bs) : Option PO :=
  Option.bind (Glib_Atoi (x0, ())) fun y0 =>
  bif y0.2.1 then
    Option.bind (Glib_Itoa (y0.1, ())) fun y1 =>
    bif y1.1 == x0 then
      Option.bind (Gimpl_in (y0.1, (-9999), 9999, ())) fun y2 =>
      some (y0.1, y2.1, ())
    else
      some (y0.1, false, ())
  else
    some (y0.1, false, ())
noncomputable def hd {R : Type} (Gimpl_in : impl_in.G) (Glib_Atoi : lib_Atoi.G) (Glib_Itoa : lib_Itoa.G) : Hand R := (handAt 123 [8] true ⟨1, 2, 0, lib_Atoi.pin, lib_Atoi.pout, Glib_Atoi⟩ (handAt 74 [22] true ⟨3, 1, 3, impl_in.pin, impl_in.pout, Gimpl_in⟩ (handAt 45 [16] true ⟨1, 1, 0, lib_Itoa.pin, lib_Itoa.pout, Glib_Itoa⟩ handNil)))
noncomputable def pg (Gimpl_in : impl_in.G) (Glib_Atoi : lib_Atoi.G) (Glib_Itoa : lib_Itoa.G) : Prog PO := { nt := 24, np := 1, tb := tabOf tab, hd := hd Gimpl_in Glib_Atoi Glib_Itoa, cuts := cutsOf [], fin := endOf (tabOf tab) rs 1 pout }
noncomputable def q : FuncId → Bool := fun f => hasId [45, 74, 123] f
theorem seg0 (Gimpl_in : impl_in.G) (Glib_Atoi : lib_Atoi.G) (Glib_Itoa : lib_Itoa.G) (x0 : Bs) : arun (pg Gimpl_in Glib_Atoi Glib_Itoa) 5000 [.code c0] (mk pin (x0, ())) = F0 Gimpl_in Glib_Atoi Glib_Itoa x0 := by kernel_rfl
noncomputable def impl : G := fun x => F0 impl_in.impl lib_Atoi.impl lib_Itoa.impl x.1
theorem impl_eq (x0 : Bs) : impl (x0, ()) = F0 impl_in.impl lib_Atoi.impl lib_Itoa.impl x0 := rfl
theorem con : Con Tryz.prog 79 1 rs.length 1 pin pout impl := by
  refine con_of_run3 (nt := 24) (c := c0) tabGood Tryz.func79 (by kernel_rfl) (by kernel_rfl) (by kernel_rfl) (by kernel_rfl) (by kernel_rfl) (by kernel_rfl) (by kernel_rfl) ?_
  intro w0 O y Post hnp fin
  have hp : Parts Tryz.prog 79 (pg impl_in.impl lib_Atoi.impl lib_Itoa.impl) [] := ⟨tab_ok tabGood rfl, (handAt_ok lib_Atoi.con (handAt_ok impl_in.con (handAt_ok lib_Itoa.con handNil_ok))), rfl⟩
  exact good_first (hp) (runOK_of (hp) hnp trivial fin) (fun x => (seg0 impl_in.impl lib_Atoi.impl lib_Itoa.impl x.1))
end impl_numberText

/-! ### slices.Index[[]loop.example/wholecheck/impl.Term,loop.example/wholecheck/impl.Term] -/
namespace slices_Index_of_1
noncomputable abbrev c0 : Code := (Tryz.f109.body).getD .skip
noncomputable abbrev pin : Tpl := ⟨[⟨0, false, [.d (.sl q4)]⟩, ⟨1, true, [.d q4]⟩], []⟩
noncomputable abbrev pout : Tpl := ⟨[⟨0, false, [.d i64]⟩], []⟩
noncomputable abbrev p2 : Tpl := ⟨[⟨0, false, [.d (.sl q4)]⟩, ⟨3, false, [.ptr 3000000 0]⟩, ⟨7, false, [.d i64]⟩, ⟨8, false, [.d i64]⟩], [(3000000, .box [.d i64, .d i64, .d i64, .d i64])]⟩
noncomputable def T2 : List Item := (find 2 c0 []).getD []
noncomputable abbrev p4 : Tpl := ⟨[⟨0, false, [.d (.sl q4)]⟩, ⟨3, false, [.ptr 3000000 0]⟩, ⟨5, false, [.d i64]⟩, ⟨7, false, [.d i64]⟩, ⟨8, false, [.d i64]⟩], [(3000000, .box [.d i64, .d i64, .d i64, .d i64])]⟩
noncomputable def T4 : List Item := (find 4 c0 []).getD []
noncomputable abbrev PI := (List Q4) × Q4 × Unit
noncomputable abbrev PO := Int × Unit
noncomputable abbrev G := PI → Option PO
noncomputable abbrev P2 := (List Q4) × Int × Int × Int × Int × Int × Int × Unit
noncomputable abbrev C2 := P2 → Option PO
noncomputable abbrev P4 := (List Q4) × Int × Int × Int × Int × Int × Int × Int × Unit
noncomputable abbrev C4 := P4 → Option PO
noncomputable abbrev rs : List ResultVar := [.tmp 4]
noncomputable def F0 (J2 : C2) (x0 : List Q4) (x1 : Int × Int × Int × Int) : Option PO :=
  J2 (x0, (x0.length : Int), 0, x1.1, x1.2.1, x1.2.2.1, x1.2.2.2, ())
noncomputable def F2 (J4 : C4) (t0 : List Q4) (t7 : Int) (t8 : Int) (b0_0 : Int) (b0_1 : Int) (b0_2 : Int) (b0_3 : Int) : Option PO :=
  bif decide (t8 < t7) then
    J4 (t0, t8, t7, t8, b0_0, b0_1, b0_2, b0_3, ())
  else
    some ((-1), ())
noncomputable def F4 (J2 : C2) (t0 : List Q4) (t5 : Int) (t7 : Int) (t8 : Int) (b0_0 : Int) (b0_1 : Int) (b0_2 : Int) (b0_3 : Int) : Option PO :=
  bif inb t5 t0.length then
    bif ((b0_0 == (t0.getD t5.toNat (0, 0, 0, 0)).1) && ((b0_1 == (t0.getD t5.toNat (0, 0, 0, 0)).2.1) && ((b0_2 == (t0.getD t5.toNat (0, 0, 0, 0)).2.2.1) && (b0_3 == (t0.getD t5.toNat (0, 0, 0, 0)).2.2.2)))) then
      some (t5, ())
    else
      J2 (t0, t7, wI (t8 + 1), b0_0, b0_1, b0_2, b0_3, ())
  else
    none
noncomputable def hd {R : Type} : Hand R := handNil
noncomputable def pg (J2 : List Item → C2) (J4 : List Item → C4) : Prog PO := { nt := 19, np := 2, tb := tabOf tab, hd := hd, cuts := cutsOf [(2, cut p2 J2), (4, cut p4 J4)], fin := endOf (tabOf tab) rs 2 pout }
noncomputable def q : FuncId → Bool := fun f => hasId [] f
theorem seg0 (J2 : List Item → C2) (J4 : List Item → C4) (x0 : List Q4) (x1 : Int × Int × Int × Int) : arun (pg J2 J4) 5000 [.code c0] (mk pin (x0, x1, ())) = F0 (J2 T2) x0 x1 := by kernel_rfl
theorem seg2 (J2 : List Item → C2) (J4 : List Item → C4) (t0 : List Q4) (t7 : Int) (t8 : Int) (b0_0 : Int) (b0_1 : Int) (b0_2 : Int) (b0_3 : Int) : arun1 (pg J2 J4) 5000 T2 (mk p2 (t0, t7, t8, b0_0, b0_1, b0_2, b0_3, ())) = F2 (J4 T4) t0 t7 t8 b0_0 b0_1 b0_2 b0_3 := by kernel_rfl
theorem seg4 (J2 : List Item → C2) (J4 : List Item → C4) (t0 : List Q4) (t5 : Int) (t7 : Int) (t8 : Int) (b0_0 : Int) (b0_1 : Int) (b0_2 : Int) (b0_3 : Int) : arunQ (pg J2 J4) q [] [] 5000 T4 (mk p4 (t0, t5, t7, t8, b0_0, b0_1, b0_2, b0_3, ())) = List.replicate (arunQ (pg J2 J4) q [] [] 5000 T4 (mk p4 (t0, t5, t7, t8, b0_0, b0_1, b0_2, b0_3, ()))).length (F4 (J2 T2) t0 t5 t7 t8 b0_0 b0_1 b0_2 b0_3) := by kernel_rfl
noncomputable def L4 (J2 : C2) : C4 := fun x => F4 J2 x.1 x.2.1 x.2.2.1 x.2.2.2.1 x.2.2.2.2.1 x.2.2.2.2.2.1 x.2.2.2.2.2.2.1 x.2.2.2.2.2.2.2.1
noncomputable def L2 : C2 := lfp fun J2 x => F2 (L4 J2) x.1 x.2.1 x.2.2.1 x.2.2.2.1 x.2.2.2.2.1 x.2.2.2.2.2.1 x.2.2.2.2.2.2.1
noncomputable def impl : G := fun x => F0 L2 x.1 x.2.1
theorem F4_le {J2 J2' : C2} (h2 : OLe J2 J2') (t0 : List Q4) (t5 : Int) (t7 : Int) (t8 : Int) (b0_0 : Int) (b0_1 : Int) (b0_2 : Int) (b0_3 : Int) : OptLe (F4 J2 t0 t5 t7 t8 b0_0 b0_1 b0_2 b0_3) (F4 J2' t0 t5 t7 t8 b0_0 b0_1 b0_2 b0_3) := by unfold F4; exact .cond (.cond (.refl _) (.of h2 _)) (.refl _)
theorem F2_le {J4 J4' : C4} (h4 : OLe J4 J4') (t0 : List Q4) (t7 : Int) (t8 : Int) (b0_0 : Int) (b0_1 : Int) (b0_2 : Int) (b0_3 : Int) : OptLe (F2 J4 t0 t7 t8 b0_0 b0_1 b0_2 b0_3) (F2 J4' t0 t7 t8 b0_0 b0_1 b0_2 b0_3) := by unfold F2; exact .cond (.of h4 _) (.refl _)
theorem L4_eq (J2 : C2) (t0 : List Q4) (t5 : Int) (t7 : Int) (t8 : Int) (b0_0 : Int) (b0_1 : Int) (b0_2 : Int) (b0_3 : Int) : L4 J2 (t0, t5, t7, t8, b0_0, b0_1, b0_2, b0_3, ()) = F4 J2 t0 t5 t7 t8 b0_0 b0_1 b0_2 b0_3 := rfl
theorem L4_le {J2 J2' : C2} (h2 : OLe J2 J2') : OLe (L4 J2) (L4 J2') := fun x => F4_le h2 x.1 x.2.1 x.2.2.1 x.2.2.2.1 x.2.2.2.2.1 x.2.2.2.2.2.1 x.2.2.2.2.2.2.1 x.2.2.2.2.2.2.2.1
theorem L2_mono : OMono fun J2 (x : P2) => F2 (L4 J2) x.1 x.2.1 x.2.2.1 x.2.2.2.1 x.2.2.2.2.1 x.2.2.2.2.2.1 x.2.2.2.2.2.2.1 := fun J J' h2 x => F2_le (L4_le h2) x.1 x.2.1 x.2.2.1 x.2.2.2.1 x.2.2.2.2.1 x.2.2.2.2.2.1 x.2.2.2.2.2.2.1
theorem L2_eq (t0 : List Q4) (t7 : Int) (t8 : Int) (b0_0 : Int) (b0_1 : Int) (b0_2 : Int) (b0_3 : Int) : L2 (t0, t7, t8, b0_0, b0_1, b0_2, b0_3, ()) = F2 (L4 (L2)) t0 t7 t8 b0_0 b0_1 b0_2 b0_3 := congrFun (lfp_eq (L2_mono)) _
theorem impl_eq (x0 : List Q4) (x1 : Int × Int × Int × Int) : impl (x0, x1, ()) = F0 L2 x0 x1 := rfl
theorem con : Con Tryz.prog 109 2 rs.length 2 pin pout impl := by
  refine con_of_run3 (nt := 19) (c := c0) tabGood Tryz.func109 (by kernel_rfl) (by kernel_rfl) (by kernel_rfl) (by kernel_rfl) (by kernel_rfl) (by kernel_rfl) (by kernel_rfl) ?_
  intro w0 O y Post hnp fin
  have hp : ∀ (J2 : List Item → C2), ∀ (J4 : List Item → C4), Parts Tryz.prog 109 (pg J2 J4) [(2, cut p2 J2), (4, cut p4 J4)] := fun J2 J4 => ⟨tab_ok tabGood rfl, handNil_ok, rfl⟩
  have g4 : ∀ (J2 : C2), Good Tryz.prog 19 w0 O Post y T2 p2 J2 → Good Tryz.prog 19 w0 O Post y T4 p4 (L4 J2) := fun J2 h2 => good_quiet (hs := hd) (cv' := hd) (Checked.mixed Tryz.checked) (hp (atT T2 J2) (atT T4 (fun _ => none))) handNil_D handNil_nat handNil_nat (runOK_of (hp (atT T2 J2) (atT T4 (fun _ => none))) hnp ⟨cutOK_at h2, cutOK_at (p := p4) (T := T4) (J := fun _ => none) good_none, trivial⟩ fin) (fun x => all_same ⟨_, (seg4 (atT T2 J2) (atT T4 (fun _ => none)) x.1 x.2.1 x.2.2.1 x.2.2.2.1 x.2.2.2.2.1 x.2.2.2.2.2.1 x.2.2.2.2.2.2.1 x.2.2.2.2.2.2.2.1).trans (by simp only [atT_self] <;> rfl)⟩)
  have g2 : Good Tryz.prog 19 w0 O Post y T2 p2 L2 := good_lfp fun J2 h2 => good_part (hp (atT T2 (fun _ => none)) (atT T4 (L4 J2))) (runOK_of (hp (atT T2 (fun _ => none)) (atT T4 (L4 J2))) hnp ⟨cutOK_at (p := p2) (T := T2) (J := fun _ => none) good_none, cutOK_at (g4 J2 h2), trivial⟩ fin) (fun x => (seg2 (atT T2 (fun _ => none)) (atT T4 (L4 J2)) x.1 x.2.1 x.2.2.1 x.2.2.2.1 x.2.2.2.2.1 x.2.2.2.2.2.1 x.2.2.2.2.2.2.1).trans (by simp only [atT_self] <;> rfl))
  exact good_first (hp (atT T2 L2) (atT T4 (fun _ => none))) (runOK_of (hp (atT T2 L2) (atT T4 (fun _ => none))) hnp ⟨cutOK_at g2, cutOK_at (p := p4) (T := T4) (J := fun _ => none) good_none, trivial⟩ fin) (fun x => (seg0 (atT T2 L2) (atT T4 (fun _ => none)) x.1 x.2.1).trans (by simp only [atT_self] <;> rfl))
end slices_Index_of_1

/-! ### (*loop.example/wholecheck/impl.scan).put -/
namespace impl_scan_put
noncomputable abbrev c0 : Code := (Tryz.f64.body).getD .skip
noncomputable abbrev pin : Tpl := ⟨[⟨0, false, [.ptr 500001 0]⟩, ⟨1, true, [.d q4]⟩], [(500001, .box [.d (.sl .str), .d .str, .d i64, .row 500002]), (500002, .row 52 true q4)]⟩
noncomputable abbrev pout : Tpl := ⟨[⟨0, false, [.d i64]⟩, ⟨1, false, [.ptr 500001 0]⟩], [(500001, .box [.d (.sl .str), .d .str, .d i64, .row 500002]), (500002, .row 52 true q4)]⟩
noncomputable abbrev p1 : Tpl := ⟨[⟨0, false, [.ptr 500001 0]⟩, ⟨3, false, [.ptr 3000000 0]⟩], [(500001, .box [.d (.sl .str), .d .str, .d i64, .row 500002]), (3000000, .box [.d i64, .d i64, .d i64, .d i64]), (500002, .row 52 true q4)]⟩
noncomputable def T1 : List Item := (find 1 c0 []).getD []
noncomputable abbrev p4 : Tpl := ⟨[⟨0, false, [.ptr 500001 0]⟩, ⟨3, false, [.ptr 3000000 0]⟩], [(500001, .box [.d (.sl .str), .d .str, .d i64, .row 500002]), (3000000, .box [.d i64, .d i64, .d i64, .d i64]), (500002, .row 52 true q4)]⟩
noncomputable def T4 : List Item := (find 4 c0 []).getD []
noncomputable abbrev PI := Q4 × (List Bs) × Bs × Int × (List Q4) × Unit
noncomputable abbrev PO := Int × (List Bs) × Bs × Int × (List Q4) × Unit
noncomputable abbrev G := PI → Option PO
noncomputable abbrev P1 := (List Bs) × Bs × Int × Int × Int × Int × Int × (List Q4) × Unit
noncomputable abbrev C1 := P1 → Option PO
noncomputable abbrev P4 := (List Bs) × Bs × Int × Int × Int × Int × Int × (List Q4) × Unit
noncomputable abbrev C4 := P4 → Option PO
noncomputable abbrev rs : List ResultVar := [.tmp 4]
noncomputable def F0 (J1 : C1) (x1 : Int × Int × Int × Int) (c1_0 : List Bs) (c1_1 : Bs) (c1_2 : Int) (s2 : List Q4) : Option PO :=
  J1 (c1_0, c1_1, c1_2, x1.1, x1.2.1, x1.2.2.1, x1.2.2.2, s2, ())
noncomputable def F1 (J4 : C4) (Gslices_Index_of_1 : slices_Index_of_1.G) (c1_0 : List Bs) (c1_1 : Bs) (c1_2 : Int) (b0_0 : Int) (b0_1 : Int) (b0_2 : Int) (b0_3 : Int) (s2 : List Q4) : Option PO :=
  Option.bind (Gslices_Index_of_1 (s2, (b0_0, b0_1, b0_2, b0_3), ())) fun y0 =>
  bif decide (y0.1 ≥ 0) then
    some (y0.1, c1_0, c1_1, c1_2, s2, ())
  else
    J4 (c1_0, c1_1, c1_2, b0_0, b0_1, b0_2, b0_3, s2, ())
noncomputable def F4 (c1_0 : List Bs) (c1_1 : Bs) (c1_2 : Int) (b0_0 : Int) (b0_1 : Int) (b0_2 : Int) (b0_3 : Int) (s2 : List Q4) : Option PO :=
  bif decide ((s2.length + ([(b0_0, b0_1, b0_2, b0_3)] : List Q4).length) * 32 ≤ 140737488355328) then
    some (wI (((s2 ++ ([(b0_0, b0_1, b0_2, b0_3)] : List Q4)).length : Int) - 1), c1_0, c1_1, c1_2, s2 ++ ([(b0_0, b0_1, b0_2, b0_3)] : List Q4), ())
  else
    none
noncomputable def hd {R : Type} (Gslices_Index_of_1 : slices_Index_of_1.G) : Hand R := (handAt 109 [11] true ⟨2, 1, 2, slices_Index_of_1.pin, slices_Index_of_1.pout, Gslices_Index_of_1⟩ handNil)
noncomputable def pg (Gslices_Index_of_1 : slices_Index_of_1.G) (J1 : List Item → C1) (J4 : List Item → C4) : Prog PO := { nt := 31, np := 2, tb := tabOf tab, hd := hd Gslices_Index_of_1, cuts := cutsOf [(1, cut p1 J1), (4, cut p4 J4)], fin := endOf (tabOf tab) rs 2 pout }
noncomputable def q : FuncId → Bool := fun f => hasId [109] f
theorem seg0 (Gslices_Index_of_1 : slices_Index_of_1.G) (J1 : List Item → C1) (J4 : List Item → C4) (x1 : Int × Int × Int × Int) (c1_0 : List Bs) (c1_1 : Bs) (c1_2 : Int) (s2 : List Q4) : arun (pg Gslices_Index_of_1 J1 J4) 5000 [.code c0] (mk pin (x1, c1_0, c1_1, c1_2, s2, ())) = F0 (J1 T1) x1 c1_0 c1_1 c1_2 s2 := by kernel_rfl
theorem seg1 (Gslices_Index_of_1 : slices_Index_of_1.G) (J1 : List Item → C1) (J4 : List Item → C4) (c1_0 : List Bs) (c1_1 : Bs) (c1_2 : Int) (b0_0 : Int) (b0_1 : Int) (b0_2 : Int) (b0_3 : Int) (s2 : List Q4) : arunQ (pg Gslices_Index_of_1 J1 J4) q [] [] 5000 T1 (mk p1 (c1_0, c1_1, c1_2, b0_0, b0_1, b0_2, b0_3, s2, ())) = List.replicate (arunQ (pg Gslices_Index_of_1 J1 J4) q [] [] 5000 T1 (mk p1 (c1_0, c1_1, c1_2, b0_0, b0_1, b0_2, b0_3, s2, ()))).length (F1 (J4 T4) Gslices_Index_of_1 c1_0 c1_1 c1_2 b0_0 b0_1 b0_2 b0_3 s2) := by kernel_rfl
theorem seg4 (Gslices_Index_of_1 : slices_Index_of_1.G) (J1 : List Item → C1) (J4 : List Item → C4) (c1_0 : List Bs) (c1_1 : Bs) (c1_2 : Int) (b0_0 : Int) (b0_1 : Int) (b0_2 : Int) (b0_3 : Int) (s2 : List Q4) : arunE (pg Gslices_Index_of_1 J1 J4) 5000 T4 (mk p4 (c1_0, c1_1, c1_2, b0_0, b0_1, b0_2, b0_3, s2, ())) = List.replicate (arunE (pg Gslices_Index_of_1 J1 J4) 5000 T4 (mk p4 (c1_0, c1_1, c1_2, b0_0, b0_1, b0_2, b0_3, s2, ()))).length (F4 c1_0 c1_1 c1_2 b0_0 b0_1 b0_2 b0_3 s2) := by kernel_rfl
noncomputable def L4 : C4 := fun x => F4 x.1 x.2.1 x.2.2.1 x.2.2.2.1 x.2.2.2.2.1 x.2.2.2.2.2.1 x.2.2.2.2.2.2.1 x.2.2.2.2.2.2.2.1
noncomputable def L1 : C1 := fun x => F1 L4 slices_Index_of_1.impl x.1 x.2.1 x.2.2.1 x.2.2.2.1 x.2.2.2.2.1 x.2.2.2.2.2.1 x.2.2.2.2.2.2.1 x.2.2.2.2.2.2.2.1
noncomputable def impl : G := fun x => F0 L1 x.1 x.2.1 x.2.2.1 x.2.2.2.1 x.2.2.2.2.1
theorem L4_eq (c1_0 : List Bs) (c1_1 : Bs) (c1_2 : Int) (b0_0 : Int) (b0_1 : Int) (b0_2 : Int) (b0_3 : Int) (s2 : List Q4) : L4 (c1_0, c1_1, c1_2, b0_0, b0_1, b0_2, b0_3, s2, ()) = F4 c1_0 c1_1 c1_2 b0_0 b0_1 b0_2 b0_3 s2 := rfl
theorem L1_eq (c1_0 : List Bs) (c1_1 : Bs) (c1_2 : Int) (b0_0 : Int) (b0_1 : Int) (b0_2 : Int) (b0_3 : Int) (s2 : List Q4) : L1 (c1_0, c1_1, c1_2, b0_0, b0_1, b0_2, b0_3, s2, ()) = F1 (L4) slices_Index_of_1.impl c1_0 c1_1 c1_2 b0_0 b0_1 b0_2 b0_3 s2 := rfl
theorem impl_eq (x1 : Int × Int × Int × Int) (c1_0 : List Bs) (c1_1 : Bs) (c1_2 : Int) (s2 : List Q4) : impl (x1, c1_0, c1_1, c1_2, s2, ()) = F0 L1 x1 c1_0 c1_1 c1_2 s2 := rfl
theorem con : Con Tryz.prog 64 2 rs.length 2 pin pout impl := by
  refine con_of_run3 (nt := 31) (c := c0) tabGood Tryz.func64 (by kernel_rfl) (by kernel_rfl) (by kernel_rfl) (by kernel_rfl) (by kernel_rfl) (by kernel_rfl) (by kernel_rfl) ?_
  intro w0 O y Post hnp fin
  have hp : ∀ (J1 : List Item → C1), ∀ (J4 : List Item → C4), Parts Tryz.prog 64 (pg slices_Index_of_1.impl J1 J4) [(1, cut p1 J1), (4, cut p4 J4)] := fun J1 J4 => ⟨tab_ok tabGood rfl, (handAt_ok slices_Index_of_1.con handNil_ok), rfl⟩
  have g4 : Good Tryz.prog 31 w0 O Post y T4 p4 L4 := good_orders (hs := hd slices_Index_of_1.impl) (cv' := hd slices_Index_of_1.impl) (Checked.mixed Tryz.checked) (hp (atT T1 (fun _ => none)) (atT T4 (fun _ => none))) (handAt_ok slices_Index_of_1.con handNil_ok) (handAt_nat handNil_nat) (handAt_nat handNil_nat) (runOK_of (hp (atT T1 (fun _ => none)) (atT T4 (fun _ => none))) hnp ⟨cutOK_at (p := p1) (T := T1) (J := fun _ => none) good_none, cutOK_at (p := p4) (T := T4) (J := fun _ => none) good_none, trivial⟩ fin) (fun x => all_same ⟨_, (seg4 slices_Index_of_1.impl (atT T1 (fun _ => none)) (atT T4 (fun _ => none)) x.1 x.2.1 x.2.2.1 x.2.2.2.1 x.2.2.2.2.1 x.2.2.2.2.2.1 x.2.2.2.2.2.2.1 x.2.2.2.2.2.2.2.1)⟩)
  have g1 : Good Tryz.prog 31 w0 O Post y T1 p1 L1 := good_quiet (hs := hd slices_Index_of_1.impl) (cv' := hd slices_Index_of_1.impl) (Checked.mixed Tryz.checked) (hp (atT T1 (fun _ => none)) (atT T4 L4)) (handAt_D slices_Index_of_1.con (by rfl) rfl handNil_D) (handAt_nat handNil_nat) (handAt_nat handNil_nat) (runOK_of (hp (atT T1 (fun _ => none)) (atT T4 L4)) hnp ⟨cutOK_at (p := p1) (T := T1) (J := fun _ => none) good_none, cutOK_at g4, trivial⟩ fin) (fun x => all_same ⟨_, (seg1 slices_Index_of_1.impl (atT T1 (fun _ => none)) (atT T4 L4) x.1 x.2.1 x.2.2.1 x.2.2.2.1 x.2.2.2.2.1 x.2.2.2.2.2.1 x.2.2.2.2.2.2.1 x.2.2.2.2.2.2.2.1).trans (by simp only [atT_self] <;> rfl)⟩)
  exact good_first (hp (atT T1 L1) (atT T4 (fun _ => none))) (runOK_of (hp (atT T1 L1) (atT T4 (fun _ => none))) hnp ⟨cutOK_at g1, cutOK_at (p := p4) (T := T4) (J := fun _ => none) good_none, trivial⟩ fin) (fun x => (seg0 slices_Index_of_1.impl (atT T1 L1) (atT T4 (fun _ => none)) x.1 x.2.1 x.2.2.1 x.2.2.2.1 x.2.2.2.2.1).trans (by simp only [atT_self] <;> rfl))
end impl_scan_put

/-! ### internal/stringslite.HasPrefix -/
namespace internal_stringslite_HasPrefix
noncomputable abbrev c0 : Code := (Tryz.f199.body).getD .skip
noncomputable abbrev pin : Tpl := ⟨[⟨0, false, [.d .str]⟩, ⟨1, false, [.d .str]⟩], []⟩
noncomputable abbrev pout : Tpl := ⟨[⟨0, false, [.d .bool]⟩], []⟩
noncomputable abbrev PI := Bs × Bs × Unit
noncomputable abbrev PO := Bool × Unit
noncomputable abbrev G := PI → Option PO
noncomputable abbrev rs : List ResultVar := [.tmp 4]
noncomputable def F0 (x0 : Bs) (x1 : Bs) : Option PO :=
  bif decide ((x0.length : Int) ≥ (x1.length : Int)) then
    bif decide (0 ≤ (x1.length : Int)) && decide ((x1.length : Int) ≤ (x0.length : Int)) then
      some (((x0.take (x1.length : Int).toNat).drop 0) == x1, ())
    else
      none
  else
    some (false, ())
noncomputable def hd {R : Type} : Hand R := handNil
noncomputable def pg : Prog PO := { nt := 18, np := 2, tb := tabOf tab, hd := hd, cuts := cutsOf [], fin := endOf (tabOf tab) rs 2 pout }
noncomputable def q : FuncId → Bool := fun f => hasId [] f
theorem seg0 (x0 : Bs) (x1 : Bs) : arun (pg) 5000 [.code c0] (mk pin (x0, x1, ())) = F0 x0 x1 := by kernel_rfl
noncomputable def impl : G := fun x => F0 x.1 x.2.1
theorem impl_eq (x0 : Bs) (x1 : Bs) : impl (x0, x1, ()) = F0 x0 x1 := rfl
theorem con : Con Tryz.prog 199 2 rs.length 2 pin pout impl := by
  refine con_of_run3 (nt := 18) (c := c0) tabGood Tryz.func199 (by kernel_rfl) (by kernel_rfl) (by kernel_rfl) (by kernel_rfl) (by kernel_rfl) (by kernel_rfl) (by kernel_rfl) ?_
  intro w0 O y Post hnp fin
  have hp : Parts Tryz.prog 199 (pg) [] := ⟨tab_ok tabGood rfl, handNil_ok, rfl⟩
  exact good_first (hp) (runOK_of (hp) hnp trivial fin) (fun x => (seg0 x.1 x.2.1))
end internal_stringslite_HasPrefix

/-! ### strings.HasPrefix -/
namespace strings_HasPrefix
noncomputable abbrev c0 : Code := (Tryz.f180.body).getD .skip
noncomputable abbrev pin : Tpl := ⟨[⟨0, false, [.d .str]⟩, ⟨1, false, [.d .str]⟩], []⟩
noncomputable abbrev pout : Tpl := ⟨[⟨0, false, [.d .bool]⟩], []⟩
noncomputable abbrev PI := Bs × Bs × Unit
noncomputable abbrev PO := Bool × Unit
noncomputable abbrev G := PI → Option PO
noncomputable abbrev rs : List ResultVar := [.tmp 4]
noncomputable def F0 (Ginternal_stringslite_HasPrefix : internal_stringslite_HasPrefix.G) (x0 : Bs) (x1 : Bs) : Option PO :=
  Option.bind (Ginternal_stringslite_HasPrefix (x0, x1, ())) fun y0 =>
  some (y0.1, ())
noncomputable def hd {R : Type} (Ginternal_stringslite_HasPrefix : internal_stringslite_HasPrefix.G) : Hand R := (handAt 199 [7] true ⟨2, 1, 2, internal_stringslite_HasPrefix.pin, internal_stringslite_HasPrefix.pout, Ginternal_stringslite_HasPrefix⟩ handNil)
noncomputable def pg (Ginternal_stringslite_HasPrefix : internal_stringslite_HasPrefix.G) : Prog PO := { nt := 8, np := 2, tb := tabOf tab, hd := hd Ginternal_stringslite_HasPrefix, cuts := cutsOf [], fin := endOf (tabOf tab) rs 2 pout }
noncomputable def q : FuncId → Bool := fun f => hasId [199] f
theorem seg0 (Ginternal_stringslite_HasPrefix : internal_stringslite_HasPrefix.G) (x0 : Bs) (x1 : Bs) : arun (pg Ginternal_stringslite_HasPrefix) 5000 [.code c0] (mk pin (x0, x1, ())) = F0 Ginternal_stringslite_HasPrefix x0 x1 := by kernel_rfl
noncomputable def impl : G := fun x => F0 internal_stringslite_HasPrefix.impl x.1 x.2.1
theorem impl_eq (x0 : Bs) (x1 : Bs) : impl (x0, x1, ()) = F0 internal_stringslite_HasPrefix.impl x0 x1 := rfl
theorem con : Con Tryz.prog 180 2 rs.length 2 pin pout impl := by
  refine con_of_run3 (nt := 8) (c := c0) tabGood Tryz.func180 (by kernel_rfl) (by kernel_rfl) (by kernel_rfl) (by kernel_rfl) (by kernel_rfl) (by kernel_rfl) (by kernel_rfl) ?_
  intro w0 O y Post hnp fin
  have hp : Parts Tryz.prog 180 (pg internal_stringslite_HasPrefix.impl) [] := ⟨tab_ok tabGood rfl, (handAt_ok internal_stringslite_HasPrefix.con handNil_ok), rfl⟩
  exact good_first (hp) (runOK_of (hp) hnp trivial fin) (fun x => (seg0 internal_stringslite_HasPrefix.impl x.1 x.2.1))
end strings_HasPrefix

/-! ### (*loop.example/wholecheck/impl.scan).take -/
namespace impl_scan_take
noncomputable abbrev c0 : Code := (Tryz.f153.body).getD .skip
noncomputable abbrev pin : Tpl := ⟨[⟨0, false, [.ptr 500001 0]⟩, ⟨1, false, [.d .str]⟩], [(500001, .box [.d (.sl .str), .d .str, .d i64, .row 500002]), (500002, .row 52 true q4)]⟩
noncomputable abbrev pout : Tpl := ⟨[⟨0, false, [.d .bool]⟩, ⟨1, false, [.ptr 500001 0]⟩], [(500001, .box [.d (.sl .str), .d .str, .d i64, .row 500002]), (500002, .row 52 true q4)]⟩
noncomputable abbrev p1 : Tpl := ⟨[⟨0, false, [.ptr 500001 0]⟩, ⟨1, false, [.d .str]⟩], [(500001, .box [.d (.sl .str), .d .str, .d i64, .row 500002]), (500002, .row 52 true q4)]⟩
noncomputable def T1 : List Item := (find 1 c0 []).getD []
noncomputable abbrev PI := Bs × (List Bs) × Bs × Int × (List Q4) × Unit
noncomputable abbrev PO := Bool × (List Bs) × Bs × Int × (List Q4) × Unit
noncomputable abbrev G := PI → Option PO
noncomputable abbrev P1 := Bs × (List Bs) × Bs × Int × (List Q4) × Unit
noncomputable abbrev C1 := P1 → Option PO
noncomputable abbrev rs : List ResultVar := [.tmp 4]
noncomputable def F0 (J1 : C1) (x1 : Bs) (c1_0 : List Bs) (c1_1 : Bs) (c1_2 : Int) (s2 : List Q4) : Option PO :=
  J1 (x1, c1_0, c1_1, c1_2, s2, ())
noncomputable def F1 (Gstrings_HasPrefix : strings_HasPrefix.G) (t1 : Bs) (c1_0 : List Bs) (c1_1 : Bs) (c1_2 : Int) (s2 : List Q4) : Option PO :=
  bif decide (0 ≤ c1_2) && decide (c1_2 ≤ (c1_1.length : Int)) && decide ((c1_1.length : Int) ≤ (c1_1.length : Int)) then
    Option.bind (Gstrings_HasPrefix ((c1_1.take (c1_1.length : Int).toNat).drop c1_2.toNat, t1, ())) fun y0 =>
    bif !y0.1 then
      some (false, c1_0, c1_1, c1_2, s2, ())
    else
      some (true, c1_0, c1_1, wI (c1_2 + (t1.length : Int)), s2, ())
  else
    none
noncomputable def hd {R : Type} (Gstrings_HasPrefix : strings_HasPrefix.G) : Hand R := (handAt 180 [15] true ⟨2, 1, 2, strings_HasPrefix.pin, strings_HasPrefix.pout, Gstrings_HasPrefix⟩ handNil)
noncomputable def pg (Gstrings_HasPrefix : strings_HasPrefix.G) (J1 : List Item → C1) : Prog PO := { nt := 26, np := 2, tb := tabOf tab, hd := hd Gstrings_HasPrefix, cuts := cutsOf [(1, cut p1 J1)], fin := endOf (tabOf tab) rs 2 pout }
noncomputable def q : FuncId → Bool := fun f => hasId [180] f
theorem seg0 (Gstrings_HasPrefix : strings_HasPrefix.G) (J1 : List Item → C1) (x1 : Bs) (c1_0 : List Bs) (c1_1 : Bs) (c1_2 : Int) (s2 : List Q4) : arun (pg Gstrings_HasPrefix J1) 5000 [.code c0] (mk pin (x1, c1_0, c1_1, c1_2, s2, ())) = F0 (J1 T1) x1 c1_0 c1_1 c1_2 s2 := by kernel_rfl
theorem seg1 (Gstrings_HasPrefix : strings_HasPrefix.G) (J1 : List Item → C1) (t1 : Bs) (c1_0 : List Bs) (c1_1 : Bs) (c1_2 : Int) (s2 : List Q4) : arunQ (pg Gstrings_HasPrefix J1) q [] [] 5000 T1 (mk p1 (t1, c1_0, c1_1, c1_2, s2, ())) = List.replicate (arunQ (pg Gstrings_HasPrefix J1) q [] [] 5000 T1 (mk p1 (t1, c1_0, c1_1, c1_2, s2, ()))).length (F1 Gstrings_HasPrefix t1 c1_0 c1_1 c1_2 s2) := by kernel_rfl
noncomputable def L1 : C1 := fun x => F1 strings_HasPrefix.impl x.1 x.2.1 x.2.2.1 x.2.2.2.1 x.2.2.2.2.1
noncomputable def impl : G := fun x => F0 L1 x.1 x.2.1 x.2.2.1 x.2.2.2.1 x.2.2.2.2.1
theorem L1_eq (t1 : Bs) (c1_0 : List Bs) (c1_1 : Bs) (c1_2 : Int) (s2 : List Q4) : L1 (t1, c1_0, c1_1, c1_2, s2, ()) = F1 strings_HasPrefix.impl t1 c1_0 c1_1 c1_2 s2 := rfl
theorem impl_eq (x1 : Bs) (c1_0 : List Bs) (c1_1 : Bs) (c1_2 : Int) (s2 : List Q4) : impl (x1, c1_0, c1_1, c1_2, s2, ()) = F0 L1 x1 c1_0 c1_1 c1_2 s2 := rfl
theorem con : Con Tryz.prog 153 2 rs.length 2 pin pout impl := by
  refine con_of_run3 (nt := 26) (c := c0) tabGood Tryz.func153 (by kernel_rfl) (by kernel_rfl) (by kernel_rfl) (by kernel_rfl) (by kernel_rfl) (by kernel_rfl) (by kernel_rfl) ?_
  intro w0 O y Post hnp fin
  have hp : ∀ (J1 : List Item → C1), Parts Tryz.prog 153 (pg strings_HasPrefix.impl J1) [(1, cut p1 J1)] := fun J1 => ⟨tab_ok tabGood rfl, (handAt_ok strings_HasPrefix.con handNil_ok), rfl⟩
  have g1 : Good Tryz.prog 26 w0 O Post y T1 p1 L1 := good_quiet (hs := hd strings_HasPrefix.impl) (cv' := hd strings_HasPrefix.impl) (Checked.mixed Tryz.checked) (hp (atT T1 (fun _ => none))) (handAt_D strings_HasPrefix.con (by rfl) rfl handNil_D) (handAt_nat handNil_nat) (handAt_nat handNil_nat) (runOK_of (hp (atT T1 (fun _ => none))) hnp ⟨cutOK_at (p := p1) (T := T1) (J := fun _ => none) good_none, trivial⟩ fin) (fun x => all_same ⟨_, (seg1 strings_HasPrefix.impl (atT T1 (fun _ => none)) x.1 x.2.1 x.2.2.1 x.2.2.2.1 x.2.2.2.2.1)⟩)
  exact good_first (hp (atT T1 L1)) (runOK_of (hp (atT T1 L1)) hnp ⟨cutOK_at g1, trivial⟩ fin) (fun x => (seg0 strings_HasPrefix.impl (atT T1 L1) x.1 x.2.1 x.2.2.1 x.2.2.2.1 x.2.2.2.2.1).trans (by simp only [atT_self] <;> rfl))
end impl_scan_take

/-! ### (*loop.example/wholecheck/impl.scan).expr -/
namespace impl_scan_expr
noncomputable abbrev c0 : Code := (Tryz.f108.body).getD .skip
noncomputable abbrev pin : Tpl := ⟨[⟨0, false, [.ptr 500001 0]⟩, ⟨1, false, [.d i64]⟩], [(500001, .box [.d (.sl .str), .d .str, .d i64, .row 500002]), (500002, .row 52 true q4)]⟩
noncomputable abbrev pout : Tpl := ⟨[⟨0, false, [.d i64]⟩, ⟨1, false, [.ptr 500001 0]⟩], [(500001, .box [.d (.sl .str), .d .str, .d i64, .row 500002]), (500002, .row 52 true q4)]⟩
noncomputable abbrev p1 : Tpl := ⟨[⟨0, false, [.ptr 500001 0]⟩, ⟨1, false, [.d i64]⟩], [(500001, .box [.d (.sl .str), .d .str, .d i64, .row 500002]), (500002, .row 52 true q4)]⟩
noncomputable def T1 : List Item := (find 1 c0 []).getD []
noncomputable abbrev p3 : Tpl := ⟨[⟨0, false, [.ptr 500001 0]⟩, ⟨1, false, [.d i64]⟩], [(500001, .box [.d (.sl .str), .d .str, .d i64, .row 500002]), (500002, .row 52 true q4)]⟩
noncomputable def T3 : List Item := (find 3 c0 []).getD []
noncomputable abbrev p10 : Tpl := ⟨[⟨0, false, [.ptr 500001 0]⟩], [(500001, .box [.d (.sl .str), .d .str, .d i64, .row 500002]), (500002, .row 52 true q4)]⟩
noncomputable def T10 : List Item := (find 10 c0 []).getD []
noncomputable abbrev p23 : Tpl := ⟨[⟨0, false, [.ptr 500001 0]⟩, ⟨1, false, [.d i64]⟩, ⟨10, false, [.d i64]⟩], [(500001, .box [.d (.sl .str), .d .str, .d i64, .row 500002]), (500002, .row 52 true q4)]⟩
noncomputable def T23 : List Item := (find 23 c0 []).getD []
noncomputable abbrev p25 : Tpl := ⟨[⟨0, false, [.ptr 500001 0]⟩, ⟨1, false, [.d i64]⟩, ⟨10, false, [.d i64]⟩], [(500001, .box [.d (.sl .str), .d .str, .d i64, .row 500002]), (500002, .row 52 true q4)]⟩
noncomputable def T25 : List Item := (find 25 c0 []).getD []
noncomputable abbrev p29 : Tpl := ⟨[⟨0, false, [.ptr 500001 0]⟩, ⟨1, false, [.d i64]⟩, ⟨10, false, [.d i64]⟩, ⟨11, false, [.d i64]⟩], [(500001, .box [.d (.sl .str), .d .str, .d i64, .row 500002]), (500002, .row 52 true q4)]⟩
noncomputable def T29 : List Item := (find 29 c0 []).getD []
noncomputable abbrev PI := Int × (List Bs) × Bs × Int × (List Q4) × Unit
noncomputable abbrev PO := Int × (List Bs) × Bs × Int × (List Q4) × Unit
noncomputable abbrev G := PI → Option PO
noncomputable abbrev P1 := Int × (List Bs) × Bs × Int × (List Q4) × Unit
noncomputable abbrev C1 := P1 → Option PO
noncomputable abbrev P3 := Int × (List Bs) × Bs × Int × (List Q4) × Unit
noncomputable abbrev C3 := P3 → Option PO
noncomputable abbrev P10 := (List Bs) × Bs × Int × (List Q4) × Unit
noncomputable abbrev C10 := P10 → Option PO
noncomputable abbrev P23 := Int × Int × (List Bs) × Bs × Int × (List Q4) × Unit
noncomputable abbrev C23 := P23 → Option PO
noncomputable abbrev P25 := Int × Int × (List Bs) × Bs × Int × (List Q4) × Unit
noncomputable abbrev C25 := P25 → Option PO
noncomputable abbrev P29 := Int × Int × Int × (List Bs) × Bs × Int × (List Q4) × Unit
noncomputable abbrev C29 := P29 → Option PO
noncomputable abbrev rs : List ResultVar := [.tmp 4]
noncomputable def F0 (J1 : C1) (x1 : Int) (c1_0 : List Bs) (c1_1 : Bs) (c1_2 : Int) (s2 : List Q4) : Option PO :=
  J1 (x1, c1_0, c1_1, c1_2, s2, ())
noncomputable def F1 (J3 : C3) (t1 : Int) (c1_0 : List Bs) (c1_1 : Bs) (c1_2 : Int) (s2 : List Q4) : Option PO :=
  bif c1_2 == (c1_1.length : Int) then
    some ((-1), c1_0, c1_1, c1_2, s2, ())
  else
    J3 (t1, c1_0, c1_1, c1_2, s2, ())
noncomputable def F3 (J10 : C10) (J23 : C23) (Gimpl_numberText : impl_numberText.G) (Gimpl_scan_expr : G) (Gimpl_scan_put : impl_scan_put.G) (Gimpl_scan_run : impl_scan_run.G) (Gimpl_scan_take : impl_scan_take.G) (t1 : Int) (c1_0 : List Bs) (c1_1 : Bs) (c1_2 : Int) (s2 : List Q4) : Option PO :=
  bif inb c1_2 c1_1.length then
    bif ((c1_1.getD c1_2.toNat 0).toNat : Int) == 45 then
      Option.bind (Gimpl_scan_run (([45, 48, 49, 50, 51, 52, 53, 54, 55, 56, 57] : Bs), c1_0, c1_1, c1_2, s2, ())) fun y0 =>
      Option.bind (Gimpl_numberText (y0.1, ())) fun y1 =>
      bif !y1.2.1 then
        some ((-1), y0.2.1, y0.2.2.1, y0.2.2.2.1, y0.2.2.2.2.1, ())
      else
        Option.bind (Gimpl_scan_put ((0, y1.1, 0, 0), y0.2.1, y0.2.2.1, y0.2.2.2.1, y0.2.2.2.2.1, ())) fun y2 =>
        some (y2.1, y2.2.1, y2.2.2.1, y2.2.2.2.1, y2.2.2.2.2.1, ())
    else
      bif decide (((c1_1.getD c1_2.toNat 0).toNat : Int) ≥ 48) then
        bif decide (((c1_1.getD c1_2.toNat 0).toNat : Int) ≤ 57) then
          Option.bind (Gimpl_scan_run (([45, 48, 49, 50, 51, 52, 53, 54, 55, 56, 57] : Bs), c1_0, c1_1, c1_2, s2, ())) fun y3 =>
          Option.bind (Gimpl_numberText (y3.1, ())) fun y4 =>
          bif !y4.2.1 then
            some ((-1), y3.2.1, y3.2.2.1, y3.2.2.2.1, y3.2.2.2.2.1, ())
          else
            Option.bind (Gimpl_scan_put ((0, y4.1, 0, 0), y3.2.1, y3.2.2.1, y3.2.2.2.1, y3.2.2.2.2.1, ())) fun y5 =>
            some (y5.1, y5.2.1, y5.2.2.1, y5.2.2.2.1, y5.2.2.2.2.1, ())
        else
          bif decide (((c1_1.getD c1_2.toNat 0).toNat : Int) ≥ 97) then
            bif decide (((c1_1.getD c1_2.toNat 0).toNat : Int) ≤ 122) then
              J10 (c1_0, c1_1, c1_2, s2, ())
            else
              bif decide (t1 ≥ 40) then
                some ((-1), c1_0, c1_1, c1_2, s2, ())
              else
                Option.bind (Gimpl_scan_take (([33] : Bs), c1_0, c1_1, c1_2, s2, ())) fun y6 =>
                bif y6.1 then
                  Option.bind (Gimpl_scan_expr (wI (t1 + 1), y6.2.1, y6.2.2.1, y6.2.2.2.1, y6.2.2.2.2.1, ())) fun y7 =>
                  bif decide (y7.1 < 0) then
                    some ((-1), y7.2.1, y7.2.2.1, y7.2.2.2.1, y7.2.2.2.2.1, ())
                  else
                    Option.bind (Gimpl_scan_put ((7, 0, y7.1, y7.1), y7.2.1, y7.2.2.1, y7.2.2.2.1, y7.2.2.2.2.1, ())) fun y8 =>
                    some (y8.1, y8.2.1, y8.2.2.1, y8.2.2.2.1, y8.2.2.2.2.1, ())
                else
                  Option.bind (Gimpl_scan_take (([40] : Bs), y6.2.1, y6.2.2.1, y6.2.2.2.1, y6.2.2.2.2.1, ())) fun y9 =>
                  bif y9.1 then
                    Option.bind (Gimpl_scan_expr (wI (t1 + 1), y9.2.1, y9.2.2.1, y9.2.2.2.1, y9.2.2.2.2.1, ())) fun y10 =>
                    J23 (t1, y10.1, y10.2.1, y10.2.2.1, y10.2.2.2.1, y10.2.2.2.2.1, ())
                  else
                    some ((-1), y9.2.1, y9.2.2.1, y9.2.2.2.1, y9.2.2.2.2.1, ())
          else
            bif decide (t1 ≥ 40) then
              some ((-1), c1_0, c1_1, c1_2, s2, ())
            else
              Option.bind (Gimpl_scan_take (([33] : Bs), c1_0, c1_1, c1_2, s2, ())) fun y11 =>
              bif y11.1 then
                Option.bind (Gimpl_scan_expr (wI (t1 + 1), y11.2.1, y11.2.2.1, y11.2.2.2.1, y11.2.2.2.2.1, ())) fun y12 =>
                bif decide (y12.1 < 0) then
                  some ((-1), y12.2.1, y12.2.2.1, y12.2.2.2.1, y12.2.2.2.2.1, ())
                else
                  Option.bind (Gimpl_scan_put ((7, 0, y12.1, y12.1), y12.2.1, y12.2.2.1, y12.2.2.2.1, y12.2.2.2.2.1, ())) fun y13 =>
                  some (y13.1, y13.2.1, y13.2.2.1, y13.2.2.2.1, y13.2.2.2.2.1, ())
              else
                Option.bind (Gimpl_scan_take (([40] : Bs), y11.2.1, y11.2.2.1, y11.2.2.2.1, y11.2.2.2.2.1, ())) fun y14 =>
                bif y14.1 then
                  Option.bind (Gimpl_scan_expr (wI (t1 + 1), y14.2.1, y14.2.2.1, y14.2.2.2.1, y14.2.2.2.2.1, ())) fun y15 =>
                  J23 (t1, y15.1, y15.2.1, y15.2.2.1, y15.2.2.2.1, y15.2.2.2.2.1, ())
                else
                  some ((-1), y14.2.1, y14.2.2.1, y14.2.2.2.1, y14.2.2.2.2.1, ())
      else
        bif decide (((c1_1.getD c1_2.toNat 0).toNat : Int) ≥ 97) then
          bif decide (((c1_1.getD c1_2.toNat 0).toNat : Int) ≤ 122) then
            J10 (c1_0, c1_1, c1_2, s2, ())
          else
            bif decide (t1 ≥ 40) then
              some ((-1), c1_0, c1_1, c1_2, s2, ())
            else
              Option.bind (Gimpl_scan_take (([33] : Bs), c1_0, c1_1, c1_2, s2, ())) fun y16 =>
              bif y16.1 then
                Option.bind (Gimpl_scan_expr (wI (t1 + 1), y16.2.1, y16.2.2.1, y16.2.2.2.1, y16.2.2.2.2.1, ())) fun y17 =>
                bif decide (y17.1 < 0) then
                  some ((-1), y17.2.1, y17.2.2.1, y17.2.2.2.1, y17.2.2.2.2.1, ())
                else
                  Option.bind (Gimpl_scan_put ((7, 0, y17.1, y17.1), y17.2.1, y17.2.2.1, y17.2.2.2.1, y17.2.2.2.2.1, ())) fun y18 =>
                  some (y18.1, y18.2.1, y18.2.2.1, y18.2.2.2.1, y18.2.2.2.2.1, ())
              else
                Option.bind (Gimpl_scan_take (([40] : Bs), y16.2.1, y16.2.2.1, y16.2.2.2.1, y16.2.2.2.2.1, ())) fun y19 =>
                bif y19.1 then
                  Option.bind (Gimpl_scan_expr (wI (t1 + 1), y19.2.1, y19.2.2.1, y19.2.2.2.1, y19.2.2.2.2.1, ())) fun y20 =>
                  J23 (t1, y20.1, y20.2.1, y20.2.2.1, y20.2.2.2.1, y20.2.2.2.2.1, ())
                else
                  some ((-1), y19.2.1, y19.2.2.1, y19.2.2.2.1, y19.2.2.2.2.1, ())
        else
          bif decide (t1 ≥ 40) then
            some ((-1), c1_0, c1_1, c1_2, s2, ())
          else
            Option.bind (Gimpl_scan_take (([33] : Bs), c1_0, c1_1, c1_2, s2, ())) fun y21 =>
            bif y21.1 then
              Option.bind (Gimpl_scan_expr (wI (t1 + 1), y21.2.1, y21.2.2.1, y21.2.2.2.1, y21.2.2.2.2.1, ())) fun y22 =>
              bif decide (y22.1 < 0) then
                some ((-1), y22.2.1, y22.2.2.1, y22.2.2.2.1, y22.2.2.2.2.1, ())
              else
                Option.bind (Gimpl_scan_put ((7, 0, y22.1, y22.1), y22.2.1, y22.2.2.1, y22.2.2.2.1, y22.2.2.2.2.1, ())) fun y23 =>
                some (y23.1, y23.2.1, y23.2.2.1, y23.2.2.2.1, y23.2.2.2.2.1, ())
            else
              Option.bind (Gimpl_scan_take (([40] : Bs), y21.2.1, y21.2.2.1, y21.2.2.2.1, y21.2.2.2.2.1, ())) fun y24 =>
              bif y24.1 then
                Option.bind (Gimpl_scan_expr (wI (t1 + 1), y24.2.1, y24.2.2.1, y24.2.2.2.1, y24.2.2.2.2.1, ())) fun y25 =>
                J23 (t1, y25.1, y25.2.1, y25.2.2.1, y25.2.2.2.1, y25.2.2.2.2.1, ())
              else
                some ((-1), y24.2.1, y24.2.2.1, y24.2.2.2.1, y24.2.2.2.2.1, ())
  else
    none
noncomputable def F10o0 (Gimpl_scan_put : impl_scan_put.G) (Gimpl_scan_run : impl_scan_run.G) (Gslices_Index_of : slices_Index_of.G) (c1_0 : List Bs) (c1_1 : Bs) (c1_2 : Int) (s2 : List Q4) : Option PO :=
  Option.bind (Gimpl_scan_run (([97, 98, 99, 100, 101, 102, 103, 104, 105, 106, 107, 108, 109, 110, 111, 112, 113, 114, 115, 116, 117, 118, 119, 120, 121, 122] : Bs), c1_0, c1_1, c1_2, s2, ())) fun y26 =>
  Option.bind (Gslices_Index_of (c1_0, y26.1, ())) fun y27 =>
  bif decide (y27.1 < 0) then
    some ((-1), y26.2.1, y26.2.2.1, y26.2.2.2.1, y26.2.2.2.2.1, ())
  else
    Option.bind (Gimpl_scan_put ((1, y27.1, 0, 0), y26.2.1, y26.2.2.1, y26.2.2.2.1, y26.2.2.2.2.1, ())) fun y28 =>
    some (y28.1, y28.2.1, y28.2.2.1, y28.2.2.2.1, y28.2.2.2.2.1, ())
noncomputable def F10o1 (Gimpl_scan_put : impl_scan_put.G) (Gimpl_scan_run : impl_scan_run.G) (Gslices_Index_of : slices_Index_of.G) (c1_0 : List Bs) (c1_1 : Bs) (c1_2 : Int) (s2 : List Q4) : Option PO :=
  Option.bind (Gimpl_scan_run (([97, 98, 99, 100, 101, 102, 103, 104, 105, 106, 107, 108, 109, 110, 111, 112, 113, 114, 115, 116, 117, 118, 119, 120, 121, 122] : Bs), c1_0, c1_1, c1_2, s2, ())) fun y26 =>
  Option.bind (Gslices_Index_of (y26.2.1, y26.1, ())) fun y27 =>
  bif decide (y27.1 < 0) then
    some ((-1), y26.2.1, y26.2.2.1, y26.2.2.2.1, y26.2.2.2.2.1, ())
  else
    Option.bind (Gimpl_scan_put ((1, y27.1, 0, 0), y26.2.1, y26.2.2.1, y26.2.2.2.1, y26.2.2.2.2.1, ())) fun y28 =>
    some (y28.1, y28.2.1, y28.2.2.1, y28.2.2.2.1, y28.2.2.2.2.1, ())
noncomputable def F10 (Gimpl_scan_put : impl_scan_put.G) (Gimpl_scan_run : impl_scan_run.G) (Gslices_Index_of : slices_Index_of.G) (c1_0 : List Bs) (c1_1 : Bs) (c1_2 : Int) (s2 : List Q4) : Option PO :=
  Option.bind (F10o0 Gimpl_scan_put Gimpl_scan_run Gslices_Index_of c1_0 c1_1 c1_2 s2) fun (y0 : PO) => Option.bind (F10o1 Gimpl_scan_put Gimpl_scan_run Gslices_Index_of c1_0 c1_1 c1_2 s2) fun (y1 : PO) => bif @decide (y1 = y0) (Classical.propDecidable _) then some y0 else none
theorem F10o0_le (Gimpl_scan_put : impl_scan_put.G) (Gimpl_scan_run : impl_scan_run.G) (Gslices_Index_of : slices_Index_of.G) (c1_0 : List Bs) (c1_1 : Bs) (c1_2 : Int) (s2 : List Q4) : OptLe (F10 Gimpl_scan_put Gimpl_scan_run Gslices_Index_of c1_0 c1_1 c1_2 s2) (F10o0 Gimpl_scan_put Gimpl_scan_run Gslices_Index_of c1_0 c1_1 c1_2 s2) := by
  intro y h; unfold F10 at h
  obtain ⟨y0, e0, h⟩ := Option.bind_eq_some_iff.1 h
  obtain ⟨y1, e1, h⟩ := Option.bind_eq_some_iff.1 h
  have hc := (cond_some h).1; replace h := (cond_some h).2
  simp only [Bool.and_eq_true, decide_eq_true_eq] at hc
  rw [e0, h]
theorem F10o1_le (Gimpl_scan_put : impl_scan_put.G) (Gimpl_scan_run : impl_scan_run.G) (Gslices_Index_of : slices_Index_of.G) (c1_0 : List Bs) (c1_1 : Bs) (c1_2 : Int) (s2 : List Q4) : OptLe (F10 Gimpl_scan_put Gimpl_scan_run Gslices_Index_of c1_0 c1_1 c1_2 s2) (F10o1 Gimpl_scan_put Gimpl_scan_run Gslices_Index_of c1_0 c1_1 c1_2 s2) := by
  intro y h; unfold F10 at h
  obtain ⟨y0, e0, h⟩ := Option.bind_eq_some_iff.1 h
  obtain ⟨y1, e1, h⟩ := Option.bind_eq_some_iff.1 h
  have hc := (cond_some h).1; replace h := (cond_some h).2
  simp only [Bool.and_eq_true, decide_eq_true_eq] at hc
  rw [e1, hc, h]
noncomputable def F23 (J25 : C25) (Gimpl_scan_take : impl_scan_take.G) (t1 : Int) (t10 : Int) (c1_0 : List Bs) (c1_1 : Bs) (c1_2 : Int) (s2 : List Q4) : Option PO :=
  bif decide (t10 < 0) then
    some ((-1), c1_0, c1_1, c1_2, s2, ())
  else
    Option.bind (Gimpl_scan_take (([32] : Bs), c1_0, c1_1, c1_2, s2, ())) fun y29 =>
    bif !y29.1 then
      some ((-1), y29.2.1, y29.2.2.1, y29.2.2.2.1, y29.2.2.2.2.1, ())
    else
      bif y29.2.2.2.1 == (y29.2.2.1.length : Int) then
        some ((-1), y29.2.1, y29.2.2.1, y29.2.2.2.1, y29.2.2.2.2.1, ())
      else
        J25 (t1, t10, y29.2.1, y29.2.2.1, y29.2.2.2.1, y29.2.2.2.2.1, ())
noncomputable def F25 (J29 : C29) (Gimpl_scan_take : impl_scan_take.G) (t1 : Int) (t10 : Int) (c1_0 : List Bs) (c1_1 : Bs) (c1_2 : Int) (s2 : List Q4) : Option PO :=
  bif inb c1_2 c1_1.length then
    bif mapGet (.int .u8) i64 (mapPut (.int .u8) i64 (mapPut (.int .u8) i64 (mapPut (.int .u8) i64 (mapPut (.int .u8) i64 (mapPut (.int .u8) i64 (mapPut (.int .u8) i64 (mapPut (.int .u8) i64 [] 43 2) 45 3) 42 4) 60 5) 61 6) 38 8) 124 9) ((c1_1.getD c1_2.toNat 0).toNat : Int) == 0 then
      some ((-1), c1_0, c1_1, wI (c1_2 + 1), s2, ())
    else
      Option.bind (Gimpl_scan_take (([32] : Bs), c1_0, c1_1, wI (c1_2 + 1), s2, ())) fun y30 =>
      bif !y30.1 then
        some ((-1), y30.2.1, y30.2.2.1, y30.2.2.2.1, y30.2.2.2.2.1, ())
      else
        J29 (t1, t10, mapGet (.int .u8) i64 (mapPut (.int .u8) i64 (mapPut (.int .u8) i64 (mapPut (.int .u8) i64 (mapPut (.int .u8) i64 (mapPut (.int .u8) i64 (mapPut (.int .u8) i64 (mapPut (.int .u8) i64 [] 43 2) 45 3) 42 4) 60 5) 61 6) 38 8) 124 9) ((c1_1.getD c1_2.toNat 0).toNat : Int), y30.2.1, y30.2.2.1, y30.2.2.2.1, y30.2.2.2.2.1, ())
  else
    none
noncomputable def F29 (Gimpl_scan_expr : G) (Gimpl_scan_put : impl_scan_put.G) (Gimpl_scan_take : impl_scan_take.G) (t1 : Int) (t10 : Int) (t11 : Int) (c1_0 : List Bs) (c1_1 : Bs) (c1_2 : Int) (s2 : List Q4) : Option PO :=
  Option.bind (Gimpl_scan_expr (wI (t1 + 1), c1_0, c1_1, c1_2, s2, ())) fun y31 =>
  bif decide (y31.1 < 0) then
    some ((-1), y31.2.1, y31.2.2.1, y31.2.2.2.1, y31.2.2.2.2.1, ())
  else
    Option.bind (Gimpl_scan_take (([41] : Bs), y31.2.1, y31.2.2.1, y31.2.2.2.1, y31.2.2.2.2.1, ())) fun y32 =>
    bif !y32.1 then
      some ((-1), y32.2.1, y32.2.2.1, y32.2.2.2.1, y32.2.2.2.2.1, ())
    else
      Option.bind (Gimpl_scan_put ((t11, 0, t10, y31.1), y32.2.1, y32.2.2.1, y32.2.2.2.1, y32.2.2.2.2.1, ())) fun y33 =>
      some (y33.1, y33.2.1, y33.2.2.1, y33.2.2.2.1, y33.2.2.2.2.1, ())
noncomputable def hd {R : Type} (Gimpl_numberText : impl_numberText.G) (Gimpl_scan_expr : G) (Gimpl_scan_put : impl_scan_put.G) (Gimpl_scan_run : impl_scan_run.G) (Gimpl_scan_take : impl_scan_take.G) (Gslices_Index_of : slices_Index_of.G) : Hand R := (handAt 153 [80, 94, 103, 141, 152] false ⟨2, 1, 2, impl_scan_take.pin, impl_scan_take.pout, Gimpl_scan_take⟩ (handAt 152 [45, 67] false ⟨2, 1, 2, impl_scan_run.pin, impl_scan_run.pout, Gimpl_scan_run⟩ (handAt 108 [84, 98, 147] false ⟨2, 1, 2, pin, pout, Gimpl_scan_expr⟩ (handAt 106 [68] true ⟨2, 1, 2, slices_Index_of.pin, slices_Index_of.pout, Gslices_Index_of⟩ (handAt 79 [46] true ⟨1, 2, 1, impl_numberText.pin, impl_numberText.pout, Gimpl_numberText⟩ (handAt 64 [54, 74, 91, 160] false ⟨2, 1, 2, impl_scan_put.pin, impl_scan_put.pout, Gimpl_scan_put⟩ handNil))))))
noncomputable def pg (Gimpl_numberText : impl_numberText.G) (Gimpl_scan_expr : G) (Gimpl_scan_put : impl_scan_put.G) (Gimpl_scan_run : impl_scan_run.G) (Gimpl_scan_take : impl_scan_take.G) (Gslices_Index_of : slices_Index_of.G) (J1 : List Item → C1) (J3 : List Item → C3) (J10 : List Item → C10) (J23 : List Item → C23) (J25 : List Item → C25) (J29 : List Item → C29) : Prog PO := { nt := 161, np := 2, tb := tabOf tab, hd := hd Gimpl_numberText Gimpl_scan_expr Gimpl_scan_put Gimpl_scan_run Gimpl_scan_take Gslices_Index_of, cuts := cutsOf [(1, cut p1 J1), (3, cut p3 J3), (10, cut p10 J10), (23, cut p23 J23), (25, cut p25 J25), (29, cut p29 J29)], fin := endOf (tabOf tab) rs 2 pout }
noncomputable def q : FuncId → Bool := fun f => hasId [79, 106] f
theorem seg0 (Gimpl_numberText : impl_numberText.G) (Gimpl_scan_expr : G) (Gimpl_scan_put : impl_scan_put.G) (Gimpl_scan_run : impl_scan_run.G) (Gimpl_scan_take : impl_scan_take.G) (Gslices_Index_of : slices_Index_of.G) (J1 : List Item → C1) (J3 : List Item → C3) (J10 : List Item → C10) (J23 : List Item → C23) (J25 : List Item → C25) (J29 : List Item → C29) (x1 : Int) (c1_0 : List Bs) (c1_1 : Bs) (c1_2 : Int) (s2 : List Q4) : arun (pg Gimpl_numberText Gimpl_scan_expr Gimpl_scan_put Gimpl_scan_run Gimpl_scan_take Gslices_Index_of J1 J3 J10 J23 J25 J29) 5000 [.code c0] (mk pin (x1, c1_0, c1_1, c1_2, s2, ())) = F0 (J1 T1) x1 c1_0 c1_1 c1_2 s2 := by kernel_rfl
theorem seg1 (Gimpl_numberText : impl_numberText.G) (Gimpl_scan_expr : G) (Gimpl_scan_put : impl_scan_put.G) (Gimpl_scan_run : impl_scan_run.G) (Gimpl_scan_take : impl_scan_take.G) (Gslices_Index_of : slices_Index_of.G) (J1 : List Item → C1) (J3 : List Item → C3) (J10 : List Item → C10) (J23 : List Item → C23) (J25 : List Item → C25) (J29 : List Item → C29) (t1 : Int) (c1_0 : List Bs) (c1_1 : Bs) (c1_2 : Int) (s2 : List Q4) : arunQ (pg Gimpl_numberText Gimpl_scan_expr Gimpl_scan_put Gimpl_scan_run Gimpl_scan_take Gslices_Index_of J1 J3 J10 J23 J25 J29) q [] [] 5000 T1 (mk p1 (t1, c1_0, c1_1, c1_2, s2, ())) = List.replicate (arunQ (pg Gimpl_numberText Gimpl_scan_expr Gimpl_scan_put Gimpl_scan_run Gimpl_scan_take Gslices_Index_of J1 J3 J10 J23 J25 J29) q [] [] 5000 T1 (mk p1 (t1, c1_0, c1_1, c1_2, s2, ()))).length (F1 (J3 T3) t1 c1_0 c1_1 c1_2 s2) := by kernel_rfl
theorem seg3 (Gimpl_numberText : impl_numberText.G) (Gimpl_scan_expr : G) (Gimpl_scan_put : impl_scan_put.G) (Gimpl_scan_run : impl_scan_run.G) (Gimpl_scan_take : impl_scan_take.G) (Gslices_Index_of : slices_Index_of.G) (J1 : List Item → C1) (J3 : List Item → C3) (J10 : List Item → C10) (J23 : List Item → C23) (J25 : List Item → C25) (J29 : List Item → C29) (t1 : Int) (c1_0 : List Bs) (c1_1 : Bs) (c1_2 : Int) (s2 : List Q4) : arunQ (pg Gimpl_numberText Gimpl_scan_expr Gimpl_scan_put Gimpl_scan_run Gimpl_scan_take Gslices_Index_of J1 J3 J10 J23 J25 J29) q [] [] 5000 T3 (mk p3 (t1, c1_0, c1_1, c1_2, s2, ())) = List.replicate (arunQ (pg Gimpl_numberText Gimpl_scan_expr Gimpl_scan_put Gimpl_scan_run Gimpl_scan_take Gslices_Index_of J1 J3 J10 J23 J25 J29) q [] [] 5000 T3 (mk p3 (t1, c1_0, c1_1, c1_2, s2, ()))).length (F3 (J10 T10) (J23 T23) Gimpl_numberText Gimpl_scan_expr Gimpl_scan_put Gimpl_scan_run Gimpl_scan_take t1 c1_0 c1_1 c1_2 s2) := by kernel_rfl
theorem seg10 (Gimpl_numberText : impl_numberText.G) (Gimpl_scan_expr : G) (Gimpl_scan_put : impl_scan_put.G) (Gimpl_scan_run : impl_scan_run.G) (Gimpl_scan_take : impl_scan_take.G) (Gslices_Index_of : slices_Index_of.G) (J1 : List Item → C1) (J3 : List Item → C3) (J10 : List Item → C10) (J23 : List Item → C23) (J25 : List Item → C25) (J29 : List Item → C29) (c1_0 : List Bs) (c1_1 : Bs) (c1_2 : Int) (s2 : List Q4) : arunE (pg Gimpl_numberText Gimpl_scan_expr Gimpl_scan_put Gimpl_scan_run Gimpl_scan_take Gslices_Index_of J1 J3 J10 J23 J25 J29) 5000 T10 (mk p10 (c1_0, c1_1, c1_2, s2, ())) = [F10o0 Gimpl_scan_put Gimpl_scan_run Gslices_Index_of c1_0 c1_1 c1_2 s2, F10o1 Gimpl_scan_put Gimpl_scan_run Gslices_Index_of c1_0 c1_1 c1_2 s2] := by kernel_rfl
theorem seg23 (Gimpl_numberText : impl_numberText.G) (Gimpl_scan_expr : G) (Gimpl_scan_put : impl_scan_put.G) (Gimpl_scan_run : impl_scan_run.G) (Gimpl_scan_take : impl_scan_take.G) (Gslices_Index_of : slices_Index_of.G) (J1 : List Item → C1) (J3 : List Item → C3) (J10 : List Item → C10) (J23 : List Item → C23) (J25 : List Item → C25) (J29 : List Item → C29) (t1 : Int) (t10 : Int) (c1_0 : List Bs) (c1_1 : Bs) (c1_2 : Int) (s2 : List Q4) : arunE (pg Gimpl_numberText Gimpl_scan_expr Gimpl_scan_put Gimpl_scan_run Gimpl_scan_take Gslices_Index_of J1 J3 J10 J23 J25 J29) 5000 T23 (mk p23 (t1, t10, c1_0, c1_1, c1_2, s2, ())) = List.replicate (arunE (pg Gimpl_numberText Gimpl_scan_expr Gimpl_scan_put Gimpl_scan_run Gimpl_scan_take Gslices_Index_of J1 J3 J10 J23 J25 J29) 5000 T23 (mk p23 (t1, t10, c1_0, c1_1, c1_2, s2, ()))).length (F23 (J25 T25) Gimpl_scan_take t1 t10 c1_0 c1_1 c1_2 s2) := by kernel_rfl
theorem seg25 (Gimpl_numberText : impl_numberText.G) (Gimpl_scan_expr : G) (Gimpl_scan_put : impl_scan_put.G) (Gimpl_scan_run : impl_scan_run.G) (Gimpl_scan_take : impl_scan_take.G) (Gslices_Index_of : slices_Index_of.G) (J1 : List Item → C1) (J3 : List Item → C3) (J10 : List Item → C10) (J23 : List Item → C23) (J25 : List Item → C25) (J29 : List Item → C29) (t1 : Int) (t10 : Int) (c1_0 : List Bs) (c1_1 : Bs) (c1_2 : Int) (s2 : List Q4) : arunG (pg Gimpl_numberText Gimpl_scan_expr Gimpl_scan_put Gimpl_scan_run Gimpl_scan_take Gslices_Index_of J1 J3 J10 J23 J25 J29) q [118] [] 5000 T25 (mk p25 (t1, t10, c1_0, c1_1, c1_2, s2, ())) = List.replicate (arunG (pg Gimpl_numberText Gimpl_scan_expr Gimpl_scan_put Gimpl_scan_run Gimpl_scan_take Gslices_Index_of J1 J3 J10 J23 J25 J29) q [118] [] 5000 T25 (mk p25 (t1, t10, c1_0, c1_1, c1_2, s2, ()))).length (F25 (J29 T29) Gimpl_scan_take t1 t10 c1_0 c1_1 c1_2 s2) := by kernel_rfl
theorem seg29 (Gimpl_numberText : impl_numberText.G) (Gimpl_scan_expr : G) (Gimpl_scan_put : impl_scan_put.G) (Gimpl_scan_run : impl_scan_run.G) (Gimpl_scan_take : impl_scan_take.G) (Gslices_Index_of : slices_Index_of.G) (J1 : List Item → C1) (J3 : List Item → C3) (J10 : List Item → C10) (J23 : List Item → C23) (J25 : List Item → C25) (J29 : List Item → C29) (t1 : Int) (t10 : Int) (t11 : Int) (c1_0 : List Bs) (c1_1 : Bs) (c1_2 : Int) (s2 : List Q4) : arun1 (pg Gimpl_numberText Gimpl_scan_expr Gimpl_scan_put Gimpl_scan_run Gimpl_scan_take Gslices_Index_of J1 J3 J10 J23 J25 J29) 5000 T29 (mk p29 (t1, t10, t11, c1_0, c1_1, c1_2, s2, ())) = F29 Gimpl_scan_expr Gimpl_scan_put Gimpl_scan_take t1 t10 t11 c1_0 c1_1 c1_2 s2 := by kernel_rfl
noncomputable def L10 (Gself : G) : C10 := fun x => F10 impl_scan_put.impl impl_scan_run.impl slices_Index_of.impl x.1 x.2.1 x.2.2.1 x.2.2.2.1
noncomputable def L29 (Gself : G) : C29 := fun x => F29 Gself impl_scan_put.impl impl_scan_take.impl x.1 x.2.1 x.2.2.1 x.2.2.2.1 x.2.2.2.2.1 x.2.2.2.2.2.1 x.2.2.2.2.2.2.1
noncomputable def L25 (Gself : G) : C25 := fun x => F25 (L29 Gself) impl_scan_take.impl x.1 x.2.1 x.2.2.1 x.2.2.2.1 x.2.2.2.2.1 x.2.2.2.2.2.1
noncomputable def L23 (Gself : G) : C23 := fun x => F23 (L25 Gself) impl_scan_take.impl x.1 x.2.1 x.2.2.1 x.2.2.2.1 x.2.2.2.2.1 x.2.2.2.2.2.1
noncomputable def L3 (Gself : G) : C3 := fun x => F3 (L10 Gself) (L23 Gself) impl_numberText.impl Gself impl_scan_put.impl impl_scan_run.impl impl_scan_take.impl x.1 x.2.1 x.2.2.1 x.2.2.2.1 x.2.2.2.2.1
noncomputable def L1 (Gself : G) : C1 := fun x => F1 (L3 Gself) x.1 x.2.1 x.2.2.1 x.2.2.2.1 x.2.2.2.2.1
noncomputable def step (Gself : G) : G := fun x => F0 (L1 Gself) x.1 x.2.1 x.2.2.1 x.2.2.2.1 x.2.2.2.2.1
noncomputable def impl : G := lfp step
theorem F10_le {Gimpl_scan_put : impl_scan_put.G} {Gimpl_scan_run : impl_scan_run.G} {Gslices_Index_of : slices_Index_of.G} (c1_0 : List Bs) (c1_1 : Bs) (c1_2 : Int) (s2 : List Q4) : OptLe (F10 Gimpl_scan_put Gimpl_scan_run Gslices_Index_of c1_0 c1_1 c1_2 s2) (F10 Gimpl_scan_put Gimpl_scan_run Gslices_Index_of c1_0 c1_1 c1_2 s2) := by unfold F10 F10o0 F10o1; exact .bind (.refl _) fun _ => .bind (.refl _) fun _ => .refl _
theorem F29_le {Gself Gself' : G} (hG : OLe Gself Gself') {Gimpl_scan_put : impl_scan_put.G} {Gimpl_scan_take : impl_scan_take.G} (t1 : Int) (t10 : Int) (t11 : Int) (c1_0 : List Bs) (c1_1 : Bs) (c1_2 : Int) (s2 : List Q4) : OptLe (F29 Gself Gimpl_scan_put Gimpl_scan_take t1 t10 t11 c1_0 c1_1 c1_2 s2) (F29 Gself' Gimpl_scan_put Gimpl_scan_take t1 t10 t11 c1_0 c1_1 c1_2 s2) := by unfold F29; exact .bind (.of hG _) fun _ => .refl _
theorem F25_le {J29 J29' : C29} (h29 : OLe J29 J29') {Gimpl_scan_take : impl_scan_take.G} (t1 : Int) (t10 : Int) (c1_0 : List Bs) (c1_1 : Bs) (c1_2 : Int) (s2 : List Q4) : OptLe (F25 J29 Gimpl_scan_take t1 t10 c1_0 c1_1 c1_2 s2) (F25 J29' Gimpl_scan_take t1 t10 c1_0 c1_1 c1_2 s2) := by unfold F25; exact .cond (.cond (.refl _) (.bind (.refl _) fun _ => .cond (.refl _) (.of h29 _))) (.refl _)
theorem F23_le {J25 J25' : C25} (h25 : OLe J25 J25') {Gimpl_scan_take : impl_scan_take.G} (t1 : Int) (t10 : Int) (c1_0 : List Bs) (c1_1 : Bs) (c1_2 : Int) (s2 : List Q4) : OptLe (F23 J25 Gimpl_scan_take t1 t10 c1_0 c1_1 c1_2 s2) (F23 J25' Gimpl_scan_take t1 t10 c1_0 c1_1 c1_2 s2) := by unfold F23; exact .cond (.refl _) (.bind (.refl _) fun _ => .cond (.refl _) (.cond (.refl _) (.of h25 _)))
theorem F3_le {J10 J10' : C10} (h10 : OLe J10 J10') {J23 J23' : C23} (h23 : OLe J23 J23') {Gimpl_numberText : impl_numberText.G} {Gself Gself' : G} (hG : OLe Gself Gself') {Gimpl_scan_put : impl_scan_put.G} {Gimpl_scan_run : impl_scan_run.G} {Gimpl_scan_take : impl_scan_take.G} (t1 : Int) (c1_0 : List Bs) (c1_1 : Bs) (c1_2 : Int) (s2 : List Q4) : OptLe (F3 J10 J23 Gimpl_numberText Gself Gimpl_scan_put Gimpl_scan_run Gimpl_scan_take t1 c1_0 c1_1 c1_2 s2) (F3 J10' J23' Gimpl_numberText Gself' Gimpl_scan_put Gimpl_scan_run Gimpl_scan_take t1 c1_0 c1_1 c1_2 s2) := by unfold F3; exact .cond (.cond (.refl _) (.cond (.cond (.refl _) (.cond (.cond (.of h10 _) (.cond (.refl _) (.bind (.refl _) fun _ => .cond (.bind (.of hG _) fun _ => .refl _) (.bind (.refl _) fun _ => .cond (.bind (.of hG _) fun _ => .of h23 _) (.refl _))))) (.cond (.refl _) (.bind (.refl _) fun _ => .cond (.bind (.of hG _) fun _ => .refl _) (.bind (.refl _) fun _ => .cond (.bind (.of hG _) fun _ => .of h23 _) (.refl _)))))) (.cond (.cond (.of h10 _) (.cond (.refl _) (.bind (.refl _) fun _ => .cond (.bind (.of hG _) fun _ => .refl _) (.bind (.refl _) fun _ => .cond (.bind (.of hG _) fun _ => .of h23 _) (.refl _))))) (.cond (.refl _) (.bind (.refl _) fun _ => .cond (.bind (.of hG _) fun _ => .refl _) (.bind (.refl _) fun _ => .cond (.bind (.of hG _) fun _ => .of h23 _) (.refl _))))))) (.refl _)
theorem F1_le {J3 J3' : C3} (h3 : OLe J3 J3') (t1 : Int) (c1_0 : List Bs) (c1_1 : Bs) (c1_2 : Int) (s2 : List Q4) : OptLe (F1 J3 t1 c1_0 c1_1 c1_2 s2) (F1 J3' t1 c1_0 c1_1 c1_2 s2) := by unfold F1; exact .cond (.refl _) (.of h3 _)
theorem F0_le {J1 J1' : C1} (h1 : OLe J1 J1') (x1 : Int) (c1_0 : List Bs) (c1_1 : Bs) (c1_2 : Int) (s2 : List Q4) : OptLe (F0 J1 x1 c1_0 c1_1 c1_2 s2) (F0 J1' x1 c1_0 c1_1 c1_2 s2) := by unfold F0; exact .of h1 _
theorem L10_eq (Gself : G) (c1_0 : List Bs) (c1_1 : Bs) (c1_2 : Int) (s2 : List Q4) : L10 Gself (c1_0, c1_1, c1_2, s2, ()) = F10 impl_scan_put.impl impl_scan_run.impl slices_Index_of.impl c1_0 c1_1 c1_2 s2 := rfl
theorem L10_le {Gself Gself' : G} (hG : OLe Gself Gself') : OLe (L10 Gself) (L10 Gself') := fun x => F10_le x.1 x.2.1 x.2.2.1 x.2.2.2.1
theorem L29_eq (Gself : G) (t1 : Int) (t10 : Int) (t11 : Int) (c1_0 : List Bs) (c1_1 : Bs) (c1_2 : Int) (s2 : List Q4) : L29 Gself (t1, t10, t11, c1_0, c1_1, c1_2, s2, ()) = F29 Gself impl_scan_put.impl impl_scan_take.impl t1 t10 t11 c1_0 c1_1 c1_2 s2 := rfl
theorem L29_le {Gself Gself' : G} (hG : OLe Gself Gself') : OLe (L29 Gself) (L29 Gself') := fun x => F29_le hG x.1 x.2.1 x.2.2.1 x.2.2.2.1 x.2.2.2.2.1 x.2.2.2.2.2.1 x.2.2.2.2.2.2.1
theorem L25_eq (Gself : G) (t1 : Int) (t10 : Int) (c1_0 : List Bs) (c1_1 : Bs) (c1_2 : Int) (s2 : List Q4) : L25 Gself (t1, t10, c1_0, c1_1, c1_2, s2, ()) = F25 (L29 Gself) impl_scan_take.impl t1 t10 c1_0 c1_1 c1_2 s2 := rfl
theorem L25_le {Gself Gself' : G} (hG : OLe Gself Gself') : OLe (L25 Gself) (L25 Gself') := fun x => F25_le (L29_le hG) x.1 x.2.1 x.2.2.1 x.2.2.2.1 x.2.2.2.2.1 x.2.2.2.2.2.1
theorem L23_eq (Gself : G) (t1 : Int) (t10 : Int) (c1_0 : List Bs) (c1_1 : Bs) (c1_2 : Int) (s2 : List Q4) : L23 Gself (t1, t10, c1_0, c1_1, c1_2, s2, ()) = F23 (L25 Gself) impl_scan_take.impl t1 t10 c1_0 c1_1 c1_2 s2 := rfl
theorem L23_le {Gself Gself' : G} (hG : OLe Gself Gself') : OLe (L23 Gself) (L23 Gself') := fun x => F23_le (L25_le hG) x.1 x.2.1 x.2.2.1 x.2.2.2.1 x.2.2.2.2.1 x.2.2.2.2.2.1
theorem L3_eq (Gself : G) (t1 : Int) (c1_0 : List Bs) (c1_1 : Bs) (c1_2 : Int) (s2 : List Q4) : L3 Gself (t1, c1_0, c1_1, c1_2, s2, ()) = F3 (L10 Gself) (L23 Gself) impl_numberText.impl Gself impl_scan_put.impl impl_scan_run.impl impl_scan_take.impl t1 c1_0 c1_1 c1_2 s2 := rfl
theorem L3_le {Gself Gself' : G} (hG : OLe Gself Gself') : OLe (L3 Gself) (L3 Gself') := fun x => F3_le (L10_le hG) (L23_le hG) hG x.1 x.2.1 x.2.2.1 x.2.2.2.1 x.2.2.2.2.1
theorem L1_eq (Gself : G) (t1 : Int) (c1_0 : List Bs) (c1_1 : Bs) (c1_2 : Int) (s2 : List Q4) : L1 Gself (t1, c1_0, c1_1, c1_2, s2, ()) = F1 (L3 Gself) t1 c1_0 c1_1 c1_2 s2 := rfl
theorem L1_le {Gself Gself' : G} (hG : OLe Gself Gself') : OLe (L1 Gself) (L1 Gself') := fun x => F1_le (L3_le hG) x.1 x.2.1 x.2.2.1 x.2.2.2.1 x.2.2.2.2.1
theorem step_mono : OMono step := fun G G' hG x => F0_le (L1_le hG) x.1 x.2.1 x.2.2.1 x.2.2.2.1 x.2.2.2.2.1
theorem impl_eq (x1 : Int) (c1_0 : List Bs) (c1_1 : Bs) (c1_2 : Int) (s2 : List Q4) : impl (x1, c1_0, c1_1, c1_2, s2, ()) = F0 (L1 impl) x1 c1_0 c1_1 c1_2 s2 := congrFun (lfp_eq step_mono) _
theorem con_step (Gself : G) (hself : Con Tryz.prog 108 2 rs.length 2 pin pout Gself) : Con Tryz.prog 108 2 rs.length 2 pin pout (step Gself) := by
  refine con_of_run3 (nt := 161) (c := c0) tabGood Tryz.func108 (by kernel_rfl) (by kernel_rfl) (by kernel_rfl) (by kernel_rfl) (by kernel_rfl) (by kernel_rfl) (by kernel_rfl) ?_
  intro w0 O y Post hnp fin
  have hp : ∀ (J1 : List Item → C1), ∀ (J3 : List Item → C3), ∀ (J10 : List Item → C10), ∀ (J23 : List Item → C23), ∀ (J25 : List Item → C25), ∀ (J29 : List Item → C29), Parts Tryz.prog 108 (pg impl_numberText.impl Gself impl_scan_put.impl impl_scan_run.impl impl_scan_take.impl slices_Index_of.impl J1 J3 J10 J23 J25 J29) [(1, cut p1 J1), (3, cut p3 J3), (10, cut p10 J10), (23, cut p23 J23), (25, cut p25 J25), (29, cut p29 J29)] := fun J1 J3 J10 J23 J25 J29 => ⟨tab_ok tabGood rfl, (handAt_ok impl_scan_take.con (handAt_ok impl_scan_run.con (handAt_ok hself (handAt_ok slices_Index_of.con (handAt_ok impl_numberText.con (handAt_ok impl_scan_put.con handNil_ok)))))), rfl⟩
  have g10 : Good Tryz.prog 161 w0 O Post y T10 p10 (L10 Gself) := good_orders (hs := hd impl_numberText.impl Gself impl_scan_put.impl impl_scan_run.impl impl_scan_take.impl slices_Index_of.impl) (cv' := hd impl_numberText.impl Gself impl_scan_put.impl impl_scan_run.impl impl_scan_take.impl slices_Index_of.impl) (Checked.mixed Tryz.checked) (hp (atT T1 (fun _ => none)) (atT T3 (fun _ => none)) (atT T10 (fun _ => none)) (atT T23 (fun _ => none)) (atT T25 (fun _ => none)) (atT T29 (fun _ => none))) (handAt_ok impl_scan_take.con (handAt_ok impl_scan_run.con (handAt_ok hself (handAt_ok slices_Index_of.con (handAt_ok impl_numberText.con (handAt_ok impl_scan_put.con handNil_ok)))))) (handAt_nat (handAt_nat (handAt_nat (handAt_nat (handAt_nat (handAt_nat handNil_nat)))))) (handAt_nat (handAt_nat (handAt_nat (handAt_nat (handAt_nat (handAt_nat handNil_nat)))))) (runOK_of (hp (atT T1 (fun _ => none)) (atT T3 (fun _ => none)) (atT T10 (fun _ => none)) (atT T23 (fun _ => none)) (atT T25 (fun _ => none)) (atT T29 (fun _ => none))) hnp ⟨cutOK_at (p := p1) (T := T1) (J := fun _ => none) good_none, cutOK_at (p := p3) (T := T3) (J := fun _ => none) good_none, cutOK_at (p := p10) (T := T10) (J := fun _ => none) good_none, cutOK_at (p := p23) (T := T23) (J := fun _ => none) good_none, cutOK_at (p := p25) (T := T25) (J := fun _ => none) good_none, cutOK_at (p := p29) (T := T29) (J := fun _ => none) good_none, trivial⟩ fin) (fun x => all_of (L := [F10o0 impl_scan_put.impl impl_scan_run.impl slices_Index_of.impl x.1 x.2.1 x.2.2.1 x.2.2.2.1, F10o1 impl_scan_put.impl impl_scan_run.impl slices_Index_of.impl x.1 x.2.1 x.2.2.1 x.2.2.2.1]) ((seg10 impl_numberText.impl Gself impl_scan_put.impl impl_scan_run.impl impl_scan_take.impl slices_Index_of.impl (atT T1 (fun _ => none)) (atT T3 (fun _ => none)) (atT T10 (fun _ => none)) (atT T23 (fun _ => none)) (atT T25 (fun _ => none)) (atT T29 (fun _ => none)) x.1 x.2.1 x.2.2.1 x.2.2.2.1)) (all_cons (F10o0_le impl_scan_put.impl impl_scan_run.impl slices_Index_of.impl x.1 x.2.1 x.2.2.1 x.2.2.2.1) (all_cons (F10o1_le impl_scan_put.impl impl_scan_run.impl slices_Index_of.impl x.1 x.2.1 x.2.2.1 x.2.2.2.1) all_nil)))
  have g29 : Good Tryz.prog 161 w0 O Post y T29 p29 (L29 Gself) := good_part (hp (atT T1 (fun _ => none)) (atT T3 (fun _ => none)) (atT T10 (fun _ => none)) (atT T23 (fun _ => none)) (atT T25 (fun _ => none)) (atT T29 (fun _ => none))) (runOK_of (hp (atT T1 (fun _ => none)) (atT T3 (fun _ => none)) (atT T10 (fun _ => none)) (atT T23 (fun _ => none)) (atT T25 (fun _ => none)) (atT T29 (fun _ => none))) hnp ⟨cutOK_at (p := p1) (T := T1) (J := fun _ => none) good_none, cutOK_at (p := p3) (T := T3) (J := fun _ => none) good_none, cutOK_at (p := p10) (T := T10) (J := fun _ => none) good_none, cutOK_at (p := p23) (T := T23) (J := fun _ => none) good_none, cutOK_at (p := p25) (T := T25) (J := fun _ => none) good_none, cutOK_at (p := p29) (T := T29) (J := fun _ => none) good_none, trivial⟩ fin) (fun x => (seg29 impl_numberText.impl Gself impl_scan_put.impl impl_scan_run.impl impl_scan_take.impl slices_Index_of.impl (atT T1 (fun _ => none)) (atT T3 (fun _ => none)) (atT T10 (fun _ => none)) (atT T23 (fun _ => none)) (atT T25 (fun _ => none)) (atT T29 (fun _ => none)) x.1 x.2.1 x.2.2.1 x.2.2.2.1 x.2.2.2.2.1 x.2.2.2.2.2.1 x.2.2.2.2.2.2.1))
  have g25 : Good Tryz.prog 161 w0 O Post y T25 p25 (L25 Gself) := good_group (hs := hd impl_numberText.impl Gself impl_scan_put.impl impl_scan_run.impl impl_scan_take.impl slices_Index_of.impl) (cv' := hd impl_numberText.impl Gself impl_scan_put.impl impl_scan_run.impl impl_scan_take.impl slices_Index_of.impl) (Checked.mixed Tryz.checked) (hp (atT T1 (fun _ => none)) (atT T3 (fun _ => none)) (atT T10 (fun _ => none)) (atT T23 (fun _ => none)) (atT T25 (fun _ => none)) (atT T29 (L29 Gself))) (handAt_D' rfl (handAt_D' rfl (handAt_D' rfl (handAt_D slices_Index_of.con (by rfl) rfl (handAt_D impl_numberText.con (by rfl) rfl (handAt_D' rfl handNil_D)))))) (handAt_nat (handAt_nat (handAt_nat (handAt_nat (handAt_nat (handAt_nat handNil_nat)))))) (handAt_nat (handAt_nat (handAt_nat (handAt_nat (handAt_nat (handAt_nat handNil_nat)))))) (runOK_of (hp (atT T1 (fun _ => none)) (atT T3 (fun _ => none)) (atT T10 (fun _ => none)) (atT T23 (fun _ => none)) (atT T25 (fun _ => none)) (atT T29 (L29 Gself))) hnp ⟨cutOK_at (p := p1) (T := T1) (J := fun _ => none) good_none, cutOK_at (p := p3) (T := T3) (J := fun _ => none) good_none, cutOK_at (p := p10) (T := T10) (J := fun _ => none) good_none, cutOK_at (p := p23) (T := T23) (J := fun _ => none) good_none, cutOK_at (p := p25) (T := T25) (J := fun _ => none) good_none, cutOK_at g29, trivial⟩ fin) (fun x => all_same ⟨_, (seg25 impl_numberText.impl Gself impl_scan_put.impl impl_scan_run.impl impl_scan_take.impl slices_Index_of.impl (atT T1 (fun _ => none)) (atT T3 (fun _ => none)) (atT T10 (fun _ => none)) (atT T23 (fun _ => none)) (atT T25 (fun _ => none)) (atT T29 (L29 Gself)) x.1 x.2.1 x.2.2.1 x.2.2.2.1 x.2.2.2.2.1 x.2.2.2.2.2.1).trans (by simp only [atT_self] <;> rfl)⟩)
  have g23 : Good Tryz.prog 161 w0 O Post y T23 p23 (L23 Gself) := good_orders (hs := hd impl_numberText.impl Gself impl_scan_put.impl impl_scan_run.impl impl_scan_take.impl slices_Index_of.impl) (cv' := hd impl_numberText.impl Gself impl_scan_put.impl impl_scan_run.impl impl_scan_take.impl slices_Index_of.impl) (Checked.mixed Tryz.checked) (hp (atT T1 (fun _ => none)) (atT T3 (fun _ => none)) (atT T10 (fun _ => none)) (atT T23 (fun _ => none)) (atT T25 (L25 Gself)) (atT T29 (fun _ => none))) (handAt_ok impl_scan_take.con (handAt_ok impl_scan_run.con (handAt_ok hself (handAt_ok slices_Index_of.con (handAt_ok impl_numberText.con (handAt_ok impl_scan_put.con handNil_ok)))))) (handAt_nat (handAt_nat (handAt_nat (handAt_nat (handAt_nat (handAt_nat handNil_nat)))))) (handAt_nat (handAt_nat (handAt_nat (handAt_nat (handAt_nat (handAt_nat handNil_nat)))))) (runOK_of (hp (atT T1 (fun _ => none)) (atT T3 (fun _ => none)) (atT T10 (fun _ => none)) (atT T23 (fun _ => none)) (atT T25 (L25 Gself)) (atT T29 (fun _ => none))) hnp ⟨cutOK_at (p := p1) (T := T1) (J := fun _ => none) good_none, cutOK_at (p := p3) (T := T3) (J := fun _ => none) good_none, cutOK_at (p := p10) (T := T10) (J := fun _ => none) good_none, cutOK_at (p := p23) (T := T23) (J := fun _ => none) good_none, cutOK_at g25, cutOK_at (p := p29) (T := T29) (J := fun _ => none) good_none, trivial⟩ fin) (fun x => all_same ⟨_, (seg23 impl_numberText.impl Gself impl_scan_put.impl impl_scan_run.impl impl_scan_take.impl slices_Index_of.impl (atT T1 (fun _ => none)) (atT T3 (fun _ => none)) (atT T10 (fun _ => none)) (atT T23 (fun _ => none)) (atT T25 (L25 Gself)) (atT T29 (fun _ => none)) x.1 x.2.1 x.2.2.1 x.2.2.2.1 x.2.2.2.2.1 x.2.2.2.2.2.1).trans (by simp only [atT_self] <;> rfl)⟩)
  have g3 : Good Tryz.prog 161 w0 O Post y T3 p3 (L3 Gself) := good_quiet (hs := hd impl_numberText.impl Gself impl_scan_put.impl impl_scan_run.impl impl_scan_take.impl slices_Index_of.impl) (cv' := hd impl_numberText.impl Gself impl_scan_put.impl impl_scan_run.impl impl_scan_take.impl slices_Index_of.impl) (Checked.mixed Tryz.checked) (hp (atT T1 (fun _ => none)) (atT T3 (fun _ => none)) (atT T10 (L10 Gself)) (atT T23 (L23 Gself)) (atT T25 (fun _ => none)) (atT T29 (fun _ => none))) (handAt_D' rfl (handAt_D' rfl (handAt_D' rfl (handAt_D slices_Index_of.con (by rfl) rfl (handAt_D impl_numberText.con (by rfl) rfl (handAt_D' rfl handNil_D)))))) (handAt_nat (handAt_nat (handAt_nat (handAt_nat (handAt_nat (handAt_nat handNil_nat)))))) (handAt_nat (handAt_nat (handAt_nat (handAt_nat (handAt_nat (handAt_nat handNil_nat)))))) (runOK_of (hp (atT T1 (fun _ => none)) (atT T3 (fun _ => none)) (atT T10 (L10 Gself)) (atT T23 (L23 Gself)) (atT T25 (fun _ => none)) (atT T29 (fun _ => none))) hnp ⟨cutOK_at (p := p1) (T := T1) (J := fun _ => none) good_none, cutOK_at (p := p3) (T := T3) (J := fun _ => none) good_none, cutOK_at g10, cutOK_at g23, cutOK_at (p := p25) (T := T25) (J := fun _ => none) good_none, cutOK_at (p := p29) (T := T29) (J := fun _ => none) good_none, trivial⟩ fin) (fun x => all_same ⟨_, (seg3 impl_numberText.impl Gself impl_scan_put.impl impl_scan_run.impl impl_scan_take.impl slices_Index_of.impl (atT T1 (fun _ => none)) (atT T3 (fun _ => none)) (atT T10 (L10 Gself)) (atT T23 (L23 Gself)) (atT T25 (fun _ => none)) (atT T29 (fun _ => none)) x.1 x.2.1 x.2.2.1 x.2.2.2.1 x.2.2.2.2.1).trans (by simp only [atT_self] <;> rfl)⟩)
  have g1 : Good Tryz.prog 161 w0 O Post y T1 p1 (L1 Gself) := good_quiet (hs := hd impl_numberText.impl Gself impl_scan_put.impl impl_scan_run.impl impl_scan_take.impl slices_Index_of.impl) (cv' := hd impl_numberText.impl Gself impl_scan_put.impl impl_scan_run.impl impl_scan_take.impl slices_Index_of.impl) (Checked.mixed Tryz.checked) (hp (atT T1 (fun _ => none)) (atT T3 (L3 Gself)) (atT T10 (fun _ => none)) (atT T23 (fun _ => none)) (atT T25 (fun _ => none)) (atT T29 (fun _ => none))) (handAt_D' rfl (handAt_D' rfl (handAt_D' rfl (handAt_D slices_Index_of.con (by rfl) rfl (handAt_D impl_numberText.con (by rfl) rfl (handAt_D' rfl handNil_D)))))) (handAt_nat (handAt_nat (handAt_nat (handAt_nat (handAt_nat (handAt_nat handNil_nat)))))) (handAt_nat (handAt_nat (handAt_nat (handAt_nat (handAt_nat (handAt_nat handNil_nat)))))) (runOK_of (hp (atT T1 (fun _ => none)) (atT T3 (L3 Gself)) (atT T10 (fun _ => none)) (atT T23 (fun _ => none)) (atT T25 (fun _ => none)) (atT T29 (fun _ => none))) hnp ⟨cutOK_at (p := p1) (T := T1) (J := fun _ => none) good_none, cutOK_at g3, cutOK_at (p := p10) (T := T10) (J := fun _ => none) good_none, cutOK_at (p := p23) (T := T23) (J := fun _ => none) good_none, cutOK_at (p := p25) (T := T25) (J := fun _ => none) good_none, cutOK_at (p := p29) (T := T29) (J := fun _ => none) good_none, trivial⟩ fin) (fun x => all_same ⟨_, (seg1 impl_numberText.impl Gself impl_scan_put.impl impl_scan_run.impl impl_scan_take.impl slices_Index_of.impl (atT T1 (fun _ => none)) (atT T3 (L3 Gself)) (atT T10 (fun _ => none)) (atT T23 (fun _ => none)) (atT T25 (fun _ => none)) (atT T29 (fun _ => none)) x.1 x.2.1 x.2.2.1 x.2.2.2.1 x.2.2.2.2.1).trans (by simp only [atT_self] <;> rfl)⟩)
  exact good_first (hp (atT T1 (L1 Gself)) (atT T3 (fun _ => none)) (atT T10 (fun _ => none)) (atT T23 (fun _ => none)) (atT T25 (fun _ => none)) (atT T29 (fun _ => none))) (runOK_of (hp (atT T1 (L1 Gself)) (atT T3 (fun _ => none)) (atT T10 (fun _ => none)) (atT T23 (fun _ => none)) (atT T25 (fun _ => none)) (atT T29 (fun _ => none))) hnp ⟨cutOK_at g1, cutOK_at (p := p3) (T := T3) (J := fun _ => none) good_none, cutOK_at (p := p10) (T := T10) (J := fun _ => none) good_none, cutOK_at (p := p23) (T := T23) (J := fun _ => none) good_none, cutOK_at (p := p25) (T := T25) (J := fun _ => none) good_none, cutOK_at (p := p29) (T := T29) (J := fun _ => none) good_none, trivial⟩ fin) (fun x => (seg0 impl_numberText.impl Gself impl_scan_put.impl impl_scan_run.impl impl_scan_take.impl slices_Index_of.impl (atT T1 (L1 Gself)) (atT T3 (fun _ => none)) (atT T10 (fun _ => none)) (atT T23 (fun _ => none)) (atT T25 (fun _ => none)) (atT T29 (fun _ => none)) x.1 x.2.1 x.2.2.1 x.2.2.2.1 x.2.2.2.2.1).trans (by simp only [atT_self] <;> rfl))
theorem con : Con Tryz.prog 108 2 rs.length 2 pin pout impl := con_lfp (c := c0) Tryz.func108 (by kernel_rfl) (by kernel_rfl) (by kernel_rfl) con_step
end impl_scan_expr

/-! ### loop.example/wholecheck/impl.parts -/
namespace impl_parts
noncomputable abbrev c0 : Code := (Tryz.f120.body).getD .skip
noncomputable abbrev pin : Tpl := ⟨[⟨0, false, [.d i64]⟩], []⟩
noncomputable abbrev pout : Tpl := ⟨[⟨0, false, [.d i64]⟩, ⟨1, false, [.d i64]⟩, ⟨2, false, [.d i64]⟩], []⟩
noncomputable abbrev PI := Int × Unit
noncomputable abbrev PO := Int × Int × Int × Unit
noncomputable abbrev G := PI → Option PO
noncomputable abbrev rs : List ResultVar := [.tmp 2, .tmp 3, .tmp 4]
noncomputable def F0 (x0 : Int) : Option PO :=
  bif x0 == 2 then
    some (2, 1, 1, ())
  else
    bif x0 == 3 then
      some (2, 1, 1, ())
    else
      bif x0 == 4 then
        some (2, 1, 1, ())
      else
        bif x0 == 5 then
          some (2, 1, 2, ())
        else
          bif x0 == 6 then
            some (2, 1, 2, ())
          else
            bif x0 == 7 then
              some (1, 2, 2, ())
            else
              bif x0 == 8 then
                some (2, 2, 2, ())
              else
                bif x0 == 9 then
                  some (2, 2, 2, ())
                else
                  some (0, 0, 1, ())
noncomputable def hd {R : Type} : Hand R := handNil
noncomputable def pg : Prog PO := { nt := 18, np := 1, tb := tabOf tab, hd := hd, cuts := cutsOf [], fin := endOf (tabOf tab) rs 1 pout }
noncomputable def q : FuncId → Bool := fun f => hasId [] f
theorem seg0 (x0 : Int) : arun (pg) 5000 [.code c0] (mk pin (x0, ())) = F0 x0 := by kernel_rfl
noncomputable def impl : G := fun x => F0 x.1
theorem impl_eq (x0 : Int) : impl (x0, ()) = F0 x0 := rfl
theorem con : Con Tryz.prog 120 1 rs.length 1 pin pout impl := by
  refine con_of_run3 (nt := 18) (c := c0) tabGood Tryz.func120 (by kernel_rfl) (by kernel_rfl) (by kernel_rfl) (by kernel_rfl) (by kernel_rfl) (by kernel_rfl) (by kernel_rfl) ?_
  intro w0 O y Post hnp fin
  have hp : Parts Tryz.prog 120 (pg) [] := ⟨tab_ok tabGood rfl, handNil_ok, rfl⟩
  exact good_first (hp) (runOK_of (hp) hnp trivial fin) (fun x => (seg0 x.1))
end impl_parts

/-! ### loop.example/wholecheck/impl.kindsOf -/
namespace impl_kindsOf
noncomputable abbrev c0 : Code := (Tryz.f72.body).getD .skip
noncomputable abbrev pin : Tpl := ⟨[⟨0, false, [.d (.sl q4)]⟩, ⟨1, false, [.d i64]⟩], []⟩
noncomputable abbrev pout : Tpl := ⟨[⟨0, false, [.row 600001]⟩], [(600001, .row 3 true i64)]⟩
noncomputable abbrev p3 : Tpl := ⟨[⟨0, false, [.d (.sl q4)]⟩, ⟨1, false, [.d i64]⟩], []⟩
noncomputable def T3 : List Item := (find 3 c0 []).getD []
noncomputable abbrev p5 : Tpl := ⟨[⟨1, false, [.d i64]⟩, ⟨5, false, [.row 3000000]⟩, ⟨24, false, [.d (.sl q4)]⟩, ⟨25, false, [.d i64]⟩, ⟨26, false, [.d i64]⟩], [(3000000, .row 3 false i64)]⟩
noncomputable def T5 : List Item := (find 5 c0 []).getD []
noncomputable abbrev PI := (List Q4) × Int × Unit
noncomputable abbrev PO := (List Int) × Unit
noncomputable abbrev G := PI → Option PO
noncomputable abbrev P3 := (List Q4) × Int × Unit
noncomputable abbrev C3 := P3 → Option PO
noncomputable abbrev P5 := Int × (List Q4) × Int × Int × (List Int) × Unit
noncomputable abbrev C5 := P5 → Option PO
noncomputable abbrev rs : List ResultVar := [.tmp 4]
noncomputable def F0 (J3 : C3) (Gimpl_in : impl_in.G) (x0 : List Q4) (x1 : Int) : Option PO :=
  Option.bind (Gimpl_in (x1, 0, 5, ())) fun y0 =>
  bif !y0.1 then
    some ([], ())
  else
    Option.bind (Gimpl_in ((x0.length : Int), 1, 40, ())) fun y1 =>
    bif !y1.1 then
      some ([], ())
    else
      J3 (x0, x1, ())
noncomputable def F3 (J5 : C5) (t0 : List Q4) (t1 : Int) : Option PO :=
  bif decide (0 ≤ (t0.length : Int)) && decide ((t0.length : Int) * 8 ≤ 140737488355328) then
    J5 (t1, t0, (t0.length : Int), 0, (List.replicate 0 0 : List Int), ())
  else
    none
noncomputable def F5 (J5 : C5) (Gimpl_in : impl_in.G) (Gimpl_parts : impl_parts.G) (t1 : Int) (t24 : List Q4) (t25 : Int) (t26 : Int) (r0 : List Int) : Option PO :=
  bif decide (t26 < t25) then
    bif inb t26 t24.length then
      Option.bind (Gimpl_parts ((t24.getD t26.toNat (0, 0, 0, 0)).1, ())) fun y2 =>
      Option.bind (Gimpl_in ((t24.getD t26.toNat (0, 0, 0, 0)).1, 0, 9, ())) fun y3 =>
      bif (t24.getD t26.toNat (0, 0, 0, 0)).1 == 0 then
        Option.bind (Gimpl_in ((t24.getD t26.toNat (0, 0, 0, 0)).2.1, (-9999), 9999, ())) fun y4 =>
        bif y4.1 then
          bif (t24.getD t26.toNat (0, 0, 0, 0)).2.2.1 == 0 then
            bif !((t24.getD t26.toNat (0, 0, 0, 0)).2.2.2 == 0) then
              some ([], ())
            else
              bif decide ((r0.length + ([y2.2.2.1] : List Int).length) * 8 ≤ 140737488355328) then
                J5 (t1, t24, t25, wI (t26 + 1), r0 ++ ([y2.2.2.1] : List Int), ())
              else
                none
          else
            some ([], ())
        else
          some ([], ())
      else
        bif (t24.getD t26.toNat (0, 0, 0, 0)).1 == 1 then
          Option.bind (Gimpl_in ((t24.getD t26.toNat (0, 0, 0, 0)).2.1, 0, wI (t1 - 1), ())) fun y5 =>
          bif y5.1 then
            bif (t24.getD t26.toNat (0, 0, 0, 0)).2.2.1 == 0 then
              bif !((t24.getD t26.toNat (0, 0, 0, 0)).2.2.2 == 0) then
                some ([], ())
              else
                bif decide ((r0.length + ([y2.2.2.1] : List Int).length) * 8 ≤ 140737488355328) then
                  J5 (t1, t24, t25, wI (t26 + 1), r0 ++ ([y2.2.2.1] : List Int), ())
                else
                  none
            else
              some ([], ())
          else
            some ([], ())
        else
          bif y3.1 then
            bif (t24.getD t26.toNat (0, 0, 0, 0)).2.1 == 0 then
              Option.bind (Gimpl_in ((t24.getD t26.toNat (0, 0, 0, 0)).2.2.1, 0, wI (t26 - 1), ())) fun y6 =>
              bif y6.1 then
                Option.bind (Gimpl_in ((t24.getD t26.toNat (0, 0, 0, 0)).2.2.2, 0, wI (t26 - 1), ())) fun y7 =>
                bif y7.1 then
                  bif inb (t24.getD t26.toNat (0, 0, 0, 0)).2.2.1 r0.length then
                    bif r0.getD (t24.getD t26.toNat (0, 0, 0, 0)).2.2.1.toNat 0 == y2.2.1 then
                      bif inb (t24.getD t26.toNat (0, 0, 0, 0)).2.2.2 r0.length then
                        bif r0.getD (t24.getD t26.toNat (0, 0, 0, 0)).2.2.2.toNat 0 == y2.2.1 then
                          bif y2.1 == 2 then
                            bif decide ((r0.length + ([y2.2.2.1] : List Int).length) * 8 ≤ 140737488355328) then
                              J5 (t1, t24, t25, wI (t26 + 1), r0 ++ ([y2.2.2.1] : List Int), ())
                            else
                              none
                          else
                            bif !((t24.getD t26.toNat (0, 0, 0, 0)).2.2.1 == (t24.getD t26.toNat (0, 0, 0, 0)).2.2.2) then
                              some ([], ())
                            else
                              bif decide ((r0.length + ([y2.2.2.1] : List Int).length) * 8 ≤ 140737488355328) then
                                J5 (t1, t24, t25, wI (t26 + 1), r0 ++ ([y2.2.2.1] : List Int), ())
                              else
                                none
                        else
                          some ([], ())
                      else
                        none
                    else
                      some ([], ())
                  else
                    none
                else
                  some ([], ())
              else
                some ([], ())
            else
              some ([], ())
          else
            bif !y3.1 then
              some ([], ())
            else
              bif decide ((r0.length + ([y2.2.2.1] : List Int).length) * 8 ≤ 140737488355328) then
                J5 (t1, t24, t25, wI (t26 + 1), r0 ++ ([y2.2.2.1] : List Int), ())
              else
                none
    else
      none
  else
    bif (!r0.isEmpty && true) then
      some (r0, ())
    else
      none
noncomputable def hd {R : Type} (Gimpl_in : impl_in.G) (Gimpl_parts : impl_parts.G) : Hand R := (handAt 120 [34] true ⟨1, 3, 1, impl_parts.pin, impl_parts.pout, Gimpl_parts⟩ (handAt 74 [13, 18, 40, 47, 66, 87, 94] true ⟨3, 1, 3, impl_in.pin, impl_in.pout, Gimpl_in⟩ handNil))
noncomputable def pg (Gimpl_in : impl_in.G) (Gimpl_parts : impl_parts.G) (J3 : List Item → C3) (J5 : List Item → C5) : Prog PO := { nt := 133, np := 2, tb := tabOf tab, hd := hd Gimpl_in Gimpl_parts, cuts := cutsOf [(3, cut p3 J3), (5, cut p5 J5)], fin := endOf (tabOf tab) rs 2 pout }
noncomputable def q : FuncId → Bool := fun f => hasId [74, 120] f
theorem seg0 (Gimpl_in : impl_in.G) (Gimpl_parts : impl_parts.G) (J3 : List Item → C3) (J5 : List Item → C5) (x0 : List Q4) (x1 : Int) : arun (pg Gimpl_in Gimpl_parts J3 J5) 5000 [.code c0] (mk pin (x0, x1, ())) = F0 (J3 T3) Gimpl_in x0 x1 := by kernel_rfl
theorem seg3 (Gimpl_in : impl_in.G) (Gimpl_parts : impl_parts.G) (J3 : List Item → C3) (J5 : List Item → C5) (t0 : List Q4) (t1 : Int) : arun1 (pg Gimpl_in Gimpl_parts J3 J5) 5000 T3 (mk p3 (t0, t1, ())) = F3 (J5 T5) t0 t1 := by kernel_rfl
theorem seg5 (Gimpl_in : impl_in.G) (Gimpl_parts : impl_parts.G) (J3 : List Item → C3) (J5 : List Item → C5) (t1 : Int) (t24 : List Q4) (t25 : Int) (t26 : Int) (r0 : List Int) : arun1 (pg Gimpl_in Gimpl_parts J3 J5) 5000 T5 (mk p5 (t1, t24, t25, t26, r0, ())) = F5 (J5 T5) Gimpl_in Gimpl_parts t1 t24 t25 t26 r0 := by kernel_rfl
noncomputable def L5 : C5 := lfp fun J5 x => F5 J5 impl_in.impl impl_parts.impl x.1 x.2.1 x.2.2.1 x.2.2.2.1 x.2.2.2.2.1
noncomputable def L3 : C3 := fun x => F3 L5 x.1 x.2.1
noncomputable def impl : G := fun x => F0 L3 impl_in.impl x.1 x.2.1
theorem F5_le {J5 J5' : C5} (h5 : OLe J5 J5') {Gimpl_in : impl_in.G} {Gimpl_parts : impl_parts.G} (t1 : Int) (t24 : List Q4) (t25 : Int) (t26 : Int) (r0 : List Int) : OptLe (F5 J5 Gimpl_in Gimpl_parts t1 t24 t25 t26 r0) (F5 J5' Gimpl_in Gimpl_parts t1 t24 t25 t26 r0) := by unfold F5; exact .cond (.cond (.bind (.refl _) fun _ => .bind (.refl _) fun _ => .cond (.bind (.refl _) fun _ => .cond (.cond (.cond (.refl _) (.cond (.of h5 _) (.refl _))) (.refl _)) (.refl _)) (.cond (.bind (.refl _) fun _ => .cond (.cond (.cond (.refl _) (.cond (.of h5 _) (.refl _))) (.refl _)) (.refl _)) (.cond (.cond (.bind (.refl _) fun _ => .cond (.bind (.refl _) fun _ => .cond (.cond (.cond (.cond (.cond (.cond (.cond (.of h5 _) (.refl _)) (.cond (.refl _) (.cond (.of h5 _) (.refl _)))) (.refl _)) (.refl _)) (.refl _)) (.refl _)) (.refl _)) (.refl _)) (.refl _)) (.cond (.refl _) (.cond (.of h5 _) (.refl _)))))) (.refl _)) (.refl _)
theorem L5_mono : OMono fun J5 (x : P5) => F5 J5 impl_in.impl impl_parts.impl x.1 x.2.1 x.2.2.1 x.2.2.2.1 x.2.2.2.2.1 := fun J J' h5 x => F5_le h5 x.1 x.2.1 x.2.2.1 x.2.2.2.1 x.2.2.2.2.1
theorem L5_eq (t1 : Int) (t24 : List Q4) (t25 : Int) (t26 : Int) (r0 : List Int) : L5 (t1, t24, t25, t26, r0, ()) = F5 (L5) impl_in.impl impl_parts.impl t1 t24 t25 t26 r0 := congrFun (lfp_eq (L5_mono)) _
theorem L3_eq (t0 : List Q4) (t1 : Int) : L3 (t0, t1, ()) = F3 (L5) t0 t1 := rfl
theorem impl_eq (x0 : List Q4) (x1 : Int) : impl (x0, x1, ()) = F0 L3 impl_in.impl x0 x1 := rfl
theorem con : Con Tryz.prog 72 2 rs.length 2 pin pout impl := by
  refine con_of_run3 (nt := 133) (c := c0) tabGood Tryz.func72 (by kernel_rfl) (by kernel_rfl) (by kernel_rfl) (by kernel_rfl) (by kernel_rfl) (by kernel_rfl) (by kernel_rfl) ?_
  intro w0 O y Post hnp fin
  have hp : ∀ (J3 : List Item → C3), ∀ (J5 : List Item → C5), Parts Tryz.prog 72 (pg impl_in.impl impl_parts.impl J3 J5) [(3, cut p3 J3), (5, cut p5 J5)] := fun J3 J5 => ⟨tab_ok tabGood rfl, (handAt_ok impl_parts.con (handAt_ok impl_in.con handNil_ok)), rfl⟩
  have g5 : Good Tryz.prog 133 w0 O Post y T5 p5 L5 := good_lfp fun J5 h5 => good_part (hp (atT T3 (fun _ => none)) (atT T5 J5)) (runOK_of (hp (atT T3 (fun _ => none)) (atT T5 J5)) hnp ⟨cutOK_at (p := p3) (T := T3) (J := fun _ => none) good_none, cutOK_at h5, trivial⟩ fin) (fun x => (seg5 impl_in.impl impl_parts.impl (atT T3 (fun _ => none)) (atT T5 J5) x.1 x.2.1 x.2.2.1 x.2.2.2.1 x.2.2.2.2.1).trans (by simp only [atT_self] <;> rfl))
  have g3 : Good Tryz.prog 133 w0 O Post y T3 p3 L3 := good_part (hp (atT T3 (fun _ => none)) (atT T5 L5)) (runOK_of (hp (atT T3 (fun _ => none)) (atT T5 L5)) hnp ⟨cutOK_at (p := p3) (T := T3) (J := fun _ => none) good_none, cutOK_at g5, trivial⟩ fin) (fun x => (seg3 impl_in.impl impl_parts.impl (atT T3 (fun _ => none)) (atT T5 L5) x.1 x.2.1).trans (by simp only [atT_self] <;> rfl))
  exact good_first (hp (atT T3 L3) (atT T5 (fun _ => none))) (runOK_of (hp (atT T3 L3) (atT T5 (fun _ => none))) hnp ⟨cutOK_at g3, cutOK_at (p := p5) (T := T5) (J := fun _ => none) good_none, trivial⟩ fin) (fun x => (seg0 impl_in.impl impl_parts.impl (atT T3 L3) (atT T5 (fun _ => none)) x.1 x.2.1).trans (by simp only [atT_self] <;> rfl))
end impl_kindsOf

/-! ### loop.example/wholecheck/impl.TermsValid -/
namespace impl_TermsValid
noncomputable abbrev c0 : Code := (Tryz.f23.body).getD .skip
noncomputable abbrev pin : Tpl := ⟨[⟨0, false, [.d (.sl q4)]⟩, ⟨1, false, [.d i64]⟩], []⟩
noncomputable abbrev pout : Tpl := ⟨[⟨0, false, [.d .bool]⟩], []⟩
noncomputable abbrev PI := (List Q4) × Int × Unit
noncomputable abbrev PO := Bool × Unit
noncomputable abbrev G := PI → Option PO
noncomputable abbrev rs : List ResultVar := [.tmp 4]
noncomputable def F0 (Gimpl_kindsOf : impl_kindsOf.G) (x0 : List Q4) (x1 : Int) : Option PO :=
  Option.bind (Gimpl_kindsOf (x0, x1, ())) fun y0 =>
  some (!y0.1.isEmpty, ())
noncomputable def hd {R : Type} (Gimpl_kindsOf : impl_kindsOf.G) : Hand R := (handAt 72 [7] true ⟨2, 1, 2, impl_kindsOf.pin, impl_kindsOf.pout, Gimpl_kindsOf⟩ handNil)
noncomputable def pg (Gimpl_kindsOf : impl_kindsOf.G) : Prog PO := { nt := 9, np := 2, tb := tabOf tab, hd := hd Gimpl_kindsOf, cuts := cutsOf [], fin := endOf (tabOf tab) rs 2 pout }
noncomputable def q : FuncId → Bool := fun f => hasId [] f
theorem seg0 (Gimpl_kindsOf : impl_kindsOf.G) (x0 : List Q4) (x1 : Int) : arun (pg Gimpl_kindsOf) 5000 [.code c0] (mk pin (x0, x1, ())) = F0 Gimpl_kindsOf x0 x1 := by kernel_rfl
noncomputable def impl : G := fun x => F0 impl_kindsOf.impl x.1 x.2.1
theorem impl_eq (x0 : List Q4) (x1 : Int) : impl (x0, x1, ()) = F0 impl_kindsOf.impl x0 x1 := rfl
theorem con : Con Tryz.prog 23 2 rs.length 2 pin pout impl := by
  refine con_of_run3 (nt := 9) (c := c0) tabGood Tryz.func23 (by kernel_rfl) (by kernel_rfl) (by kernel_rfl) (by kernel_rfl) (by kernel_rfl) (by kernel_rfl) (by kernel_rfl) ?_
  intro w0 O y Post hnp fin
  have hp : Parts Tryz.prog 23 (pg impl_kindsOf.impl) [] := ⟨tab_ok tabGood rfl, (handAt_ok impl_kindsOf.con handNil_ok), rfl⟩
  exact good_first (hp) (runOK_of (hp) hnp trivial fin) (fun x => (seg0 impl_kindsOf.impl x.1 x.2.1))
end impl_TermsValid

/-! ### loop.example/wholecheck/impl.clone[loop.example/wholecheck/impl.Term] -/
namespace impl_clone_of
noncomputable abbrev c0 : Code := (Tryz.f65.body).getD .skip
noncomputable abbrev pin : Tpl := ⟨[⟨0, false, [.d (.sl q4)]⟩], []⟩
noncomputable abbrev pout : Tpl := ⟨[⟨0, false, [.row 600001]⟩], [(600001, .row 52 false q4)]⟩
noncomputable abbrev PI := (List Q4) × Unit
noncomputable abbrev PO := (List Q4) × Unit
noncomputable abbrev G := PI → Option PO
noncomputable abbrev rs : List ResultVar := [.tmp 2]
noncomputable def F0 (x0 : List Q4) : Option PO :=
  bif (x0.length : Int) == 0 then
    some ([], ())
  else
    bif decide (0 ≤ (x0.length : Int)) && decide ((x0.length : Int) ≤ (x0.length : Int)) && decide ((x0.length : Int) * 32 ≤ 140737488355328) then
      some (x0.take (List.replicate (x0.length : Int).toNat (0, 0, 0, 0) : List Q4).length ++ (List.replicate (x0.length : Int).toNat (0, 0, 0, 0) : List Q4).drop x0.length, ())
    else
      none
noncomputable def hd {R : Type} : Hand R := handNil
noncomputable def pg : Prog PO := { nt := 14, np := 1, tb := tabOf tab, hd := hd, cuts := cutsOf [], fin := endOf (tabOf tab) rs 1 pout }
noncomputable def q : FuncId → Bool := fun f => hasId [] f
theorem seg0 (x0 : List Q4) : arun (pg) 5000 [.code c0] (mk pin (x0, ())) = F0 x0 := by kernel_rfl
noncomputable def impl : G := fun x => F0 x.1
theorem impl_eq (x0 : List Q4) : impl (x0, ()) = F0 x0 := rfl
theorem con : Con Tryz.prog 65 1 rs.length 1 pin pout impl := by
  refine con_of_run3 (nt := 14) (c := c0) tabGood Tryz.func65 (by kernel_rfl) (by kernel_rfl) (by kernel_rfl) (by kernel_rfl) (by kernel_rfl) (by kernel_rfl) (by kernel_rfl) ?_
  intro w0 O y Post hnp fin
  have hp : Parts Tryz.prog 65 (pg) [] := ⟨tab_ok tabGood rfl, handNil_ok, rfl⟩
  exact good_first (hp) (runOK_of (hp) hnp trivial fin) (fun x => (seg0 x.1))
end impl_clone_of

/-! ### loop.example/wholecheck/impl.readExpr -/
namespace impl_readExpr
noncomputable abbrev c0 : Code := (Tryz.f62.body).getD .skip
noncomputable abbrev pin : Tpl := ⟨[⟨0, false, [.d (.sl .str)]⟩, ⟨1, false, [.d .str]⟩], []⟩
noncomputable abbrev pout : Tpl := ⟨[⟨0, false, [.row 600001]⟩, ⟨1, false, [.d .bool]⟩], [(600001, .row 52 false q4)]⟩
noncomputable abbrev p3 : Tpl := ⟨[⟨0, false, [.d (.sl .str)]⟩, ⟨1, false, [.d .str]⟩], []⟩
noncomputable def T3 : List Item := (find 3 c0 []).getD []
noncomputable abbrev PI := (List Bs) × Bs × Unit
noncomputable abbrev PO := Bool × (List Q4) × Unit
noncomputable abbrev G := PI → Option PO
noncomputable abbrev P3 := (List Bs) × Bs × Unit
noncomputable abbrev C3 := P3 → Option PO
noncomputable abbrev rs : List ResultVar := [.tmp 4, .tmp 5]
noncomputable def F0 (J3 : C3) (Gimpl_NamesValid : impl_NamesValid.G) (x0 : List Bs) (x1 : Bs) : Option PO :=
  Option.bind (Gimpl_NamesValid (x0, ())) fun y0 =>
  bif !y0.1 then
    some (false, [], ())
  else
    bif decide ((x1.length : Int) > 4000) then
      some (false, [], ())
    else
      J3 (x0, x1, ())
noncomputable def F3 (Gimpl_TermsValid : impl_TermsValid.G) (Gimpl_clone_of : impl_clone_of.G) (Gimpl_scan_expr : impl_scan_expr.G) (t0 : List Bs) (t1 : Bs) : Option PO :=
  Option.bind (Gimpl_scan_expr (0, t0, t1, 0, [], ())) fun y1 =>
  bif decide (y1.1 < 0) then
    some (false, [], ())
  else
    bif decide (y1.2.2.2.1 < (t1.length : Int)) then
      some (false, [], ())
    else
      Option.bind (Gimpl_TermsValid (y1.2.2.2.2.1, (t0.length : Int), ())) fun y2 =>
      bif !y2.1 then
        some (false, [], ())
      else
        Option.bind (Gimpl_clone_of (y1.2.2.2.2.1, ())) fun y3 =>
        some (true, y3.1, ())
noncomputable def hd {R : Type} (Gimpl_NamesValid : impl_NamesValid.G) (Gimpl_TermsValid : impl_TermsValid.G) (Gimpl_clone_of : impl_clone_of.G) (Gimpl_scan_expr : impl_scan_expr.G) : Hand R := (handAt 108 [20] false ⟨2, 1, 2, impl_scan_expr.pin, impl_scan_expr.pout, Gimpl_scan_expr⟩ (handAt 65 [45] true ⟨1, 1, 1, impl_clone_of.pin, impl_clone_of.pout, Gimpl_clone_of⟩ (handAt 23 [38] true ⟨2, 1, 2, impl_TermsValid.pin, impl_TermsValid.pout, Gimpl_TermsValid⟩ (handAt 16 [8] true ⟨1, 1, 1, impl_NamesValid.pin, impl_NamesValid.pout, Gimpl_NamesValid⟩ handNil))))
noncomputable def pg (Gimpl_NamesValid : impl_NamesValid.G) (Gimpl_TermsValid : impl_TermsValid.G) (Gimpl_clone_of : impl_clone_of.G) (Gimpl_scan_expr : impl_scan_expr.G) (J3 : List Item → C3) : Prog PO := { nt := 46, np := 2, tb := tabOf tab, hd := hd Gimpl_NamesValid Gimpl_TermsValid Gimpl_clone_of Gimpl_scan_expr, cuts := cutsOf [(3, cut p3 J3)], fin := endOf (tabOf tab) rs 2 pout }
noncomputable def q : FuncId → Bool := fun f => hasId [16, 23] f
theorem seg0 (Gimpl_NamesValid : impl_NamesValid.G) (Gimpl_TermsValid : impl_TermsValid.G) (Gimpl_clone_of : impl_clone_of.G) (Gimpl_scan_expr : impl_scan_expr.G) (J3 : List Item → C3) (x0 : List Bs) (x1 : Bs) : arun (pg Gimpl_NamesValid Gimpl_TermsValid Gimpl_clone_of Gimpl_scan_expr J3) 5000 [.code c0] (mk pin (x0, x1, ())) = F0 (J3 T3) Gimpl_NamesValid x0 x1 := by kernel_rfl
theorem seg3 (Gimpl_NamesValid : impl_NamesValid.G) (Gimpl_TermsValid : impl_TermsValid.G) (Gimpl_clone_of : impl_clone_of.G) (Gimpl_scan_expr : impl_scan_expr.G) (J3 : List Item → C3) (t0 : List Bs) (t1 : Bs) : arun1 (pg Gimpl_NamesValid Gimpl_TermsValid Gimpl_clone_of Gimpl_scan_expr J3) 5000 T3 (mk p3 (t0, t1, ())) = F3 Gimpl_TermsValid Gimpl_clone_of Gimpl_scan_expr t0 t1 := by kernel_rfl
noncomputable def L3 : C3 := fun x => F3 impl_TermsValid.impl impl_clone_of.impl impl_scan_expr.impl x.1 x.2.1
noncomputable def impl : G := fun x => F0 L3 impl_NamesValid.impl x.1 x.2.1
theorem L3_eq (t0 : List Bs) (t1 : Bs) : L3 (t0, t1, ()) = F3 impl_TermsValid.impl impl_clone_of.impl impl_scan_expr.impl t0 t1 := rfl
theorem impl_eq (x0 : List Bs) (x1 : Bs) : impl (x0, x1, ()) = F0 L3 impl_NamesValid.impl x0 x1 := rfl
theorem con : Con Tryz.prog 62 2 rs.length 2 pin pout impl := by
  refine con_of_run3 (nt := 46) (c := c0) tabGood Tryz.func62 (by kernel_rfl) (by kernel_rfl) (by kernel_rfl) (by kernel_rfl) (by kernel_rfl) (by kernel_rfl) (by kernel_rfl) ?_
  intro w0 O y Post hnp fin
  have hp : ∀ (J3 : List Item → C3), Parts Tryz.prog 62 (pg impl_NamesValid.impl impl_TermsValid.impl impl_clone_of.impl impl_scan_expr.impl J3) [(3, cut p3 J3)] := fun J3 => ⟨tab_ok tabGood rfl, (handAt_ok impl_scan_expr.con (handAt_ok impl_clone_of.con (handAt_ok impl_TermsValid.con (handAt_ok impl_NamesValid.con handNil_ok)))), rfl⟩
  have g3 : Good Tryz.prog 46 w0 O Post y T3 p3 L3 := good_part (hp (atT T3 (fun _ => none))) (runOK_of (hp (atT T3 (fun _ => none))) hnp ⟨cutOK_at (p := p3) (T := T3) (J := fun _ => none) good_none, trivial⟩ fin) (fun x => (seg3 impl_NamesValid.impl impl_TermsValid.impl impl_clone_of.impl impl_scan_expr.impl (atT T3 (fun _ => none)) x.1 x.2.1))
  exact good_first (hp (atT T3 L3)) (runOK_of (hp (atT T3 L3)) hnp ⟨cutOK_at g3, trivial⟩ fin) (fun x => (seg0 impl_NamesValid.impl impl_TermsValid.impl impl_clone_of.impl impl_scan_expr.impl (atT T3 L3) x.1 x.2.1).trans (by simp only [atT_self] <;> rfl))
end impl_readExpr

/-! ### loop.example/wholecheck/impl.ReadExpr -/
namespace impl_ReadExpr
noncomputable abbrev c0 : Code := (Tryz.f18.body).getD .skip
noncomputable abbrev pin : Tpl := ⟨[⟨0, false, [.d (.sl .str)]⟩, ⟨1, false, [.d .str]⟩], []⟩
noncomputable abbrev pout : Tpl := ⟨[⟨0, false, [.row 600001]⟩, ⟨1, false, [.d .bool]⟩], [(600001, .row 52 false q4)]⟩
noncomputable abbrev PI := (List Bs) × Bs × Unit
noncomputable abbrev PO := Bool × (List Q4) × Unit
noncomputable abbrev G := PI → Option PO
noncomputable abbrev rs : List ResultVar := [.tmp 4, .tmp 5]
noncomputable def F0 (Gimpl_readExpr : impl_readExpr.G) (x0 : List Bs) (x1 : Bs) : Option PO :=
  Option.bind (Gimpl_readExpr (x0, x1, ())) fun y0 =>
  some (y0.1, y0.2.1, ())
noncomputable def hd {R : Type} (Gimpl_readExpr : impl_readExpr.G) : Hand R := (handAt 62 [8] true ⟨2, 2, 2, impl_readExpr.pin, impl_readExpr.pout, Gimpl_readExpr⟩ handNil)
noncomputable def pg (Gimpl_readExpr : impl_readExpr.G) : Prog PO := { nt := 11, np := 2, tb := tabOf tab, hd := hd Gimpl_readExpr, cuts := cutsOf [], fin := endOf (tabOf tab) rs 2 pout }
noncomputable def q : FuncId → Bool := fun f => hasId [] f
theorem seg0 (Gimpl_readExpr : impl_readExpr.G) (x0 : List Bs) (x1 : Bs) : arun (pg Gimpl_readExpr) 5000 [.code c0] (mk pin (x0, x1, ())) = F0 Gimpl_readExpr x0 x1 := by kernel_rfl
noncomputable def impl : G := fun x => F0 impl_readExpr.impl x.1 x.2.1
theorem impl_eq (x0 : List Bs) (x1 : Bs) : impl (x0, x1, ()) = F0 impl_readExpr.impl x0 x1 := rfl
theorem con : Con Tryz.prog 18 2 rs.length 2 pin pout impl := by
  refine con_of_run3 (nt := 11) (c := c0) tabGood Tryz.func18 (by kernel_rfl) (by kernel_rfl) (by kernel_rfl) (by kernel_rfl) (by kernel_rfl) (by kernel_rfl) (by kernel_rfl) ?_
  intro w0 O y Post hnp fin
  have hp : Parts Tryz.prog 18 (pg impl_readExpr.impl) [] := ⟨tab_ok tabGood rfl, (handAt_ok impl_readExpr.con handNil_ok), rfl⟩
  exact good_first (hp) (runOK_of (hp) hnp trivial fin) (fun x => (seg0 impl_readExpr.impl x.1 x.2.1))
end impl_ReadExpr

/-! ### loop.example/wholecheck/spec.l30Word -/
namespace spec_l30Word
noncomputable abbrev c0 : Code := (Tryz.f157.body).getD .skip
noncomputable abbrev pin : Tpl := ⟨[⟨0, true, [.d .str, .d i64, .row 500001, .row 500002, .d .bool]⟩], [(500001, .row 9 false .str), (500002, .row 52 true q4)]⟩
noncomputable abbrev pout : Tpl := ⟨[⟨0, false, [.d .str]⟩, ⟨1, true, [.any, .any, .row 500001, .row 500002, .any]⟩], [(500001, .row 9 false .str), (500002, .row 52 true q4)]⟩
noncomputable abbrev p2 : Tpl := ⟨[⟨0, true, [.d .str, .d i64, .row 500001, .row 500002, .d .bool]⟩, ⟨1, false, [.ptr 3000000 0]⟩, ⟨3, false, [.d i64]⟩], [(500001, .row 9 false .str), (500002, .row 52 true q4), (3000000, .box [.d .str, .d i64, .row 500001, .row 500002, .d .bool])]⟩
noncomputable def T2 : List Item := (find 2 c0 []).getD []
noncomputable abbrev PI := Bs × Int × Bool × (List Bs) × (List Q4) × Unit
noncomputable abbrev PO := Bs × (List Bs) × (List Q4) × Unit
noncomputable abbrev G := PI → Option PO
noncomputable abbrev P2 := Bs × Int × Bool × Int × (List Bs) × (List Q4) × Bs × Int × Bool × Unit
noncomputable abbrev C2 := P2 → Option PO
noncomputable abbrev rs : List ResultVar := [.tmp 2]
noncomputable def F0 (J2 : C2) (x0_0 : Bs) (x0_1 : Int) (x0_2 : Bool) (s1 : List Bs) (s2 : List Q4) : Option PO :=
  J2 (x0_0, x0_1, x0_2, x0_1, s1, s2, x0_0, x0_1, x0_2, ())
noncomputable def F2 (J2 : C2) (t0_0 : Bs) (t0_1 : Int) (t0_2 : Bool) (t3 : Int) (s1 : List Bs) (s2 : List Q4) (b0_0 : Bs) (b0_1 : Int) (b0_2 : Bool) : Option PO :=
  bif decide (t3 < (b0_0.length : Int)) then
    bif inb t3 b0_0.length then
      bif decide (((b0_0.getD t3.toNat 0).toNat : Int) ≥ 97) then
        bif inb t3 b0_0.length then
          bif decide (((b0_0.getD t3.toNat 0).toNat : Int) ≤ 122) then
            J2 (t0_0, t0_1, t0_2, wI (t3 + 1), s1, s2, b0_0, b0_1, b0_2, ())
          else
            bif inb t3 b0_0.length then
              bif decide (((b0_0.getD t3.toNat 0).toNat : Int) ≥ 48) then
                bif inb t3 b0_0.length then
                  bif decide (((b0_0.getD t3.toNat 0).toNat : Int) ≤ 57) then
                    J2 (t0_0, t0_1, t0_2, wI (t3 + 1), s1, s2, b0_0, b0_1, b0_2, ())
                  else
                    bif inb t3 b0_0.length then
                      bif ((b0_0.getD t3.toNat 0).toNat : Int) == 45 then
                        bif t3 == b0_1 then
                          J2 (t0_0, t0_1, t0_2, wI (t3 + 1), s1, s2, b0_0, b0_1, b0_2, ())
                        else
                          bif decide (0 ≤ b0_1) && decide (b0_1 ≤ t3) && decide (t3 ≤ (b0_0.length : Int)) then
                            some ((b0_0.take t3.toNat).drop b0_1.toNat, s1, s2, ())
                          else
                            none
                      else
                        bif decide (0 ≤ b0_1) && decide (b0_1 ≤ t3) && decide (t3 ≤ (b0_0.length : Int)) then
                          some ((b0_0.take t3.toNat).drop b0_1.toNat, s1, s2, ())
                        else
                          none
                    else
                      none
                else
                  none
              else
                bif inb t3 b0_0.length then
                  bif ((b0_0.getD t3.toNat 0).toNat : Int) == 45 then
                    bif t3 == b0_1 then
                      J2 (t0_0, t0_1, t0_2, wI (t3 + 1), s1, s2, b0_0, b0_1, b0_2, ())
                    else
                      bif decide (0 ≤ b0_1) && decide (b0_1 ≤ t3) && decide (t3 ≤ (b0_0.length : Int)) then
                        some ((b0_0.take t3.toNat).drop b0_1.toNat, s1, s2, ())
                      else
                        none
                  else
                    bif decide (0 ≤ b0_1) && decide (b0_1 ≤ t3) && decide (t3 ≤ (b0_0.length : Int)) then
                      some ((b0_0.take t3.toNat).drop b0_1.toNat, s1, s2, ())
                    else
                      none
                else
                  none
            else
              none
        else
          none
      else
        bif inb t3 b0_0.length then
          bif decide (((b0_0.getD t3.toNat 0).toNat : Int) ≥ 48) then
            bif inb t3 b0_0.length then
              bif decide (((b0_0.getD t3.toNat 0).toNat : Int) ≤ 57) then
                J2 (t0_0, t0_1, t0_2, wI (t3 + 1), s1, s2, b0_0, b0_1, b0_2, ())
              else
                bif inb t3 b0_0.length then
                  bif ((b0_0.getD t3.toNat 0).toNat : Int) == 45 then
                    bif t3 == b0_1 then
                      J2 (t0_0, t0_1, t0_2, wI (t3 + 1), s1, s2, b0_0, b0_1, b0_2, ())
                    else
                      bif decide (0 ≤ b0_1) && decide (b0_1 ≤ t3) && decide (t3 ≤ (b0_0.length : Int)) then
                        some ((b0_0.take t3.toNat).drop b0_1.toNat, s1, s2, ())
                      else
                        none
                  else
                    bif decide (0 ≤ b0_1) && decide (b0_1 ≤ t3) && decide (t3 ≤ (b0_0.length : Int)) then
                      some ((b0_0.take t3.toNat).drop b0_1.toNat, s1, s2, ())
                    else
                      none
                else
                  none
            else
              none
          else
            bif inb t3 b0_0.length then
              bif ((b0_0.getD t3.toNat 0).toNat : Int) == 45 then
                bif t3 == b0_1 then
                  J2 (t0_0, t0_1, t0_2, wI (t3 + 1), s1, s2, b0_0, b0_1, b0_2, ())
                else
                  bif decide (0 ≤ b0_1) && decide (b0_1 ≤ t3) && decide (t3 ≤ (b0_0.length : Int)) then
                    some ((b0_0.take t3.toNat).drop b0_1.toNat, s1, s2, ())
                  else
                    none
              else
                bif decide (0 ≤ b0_1) && decide (b0_1 ≤ t3) && decide (t3 ≤ (b0_0.length : Int)) then
                  some ((b0_0.take t3.toNat).drop b0_1.toNat, s1, s2, ())
                else
                  none
            else
              none
        else
          none
    else
      none
  else
    bif decide (0 ≤ b0_1) && decide (b0_1 ≤ t3) && decide (t3 ≤ (b0_0.length : Int)) then
      some ((b0_0.take t3.toNat).drop b0_1.toNat, s1, s2, ())
    else
      none
noncomputable def hd {R : Type} : Hand R := handNil
noncomputable def pg (J2 : List Item → C2) : Prog PO := { nt := 60, np := 1, tb := tabOf tab, hd := hd, cuts := cutsOf [(2, cut p2 J2)], fin := endOf (tabOf tab) rs 1 pout }
noncomputable def q : FuncId → Bool := fun f => hasId [] f
theorem seg0 (J2 : List Item → C2) (x0_0 : Bs) (x0_1 : Int) (x0_2 : Bool) (s1 : List Bs) (s2 : List Q4) : arun (pg J2) 5000 [.code c0] (mk pin (x0_0, x0_1, x0_2, s1, s2, ())) = F0 (J2 T2) x0_0 x0_1 x0_2 s1 s2 := by kernel_rfl
theorem seg2 (J2 : List Item → C2) (t0_0 : Bs) (t0_1 : Int) (t0_2 : Bool) (t3 : Int) (s1 : List Bs) (s2 : List Q4) (b0_0 : Bs) (b0_1 : Int) (b0_2 : Bool) : arun1 (pg J2) 5000 T2 (mk p2 (t0_0, t0_1, t0_2, t3, s1, s2, b0_0, b0_1, b0_2, ())) = F2 (J2 T2) t0_0 t0_1 t0_2 t3 s1 s2 b0_0 b0_1 b0_2 := by kernel_rfl
noncomputable def L2 : C2 := lfp fun J2 x => F2 J2 x.1 x.2.1 x.2.2.1 x.2.2.2.1 x.2.2.2.2.1 x.2.2.2.2.2.1 x.2.2.2.2.2.2.1 x.2.2.2.2.2.2.2.1 x.2.2.2.2.2.2.2.2.1
noncomputable def impl : G := fun x => F0 L2 x.1 x.2.1 x.2.2.1 x.2.2.2.1 x.2.2.2.2.1
theorem F2_le {J2 J2' : C2} (h2 : OLe J2 J2') (t0_0 : Bs) (t0_1 : Int) (t0_2 : Bool) (t3 : Int) (s1 : List Bs) (s2 : List Q4) (b0_0 : Bs) (b0_1 : Int) (b0_2 : Bool) : OptLe (F2 J2 t0_0 t0_1 t0_2 t3 s1 s2 b0_0 b0_1 b0_2) (F2 J2' t0_0 t0_1 t0_2 t3 s1 s2 b0_0 b0_1 b0_2) := by unfold F2; exact .cond (.cond (.cond (.cond (.cond (.of h2 _) (.cond (.cond (.cond (.cond (.of h2 _) (.cond (.cond (.cond (.of h2 _) (.refl _)) (.refl _)) (.refl _))) (.refl _)) (.cond (.cond (.cond (.of h2 _) (.refl _)) (.refl _)) (.refl _))) (.refl _))) (.refl _)) (.cond (.cond (.cond (.cond (.of h2 _) (.cond (.cond (.cond (.of h2 _) (.refl _)) (.refl _)) (.refl _))) (.refl _)) (.cond (.cond (.cond (.of h2 _) (.refl _)) (.refl _)) (.refl _))) (.refl _))) (.refl _)) (.refl _)
theorem L2_mono : OMono fun J2 (x : P2) => F2 J2 x.1 x.2.1 x.2.2.1 x.2.2.2.1 x.2.2.2.2.1 x.2.2.2.2.2.1 x.2.2.2.2.2.2.1 x.2.2.2.2.2.2.2.1 x.2.2.2.2.2.2.2.2.1 := fun J J' h2 x => F2_le h2 x.1 x.2.1 x.2.2.1 x.2.2.2.1 x.2.2.2.2.1 x.2.2.2.2.2.1 x.2.2.2.2.2.2.1 x.2.2.2.2.2.2.2.1 x.2.2.2.2.2.2.2.2.1
theorem L2_eq (t0_0 : Bs) (t0_1 : Int) (t0_2 : Bool) (t3 : Int) (s1 : List Bs) (s2 : List Q4) (b0_0 : Bs) (b0_1 : Int) (b0_2 : Bool) : L2 (t0_0, t0_1, t0_2, t3, s1, s2, b0_0, b0_1, b0_2, ()) = F2 (L2) t0_0 t0_1 t0_2 t3 s1 s2 b0_0 b0_1 b0_2 := congrFun (lfp_eq (L2_mono)) _
theorem impl_eq (x0_0 : Bs) (x0_1 : Int) (x0_2 : Bool) (s1 : List Bs) (s2 : List Q4) : impl (x0_0, x0_1, x0_2, s1, s2, ()) = F0 L2 x0_0 x0_1 x0_2 s1 s2 := rfl
theorem con : Con Tryz.prog 157 1 rs.length 1 pin pout impl := by
  refine con_of_run3 (nt := 60) (c := c0) tabGood Tryz.func157 (by kernel_rfl) (by kernel_rfl) (by kernel_rfl) (by kernel_rfl) (by kernel_rfl) (by kernel_rfl) (by kernel_rfl) ?_
  intro w0 O y Post hnp fin
  have hp : ∀ (J2 : List Item → C2), Parts Tryz.prog 157 (pg J2) [(2, cut p2 J2)] := fun J2 => ⟨tab_ok tabGood rfl, handNil_ok, rfl⟩
  have g2 : Good Tryz.prog 60 w0 O Post y T2 p2 L2 := good_lfp fun J2 h2 => good_part (hp (atT T2 J2)) (runOK_of (hp (atT T2 J2)) hnp ⟨cutOK_at h2, trivial⟩ fin) (fun x => (seg2 (atT T2 J2) x.1 x.2.1 x.2.2.1 x.2.2.2.1 x.2.2.2.2.1 x.2.2.2.2.2.1 x.2.2.2.2.2.2.1 x.2.2.2.2.2.2.2.1 x.2.2.2.2.2.2.2.2.1).trans (by simp only [atT_self] <;> rfl))
  exact good_first (hp (atT T2 L2)) (runOK_of (hp (atT T2 L2)) hnp ⟨cutOK_at g2, trivial⟩ fin) (fun x => (seg0 (atT T2 L2) x.1 x.2.1 x.2.2.1 x.2.2.2.1 x.2.2.2.2.1).trans (by simp only [atT_self] <;> rfl))
end spec_l30Word
end Go.Proofs.YtfjnckjkpkhbdaaGreatDoorB
