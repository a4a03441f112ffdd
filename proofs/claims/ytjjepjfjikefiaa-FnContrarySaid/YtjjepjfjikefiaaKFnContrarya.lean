/- PRINTED BY A PROGRAM OF THIS CLAIM'S AUTHOR (wip/gen): functions of the given program, their parts, their contracts. -/
import Derived.Test.YtjjepjfjikefiaaB34
import Derived.Test.YtjjepjfjikefiaaB43
import Derived.Test.YtjjepjfjikefiaaChecked
set_option linter.unusedVariables false
set_option linter.unusedSimpArgs false
set_option maxRecDepth 100000
namespace Go.Proofs.YtjjepjfjikefiaaB
open Go
abbrev Q4 := Int × Int × Int × Int
abbrev Bs := List UInt8
abbrev i64 : Ty := .int .i64
abbrev q4 : Ty := .prod i64 (.prod i64 (.prod i64 (.last i64)))
def tab : Tab := [(3, { kind := .scalar, zero := [.d (.int .i64) (0 : Int)], bytes := 8, data := some (.int .i64), eqf := none }),
  (4, { kind := .scalar, zero := [.d .bool false], bytes := 1, data := some .bool, eqf := none }),
  (5, { kind := .scalar, zero := [.d (.int .u8) (0 : Int)], bytes := 1, data := some (.int .u8), eqf := none }),
  (22, { kind := .slice 5, zero := [.nilS], bytes := 24, data := some (.sl (.int .u8)), eqf := none }),
  (23, { kind := .slice 73, zero := [.nilS], bytes := 24, data := some (.sl (.prod (.int .i64) (.prod (.int .i64) (.prod (.int .i64) (.last (.int .i64)))))), eqf := none }),
  (24, { kind := .slice 60, zero := [.nilS], bytes := 24, data := some (.sl (.sl (.int .i64))), eqf := none }),
  (60, { kind := .slice 3, zero := [.nilS], bytes := 24, data := some (.sl (.int .i64)), eqf := none }),
  (73, { kind := .struct [(0, 1), (1, 1), (2, 1), (3, 1)], zero := [.d (.int .i64) (0 : Int), .d (.int .i64) (0 : Int), .d (.int .i64) (0 : Int), .d (.int .i64) (0 : Int)], bytes := 32, data := some (.prod (.int .i64) (.prod (.int .i64) (.prod (.int .i64) (.last (.int .i64))))), eqf := some [(.int .i64), (.int .i64), (.int .i64), (.int .i64)] }),
  (77, { kind := .struct [(0, 1), (1, 1)], zero := [.nilS, .nilS], bytes := 48, data := some (.prod (.sl (.prod (.int .i64) (.prod (.int .i64) (.prod (.int .i64) (.last (.int .i64)))))) (.last (.sl (.prod (.int .i64) (.prod (.int .i64) (.prod (.int .i64) (.last (.int .i64)))))))), eqf := none }),
  (127, { kind := .scalar, zero := [.nilfn], bytes := 8, data := none, eqf := none }),
  (132, { kind := .map (.int .i64) (.int .i64), zero := [.undef], bytes := 8, data := none, eqf := none }),
  (159, { kind := .struct [(0, 1), (1, 1)], zero := [.nilS, .d (.int .i64) (0 : Int)], bytes := 32, data := some (.prod (.sl (.int .u8)) (.last (.int .i64))), eqf := none }),
  (177, { kind := .slice 24, zero := [.nilS], bytes := 24, data := some (.sl (.sl (.sl (.int .i64)))), eqf := none })]
theorem tabGood : tabB Try.prog tab = true := by kernel_rfl

/-! ### loop.example/wholecheck/spec.l40Open -/
namespace spec_l40Open
noncomputable abbrev c0 : Code := (Try.f74.body).getD .skip
noncomputable abbrev pin : Tpl := ⟨[⟨0, false, [.d (.sl (.int .u8))]⟩], []⟩
noncomputable abbrev pout : Tpl := ⟨[⟨0, false, [.ptr 600001 0]⟩], [(600001, .box [.d (.sl (.int .u8)), .d i64])]⟩
noncomputable abbrev PI := (List Int) × Unit
noncomputable abbrev PO := (List Int) × Int × Unit
noncomputable abbrev G := PI → Option PO
noncomputable abbrev rs : List ResultVar := [.tmp 2]
noncomputable def F0 (x0 : List Int) : Option PO :=
  bif decide ((x0.length : Int) > 2000) then
    bif decide (2000 ≤ (x0.length : Int)) then
      some ((x0.take 2000).drop 0, 0, ())
    else
      none
  else
    some (x0, 0, ())
noncomputable def hd {R : Type} : Hand R := handNil
noncomputable def pg : Prog PO := { nt := 11, np := 0, tb := tabOf tab, hd := hd, cuts := cutsOf [], fin := endOf (tabOf tab) rs 0 pout }
noncomputable def q : FuncId → Bool := fun f => hasId [] f
theorem seg0 (x0 : List Int) : arun (pg) 5000 [.code c0] (mk pin (x0, ())) = F0 x0 := by kernel_rfl
noncomputable def impl : G := fun x => F0 x.1
theorem impl_eq (x0 : List Int) : impl (x0, ()) = F0 x0 := rfl
theorem con : Con Try.prog 74 1 rs.length 0 pin pout impl := by
  refine con_of_run3 (nt := 11) (c := c0) tabGood Try.func74 (by kernel_rfl) (by kernel_rfl) (by kernel_rfl) (by kernel_rfl) (by kernel_rfl) (by kernel_rfl) (by kernel_rfl) ?_
  intro w0 O y Post hnp fin
  have hp : Parts Try.prog 74 (pg) [] := ⟨tab_ok tabGood rfl, handNil_ok, rfl⟩
  exact good_first (hp) (runOK_of (hp) hnp trivial fin) (fun x => (seg0 x.1))
end spec_l40Open

/-! ### (*loop.example/wholecheck/spec.l40Rd).pick -/
namespace spec_l40Rd_pick
noncomputable abbrev c0 : Code := (Try.f88.body).getD .skip
noncomputable abbrev pin : Tpl := ⟨[⟨0, false, [.ptr 500001 0]⟩, ⟨1, false, [.d i64]⟩], [(500001, .box [.d (.sl (.int .u8)), .d i64])]⟩
noncomputable abbrev pout : Tpl := ⟨[⟨0, false, [.d i64]⟩, ⟨1, false, [.ptr 500001 0]⟩], [(500001, .box [.d (.sl (.int .u8)), .d i64])]⟩
noncomputable abbrev p4 : Tpl := ⟨[⟨0, false, [.ptr 500001 0]⟩, ⟨1, false, [.d i64]⟩], [(500001, .box [.d (.sl (.int .u8)), .d i64])]⟩
noncomputable def T4 : List Item := (find 4 c0 []).getD []
noncomputable abbrev p7 : Tpl := ⟨[⟨0, false, [.ptr 500001 0]⟩, ⟨1, false, [.d i64]⟩, ⟨5, false, [.d i64]⟩], [(500001, .box [.d (.sl (.int .u8)), .d i64])]⟩
noncomputable def T7 : List Item := (find 7 c0 []).getD []
noncomputable abbrev PI := Int × (List Int) × Int × Unit
noncomputable abbrev PO := Int × (List Int) × Int × Unit
noncomputable abbrev G := PI → Option PO
noncomputable abbrev P4 := Int × (List Int) × Int × Unit
noncomputable abbrev C4 := P4 → Option PO
noncomputable abbrev P7 := Int × Int × (List Int) × Int × Unit
noncomputable abbrev C7 := P7 → Option PO
noncomputable abbrev rs : List ResultVar := [.tmp 4]
noncomputable def F0 (J4 : C4) (x1 : Int) (c1_0 : List Int) (c1_1 : Int) : Option PO :=
  bif decide (x1 < 1) then
    some (0, c1_0, wI (c1_1 + 1), ())
  else
    bif (c1_0.length : Int) == 0 then
      some (0, c1_0, wI (c1_1 + 1), ())
    else
      J4 (x1, c1_0, wI (c1_1 + 1), ())
noncomputable def F4 (J7 : C7) (t1 : Int) (c1_0 : List Int) (c1_1 : Int) : Option PO :=
  bif decide (wI (c1_1 - 1) < (c1_0.length : Int)) then
    bif inb (wI (c1_1 - 1)) c1_0.length then
      bif decide (t1 = 0) then
        none
      else
        some (Int.tmod (wI (c1_0.getD (wI (c1_1 - 1)).toNat 0)) t1, c1_0, c1_1, ())
    else
      none
  else
    J7 (t1, wI (c1_1 - 1), c1_0, c1_1, ())
noncomputable def F7 (t1 : Int) (t5 : Int) (c1_0 : List Int) (c1_1 : Int) : Option PO :=
  bif decide ((c1_0.length : Int) = 0) then
    none
  else
    bif inb (Int.tmod t5 (c1_0.length : Int)) c1_0.length then
      bif decide ((c1_0.length : Int) = 0) then
        none
      else
        bif inb (Int.tmod (wI ((wI (t5 * 7)) + 3)) (c1_0.length : Int)) c1_0.length then
          bif decide ((c1_0.length : Int) = 0) then
            none
          else
            bif decide (t1 = 0) then
              none
            else
              some (Int.tmod (xorI .i64 (wI ((wI ((wI ((wI ((wI (c1_0.getD (Int.tmod t5 (c1_0.length : Int)).toNat 0)) * 131)) + (wI ((wI (c1_0.getD (Int.tmod (wI ((wI (t5 * 7)) + 3)) (c1_0.length : Int)).toNat 0)) * 1117)))) + (wI (t5 * 29)))) + (wI ((wI (Int.tdiv t5 (c1_0.length : Int))) * 53)))) (wI (Int.tdiv (wI ((wI ((wI ((wI ((wI (c1_0.getD (Int.tmod t5 (c1_0.length : Int)).toNat 0)) * 131)) + (wI ((wI (c1_0.getD (Int.tmod (wI ((wI (t5 * 7)) + 3)) (c1_0.length : Int)).toNat 0)) * 1117)))) + (wI (t5 * 29)))) + (wI ((wI (Int.tdiv t5 (c1_0.length : Int))) * 53)))) 64))) t1, c1_0, c1_1, ())
        else
          none
    else
      none
noncomputable def hd {R : Type} : Hand R := handNil
noncomputable def pg (J4 : List Item → C4) (J7 : List Item → C7) : Prog PO := { nt := 99, np := 2, tb := tabOf tab, hd := hd, cuts := cutsOf [(4, cut p4 J4), (7, cut p7 J7)], fin := endOf (tabOf tab) rs 2 pout }
noncomputable def q : FuncId → Bool := fun f => hasId [] f
theorem seg0 (J4 : List Item → C4) (J7 : List Item → C7) (x1 : Int) (c1_0 : List Int) (c1_1 : Int) : arun (pg J4 J7) 5000 [.code c0] (mk pin (x1, c1_0, c1_1, ())) = F0 (J4 T4) x1 c1_0 c1_1 := by kernel_rfl
theorem seg4 (J4 : List Item → C4) (J7 : List Item → C7) (t1 : Int) (c1_0 : List Int) (c1_1 : Int) : arun1 (pg J4 J7) 5000 T4 (mk p4 (t1, c1_0, c1_1, ())) = F4 (J7 T7) t1 c1_0 c1_1 := by kernel_rfl
theorem seg7 (J4 : List Item → C4) (J7 : List Item → C7) (t1 : Int) (t5 : Int) (c1_0 : List Int) (c1_1 : Int) : arunQ (pg J4 J7) q [] [] 5000 T7 (mk p7 (t1, t5, c1_0, c1_1, ())) = List.replicate (arunQ (pg J4 J7) q [] [] 5000 T7 (mk p7 (t1, t5, c1_0, c1_1, ()))).length (F7 t1 t5 c1_0 c1_1) := by kernel_rfl
noncomputable def L7 : C7 := fun x => F7 x.1 x.2.1 x.2.2.1 x.2.2.2.1
noncomputable def L4 : C4 := fun x => F4 L7 x.1 x.2.1 x.2.2.1
noncomputable def impl : G := fun x => F0 L4 x.1 x.2.1 x.2.2.1
theorem L7_eq (t1 : Int) (t5 : Int) (c1_0 : List Int) (c1_1 : Int) : L7 (t1, t5, c1_0, c1_1, ()) = F7 t1 t5 c1_0 c1_1 := rfl
theorem L4_eq (t1 : Int) (c1_0 : List Int) (c1_1 : Int) : L4 (t1, c1_0, c1_1, ()) = F4 (L7) t1 c1_0 c1_1 := rfl
theorem impl_eq (x1 : Int) (c1_0 : List Int) (c1_1 : Int) : impl (x1, c1_0, c1_1, ()) = F0 L4 x1 c1_0 c1_1 := rfl
theorem con : Con Try.prog 88 2 rs.length 2 pin pout impl := by
  refine con_of_run3 (nt := 99) (c := c0) tabGood Try.func88 (by kernel_rfl) (by kernel_rfl) (by kernel_rfl) (by kernel_rfl) (by kernel_rfl) (by kernel_rfl) (by kernel_rfl) ?_
  intro w0 O y Post hnp fin
  have hp : ∀ (J4 : List Item → C4), ∀ (J7 : List Item → C7), Parts Try.prog 88 (pg J4 J7) [(4, cut p4 J4), (7, cut p7 J7)] := fun J4 J7 => ⟨tab_ok tabGood rfl, handNil_ok, rfl⟩
  have g7 : Good Try.prog 99 w0 O Post y T7 p7 L7 := good_quiet (hs := hd) (cv' := hd) (Checked.mixed Try.checked) (hp (atT T4 (fun _ => none)) (atT T7 (fun _ => none))) handNil_D handNil_nat handNil_nat (runOK_of (hp (atT T4 (fun _ => none)) (atT T7 (fun _ => none))) hnp ⟨cutOK_at (p := p4) (T := T4) (J := fun _ => none) good_none, cutOK_at (p := p7) (T := T7) (J := fun _ => none) good_none, trivial⟩ fin) (fun x => all_same ⟨_, (seg7 (atT T4 (fun _ => none)) (atT T7 (fun _ => none)) x.1 x.2.1 x.2.2.1 x.2.2.2.1)⟩)
  have g4 : Good Try.prog 99 w0 O Post y T4 p4 L4 := good_part (hp (atT T4 (fun _ => none)) (atT T7 L7)) (runOK_of (hp (atT T4 (fun _ => none)) (atT T7 L7)) hnp ⟨cutOK_at (p := p4) (T := T4) (J := fun _ => none) good_none, cutOK_at g7, trivial⟩ fin) (fun x => (seg4 (atT T4 (fun _ => none)) (atT T7 L7) x.1 x.2.1 x.2.2.1).trans (by simp only [atT_self] <;> rfl))
  exact good_first (hp (atT T4 L4) (atT T7 (fun _ => none))) (runOK_of (hp (atT T4 L4) (atT T7 (fun _ => none))) hnp ⟨cutOK_at g4, cutOK_at (p := p7) (T := T7) (J := fun _ => none) good_none, trivial⟩ fin) (fun x => (seg0 (atT T4 L4) (atT T7 (fun _ => none)) x.1 x.2.1 x.2.2.1).trans (by simp only [atT_self] <;> rfl))
end spec_l40Rd_pick

/-! ### (*loop.example/wholecheck/spec.l40Rd).num -/
namespace spec_l40Rd_num
noncomputable abbrev c0 : Code := (Try.f85.body).getD .skip
noncomputable abbrev pin : Tpl := ⟨[⟨0, false, [.ptr 500001 0]⟩, ⟨1, false, [.d (.sl i64)]⟩], [(500001, .box [.d (.sl (.int .u8)), .d i64])]⟩
noncomputable abbrev pout : Tpl := ⟨[⟨0, false, [.d i64]⟩, ⟨1, false, [.ptr 500001 0]⟩], [(500001, .box [.d (.sl (.int .u8)), .d i64])]⟩
noncomputable abbrev PI := (List Int) × (List Int) × Int × Unit
noncomputable abbrev PO := Int × (List Int) × Int × Unit
noncomputable abbrev G := PI → Option PO
noncomputable abbrev rs : List ResultVar := [.tmp 4]
noncomputable def F0 (Gspec_l40Rd_pick : spec_l40Rd_pick.G) (x1 : List Int) (c1_0 : List Int) (c1_1 : Int) : Option PO :=
  Option.bind (Gspec_l40Rd_pick ((x1.length : Int), c1_0, c1_1, ())) fun y0 =>
  bif inb y0.1 x1.length then
    some (x1.getD y0.1.toNat 0, y0.2.1, y0.2.2.1, ())
  else
    none
noncomputable def hd {R : Type} (Gspec_l40Rd_pick : spec_l40Rd_pick.G) : Hand R := (handAt 88 [9] false ⟨2, 1, 2, spec_l40Rd_pick.pin, spec_l40Rd_pick.pout, Gspec_l40Rd_pick⟩ handNil)
noncomputable def pg (Gspec_l40Rd_pick : spec_l40Rd_pick.G) : Prog PO := { nt := 12, np := 2, tb := tabOf tab, hd := hd Gspec_l40Rd_pick, cuts := cutsOf [], fin := endOf (tabOf tab) rs 2 pout }
noncomputable def q : FuncId → Bool := fun f => hasId [] f
theorem seg0 (Gspec_l40Rd_pick : spec_l40Rd_pick.G) (x1 : List Int) (c1_0 : List Int) (c1_1 : Int) : arun (pg Gspec_l40Rd_pick) 5000 [.code c0] (mk pin (x1, c1_0, c1_1, ())) = F0 Gspec_l40Rd_pick x1 c1_0 c1_1 := by kernel_rfl
noncomputable def impl : G := fun x => F0 spec_l40Rd_pick.impl x.1 x.2.1 x.2.2.1
theorem impl_eq (x1 : List Int) (c1_0 : List Int) (c1_1 : Int) : impl (x1, c1_0, c1_1, ()) = F0 spec_l40Rd_pick.impl x1 c1_0 c1_1 := rfl
theorem con : Con Try.prog 85 2 rs.length 2 pin pout impl := by
  refine con_of_run3 (nt := 12) (c := c0) tabGood Try.func85 (by kernel_rfl) (by kernel_rfl) (by kernel_rfl) (by kernel_rfl) (by kernel_rfl) (by kernel_rfl) (by kernel_rfl) ?_
  intro w0 O y Post hnp fin
  have hp : Parts Try.prog 85 (pg spec_l40Rd_pick.impl) [] := ⟨tab_ok tabGood rfl, (handAt_ok spec_l40Rd_pick.con handNil_ok), rfl⟩
  exact good_first (hp) (runOK_of (hp) hnp trivial fin) (fun x => (seg0 spec_l40Rd_pick.impl x.1 x.2.1 x.2.2.1))
end spec_l40Rd_num

/-! ### loop.example/wholecheck/spec.l20One -/
namespace spec_l20One
noncomputable abbrev c0 : Code := (Try.f94.body).getD .skip
noncomputable abbrev pin : Tpl := ⟨[⟨0, false, [.d i64]⟩], []⟩
noncomputable abbrev pout : Tpl := ⟨[⟨0, false, [.d .bool]⟩], []⟩
noncomputable abbrev PI := Int × Unit
noncomputable abbrev PO := Bool × Unit
noncomputable abbrev G := PI → Option PO
noncomputable abbrev rs : List ResultVar := [.tmp 2]
noncomputable def F0 (x0 : Int) : Option PO :=
  bif x0 == 2 then
    some (true, ())
  else
    some (x0 == 5, ())
noncomputable def hd {R : Type} : Hand R := handNil
noncomputable def pg : Prog PO := { nt := 9, np := 1, tb := tabOf tab, hd := hd, cuts := cutsOf [], fin := endOf (tabOf tab) rs 1 pout }
noncomputable def q : FuncId → Bool := fun f => hasId [] f
theorem seg0 (x0 : Int) : arun (pg) 5000 [.code c0] (mk pin (x0, ())) = F0 x0 := by kernel_rfl
noncomputable def impl : G := fun x => F0 x.1
theorem impl_eq (x0 : Int) : impl (x0, ()) = F0 x0 := rfl
theorem con : Con Try.prog 94 1 rs.length 1 pin pout impl := by
  refine con_of_run3 (nt := 9) (c := c0) tabGood Try.func94 (by kernel_rfl) (by kernel_rfl) (by kernel_rfl) (by kernel_rfl) (by kernel_rfl) (by kernel_rfl) (by kernel_rfl) ?_
  intro w0 O y Post hnp fin
  have hp : Parts Try.prog 94 (pg) [] := ⟨tab_ok tabGood rfl, handNil_ok, rfl⟩
  exact good_first (hp) (runOK_of (hp) hnp trivial fin) (fun x => (seg0 x.1))
end spec_l20One

/-! ### loop.example/wholecheck/spec.l20Draw -/
namespace spec_l20Draw
noncomputable abbrev c0 : Code := (Try.f135.body).getD .skip
noncomputable abbrev pin : Tpl := ⟨[⟨0, false, [.ptr 500001 0]⟩, ⟨1, false, [.d i64]⟩, ⟨2, false, [.d i64]⟩], [(500001, .box [.d (.sl (.int .u8)), .d i64])]⟩
noncomputable abbrev pout : Tpl := ⟨[⟨0, false, [.row 600001]⟩, ⟨1, false, [.ptr 500001 0]⟩], [(600001, .row 73 false q4), (500001, .box [.d (.sl (.int .u8)), .d i64])]⟩
noncomputable abbrev p3 : Tpl := ⟨[⟨0, false, [.ptr 500001 0]⟩, ⟨1, false, [.d i64]⟩, ⟨2, false, [.d i64]⟩, ⟨7, false, [.row 3000000]⟩, ⟨8, false, [.d i64]⟩], [(500001, .box [.d (.sl (.int .u8)), .d i64]), (3000000, .row 73 false q4)]⟩
noncomputable def T3 : List Item := (find 3 c0 []).getD []
noncomputable abbrev p8 : Tpl := ⟨[⟨0, false, [.ptr 500001 0]⟩, ⟨1, false, [.d i64]⟩, ⟨2, false, [.d i64]⟩, ⟨7, false, [.row 3000000]⟩, ⟨8, false, [.d i64]⟩, ⟨9, false, [.d i64]⟩], [(500001, .box [.d (.sl (.int .u8)), .d i64]), (3000000, .row 73 false q4)]⟩
noncomputable def T8 : List Item := (find 8 c0 []).getD []
noncomputable abbrev PI := Int × Int × (List Int) × Int × Unit
noncomputable abbrev PO := (List Q4) × (List Int) × Int × Unit
noncomputable abbrev G := PI → Option PO
noncomputable abbrev P3 := Int × Int × Int × (List Int) × Int × (List Q4) × Unit
noncomputable abbrev C3 := P3 → Option PO
noncomputable abbrev P8 := Int × Int × Int × Int × (List Int) × Int × (List Q4) × Unit
noncomputable abbrev C8 := P8 → Option PO
noncomputable abbrev rs : List ResultVar := [.tmp 6]
noncomputable def F0 (J3 : C3) (Gspec_l40Rd_pick : spec_l40Rd_pick.G) (x1 : Int) (x2 : Int) (c1_0 : List Int) (c1_1 : Int) : Option PO :=
  Option.bind (Gspec_l40Rd_pick (7, c1_0, c1_1, ())) fun y0 =>
  J3 (x1, x2, wI (2 + y0.1), y0.2.1, y0.2.2.1, ([] : List Q4), ())
noncomputable def F3 (J8 : C8) (Gspec_l40Rd_num : spec_l40Rd_num.G) (t1 : Int) (t2 : Int) (t8 : Int) (c1_0 : List Int) (c1_1 : Int) (r0 : List Q4) : Option PO :=
  bif decide (t8 > 0) then
    Option.bind (Gspec_l40Rd_num (([1, 1, 2, 3, 4, 5, 6, 7, 6, 7, 0] : List Int), c1_0, c1_1, ())) fun y1 =>
    bif decide (y1.1 ≥ 5) then
      bif t2 == 0 then
        J8 (t1, t2, t8, 3, y1.2.1, y1.2.2.1, r0, ())
      else
        J8 (t1, t2, t8, y1.1, y1.2.1, y1.2.2.1, r0, ())
    else
      J8 (t1, t2, t8, y1.1, y1.2.1, y1.2.2.1, r0, ())
  else
    some (r0, c1_0, c1_1, ())
noncomputable def F8 (J3 : C3) (Gspec_l20One : spec_l20One.G) (Gspec_l40Rd_pick : spec_l40Rd_pick.G) (t1 : Int) (t2 : Int) (t8 : Int) (t9 : Int) (c1_0 : List Int) (c1_1 : Int) (r0 : List Q4) : Option PO :=
  bif (r0.length : Int) == 0 then
    Option.bind (Gspec_l40Rd_pick (t1, c1_0, c1_1, ())) fun y2 =>
    bif t1 == 0 then
      bif decide ((r0.length + ([(0, 0, 0, 0)] : List Q4).length) * 32 ≤ 140737488355328) then
        J3 (t1, t2, wI (t8 - 1), y2.2.1, y2.2.2.1, r0 ++ ([(0, 0, 0, 0)] : List Q4), ())
      else
        none
    else
      bif t9 == 0 then
        bif decide ((r0.length : Int) > 0) then
          bif decide ((r0.length + ([(0, 0, 0, 0)] : List Q4).length) * 32 ≤ 140737488355328) then
            J3 (t1, t2, wI (t8 - 1), y2.2.1, y2.2.2.1, r0 ++ ([(0, 0, 0, 0)] : List Q4), ())
          else
            none
        else
          bif decide ((r0.length + ([(1, y2.1, 0, 0)] : List Q4).length) * 32 ≤ 140737488355328) then
            J3 (t1, t2, wI (t8 - 1), y2.2.1, y2.2.2.1, r0 ++ ([(1, y2.1, 0, 0)] : List Q4), ())
          else
            none
      else
        bif decide ((r0.length + ([(1, y2.1, 0, 0)] : List Q4).length) * 32 ≤ 140737488355328) then
          J3 (t1, t2, wI (t8 - 1), y2.2.1, y2.2.2.1, r0 ++ ([(1, y2.1, 0, 0)] : List Q4), ())
        else
          none
  else
    bif decide (t9 ≤ 1) then
      Option.bind (Gspec_l40Rd_pick (t1, c1_0, c1_1, ())) fun y3 =>
      bif t1 == 0 then
        bif decide ((r0.length + ([(0, 0, 0, 0)] : List Q4).length) * 32 ≤ 140737488355328) then
          J3 (t1, t2, wI (t8 - 1), y3.2.1, y3.2.2.1, r0 ++ ([(0, 0, 0, 0)] : List Q4), ())
        else
          none
      else
        bif t9 == 0 then
          bif decide ((r0.length : Int) > 0) then
            bif decide ((r0.length + ([(0, 0, 0, 0)] : List Q4).length) * 32 ≤ 140737488355328) then
              J3 (t1, t2, wI (t8 - 1), y3.2.1, y3.2.2.1, r0 ++ ([(0, 0, 0, 0)] : List Q4), ())
            else
              none
          else
            bif decide ((r0.length + ([(1, y3.1, 0, 0)] : List Q4).length) * 32 ≤ 140737488355328) then
              J3 (t1, t2, wI (t8 - 1), y3.2.1, y3.2.2.1, r0 ++ ([(1, y3.1, 0, 0)] : List Q4), ())
            else
              none
        else
          bif decide ((r0.length + ([(1, y3.1, 0, 0)] : List Q4).length) * 32 ≤ 140737488355328) then
            J3 (t1, t2, wI (t8 - 1), y3.2.1, y3.2.2.1, r0 ++ ([(1, y3.1, 0, 0)] : List Q4), ())
          else
            none
    else
      Option.bind (Gspec_l40Rd_pick (2, c1_0, c1_1, ())) fun y4 =>
      Option.bind (Gspec_l40Rd_pick ((r0.length : Int), y4.2.1, y4.2.2.1, ())) fun y5 =>
      Option.bind (Gspec_l40Rd_pick ((r0.length : Int), y5.2.1, y5.2.2.1, ())) fun y6 =>
      Option.bind (Gspec_l20One (t9, ())) fun y7 =>
      bif y7.1 then
        bif decide (t9 ≥ 5) then
          bif decide ((r0.length + ([(t9, 0, wI ((wI ((r0.length : Int) - 1)) - (wI (y4.1 * y5.1))), wI ((wI ((r0.length : Int) - 1)) - (wI (y4.1 * y5.1))))] : List Q4).length) * 32 ≤ 140737488355328) then
            J3 (t1, wI (t2 - 1), wI (t8 - 1), y6.2.1, y6.2.2.1, r0 ++ ([(t9, 0, wI ((wI ((r0.length : Int) - 1)) - (wI (y4.1 * y5.1))), wI ((wI ((r0.length : Int) - 1)) - (wI (y4.1 * y5.1))))] : List Q4), ())
          else
            none
        else
          bif decide ((r0.length + ([(t9, 0, wI ((wI ((r0.length : Int) - 1)) - (wI (y4.1 * y5.1))), wI ((wI ((r0.length : Int) - 1)) - (wI (y4.1 * y5.1))))] : List Q4).length) * 32 ≤ 140737488355328) then
            J3 (t1, t2, wI (t8 - 1), y6.2.1, y6.2.2.1, r0 ++ ([(t9, 0, wI ((wI ((r0.length : Int) - 1)) - (wI (y4.1 * y5.1))), wI ((wI ((r0.length : Int) - 1)) - (wI (y4.1 * y5.1))))] : List Q4), ())
          else
            none
      else
        bif decide (t9 ≥ 5) then
          bif decide ((r0.length + ([(t9, 0, wI ((wI ((r0.length : Int) - 1)) - (wI (y4.1 * y5.1))), y6.1)] : List Q4).length) * 32 ≤ 140737488355328) then
            J3 (t1, wI (t2 - 1), wI (t8 - 1), y6.2.1, y6.2.2.1, r0 ++ ([(t9, 0, wI ((wI ((r0.length : Int) - 1)) - (wI (y4.1 * y5.1))), y6.1)] : List Q4), ())
          else
            none
        else
          bif decide ((r0.length + ([(t9, 0, wI ((wI ((r0.length : Int) - 1)) - (wI (y4.1 * y5.1))), y6.1)] : List Q4).length) * 32 ≤ 140737488355328) then
            J3 (t1, t2, wI (t8 - 1), y6.2.1, y6.2.2.1, r0 ++ ([(t9, 0, wI ((wI ((r0.length : Int) - 1)) - (wI (y4.1 * y5.1))), y6.1)] : List Q4), ())
          else
            none
noncomputable def hd {R : Type} (Gspec_l20One : spec_l20One.G) (Gspec_l40Rd_num : spec_l40Rd_num.G) (Gspec_l40Rd_pick : spec_l40Rd_pick.G) : Hand R := (handAt 94 [71] true ⟨1, 1, 1, spec_l20One.pin, spec_l20One.pout, Gspec_l20One⟩ (handAt 88 [13, 39, 57, 61, 68] false ⟨2, 1, 2, spec_l40Rd_pick.pin, spec_l40Rd_pick.pout, Gspec_l40Rd_pick⟩ (handAt 85 [21] false ⟨2, 1, 2, spec_l40Rd_num.pin, spec_l40Rd_num.pout, Gspec_l40Rd_num⟩ handNil)))
noncomputable def pg (Gspec_l20One : spec_l20One.G) (Gspec_l40Rd_num : spec_l40Rd_num.G) (Gspec_l40Rd_pick : spec_l40Rd_pick.G) (J3 : List Item → C3) (J8 : List Item → C8) : Prog PO := { nt := 84, np := 2, tb := tabOf tab, hd := hd Gspec_l20One Gspec_l40Rd_num Gspec_l40Rd_pick, cuts := cutsOf [(3, cut p3 J3), (8, cut p8 J8)], fin := endOf (tabOf tab) rs 2 pout }
noncomputable def q : FuncId → Bool := fun f => hasId [94] f
theorem seg0 (Gspec_l20One : spec_l20One.G) (Gspec_l40Rd_num : spec_l40Rd_num.G) (Gspec_l40Rd_pick : spec_l40Rd_pick.G) (J3 : List Item → C3) (J8 : List Item → C8) (x1 : Int) (x2 : Int) (c1_0 : List Int) (c1_1 : Int) : arun (pg Gspec_l20One Gspec_l40Rd_num Gspec_l40Rd_pick J3 J8) 5000 [.code c0] (mk pin (x1, x2, c1_0, c1_1, ())) = F0 (J3 T3) Gspec_l40Rd_pick x1 x2 c1_0 c1_1 := by kernel_rfl
theorem seg3 (Gspec_l20One : spec_l20One.G) (Gspec_l40Rd_num : spec_l40Rd_num.G) (Gspec_l40Rd_pick : spec_l40Rd_pick.G) (J3 : List Item → C3) (J8 : List Item → C8) (t1 : Int) (t2 : Int) (t8 : Int) (c1_0 : List Int) (c1_1 : Int) (r0 : List Q4) : arun1 (pg Gspec_l20One Gspec_l40Rd_num Gspec_l40Rd_pick J3 J8) 5000 T3 (mk p3 (t1, t2, t8, c1_0, c1_1, r0, ())) = F3 (J8 T8) Gspec_l40Rd_num t1 t2 t8 c1_0 c1_1 r0 := by kernel_rfl
theorem seg8 (Gspec_l20One : spec_l20One.G) (Gspec_l40Rd_num : spec_l40Rd_num.G) (Gspec_l40Rd_pick : spec_l40Rd_pick.G) (J3 : List Item → C3) (J8 : List Item → C8) (t1 : Int) (t2 : Int) (t8 : Int) (t9 : Int) (c1_0 : List Int) (c1_1 : Int) (r0 : List Q4) : arun1 (pg Gspec_l20One Gspec_l40Rd_num Gspec_l40Rd_pick J3 J8) 5000 T8 (mk p8 (t1, t2, t8, t9, c1_0, c1_1, r0, ())) = F8 (J3 T3) Gspec_l20One Gspec_l40Rd_pick t1 t2 t8 t9 c1_0 c1_1 r0 := by kernel_rfl
noncomputable def L8 (J3 : C3) : C8 := fun x => F8 J3 spec_l20One.impl spec_l40Rd_pick.impl x.1 x.2.1 x.2.2.1 x.2.2.2.1 x.2.2.2.2.1 x.2.2.2.2.2.1 x.2.2.2.2.2.2.1
noncomputable def L3 : C3 := lfp fun J3 x => F3 (L8 J3) spec_l40Rd_num.impl x.1 x.2.1 x.2.2.1 x.2.2.2.1 x.2.2.2.2.1 x.2.2.2.2.2.1
noncomputable def impl : G := fun x => F0 L3 spec_l40Rd_pick.impl x.1 x.2.1 x.2.2.1 x.2.2.2.1
theorem F8_le {J3 J3' : C3} (h3 : OLe J3 J3') {Gspec_l20One : spec_l20One.G} {Gspec_l40Rd_pick : spec_l40Rd_pick.G} (t1 : Int) (t2 : Int) (t8 : Int) (t9 : Int) (c1_0 : List Int) (c1_1 : Int) (r0 : List Q4) : OptLe (F8 J3 Gspec_l20One Gspec_l40Rd_pick t1 t2 t8 t9 c1_0 c1_1 r0) (F8 J3' Gspec_l20One Gspec_l40Rd_pick t1 t2 t8 t9 c1_0 c1_1 r0) := by unfold F8; exact .cond (.bind (.refl _) fun _ => .cond (.cond (.of h3 _) (.refl _)) (.cond (.cond (.cond (.of h3 _) (.refl _)) (.cond (.of h3 _) (.refl _))) (.cond (.of h3 _) (.refl _)))) (.cond (.bind (.refl _) fun _ => .cond (.cond (.of h3 _) (.refl _)) (.cond (.cond (.cond (.of h3 _) (.refl _)) (.cond (.of h3 _) (.refl _))) (.cond (.of h3 _) (.refl _)))) (.bind (.refl _) fun _ => .bind (.refl _) fun _ => .bind (.refl _) fun _ => .bind (.refl _) fun _ => .cond (.cond (.cond (.of h3 _) (.refl _)) (.cond (.of h3 _) (.refl _))) (.cond (.cond (.of h3 _) (.refl _)) (.cond (.of h3 _) (.refl _)))))
theorem F3_le {J8 J8' : C8} (h8 : OLe J8 J8') {Gspec_l40Rd_num : spec_l40Rd_num.G} (t1 : Int) (t2 : Int) (t8 : Int) (c1_0 : List Int) (c1_1 : Int) (r0 : List Q4) : OptLe (F3 J8 Gspec_l40Rd_num t1 t2 t8 c1_0 c1_1 r0) (F3 J8' Gspec_l40Rd_num t1 t2 t8 c1_0 c1_1 r0) := by unfold F3; exact .cond (.bind (.refl _) fun _ => .cond (.cond (.of h8 _) (.of h8 _)) (.of h8 _)) (.refl _)
theorem L8_eq (J3 : C3) (t1 : Int) (t2 : Int) (t8 : Int) (t9 : Int) (c1_0 : List Int) (c1_1 : Int) (r0 : List Q4) : L8 J3 (t1, t2, t8, t9, c1_0, c1_1, r0, ()) = F8 J3 spec_l20One.impl spec_l40Rd_pick.impl t1 t2 t8 t9 c1_0 c1_1 r0 := rfl
theorem L8_le {J3 J3' : C3} (h3 : OLe J3 J3') : OLe (L8 J3) (L8 J3') := fun x => F8_le h3 x.1 x.2.1 x.2.2.1 x.2.2.2.1 x.2.2.2.2.1 x.2.2.2.2.2.1 x.2.2.2.2.2.2.1
theorem L3_mono : OMono fun J3 (x : P3) => F3 (L8 J3) spec_l40Rd_num.impl x.1 x.2.1 x.2.2.1 x.2.2.2.1 x.2.2.2.2.1 x.2.2.2.2.2.1 := fun J J' h3 x => F3_le (L8_le h3) x.1 x.2.1 x.2.2.1 x.2.2.2.1 x.2.2.2.2.1 x.2.2.2.2.2.1
theorem L3_eq (t1 : Int) (t2 : Int) (t8 : Int) (c1_0 : List Int) (c1_1 : Int) (r0 : List Q4) : L3 (t1, t2, t8, c1_0, c1_1, r0, ()) = F3 (L8 (L3)) spec_l40Rd_num.impl t1 t2 t8 c1_0 c1_1 r0 := congrFun (lfp_eq (L3_mono)) _
theorem impl_eq (x1 : Int) (x2 : Int) (c1_0 : List Int) (c1_1 : Int) : impl (x1, x2, c1_0, c1_1, ()) = F0 L3 spec_l40Rd_pick.impl x1 x2 c1_0 c1_1 := rfl
theorem con : Con Try.prog 135 3 rs.length 2 pin pout impl := by
  refine con_of_run3 (nt := 84) (c := c0) tabGood Try.func135 (by kernel_rfl) (by kernel_rfl) (by kernel_rfl) (by kernel_rfl) (by kernel_rfl) (by kernel_rfl) (by kernel_rfl) ?_
  intro w0 O y Post hnp fin
  have hp : ∀ (J3 : List Item → C3), ∀ (J8 : List Item → C8), Parts Try.prog 135 (pg spec_l20One.impl spec_l40Rd_num.impl spec_l40Rd_pick.impl J3 J8) [(3, cut p3 J3), (8, cut p8 J8)] := fun J3 J8 => ⟨tab_ok tabGood rfl, (handAt_ok spec_l20One.con (handAt_ok spec_l40Rd_pick.con (handAt_ok spec_l40Rd_num.con handNil_ok))), rfl⟩
  have g8 : ∀ (J3 : C3), Good Try.prog 84 w0 O Post y T3 p3 J3 → Good Try.prog 84 w0 O Post y T8 p8 (L8 J3) := fun J3 h3 => good_part (hp (atT T3 J3) (atT T8 (fun _ => none))) (runOK_of (hp (atT T3 J3) (atT T8 (fun _ => none))) hnp ⟨cutOK_at h3, cutOK_at (p := p8) (T := T8) (J := fun _ => none) good_none, trivial⟩ fin) (fun x => (seg8 spec_l20One.impl spec_l40Rd_num.impl spec_l40Rd_pick.impl (atT T3 J3) (atT T8 (fun _ => none)) x.1 x.2.1 x.2.2.1 x.2.2.2.1 x.2.2.2.2.1 x.2.2.2.2.2.1 x.2.2.2.2.2.2.1).trans (by simp only [atT_self] <;> rfl))
  have g3 : Good Try.prog 84 w0 O Post y T3 p3 L3 := good_lfp fun J3 h3 => good_part (hp (atT T3 (fun _ => none)) (atT T8 (L8 J3))) (runOK_of (hp (atT T3 (fun _ => none)) (atT T8 (L8 J3))) hnp ⟨cutOK_at (p := p3) (T := T3) (J := fun _ => none) good_none, cutOK_at (g8 J3 h3), trivial⟩ fin) (fun x => (seg3 spec_l20One.impl spec_l40Rd_num.impl spec_l40Rd_pick.impl (atT T3 (fun _ => none)) (atT T8 (L8 J3)) x.1 x.2.1 x.2.2.1 x.2.2.2.1 x.2.2.2.2.1 x.2.2.2.2.2.1).trans (by simp only [atT_self] <;> rfl))
  exact good_first (hp (atT T3 L3) (atT T8 (fun _ => none))) (runOK_of (hp (atT T3 L3) (atT T8 (fun _ => none))) hnp ⟨cutOK_at g3, cutOK_at (p := p8) (T := T8) (J := fun _ => none) good_none, trivial⟩ fin) (fun x => (seg0 spec_l20One.impl spec_l40Rd_num.impl spec_l40Rd_pick.impl (atT T3 L3) (atT T8 (fun _ => none)) x.1 x.2.1 x.2.2.1 x.2.2.2.1).trans (by simp only [atT_self] <;> rfl))
end spec_l20Draw

/-! ### loop.example/wholecheck/spec.l20Any -/
namespace spec_l20Any
noncomputable abbrev c0 : Code := (Try.f86.body).getD .skip
noncomputable abbrev pin : Tpl := ⟨[⟨0, false, [.ptr 500001 0]⟩, ⟨1, false, [.d i64]⟩, ⟨2, false, [.d i64]⟩], [(500001, .box [.d (.sl (.int .u8)), .d i64])]⟩
noncomputable abbrev pout : Tpl := ⟨[⟨0, false, [.row 600001]⟩, ⟨1, false, [.ptr 500001 0]⟩], [(600001, .row 73 false q4), (500001, .box [.d (.sl (.int .u8)), .d i64])]⟩
noncomputable abbrev PI := Int × Int × (List Int) × Int × Unit
noncomputable abbrev PO := (List Q4) × (List Int) × Int × Unit
noncomputable abbrev G := PI → Option PO
noncomputable abbrev rs : List ResultVar := [.tmp 6]
noncomputable def F0 (Gspec_l20Draw : spec_l20Draw.G) (Gspec_l40Rd_num : spec_l40Rd_num.G) (Gspec_l40Rd_pick : spec_l40Rd_pick.G) (x1 : Int) (x2 : Int) (c1_0 : List Int) (c1_1 : Int) : Option PO :=
  Option.bind (Gspec_l20Draw (x1, x2, c1_0, c1_1, ())) fun y0 =>
  Option.bind (Gspec_l40Rd_pick (14, y0.2.1, y0.2.2.1, ())) fun y1 =>
  bif y1.1 == 0 then
    Option.bind (Gspec_l40Rd_pick ((y0.1.length : Int), y1.2.1, y1.2.2.1, ())) fun y2 =>
    bif inb y2.1 y0.1.length then
      Option.bind (Gspec_l40Rd_pick (4, y2.2.1, y2.2.2.1, ())) fun y3 =>
      bif y3.1 == 0 then
        Option.bind (Gspec_l40Rd_num (([(-1), 8, 2, 6] : List Int), y3.2.1, y3.2.2.1, ())) fun y4 =>
        bif inb y2.1 y0.1.length then
          some (y0.1.set y2.1.toNat (y4.1, (y0.1.getD y2.1.toNat (0, 0, 0, 0)).2), y4.2.1, y4.2.2.1, ())
        else
          none
      else
        bif y3.1 == 1 then
          Option.bind (Gspec_l40Rd_num (([x1, (-1), 1] : List Int), y3.2.1, y3.2.2.1, ())) fun y5 =>
          bif inb y2.1 y0.1.length then
            some (y0.1.set y2.1.toNat ((y0.1.getD y2.1.toNat (0, 0, 0, 0)).1, y5.1, (y0.1.getD y2.1.toNat (0, 0, 0, 0)).2.2), y5.2.1, y5.2.2.1, ())
          else
            none
        else
          bif y3.1 == 2 then
            Option.bind (Gspec_l40Rd_num (([y2.1, (-1)] : List Int), y3.2.1, y3.2.2.1, ())) fun y6 =>
            bif inb y2.1 y0.1.length then
              some (y0.1.set y2.1.toNat ((y0.1.getD y2.1.toNat (0, 0, 0, 0)).1, (y0.1.getD y2.1.toNat (0, 0, 0, 0)).2.1, y6.1, (y0.1.getD y2.1.toNat (0, 0, 0, 0)).2.2.2), y6.2.1, y6.2.2.1, ())
            else
              none
          else
            Option.bind (Gspec_l40Rd_num (([y2.1, (-1), 0] : List Int), y3.2.1, y3.2.2.1, ())) fun y7 =>
            bif inb y2.1 y0.1.length then
              some (y0.1.set y2.1.toNat ((y0.1.getD y2.1.toNat (0, 0, 0, 0)).1, (y0.1.getD y2.1.toNat (0, 0, 0, 0)).2.1, (y0.1.getD y2.1.toNat (0, 0, 0, 0)).2.2.1, y7.1), y7.2.1, y7.2.2.1, ())
            else
              none
    else
      none
  else
    some (y0.1, y1.2.1, y1.2.2.1, ())
noncomputable def hd {R : Type} (Gspec_l20Draw : spec_l20Draw.G) (Gspec_l40Rd_num : spec_l40Rd_num.G) (Gspec_l40Rd_pick : spec_l40Rd_pick.G) : Hand R := (handAt 135 [14] false ⟨3, 1, 2, spec_l20Draw.pin, spec_l20Draw.pout, Gspec_l20Draw⟩ (handAt 88 [16, 21, 27] false ⟨2, 1, 2, spec_l40Rd_pick.pin, spec_l40Rd_pick.pout, Gspec_l40Rd_pick⟩ (handAt 85 [32, 39, 46, 51] false ⟨2, 1, 2, spec_l40Rd_num.pin, spec_l40Rd_num.pout, Gspec_l40Rd_num⟩ handNil)))
noncomputable def pg (Gspec_l20Draw : spec_l20Draw.G) (Gspec_l40Rd_num : spec_l40Rd_num.G) (Gspec_l40Rd_pick : spec_l40Rd_pick.G) : Prog PO := { nt := 58, np := 3, tb := tabOf tab, hd := hd Gspec_l20Draw Gspec_l40Rd_num Gspec_l40Rd_pick, cuts := cutsOf [], fin := endOf (tabOf tab) rs 3 pout }
noncomputable def q : FuncId → Bool := fun f => hasId [] f
theorem seg0 (Gspec_l20Draw : spec_l20Draw.G) (Gspec_l40Rd_num : spec_l40Rd_num.G) (Gspec_l40Rd_pick : spec_l40Rd_pick.G) (x1 : Int) (x2 : Int) (c1_0 : List Int) (c1_1 : Int) : arun (pg Gspec_l20Draw Gspec_l40Rd_num Gspec_l40Rd_pick) 5000 [.code c0] (mk pin (x1, x2, c1_0, c1_1, ())) = F0 Gspec_l20Draw Gspec_l40Rd_num Gspec_l40Rd_pick x1 x2 c1_0 c1_1 := by kernel_rfl
noncomputable def impl : G := fun x => F0 spec_l20Draw.impl spec_l40Rd_num.impl spec_l40Rd_pick.impl x.1 x.2.1 x.2.2.1 x.2.2.2.1
theorem impl_eq (x1 : Int) (x2 : Int) (c1_0 : List Int) (c1_1 : Int) : impl (x1, x2, c1_0, c1_1, ()) = F0 spec_l20Draw.impl spec_l40Rd_num.impl spec_l40Rd_pick.impl x1 x2 c1_0 c1_1 := rfl
theorem con : Con Try.prog 86 3 rs.length 3 pin pout impl := by
  refine con_of_run3 (nt := 58) (c := c0) tabGood Try.func86 (by kernel_rfl) (by kernel_rfl) (by kernel_rfl) (by kernel_rfl) (by kernel_rfl) (by kernel_rfl) (by kernel_rfl) ?_
  intro w0 O y Post hnp fin
  have hp : Parts Try.prog 86 (pg spec_l20Draw.impl spec_l40Rd_num.impl spec_l40Rd_pick.impl) [] := ⟨tab_ok tabGood rfl, (handAt_ok spec_l20Draw.con (handAt_ok spec_l40Rd_pick.con (handAt_ok spec_l40Rd_num.con handNil_ok))), rfl⟩
  exact good_first (hp) (runOK_of (hp) hnp trivial fin) (fun x => (seg0 spec_l20Draw.impl spec_l40Rd_num.impl spec_l40Rd_pick.impl x.1 x.2.1 x.2.2.1 x.2.2.2.1))
end spec_l20Any

/-! ### loop.example/wholecheck/spec.l20Word -/
namespace spec_l20Word
noncomputable abbrev c0 : Code := (Try.f87.body).getD .skip
noncomputable abbrev pin : Tpl := ⟨[⟨0, false, [.ptr 500001 0]⟩, ⟨1, false, [.d i64]⟩, ⟨2, false, [.d i64]⟩], [(500001, .box [.d (.sl (.int .u8)), .d i64])]⟩
noncomputable abbrev pout : Tpl := ⟨[⟨0, false, [.row 600001]⟩, ⟨1, false, [.ptr 500001 0]⟩], [(600001, .row 60 false (.sl i64)), (500001, .box [.d (.sl (.int .u8)), .d i64])]⟩
noncomputable abbrev p3 : Tpl := ⟨[⟨0, false, [.ptr 500001 0]⟩, ⟨1, false, [.d i64]⟩, ⟨2, false, [.d i64]⟩, ⟨7, false, [.row 3000000]⟩, ⟨8, false, [.d i64]⟩], [(500001, .box [.d (.sl (.int .u8)), .d i64]), (3000000, .row 60 false (.sl i64))]⟩
noncomputable def T3 : List Item := (find 3 c0 []).getD []
noncomputable abbrev p7 : Tpl := ⟨[⟨0, false, [.ptr 500001 0]⟩, ⟨1, false, [.d i64]⟩, ⟨2, false, [.d i64]⟩, ⟨7, false, [.row 3000000]⟩, ⟨8, false, [.d i64]⟩, ⟨9, false, [.row 3000001]⟩, ⟨10, false, [.d i64]⟩], [(500001, .box [.d (.sl (.int .u8)), .d i64]), (3000000, .row 60 false (.sl i64)), (3000001, .row 3 false i64)]⟩
noncomputable def T7 : List Item := (find 7 c0 []).getD []
noncomputable abbrev PI := Int × Int × (List Int) × Int × Unit
noncomputable abbrev PO := (List (List Int)) × (List Int) × Int × Unit
noncomputable abbrev G := PI → Option PO
noncomputable abbrev P3 := Int × Int × Int × (List Int) × Int × (List (List Int)) × Unit
noncomputable abbrev C3 := P3 → Option PO
noncomputable abbrev P7 := Int × Int × Int × Int × (List Int) × Int × (List (List Int)) × (List Int) × Unit
noncomputable abbrev C7 := P7 → Option PO
noncomputable abbrev rs : List ResultVar := [.tmp 6]
noncomputable def F0 (J3 : C3) (x1 : Int) (x2 : Int) (c1_0 : List Int) (c1_1 : Int) : Option PO :=
  J3 (x1, x2, 0, c1_0, c1_1, ([] : List (List Int)), ())
noncomputable def F3 (J7 : C7) (t1 : Int) (t2 : Int) (t8 : Int) (c1_0 : List Int) (c1_1 : Int) (r0 : List (List Int)) : Option PO :=
  bif decide (t8 < t2) then
    J7 (t1, t2, t8, 0, c1_0, c1_1, r0, ([] : List Int), ())
  else
    some (r0, c1_0, c1_1, ())
noncomputable def F7 (J3 : C3) (J7 : C7) (Gspec_l40Rd_pick : spec_l40Rd_pick.G) (t1 : Int) (t2 : Int) (t8 : Int) (t10 : Int) (c1_0 : List Int) (c1_1 : Int) (r0 : List (List Int)) (r1 : List Int) : Option PO :=
  bif decide (t10 < t1) then
    Option.bind (Gspec_l40Rd_pick (2, c1_0, c1_1, ())) fun y0 =>
    bif decide ((r1.length + ([y0.1] : List Int).length) * 8 ≤ 140737488355328) then
      J7 (t1, t2, t8, wI (t10 + 1), y0.2.1, y0.2.2.1, r0, r1 ++ ([y0.1] : List Int), ())
    else
      none
  else
    bif decide ((r0.length + ([r1] : List (List Int)).length) * 24 ≤ 140737488355328) then
      J3 (t1, t2, wI (t8 + 1), c1_0, c1_1, r0 ++ ([r1] : List (List Int)), ())
    else
      none
noncomputable def hd {R : Type} (Gspec_l40Rd_pick : spec_l40Rd_pick.G) : Hand R := (handAt 88 [25] false ⟨2, 1, 2, spec_l40Rd_pick.pin, spec_l40Rd_pick.pout, Gspec_l40Rd_pick⟩ handNil)
noncomputable def pg (Gspec_l40Rd_pick : spec_l40Rd_pick.G) (J3 : List Item → C3) (J7 : List Item → C7) : Prog PO := { nt := 33, np := 3, tb := tabOf tab, hd := hd Gspec_l40Rd_pick, cuts := cutsOf [(3, cut p3 J3), (7, cut p7 J7)], fin := endOf (tabOf tab) rs 3 pout }
noncomputable def q : FuncId → Bool := fun f => hasId [] f
theorem seg0 (Gspec_l40Rd_pick : spec_l40Rd_pick.G) (J3 : List Item → C3) (J7 : List Item → C7) (x1 : Int) (x2 : Int) (c1_0 : List Int) (c1_1 : Int) : arun (pg Gspec_l40Rd_pick J3 J7) 5000 [.code c0] (mk pin (x1, x2, c1_0, c1_1, ())) = F0 (J3 T3) x1 x2 c1_0 c1_1 := by kernel_rfl
theorem seg3 (Gspec_l40Rd_pick : spec_l40Rd_pick.G) (J3 : List Item → C3) (J7 : List Item → C7) (t1 : Int) (t2 : Int) (t8 : Int) (c1_0 : List Int) (c1_1 : Int) (r0 : List (List Int)) : arun1 (pg Gspec_l40Rd_pick J3 J7) 5000 T3 (mk p3 (t1, t2, t8, c1_0, c1_1, r0, ())) = F3 (J7 T7) t1 t2 t8 c1_0 c1_1 r0 := by kernel_rfl
theorem seg7 (Gspec_l40Rd_pick : spec_l40Rd_pick.G) (J3 : List Item → C3) (J7 : List Item → C7) (t1 : Int) (t2 : Int) (t8 : Int) (t10 : Int) (c1_0 : List Int) (c1_1 : Int) (r0 : List (List Int)) (r1 : List Int) : arun1 (pg Gspec_l40Rd_pick J3 J7) 5000 T7 (mk p7 (t1, t2, t8, t10, c1_0, c1_1, r0, r1, ())) = F7 (J3 T3) (J7 T7) Gspec_l40Rd_pick t1 t2 t8 t10 c1_0 c1_1 r0 r1 := by kernel_rfl
noncomputable def L7 (J3 : C3) : C7 := lfp fun J7 x => F7 J3 J7 spec_l40Rd_pick.impl x.1 x.2.1 x.2.2.1 x.2.2.2.1 x.2.2.2.2.1 x.2.2.2.2.2.1 x.2.2.2.2.2.2.1 x.2.2.2.2.2.2.2.1
noncomputable def L3 : C3 := lfp fun J3 x => F3 (L7 J3) x.1 x.2.1 x.2.2.1 x.2.2.2.1 x.2.2.2.2.1 x.2.2.2.2.2.1
noncomputable def impl : G := fun x => F0 L3 x.1 x.2.1 x.2.2.1 x.2.2.2.1
theorem F7_le {J3 J3' : C3} (h3 : OLe J3 J3') {J7 J7' : C7} (h7 : OLe J7 J7') {Gspec_l40Rd_pick : spec_l40Rd_pick.G} (t1 : Int) (t2 : Int) (t8 : Int) (t10 : Int) (c1_0 : List Int) (c1_1 : Int) (r0 : List (List Int)) (r1 : List Int) : OptLe (F7 J3 J7 Gspec_l40Rd_pick t1 t2 t8 t10 c1_0 c1_1 r0 r1) (F7 J3' J7' Gspec_l40Rd_pick t1 t2 t8 t10 c1_0 c1_1 r0 r1) := by unfold F7; exact .cond (.bind (.refl _) fun _ => .cond (.of h7 _) (.refl _)) (.cond (.of h3 _) (.refl _))
theorem F3_le {J7 J7' : C7} (h7 : OLe J7 J7') (t1 : Int) (t2 : Int) (t8 : Int) (c1_0 : List Int) (c1_1 : Int) (r0 : List (List Int)) : OptLe (F3 J7 t1 t2 t8 c1_0 c1_1 r0) (F3 J7' t1 t2 t8 c1_0 c1_1 r0) := by unfold F3; exact .cond (.of h7 _) (.refl _)
theorem L7_mono (J3 : C3) : OMono fun J7 (x : P7) => F7 J3 J7 spec_l40Rd_pick.impl x.1 x.2.1 x.2.2.1 x.2.2.2.1 x.2.2.2.2.1 x.2.2.2.2.2.1 x.2.2.2.2.2.2.1 x.2.2.2.2.2.2.2.1 := fun J J' h7 x => F7_le (fun _ _ h => h) h7 x.1 x.2.1 x.2.2.1 x.2.2.2.1 x.2.2.2.2.1 x.2.2.2.2.2.1 x.2.2.2.2.2.2.1 x.2.2.2.2.2.2.2.1
theorem L7_eq (J3 : C3) (t1 : Int) (t2 : Int) (t8 : Int) (t10 : Int) (c1_0 : List Int) (c1_1 : Int) (r0 : List (List Int)) (r1 : List Int) : L7 J3 (t1, t2, t8, t10, c1_0, c1_1, r0, r1, ()) = F7 J3 (L7 J3) spec_l40Rd_pick.impl t1 t2 t8 t10 c1_0 c1_1 r0 r1 := congrFun (lfp_eq (L7_mono J3)) _
theorem L7_le {J3 J3' : C3} (h3 : OLe J3 J3') : OLe (L7 J3) (L7 J3') := lfp_le (L7_mono J3') fun J x => F7_le h3 (fun _ _ h => h) x.1 x.2.1 x.2.2.1 x.2.2.2.1 x.2.2.2.2.1 x.2.2.2.2.2.1 x.2.2.2.2.2.2.1 x.2.2.2.2.2.2.2.1
theorem L3_mono : OMono fun J3 (x : P3) => F3 (L7 J3) x.1 x.2.1 x.2.2.1 x.2.2.2.1 x.2.2.2.2.1 x.2.2.2.2.2.1 := fun J J' h3 x => F3_le (L7_le h3) x.1 x.2.1 x.2.2.1 x.2.2.2.1 x.2.2.2.2.1 x.2.2.2.2.2.1
theorem L3_eq (t1 : Int) (t2 : Int) (t8 : Int) (c1_0 : List Int) (c1_1 : Int) (r0 : List (List Int)) : L3 (t1, t2, t8, c1_0, c1_1, r0, ()) = F3 (L7 (L3)) t1 t2 t8 c1_0 c1_1 r0 := congrFun (lfp_eq (L3_mono)) _
theorem impl_eq (x1 : Int) (x2 : Int) (c1_0 : List Int) (c1_1 : Int) : impl (x1, x2, c1_0, c1_1, ()) = F0 L3 x1 x2 c1_0 c1_1 := rfl
theorem con : Con Try.prog 87 3 rs.length 3 pin pout impl := by
  refine con_of_run3 (nt := 33) (c := c0) tabGood Try.func87 (by kernel_rfl) (by kernel_rfl) (by kernel_rfl) (by kernel_rfl) (by kernel_rfl) (by kernel_rfl) (by kernel_rfl) ?_
  intro w0 O y Post hnp fin
  have hp : ∀ (J3 : List Item → C3), ∀ (J7 : List Item → C7), Parts Try.prog 87 (pg spec_l40Rd_pick.impl J3 J7) [(3, cut p3 J3), (7, cut p7 J7)] := fun J3 J7 => ⟨tab_ok tabGood rfl, (handAt_ok spec_l40Rd_pick.con handNil_ok), rfl⟩
  have g7 : ∀ (J3 : C3), Good Try.prog 33 w0 O Post y T3 p3 J3 → Good Try.prog 33 w0 O Post y T7 p7 (L7 J3) := fun J3 h3 => good_lfp fun J7 h7 => good_part (hp (atT T3 J3) (atT T7 J7)) (runOK_of (hp (atT T3 J3) (atT T7 J7)) hnp ⟨cutOK_at h3, cutOK_at h7, trivial⟩ fin) (fun x => (seg7 spec_l40Rd_pick.impl (atT T3 J3) (atT T7 J7) x.1 x.2.1 x.2.2.1 x.2.2.2.1 x.2.2.2.2.1 x.2.2.2.2.2.1 x.2.2.2.2.2.2.1 x.2.2.2.2.2.2.2.1).trans (by simp only [atT_self] <;> rfl))
  have g3 : Good Try.prog 33 w0 O Post y T3 p3 L3 := good_lfp fun J3 h3 => good_part (hp (atT T3 (fun _ => none)) (atT T7 (L7 J3))) (runOK_of (hp (atT T3 (fun _ => none)) (atT T7 (L7 J3))) hnp ⟨cutOK_at (p := p3) (T := T3) (J := fun _ => none) good_none, cutOK_at (g7 J3 h3), trivial⟩ fin) (fun x => (seg3 spec_l40Rd_pick.impl (atT T3 (fun _ => none)) (atT T7 (L7 J3)) x.1 x.2.1 x.2.2.1 x.2.2.2.1 x.2.2.2.2.1 x.2.2.2.2.2.1).trans (by simp only [atT_self] <;> rfl))
  exact good_first (hp (atT T3 L3) (atT T7 (fun _ => none))) (runOK_of (hp (atT T3 L3) (atT T7 (fun _ => none))) hnp ⟨cutOK_at g3, cutOK_at (p := p7) (T := T7) (J := fun _ => none) good_none, trivial⟩ fin) (fun x => (seg0 spec_l40Rd_pick.impl (atT T3 L3) (atT T7 (fun _ => none)) x.1 x.2.1 x.2.2.1 x.2.2.2.1).trans (by simp only [atT_self] <;> rfl))
end spec_l20Word

/-! ### loop.example/wholecheck/spec.l20On -/
namespace spec_l20On
noncomputable abbrev c0 : Code := (Try.f39.body).getD .skip
noncomputable abbrev pin : Tpl := ⟨[⟨0, false, [.d (.sl (.int .u8))]⟩], []⟩
noncomputable abbrev pout : Tpl := ⟨[⟨0, false, [.row 600001]⟩, ⟨1, false, [.row 600002]⟩, ⟨2, false, [.row 600003]⟩, ⟨3, false, [.d i64]⟩], [(600001, .row 73 false q4), (600002, .row 60 false (.sl i64)), (600003, .row 60 false (.sl i64))]⟩
noncomputable abbrev PI := (List Int) × Unit
noncomputable abbrev PO := Int × (List Q4) × (List (List Int)) × (List (List Int)) × Unit
noncomputable abbrev G := PI → Option PO
noncomputable abbrev rs : List ResultVar := [.tmp 2, .tmp 3, .tmp 4, .tmp 5]
noncomputable def F0 (Gspec_l20Any : spec_l20Any.G) (Gspec_l20Word : spec_l20Word.G) (Gspec_l40Open : spec_l40Open.G) (Gspec_l40Rd_num : spec_l40Rd_num.G) (Gspec_l40Rd_pick : spec_l40Rd_pick.G) (x0 : List Int) : Option PO :=
  Option.bind (Gspec_l40Open (x0, ())) fun y0 =>
  Option.bind (Gspec_l40Rd_num (([1, 2, 2, 0] : List Int), y0.1, y0.2.1, ())) fun y1 =>
  Option.bind (Gspec_l20Any (y1.1, 4, y1.2.1, y1.2.2.1, ())) fun y2 =>
  Option.bind (Gspec_l40Rd_pick (4, y2.2.1, y2.2.2.1, ())) fun y3 =>
  Option.bind (Gspec_l20Word (y1.1, y3.1, y3.2.1, y3.2.2.1, ())) fun y4 =>
  Option.bind (Gspec_l40Rd_pick (4, y4.2.1, y4.2.2.1, ())) fun y5 =>
  Option.bind (Gspec_l20Word (y1.1, wI (1 + y5.1), y5.2.1, y5.2.2.1, ())) fun y6 =>
  Option.bind (Gspec_l40Rd_pick (16, y6.2.1, y6.2.2.1, ())) fun y7 =>
  bif y7.1 == 0 then
    Option.bind (Gspec_l40Rd_pick (2, y7.2.1, y7.2.2.1, ())) fun y8 =>
    bif y8.1 == 0 then
      some (y1.1, y2.1, y4.1, [], ())
    else
      bif decide ((y4.1.length + ([([2] : List Int)] : List (List Int)).length) * 24 ≤ 140737488355328) then
        some (y1.1, y2.1, y4.1 ++ ([([2] : List Int)] : List (List Int)), y6.1, ())
      else
        none
  else
    some (y1.1, y2.1, y4.1, y6.1, ())
noncomputable def hd {R : Type} (Gspec_l20Any : spec_l20Any.G) (Gspec_l20Word : spec_l20Word.G) (Gspec_l40Open : spec_l40Open.G) (Gspec_l40Rd_num : spec_l40Rd_num.G) (Gspec_l40Rd_pick : spec_l40Rd_pick.G) : Hand R := (handAt 88 [22, 27, 31, 34] false ⟨2, 1, 2, spec_l40Rd_pick.pin, spec_l40Rd_pick.pout, Gspec_l40Rd_pick⟩ (handAt 87 [23, 29] false ⟨3, 1, 3, spec_l20Word.pin, spec_l20Word.pout, Gspec_l20Word⟩ (handAt 86 [18] false ⟨3, 1, 3, spec_l20Any.pin, spec_l20Any.pout, Gspec_l20Any⟩ (handAt 85 [15] false ⟨2, 1, 2, spec_l40Rd_num.pin, spec_l40Rd_num.pout, Gspec_l40Rd_num⟩ (handAt 74 [12] false ⟨1, 1, 0, spec_l40Open.pin, spec_l40Open.pout, Gspec_l40Open⟩ handNil)))))
noncomputable def pg (Gspec_l20Any : spec_l20Any.G) (Gspec_l20Word : spec_l20Word.G) (Gspec_l40Open : spec_l40Open.G) (Gspec_l40Rd_num : spec_l40Rd_num.G) (Gspec_l40Rd_pick : spec_l40Rd_pick.G) : Prog PO := { nt := 44, np := 1, tb := tabOf tab, hd := hd Gspec_l20Any Gspec_l20Word Gspec_l40Open Gspec_l40Rd_num Gspec_l40Rd_pick, cuts := cutsOf [], fin := endOf (tabOf tab) rs 1 pout }
noncomputable def q : FuncId → Bool := fun f => hasId [] f
theorem seg0 (Gspec_l20Any : spec_l20Any.G) (Gspec_l20Word : spec_l20Word.G) (Gspec_l40Open : spec_l40Open.G) (Gspec_l40Rd_num : spec_l40Rd_num.G) (Gspec_l40Rd_pick : spec_l40Rd_pick.G) (x0 : List Int) : arun (pg Gspec_l20Any Gspec_l20Word Gspec_l40Open Gspec_l40Rd_num Gspec_l40Rd_pick) 5000 [.code c0] (mk pin (x0, ())) = F0 Gspec_l20Any Gspec_l20Word Gspec_l40Open Gspec_l40Rd_num Gspec_l40Rd_pick x0 := by kernel_rfl
noncomputable def impl : G := fun x => F0 spec_l20Any.impl spec_l20Word.impl spec_l40Open.impl spec_l40Rd_num.impl spec_l40Rd_pick.impl x.1
theorem impl_eq (x0 : List Int) : impl (x0, ()) = F0 spec_l20Any.impl spec_l20Word.impl spec_l40Open.impl spec_l40Rd_num.impl spec_l40Rd_pick.impl x0 := rfl
theorem con : Con Try.prog 39 1 rs.length 1 pin pout impl := by
  refine con_of_run3 (nt := 44) (c := c0) tabGood Try.func39 (by kernel_rfl) (by kernel_rfl) (by kernel_rfl) (by kernel_rfl) (by kernel_rfl) (by kernel_rfl) (by kernel_rfl) ?_
  intro w0 O y Post hnp fin
  have hp : Parts Try.prog 39 (pg spec_l20Any.impl spec_l20Word.impl spec_l40Open.impl spec_l40Rd_num.impl spec_l40Rd_pick.impl) [] := ⟨tab_ok tabGood rfl, (handAt_ok spec_l40Rd_pick.con (handAt_ok spec_l20Word.con (handAt_ok spec_l20Any.con (handAt_ok spec_l40Rd_num.con (handAt_ok spec_l40Open.con handNil_ok))))), rfl⟩
  exact good_first (hp) (runOK_of (hp) hnp trivial fin) (fun x => (seg0 spec_l20Any.impl spec_l20Word.impl spec_l40Open.impl spec_l40Rd_num.impl spec_l40Rd_pick.impl x.1))
end spec_l20On

/-! ### loop.example/wholecheck/spec.DrawHoldsOn -/
namespace spec_DrawHoldsOn
noncomputable abbrev c0 : Code := (Try.f7.body).getD .skip
noncomputable abbrev pin : Tpl := ⟨[⟨0, false, [.d (.sl (.int .u8))]⟩], []⟩
noncomputable abbrev pout : Tpl := ⟨[⟨0, false, [.row 600001]⟩, ⟨1, false, [.row 600002]⟩, ⟨2, false, [.row 600003]⟩, ⟨3, false, [.d i64]⟩], [(600001, .row 73 false q4), (600002, .row 60 false (.sl i64)), (600003, .row 60 false (.sl i64))]⟩
noncomputable abbrev PI := (List Int) × Unit
noncomputable abbrev PO := Int × (List Q4) × (List (List Int)) × (List (List Int)) × Unit
noncomputable abbrev G := PI → Option PO
noncomputable abbrev rs : List ResultVar := [.tmp 2, .tmp 3, .tmp 4, .tmp 5]
noncomputable def F0 (Gspec_l20On : spec_l20On.G) (x0 : List Int) : Option PO :=
  Option.bind (Gspec_l20On (x0, ())) fun y0 =>
  some (y0.1, y0.2.1, y0.2.2.1, y0.2.2.2.1, ())
noncomputable def hd {R : Type} (Gspec_l20On : spec_l20On.G) : Hand R := (handAt 39 [7] false ⟨1, 4, 1, spec_l20On.pin, spec_l20On.pout, Gspec_l20On⟩ handNil)
noncomputable def pg (Gspec_l20On : spec_l20On.G) : Prog PO := { nt := 12, np := 1, tb := tabOf tab, hd := hd Gspec_l20On, cuts := cutsOf [], fin := endOf (tabOf tab) rs 1 pout }
noncomputable def q : FuncId → Bool := fun f => hasId [] f
theorem seg0 (Gspec_l20On : spec_l20On.G) (x0 : List Int) : arun (pg Gspec_l20On) 5000 [.code c0] (mk pin (x0, ())) = F0 Gspec_l20On x0 := by kernel_rfl
noncomputable def impl : G := fun x => F0 spec_l20On.impl x.1
theorem impl_eq (x0 : List Int) : impl (x0, ()) = F0 spec_l20On.impl x0 := rfl
theorem con : Con Try.prog 7 1 rs.length 1 pin pout impl := by
  refine con_of_run3 (nt := 12) (c := c0) tabGood Try.func7 (by kernel_rfl) (by kernel_rfl) (by kernel_rfl) (by kernel_rfl) (by kernel_rfl) (by kernel_rfl) (by kernel_rfl) ?_
  intro w0 O y Post hnp fin
  have hp : Parts Try.prog 7 (pg spec_l20On.impl) [] := ⟨tab_ok tabGood rfl, (handAt_ok spec_l20On.con handNil_ok), rfl⟩
  exact good_first (hp) (runOK_of (hp) hnp trivial fin) (fun x => (seg0 spec_l20On.impl x.1))
end spec_DrawHoldsOn

/-! ### loop.example/wholecheck/impl.in -/
namespace impl_in
noncomputable abbrev c0 : Code := (Try.f44.body).getD .skip
noncomputable abbrev pin : Tpl := ⟨[⟨0, false, [.d i64]⟩, ⟨1, false, [.d i64]⟩, ⟨2, false, [.d i64]⟩], []⟩
noncomputable abbrev pout : Tpl := ⟨[⟨0, false, [.d .bool]⟩], []⟩
noncomputable abbrev PI := Int × Int × Int × Unit
noncomputable abbrev PO := Bool × Unit
noncomputable abbrev G := PI → Option PO
noncomputable abbrev rs : List ResultVar := [.tmp 6]
noncomputable def F0 (x0 : Int) (x1 : Int) (x2 : Int) : Option PO :=
  bif decide (x0 ≥ x1) then
    some (decide (x0 ≤ x2), ())
  else
    some (false, ())
noncomputable def hd {R : Type} : Hand R := handNil
noncomputable def pg : Prog PO := { nt := 15, np := 3, tb := tabOf tab, hd := hd, cuts := cutsOf [], fin := endOf (tabOf tab) rs 3 pout }
noncomputable def q : FuncId → Bool := fun f => hasId [] f
theorem seg0 (x0 : Int) (x1 : Int) (x2 : Int) : arun (pg) 5000 [.code c0] (mk pin (x0, x1, x2, ())) = F0 x0 x1 x2 := by kernel_rfl
noncomputable def impl : G := fun x => F0 x.1 x.2.1 x.2.2.1
theorem impl_eq (x0 : Int) (x1 : Int) (x2 : Int) : impl (x0, x1, x2, ()) = F0 x0 x1 x2 := rfl
theorem con : Con Try.prog 44 3 rs.length 3 pin pout impl := by
  refine con_of_run3 (nt := 15) (c := c0) tabGood Try.func44 (by kernel_rfl) (by kernel_rfl) (by kernel_rfl) (by kernel_rfl) (by kernel_rfl) (by kernel_rfl) (by kernel_rfl) ?_
  intro w0 O y Post hnp fin
  have hp : Parts Try.prog 44 (pg) [] := ⟨tab_ok tabGood rfl, handNil_ok, rfl⟩
  exact good_first (hp) (runOK_of (hp) hnp trivial fin) (fun x => (seg0 x.1 x.2.1 x.2.2.1))
end impl_in

/-! ### loop.example/wholecheck/impl.TimesValid -/
namespace impl_TimesValid
noncomputable abbrev c0 : Code := (Try.f49.body).getD .skip
noncomputable abbrev pin : Tpl := ⟨[⟨0, false, [.d (.sl q4)]⟩, ⟨1, false, [.d i64]⟩], []⟩
noncomputable abbrev pout : Tpl := ⟨[⟨0, false, [.d .bool]⟩], []⟩
noncomputable abbrev p3 : Tpl := ⟨[⟨0, false, [.d (.sl q4)]⟩, ⟨1, false, [.d i64]⟩], []⟩
noncomputable def T3 : List Item := (find 3 c0 []).getD []
noncomputable abbrev p4 : Tpl := ⟨[⟨1, false, [.d i64]⟩, ⟨17, false, [.d (.sl q4)]⟩, ⟨18, false, [.d i64]⟩, ⟨19, false, [.d i64]⟩], []⟩
noncomputable def T4 : List Item := (find 4 c0 []).getD []
noncomputable abbrev PI := (List Q4) × Int × Unit
noncomputable abbrev PO := Bool × Unit
noncomputable abbrev G := PI → Option PO
noncomputable abbrev P3 := (List Q4) × Int × Unit
noncomputable abbrev C3 := P3 → Option PO
noncomputable abbrev P4 := Int × (List Q4) × Int × Int × Unit
noncomputable abbrev C4 := P4 → Option PO
noncomputable abbrev rs : List ResultVar := [.tmp 4]
noncomputable def F0 (J3 : C3) (Gimpl_in : impl_in.G) (x0 : List Q4) (x1 : Int) : Option PO :=
  Option.bind (Gimpl_in (x1, 0, 4, ())) fun y0 =>
  bif !y0.1 then
    some (false, ())
  else
    Option.bind (Gimpl_in ((x0.length : Int), 1, 24, ())) fun y1 =>
    bif !y1.1 then
      some (false, ())
    else
      J3 (x0, x1, ())
noncomputable def F3 (J4 : C4) (t0 : List Q4) (t1 : Int) : Option PO :=
  J4 (t1, t0, (t0.length : Int), 0, ())
noncomputable def F4 (J4 : C4) (Gimpl_in : impl_in.G) (t1 : Int) (t17 : List Q4) (t18 : Int) (t19 : Int) : Option PO :=
  bif decide (t19 < t18) then
    bif inb t19 t17.length then
      Option.bind (Gimpl_in ((t17.getD t19.toNat (0, 0, 0, 0)).1, 0, 7, ())) fun y2 =>
      bif (t17.getD t19.toNat (0, 0, 0, 0)).1 == 0 then
        bif !(((t17.getD t19.toNat (0, 0, 0, 0)).1 == 0) && (((t17.getD t19.toNat (0, 0, 0, 0)).2.1 == 0) && (((t17.getD t19.toNat (0, 0, 0, 0)).2.2.1 == 0) && ((t17.getD t19.toNat (0, 0, 0, 0)).2.2.2 == 0)))) then
          some (false, ())
        else
          J4 (t1, t17, t18, wI (t19 + 1), ())
      else
        bif (t17.getD t19.toNat (0, 0, 0, 0)).1 == 1 then
          Option.bind (Gimpl_in ((t17.getD t19.toNat (0, 0, 0, 0)).2.1, 0, wI (t1 - 1), ())) fun y3 =>
          bif y3.1 then
            bif (t17.getD t19.toNat (0, 0, 0, 0)).2.2.1 == 0 then
              bif !((t17.getD t19.toNat (0, 0, 0, 0)).2.2.2 == 0) then
                some (false, ())
              else
                J4 (t1, t17, t18, wI (t19 + 1), ())
            else
              some (false, ())
          else
            some (false, ())
        else
          bif y2.1 then
            bif (t17.getD t19.toNat (0, 0, 0, 0)).2.1 == 0 then
              Option.bind (Gimpl_in ((t17.getD t19.toNat (0, 0, 0, 0)).2.2.1, 0, wI (t19 - 1), ())) fun y4 =>
              bif y4.1 then
                Option.bind (Gimpl_in ((t17.getD t19.toNat (0, 0, 0, 0)).2.2.2, 0, wI (t19 - 1), ())) fun y5 =>
                bif y5.1 then
                  bif (t17.getD t19.toNat (0, 0, 0, 0)).2.2.1 == (t17.getD t19.toNat (0, 0, 0, 0)).2.2.2 then
                    J4 (t1, t17, t18, wI (t19 + 1), ())
                  else
                    bif (t17.getD t19.toNat (0, 0, 0, 0)).1 != 2 then
                      bif !((t17.getD t19.toNat (0, 0, 0, 0)).1 != 5) then
                        some (false, ())
                      else
                        J4 (t1, t17, t18, wI (t19 + 1), ())
                    else
                      some (false, ())
                else
                  some (false, ())
              else
                some (false, ())
            else
              some (false, ())
          else
            some (false, ())
    else
      none
  else
    some (true, ())
noncomputable def hd {R : Type} (Gimpl_in : impl_in.G) : Hand R := (handAt 44 [9, 14, 26, 40, 47, 77] true ⟨3, 1, 3, impl_in.pin, impl_in.pout, Gimpl_in⟩ handNil)
noncomputable def pg (Gimpl_in : impl_in.G) (J3 : List Item → C3) (J4 : List Item → C4) : Prog PO := { nt := 91, np := 2, tb := tabOf tab, hd := hd Gimpl_in, cuts := cutsOf [(3, cut p3 J3), (4, cut p4 J4)], fin := endOf (tabOf tab) rs 2 pout }
noncomputable def q : FuncId → Bool := fun f => hasId [44] f
theorem seg0 (Gimpl_in : impl_in.G) (J3 : List Item → C3) (J4 : List Item → C4) (x0 : List Q4) (x1 : Int) : arun (pg Gimpl_in J3 J4) 5000 [.code c0] (mk pin (x0, x1, ())) = F0 (J3 T3) Gimpl_in x0 x1 := by kernel_rfl
theorem seg3 (Gimpl_in : impl_in.G) (J3 : List Item → C3) (J4 : List Item → C4) (t0 : List Q4) (t1 : Int) : arun1 (pg Gimpl_in J3 J4) 5000 T3 (mk p3 (t0, t1, ())) = F3 (J4 T4) t0 t1 := by kernel_rfl
theorem seg4 (Gimpl_in : impl_in.G) (J3 : List Item → C3) (J4 : List Item → C4) (t1 : Int) (t17 : List Q4) (t18 : Int) (t19 : Int) : arun1 (pg Gimpl_in J3 J4) 5000 T4 (mk p4 (t1, t17, t18, t19, ())) = F4 (J4 T4) Gimpl_in t1 t17 t18 t19 := by kernel_rfl
noncomputable def L4 : C4 := lfp fun J4 x => F4 J4 impl_in.impl x.1 x.2.1 x.2.2.1 x.2.2.2.1
noncomputable def L3 : C3 := fun x => F3 L4 x.1 x.2.1
noncomputable def impl : G := fun x => F0 L3 impl_in.impl x.1 x.2.1
theorem F4_le {J4 J4' : C4} (h4 : OLe J4 J4') {Gimpl_in : impl_in.G} (t1 : Int) (t17 : List Q4) (t18 : Int) (t19 : Int) : OptLe (F4 J4 Gimpl_in t1 t17 t18 t19) (F4 J4' Gimpl_in t1 t17 t18 t19) := by unfold F4; exact .cond (.cond (.bind (.refl _) fun _ => .cond (.cond (.refl _) (.of h4 _)) (.cond (.bind (.refl _) fun _ => .cond (.cond (.cond (.refl _) (.of h4 _)) (.refl _)) (.refl _)) (.cond (.cond (.bind (.refl _) fun _ => .cond (.bind (.refl _) fun _ => .cond (.cond (.of h4 _) (.cond (.cond (.refl _) (.of h4 _)) (.refl _))) (.refl _)) (.refl _)) (.refl _)) (.refl _)))) (.refl _)) (.refl _)
theorem L4_mono : OMono fun J4 (x : P4) => F4 J4 impl_in.impl x.1 x.2.1 x.2.2.1 x.2.2.2.1 := fun J J' h4 x => F4_le h4 x.1 x.2.1 x.2.2.1 x.2.2.2.1
theorem L4_eq (t1 : Int) (t17 : List Q4) (t18 : Int) (t19 : Int) : L4 (t1, t17, t18, t19, ()) = F4 (L4) impl_in.impl t1 t17 t18 t19 := congrFun (lfp_eq (L4_mono)) _
theorem L3_eq (t0 : List Q4) (t1 : Int) : L3 (t0, t1, ()) = F3 (L4) t0 t1 := rfl
theorem impl_eq (x0 : List Q4) (x1 : Int) : impl (x0, x1, ()) = F0 L3 impl_in.impl x0 x1 := rfl
theorem con : Con Try.prog 49 2 rs.length 2 pin pout impl := by
  refine con_of_run3 (nt := 91) (c := c0) tabGood Try.func49 (by kernel_rfl) (by kernel_rfl) (by kernel_rfl) (by kernel_rfl) (by kernel_rfl) (by kernel_rfl) (by kernel_rfl) ?_
  intro w0 O y Post hnp fin
  have hp : ∀ (J3 : List Item → C3), ∀ (J4 : List Item → C4), Parts Try.prog 49 (pg impl_in.impl J3 J4) [(3, cut p3 J3), (4, cut p4 J4)] := fun J3 J4 => ⟨tab_ok tabGood rfl, (handAt_ok impl_in.con handNil_ok), rfl⟩
  have g4 : Good Try.prog 91 w0 O Post y T4 p4 L4 := good_lfp fun J4 h4 => good_part (hp (atT T3 (fun _ => none)) (atT T4 J4)) (runOK_of (hp (atT T3 (fun _ => none)) (atT T4 J4)) hnp ⟨cutOK_at (p := p3) (T := T3) (J := fun _ => none) good_none, cutOK_at h4, trivial⟩ fin) (fun x => (seg4 impl_in.impl (atT T3 (fun _ => none)) (atT T4 J4) x.1 x.2.1 x.2.2.1 x.2.2.2.1).trans (by simp only [atT_self] <;> rfl))
  have g3 : Good Try.prog 91 w0 O Post y T3 p3 L3 := good_part (hp (atT T3 (fun _ => none)) (atT T4 L4)) (runOK_of (hp (atT T3 (fun _ => none)) (atT T4 L4)) hnp ⟨cutOK_at (p := p3) (T := T3) (J := fun _ => none) good_none, cutOK_at g4, trivial⟩ fin) (fun x => (seg3 impl_in.impl (atT T3 (fun _ => none)) (atT T4 L4) x.1 x.2.1).trans (by simp only [atT_self] <;> rfl))
  exact good_first (hp (atT T3 L3) (atT T4 (fun _ => none))) (runOK_of (hp (atT T3 L3) (atT T4 (fun _ => none))) hnp ⟨cutOK_at g3, cutOK_at (p := p4) (T := T4) (J := fun _ => none) good_none, trivial⟩ fin) (fun x => (seg0 impl_in.impl (atT T3 L3) (atT T4 (fun _ => none)) x.1 x.2.1).trans (by simp only [atT_self] <;> rfl))
end impl_TimesValid

/-! ### loop.example/wholecheck/impl.bitsValid$1 -/
namespace impl_bitsValid_1
noncomputable abbrev c0 : Code := (Try.f144.body).getD .skip
noncomputable abbrev pin : Tpl := ⟨[⟨0, false, [.d i64]⟩], []⟩
noncomputable abbrev pout : Tpl := ⟨[⟨0, false, [.d .bool]⟩], []⟩
noncomputable abbrev PI := Int × Unit
noncomputable abbrev PO := Bool × Unit
noncomputable abbrev G := PI → Option PO
noncomputable abbrev rs : List ResultVar := [.tmp 2]
noncomputable def F0 (Gimpl_in : impl_in.G) (x0 : Int) : Option PO :=
  Option.bind (Gimpl_in (x0, 0, 1, ())) fun y0 =>
  some (!y0.1, ())
noncomputable def hd {R : Type} (Gimpl_in : impl_in.G) : Hand R := (handAt 44 [4] true ⟨3, 1, 3, impl_in.pin, impl_in.pout, Gimpl_in⟩ handNil)
noncomputable def pg (Gimpl_in : impl_in.G) : Prog PO := { nt := 6, np := 1, tb := tabOf tab, hd := hd Gimpl_in, cuts := cutsOf [], fin := endOf (tabOf tab) rs 1 pout }
noncomputable def q : FuncId → Bool := fun f => hasId [44] f
theorem seg0 (Gimpl_in : impl_in.G) (x0 : Int) : arun (pg Gimpl_in) 5000 [.code c0] (mk pin (x0, ())) = F0 Gimpl_in x0 := by kernel_rfl
noncomputable def impl : G := fun x => F0 impl_in.impl x.1
theorem impl_eq (x0 : Int) : impl (x0, ()) = F0 impl_in.impl x0 := rfl
theorem con : Con Try.prog 144 1 rs.length 1 pin pout impl := by
  refine con_of_run3 (nt := 6) (c := c0) tabGood Try.func144 (by kernel_rfl) (by kernel_rfl) (by kernel_rfl) (by kernel_rfl) (by kernel_rfl) (by kernel_rfl) (by kernel_rfl) ?_
  intro w0 O y Post hnp fin
  have hp : Parts Try.prog 144 (pg impl_in.impl) [] := ⟨tab_ok tabGood rfl, (handAt_ok impl_in.con handNil_ok), rfl⟩
  exact good_first (hp) (runOK_of (hp) hnp trivial fin) (fun x => (seg0 impl_in.impl x.1))
end impl_bitsValid_1

/-! ### slices.IndexFunc[[]int,int] -/
namespace slices_IndexFunc_of_1
noncomputable abbrev c0 : Code := (Try.f107.body).getD .skip
noncomputable abbrev pin : Tpl := ⟨[⟨0, false, [.d (.sl i64)]⟩, ⟨1, false, [.fn 144 []]⟩], []⟩
noncomputable abbrev pout : Tpl := ⟨[⟨0, false, [.d i64]⟩, ⟨2, false, [.fn 144 []]⟩], []⟩
noncomputable abbrev p2 : Tpl := ⟨[⟨0, false, [.d (.sl i64)]⟩, ⟨1, false, [.fn 144 []]⟩, ⟨7, false, [.d i64]⟩, ⟨8, false, [.d i64]⟩], []⟩
noncomputable def T2 : List Item := (find 2 c0 []).getD []
noncomputable abbrev PI := (List Int) × Unit
noncomputable abbrev PO := Int × Unit
noncomputable abbrev G := PI → Option PO
noncomputable abbrev P2 := (List Int) × Int × Int × Unit
noncomputable abbrev C2 := P2 → Option PO
noncomputable abbrev rs : List ResultVar := [.tmp 4]
noncomputable def F0 (J2 : C2) (x0 : List Int) : Option PO :=
  J2 (x0, (x0.length : Int), 0, ())
noncomputable def F2 (J2 : C2) (Gimpl_bitsValid_1 : impl_bitsValid_1.G) (t0 : List Int) (t7 : Int) (t8 : Int) : Option PO :=
  bif decide (t8 < t7) then
    bif inb t8 t0.length then
      Option.bind (Gimpl_bitsValid_1 (t0.getD t8.toNat 0, ())) fun y0 =>
      bif y0.1 then
        some (t8, ())
      else
        J2 (t0, t7, wI (t8 + 1), ())
    else
      none
  else
    some ((-1), ())
noncomputable def hd {R : Type} (Gimpl_bitsValid_1 : impl_bitsValid_1.G) : Hand R := (handAt 144 [16] true ⟨1, 1, 1, impl_bitsValid_1.pin, impl_bitsValid_1.pout, Gimpl_bitsValid_1⟩ handNil)
noncomputable def pg (Gimpl_bitsValid_1 : impl_bitsValid_1.G) (J2 : List Item → C2) : Prog PO := { nt := 19, np := 2, tb := tabOf tab, hd := hd Gimpl_bitsValid_1, cuts := cutsOf [(2, cut p2 J2)], fin := endOf (tabOf tab) rs 2 pout }
noncomputable def q : FuncId → Bool := fun f => hasId [144] f
theorem seg0 (Gimpl_bitsValid_1 : impl_bitsValid_1.G) (J2 : List Item → C2) (x0 : List Int) : arun (pg Gimpl_bitsValid_1 J2) 5000 [.code c0] (mk pin (x0, ())) = F0 (J2 T2) x0 := by kernel_rfl
theorem seg2 (Gimpl_bitsValid_1 : impl_bitsValid_1.G) (J2 : List Item → C2) (t0 : List Int) (t7 : Int) (t8 : Int) : arun1 (pg Gimpl_bitsValid_1 J2) 5000 T2 (mk p2 (t0, t7, t8, ())) = F2 (J2 T2) Gimpl_bitsValid_1 t0 t7 t8 := by kernel_rfl
noncomputable def L2 : C2 := lfp fun J2 x => F2 J2 impl_bitsValid_1.impl x.1 x.2.1 x.2.2.1
noncomputable def impl : G := fun x => F0 L2 x.1
theorem F2_le {J2 J2' : C2} (h2 : OLe J2 J2') {Gimpl_bitsValid_1 : impl_bitsValid_1.G} (t0 : List Int) (t7 : Int) (t8 : Int) : OptLe (F2 J2 Gimpl_bitsValid_1 t0 t7 t8) (F2 J2' Gimpl_bitsValid_1 t0 t7 t8) := by unfold F2; exact .cond (.cond (.bind (.refl _) fun _ => .cond (.refl _) (.of h2 _)) (.refl _)) (.refl _)
theorem L2_mono : OMono fun J2 (x : P2) => F2 J2 impl_bitsValid_1.impl x.1 x.2.1 x.2.2.1 := fun J J' h2 x => F2_le h2 x.1 x.2.1 x.2.2.1
theorem L2_eq (t0 : List Int) (t7 : Int) (t8 : Int) : L2 (t0, t7, t8, ()) = F2 (L2) impl_bitsValid_1.impl t0 t7 t8 := congrFun (lfp_eq (L2_mono)) _
theorem impl_eq (x0 : List Int) : impl (x0, ()) = F0 L2 x0 := rfl
theorem con : Con Try.prog 107 2 rs.length 2 pin pout impl := by
  refine con_of_run3 (nt := 19) (c := c0) tabGood Try.func107 (by kernel_rfl) (by kernel_rfl) (by kernel_rfl) (by kernel_rfl) (by kernel_rfl) (by kernel_rfl) (by kernel_rfl) ?_
  intro w0 O y Post hnp fin
  have hp : ∀ (J2 : List Item → C2), Parts Try.prog 107 (pg impl_bitsValid_1.impl J2) [(2, cut p2 J2)] := fun J2 => ⟨tab_ok tabGood rfl, (handAt_ok impl_bitsValid_1.con handNil_ok), rfl⟩
  have g2 : Good Try.prog 19 w0 O Post y T2 p2 L2 := good_lfp fun J2 h2 => good_part (hp (atT T2 J2)) (runOK_of (hp (atT T2 J2)) hnp ⟨cutOK_at h2, trivial⟩ fin) (fun x => (seg2 impl_bitsValid_1.impl (atT T2 J2) x.1 x.2.1 x.2.2.1).trans (by simp only [atT_self] <;> rfl))
  exact good_first (hp (atT T2 L2)) (runOK_of (hp (atT T2 L2)) hnp ⟨cutOK_at g2, trivial⟩ fin) (fun x => (seg0 impl_bitsValid_1.impl (atT T2 L2) x.1).trans (by simp only [atT_self] <;> rfl))
end slices_IndexFunc_of_1

/-! ### slices.ContainsFunc[[]int,int] -/
namespace slices_ContainsFunc_of_1
noncomputable abbrev c0 : Code := (Try.f143.body).getD .skip
noncomputable abbrev pin : Tpl := ⟨[⟨0, false, [.d (.sl i64)]⟩, ⟨1, false, [.fn 144 []]⟩], []⟩
noncomputable abbrev pout : Tpl := ⟨[⟨0, false, [.d .bool]⟩, ⟨2, false, [.fn 144 []]⟩], []⟩
noncomputable abbrev PI := (List Int) × Unit
noncomputable abbrev PO := Bool × Unit
noncomputable abbrev G := PI → Option PO
noncomputable abbrev rs : List ResultVar := [.tmp 4]
noncomputable def F0 (Gslices_IndexFunc_of_1 : slices_IndexFunc_of_1.G) (x0 : List Int) : Option PO :=
  Option.bind (Gslices_IndexFunc_of_1 (x0, ())) fun y0 =>
  some (decide (y0.1 ≥ 0), ())
noncomputable def hd {R : Type} (Gslices_IndexFunc_of_1 : slices_IndexFunc_of_1.G) : Hand R := (handAt 107 [7] true ⟨2, 1, 2, slices_IndexFunc_of_1.pin, slices_IndexFunc_of_1.pout, Gslices_IndexFunc_of_1⟩ handNil)
noncomputable def pg (Gslices_IndexFunc_of_1 : slices_IndexFunc_of_1.G) : Prog PO := { nt := 9, np := 2, tb := tabOf tab, hd := hd Gslices_IndexFunc_of_1, cuts := cutsOf [], fin := endOf (tabOf tab) rs 2 pout }
noncomputable def q : FuncId → Bool := fun f => hasId [] f
theorem seg0 (Gslices_IndexFunc_of_1 : slices_IndexFunc_of_1.G) (x0 : List Int) : arun (pg Gslices_IndexFunc_of_1) 5000 [.code c0] (mk pin (x0, ())) = F0 Gslices_IndexFunc_of_1 x0 := by kernel_rfl
noncomputable def impl : G := fun x => F0 slices_IndexFunc_of_1.impl x.1
theorem impl_eq (x0 : List Int) : impl (x0, ()) = F0 slices_IndexFunc_of_1.impl x0 := rfl
theorem con : Con Try.prog 143 2 rs.length 2 pin pout impl := by
  refine con_of_run3 (nt := 9) (c := c0) tabGood Try.func143 (by kernel_rfl) (by kernel_rfl) (by kernel_rfl) (by kernel_rfl) (by kernel_rfl) (by kernel_rfl) (by kernel_rfl) ?_
  intro w0 O y Post hnp fin
  have hp : Parts Try.prog 143 (pg slices_IndexFunc_of_1.impl) [] := ⟨tab_ok tabGood rfl, (handAt_ok slices_IndexFunc_of_1.con handNil_ok), rfl⟩
  exact good_first (hp) (runOK_of (hp) hnp trivial fin) (fun x => (seg0 slices_IndexFunc_of_1.impl x.1))
end slices_ContainsFunc_of_1

/-! ### loop.example/wholecheck/impl.bitsValid -/
namespace impl_bitsValid
noncomputable abbrev c0 : Code := (Try.f91.body).getD .skip
noncomputable abbrev pin : Tpl := ⟨[⟨0, false, [.d (.sl i64)]⟩], []⟩
noncomputable abbrev pout : Tpl := ⟨[⟨0, false, [.d .bool]⟩], []⟩
noncomputable abbrev PI := (List Int) × Unit
noncomputable abbrev PO := Bool × Unit
noncomputable abbrev G := PI → Option PO
noncomputable abbrev rs : List ResultVar := [.tmp 2]
noncomputable def F0 (Gslices_ContainsFunc_of_1 : slices_ContainsFunc_of_1.G) (x0 : List Int) : Option PO :=
  Option.bind (Gslices_ContainsFunc_of_1 (x0, ())) fun y0 =>
  some (!y0.1, ())
noncomputable def hd {R : Type} (Gslices_ContainsFunc_of_1 : slices_ContainsFunc_of_1.G) : Hand R := (handAt 143 [4] true ⟨2, 1, 2, slices_ContainsFunc_of_1.pin, slices_ContainsFunc_of_1.pout, Gslices_ContainsFunc_of_1⟩ handNil)
noncomputable def pg (Gslices_ContainsFunc_of_1 : slices_ContainsFunc_of_1.G) : Prog PO := { nt := 6, np := 1, tb := tabOf tab, hd := hd Gslices_ContainsFunc_of_1, cuts := cutsOf [], fin := endOf (tabOf tab) rs 1 pout }
noncomputable def q : FuncId → Bool := fun f => hasId [] f
theorem seg0 (Gslices_ContainsFunc_of_1 : slices_ContainsFunc_of_1.G) (x0 : List Int) : arun (pg Gslices_ContainsFunc_of_1) 5000 [.code c0] (mk pin (x0, ())) = F0 Gslices_ContainsFunc_of_1 x0 := by kernel_rfl
noncomputable def impl : G := fun x => F0 slices_ContainsFunc_of_1.impl x.1
theorem impl_eq (x0 : List Int) : impl (x0, ()) = F0 slices_ContainsFunc_of_1.impl x0 := rfl
theorem con : Con Try.prog 91 1 rs.length 1 pin pout impl := by
  refine con_of_run3 (nt := 6) (c := c0) tabGood Try.func91 (by kernel_rfl) (by kernel_rfl) (by kernel_rfl) (by kernel_rfl) (by kernel_rfl) (by kernel_rfl) (by kernel_rfl) ?_
  intro w0 O y Post hnp fin
  have hp : Parts Try.prog 91 (pg slices_ContainsFunc_of_1.impl) [] := ⟨tab_ok tabGood rfl, (handAt_ok slices_ContainsFunc_of_1.con handNil_ok), rfl⟩
  exact good_first (hp) (runOK_of (hp) hnp trivial fin) (fun x => (seg0 slices_ContainsFunc_of_1.impl x.1))
end impl_bitsValid

/-! ### loop.example/wholecheck/impl.letterOk -/
namespace impl_letterOk
noncomputable abbrev c0 : Code := (Try.f43.body).getD .skip
noncomputable abbrev pin : Tpl := ⟨[⟨0, false, [.d (.sl i64)]⟩, ⟨1, false, [.d i64]⟩], []⟩
noncomputable abbrev pout : Tpl := ⟨[⟨0, false, [.d .bool]⟩], []⟩
noncomputable abbrev PI := (List Int) × Int × Unit
noncomputable abbrev PO := Bool × Unit
noncomputable abbrev G := PI → Option PO
noncomputable abbrev rs : List ResultVar := [.tmp 4]
noncomputable def F0 (Gimpl_bitsValid : impl_bitsValid.G) (x0 : List Int) (x1 : Int) : Option PO :=
  bif (x0.length : Int) == x1 then
    Option.bind (Gimpl_bitsValid (x0, ())) fun y0 =>
    some (y0.1, ())
  else
    some (false, ())
noncomputable def hd {R : Type} (Gimpl_bitsValid : impl_bitsValid.G) : Hand R := (handAt 91 [11] true ⟨1, 1, 1, impl_bitsValid.pin, impl_bitsValid.pout, Gimpl_bitsValid⟩ handNil)
noncomputable def pg (Gimpl_bitsValid : impl_bitsValid.G) : Prog PO := { nt := 13, np := 2, tb := tabOf tab, hd := hd Gimpl_bitsValid, cuts := cutsOf [], fin := endOf (tabOf tab) rs 2 pout }
noncomputable def q : FuncId → Bool := fun f => hasId [91] f
theorem seg0 (Gimpl_bitsValid : impl_bitsValid.G) (x0 : List Int) (x1 : Int) : arun (pg Gimpl_bitsValid) 5000 [.code c0] (mk pin (x0, x1, ())) = F0 Gimpl_bitsValid x0 x1 := by kernel_rfl
noncomputable def impl : G := fun x => F0 impl_bitsValid.impl x.1 x.2.1
theorem impl_eq (x0 : List Int) (x1 : Int) : impl (x0, x1, ()) = F0 impl_bitsValid.impl x0 x1 := rfl
theorem con : Con Try.prog 43 2 rs.length 2 pin pout impl := by
  refine con_of_run3 (nt := 13) (c := c0) tabGood Try.func43 (by kernel_rfl) (by kernel_rfl) (by kernel_rfl) (by kernel_rfl) (by kernel_rfl) (by kernel_rfl) (by kernel_rfl) ?_
  intro w0 O y Post hnp fin
  have hp : Parts Try.prog 43 (pg impl_bitsValid.impl) [] := ⟨tab_ok tabGood rfl, (handAt_ok impl_bitsValid.con handNil_ok), rfl⟩
  exact good_first (hp) (runOK_of (hp) hnp trivial fin) (fun x => (seg0 impl_bitsValid.impl x.1 x.2.1))
end impl_letterOk

/-! ### loop.example/wholecheck/impl.WordValid$1 -/
namespace impl_WordValid_1
noncomputable abbrev c0 : Code := (Try.f42.body).getD .skip
noncomputable abbrev pin : Tpl := ⟨[⟨0, false, [.d (.sl i64)]⟩, ⟨1, false, [.ptr 500001 0]⟩], [(500001, .box [.d i64])]⟩
noncomputable abbrev pout : Tpl := ⟨[⟨0, false, [.d .bool]⟩, ⟨2, false, [.ptr 500001 0]⟩], [(500001, .box [.d i64])]⟩
noncomputable abbrev PI := (List Int) × Int × Unit
noncomputable abbrev PO := Bool × Int × Unit
noncomputable abbrev G := PI → Option PO
noncomputable abbrev rs : List ResultVar := [.tmp 3]
noncomputable def F0 (Gimpl_letterOk : impl_letterOk.G) (x0 : List Int) (c1_0 : Int) : Option PO :=
  Option.bind (Gimpl_letterOk (x0, c1_0, ())) fun y0 =>
  some (!y0.1, c1_0, ())
noncomputable def hd {R : Type} (Gimpl_letterOk : impl_letterOk.G) : Hand R := (handAt 43 [6] true ⟨2, 1, 2, impl_letterOk.pin, impl_letterOk.pout, Gimpl_letterOk⟩ handNil)
noncomputable def pg (Gimpl_letterOk : impl_letterOk.G) : Prog PO := { nt := 8, np := 2, tb := tabOf tab, hd := hd Gimpl_letterOk, cuts := cutsOf [], fin := endOf (tabOf tab) rs 2 pout }
noncomputable def q : FuncId → Bool := fun f => hasId [43] f
theorem seg0 (Gimpl_letterOk : impl_letterOk.G) (x0 : List Int) (c1_0 : Int) : arun (pg Gimpl_letterOk) 5000 [.code c0] (mk pin (x0, c1_0, ())) = F0 Gimpl_letterOk x0 c1_0 := by kernel_rfl
noncomputable def impl : G := fun x => F0 impl_letterOk.impl x.1 x.2.1
theorem impl_eq (x0 : List Int) (c1_0 : Int) : impl (x0, c1_0, ()) = F0 impl_letterOk.impl x0 c1_0 := rfl
theorem con : Con Try.prog 42 2 rs.length 2 pin pout impl := by
  refine con_of_run3 (nt := 8) (c := c0) tabGood Try.func42 (by kernel_rfl) (by kernel_rfl) (by kernel_rfl) (by kernel_rfl) (by kernel_rfl) (by kernel_rfl) (by kernel_rfl) ?_
  intro w0 O y Post hnp fin
  have hp : Parts Try.prog 42 (pg impl_letterOk.impl) [] := ⟨tab_ok tabGood rfl, (handAt_ok impl_letterOk.con handNil_ok), rfl⟩
  exact good_first (hp) (runOK_of (hp) hnp trivial fin) (fun x => (seg0 impl_letterOk.impl x.1 x.2.1))
end impl_WordValid_1

/-! ### slices.IndexFunc[[][]int,[]int] -/
namespace slices_IndexFunc_of
noncomputable abbrev c0 : Code := (Try.f92.body).getD .skip
noncomputable abbrev pin : Tpl := ⟨[⟨0, false, [.d (.sl (.sl i64))]⟩, ⟨1, false, [.fn 42 [(500001, 0)]]⟩], [(500001, .box [.d i64])]⟩
noncomputable abbrev pout : Tpl := ⟨[⟨0, false, [.d i64]⟩, ⟨2, false, [.fn 42 [(500001, 0)]]⟩], [(500001, .box [.d i64])]⟩
noncomputable abbrev p2 : Tpl := ⟨[⟨0, false, [.d (.sl (.sl i64))]⟩, ⟨1, false, [.fn 42 [(500001, 0)]]⟩, ⟨7, false, [.d i64]⟩, ⟨8, false, [.d i64]⟩], [(500001, .box [.d i64])]⟩
noncomputable def T2 : List Item := (find 2 c0 []).getD []
noncomputable abbrev PI := (List (List Int)) × Int × Unit
noncomputable abbrev PO := Int × Int × Unit
noncomputable abbrev G := PI → Option PO
noncomputable abbrev P2 := (List (List Int)) × Int × Int × Int × Unit
noncomputable abbrev C2 := P2 → Option PO
noncomputable abbrev rs : List ResultVar := [.tmp 4]
noncomputable def F0 (J2 : C2) (x0 : List (List Int)) (c1_0 : Int) : Option PO :=
  J2 (x0, (x0.length : Int), 0, c1_0, ())
noncomputable def F2 (J2 : C2) (Gimpl_WordValid_1 : impl_WordValid_1.G) (t0 : List (List Int)) (t7 : Int) (t8 : Int) (c1_0 : Int) : Option PO :=
  bif decide (t8 < t7) then
    bif inb t8 t0.length then
      Option.bind (Gimpl_WordValid_1 (t0.getD t8.toNat [], c1_0, ())) fun y0 =>
      bif y0.1 then
        some (t8, y0.2.1, ())
      else
        J2 (t0, t7, wI (t8 + 1), y0.2.1, ())
    else
      none
  else
    some ((-1), c1_0, ())
noncomputable def hd {R : Type} (Gimpl_WordValid_1 : impl_WordValid_1.G) : Hand R := (handAt 42 [16] true ⟨2, 1, 2, impl_WordValid_1.pin, impl_WordValid_1.pout, Gimpl_WordValid_1⟩ handNil)
noncomputable def pg (Gimpl_WordValid_1 : impl_WordValid_1.G) (J2 : List Item → C2) : Prog PO := { nt := 19, np := 2, tb := tabOf tab, hd := hd Gimpl_WordValid_1, cuts := cutsOf [(2, cut p2 J2)], fin := endOf (tabOf tab) rs 2 pout }
noncomputable def q : FuncId → Bool := fun f => hasId [] f
theorem seg0 (Gimpl_WordValid_1 : impl_WordValid_1.G) (J2 : List Item → C2) (x0 : List (List Int)) (c1_0 : Int) : arun (pg Gimpl_WordValid_1 J2) 5000 [.code c0] (mk pin (x0, c1_0, ())) = F0 (J2 T2) x0 c1_0 := by kernel_rfl
theorem seg2 (Gimpl_WordValid_1 : impl_WordValid_1.G) (J2 : List Item → C2) (t0 : List (List Int)) (t7 : Int) (t8 : Int) (c1_0 : Int) : arun1 (pg Gimpl_WordValid_1 J2) 5000 T2 (mk p2 (t0, t7, t8, c1_0, ())) = F2 (J2 T2) Gimpl_WordValid_1 t0 t7 t8 c1_0 := by kernel_rfl
noncomputable def L2 : C2 := lfp fun J2 x => F2 J2 impl_WordValid_1.impl x.1 x.2.1 x.2.2.1 x.2.2.2.1
noncomputable def impl : G := fun x => F0 L2 x.1 x.2.1
theorem F2_le {J2 J2' : C2} (h2 : OLe J2 J2') {Gimpl_WordValid_1 : impl_WordValid_1.G} (t0 : List (List Int)) (t7 : Int) (t8 : Int) (c1_0 : Int) : OptLe (F2 J2 Gimpl_WordValid_1 t0 t7 t8 c1_0) (F2 J2' Gimpl_WordValid_1 t0 t7 t8 c1_0) := by unfold F2; exact .cond (.cond (.bind (.refl _) fun _ => .cond (.refl _) (.of h2 _)) (.refl _)) (.refl _)
theorem L2_mono : OMono fun J2 (x : P2) => F2 J2 impl_WordValid_1.impl x.1 x.2.1 x.2.2.1 x.2.2.2.1 := fun J J' h2 x => F2_le h2 x.1 x.2.1 x.2.2.1 x.2.2.2.1
theorem L2_eq (t0 : List (List Int)) (t7 : Int) (t8 : Int) (c1_0 : Int) : L2 (t0, t7, t8, c1_0, ()) = F2 (L2) impl_WordValid_1.impl t0 t7 t8 c1_0 := congrFun (lfp_eq (L2_mono)) _
theorem impl_eq (x0 : List (List Int)) (c1_0 : Int) : impl (x0, c1_0, ()) = F0 L2 x0 c1_0 := rfl
theorem con : Con Try.prog 92 2 rs.length 2 pin pout impl := by
  refine con_of_run3 (nt := 19) (c := c0) tabGood Try.func92 (by kernel_rfl) (by kernel_rfl) (by kernel_rfl) (by kernel_rfl) (by kernel_rfl) (by kernel_rfl) (by kernel_rfl) ?_
  intro w0 O y Post hnp fin
  have hp : ∀ (J2 : List Item → C2), Parts Try.prog 92 (pg impl_WordValid_1.impl J2) [(2, cut p2 J2)] := fun J2 => ⟨tab_ok tabGood rfl, (handAt_ok impl_WordValid_1.con handNil_ok), rfl⟩
  have g2 : Good Try.prog 19 w0 O Post y T2 p2 L2 := good_lfp fun J2 h2 => good_part (hp (atT T2 J2)) (runOK_of (hp (atT T2 J2)) hnp ⟨cutOK_at h2, trivial⟩ fin) (fun x => (seg2 impl_WordValid_1.impl (atT T2 J2) x.1 x.2.1 x.2.2.1 x.2.2.2.1).trans (by simp only [atT_self] <;> rfl))
  exact good_first (hp (atT T2 L2)) (runOK_of (hp (atT T2 L2)) hnp ⟨cutOK_at g2, trivial⟩ fin) (fun x => (seg0 impl_WordValid_1.impl (atT T2 L2) x.1 x.2.1).trans (by simp only [atT_self] <;> rfl))
end slices_IndexFunc_of

/-! ### slices.ContainsFunc[[][]int,[]int] -/
namespace slices_ContainsFunc_of
noncomputable abbrev c0 : Code := (Try.f45.body).getD .skip
noncomputable abbrev pin : Tpl := ⟨[⟨0, false, [.d (.sl (.sl i64))]⟩, ⟨1, false, [.fn 42 [(500001, 0)]]⟩], [(500001, .box [.d i64])]⟩
noncomputable abbrev pout : Tpl := ⟨[⟨0, false, [.d .bool]⟩, ⟨2, false, [.fn 42 [(500001, 0)]]⟩], [(500001, .box [.d i64])]⟩
noncomputable abbrev PI := (List (List Int)) × Int × Unit
noncomputable abbrev PO := Bool × Int × Unit
noncomputable abbrev G := PI → Option PO
noncomputable abbrev rs : List ResultVar := [.tmp 4]
noncomputable def F0 (Gslices_IndexFunc_of : slices_IndexFunc_of.G) (x0 : List (List Int)) (c1_0 : Int) : Option PO :=
  Option.bind (Gslices_IndexFunc_of (x0, c1_0, ())) fun y0 =>
  some (decide (y0.1 ≥ 0), y0.2.1, ())
noncomputable def hd {R : Type} (Gslices_IndexFunc_of : slices_IndexFunc_of.G) : Hand R := (handAt 92 [7] true ⟨2, 1, 2, slices_IndexFunc_of.pin, slices_IndexFunc_of.pout, Gslices_IndexFunc_of⟩ handNil)
noncomputable def pg (Gslices_IndexFunc_of : slices_IndexFunc_of.G) : Prog PO := { nt := 9, np := 2, tb := tabOf tab, hd := hd Gslices_IndexFunc_of, cuts := cutsOf [], fin := endOf (tabOf tab) rs 2 pout }
noncomputable def q : FuncId → Bool := fun f => hasId [] f
theorem seg0 (Gslices_IndexFunc_of : slices_IndexFunc_of.G) (x0 : List (List Int)) (c1_0 : Int) : arun (pg Gslices_IndexFunc_of) 5000 [.code c0] (mk pin (x0, c1_0, ())) = F0 Gslices_IndexFunc_of x0 c1_0 := by kernel_rfl
noncomputable def impl : G := fun x => F0 slices_IndexFunc_of.impl x.1 x.2.1
theorem impl_eq (x0 : List (List Int)) (c1_0 : Int) : impl (x0, c1_0, ()) = F0 slices_IndexFunc_of.impl x0 c1_0 := rfl
theorem con : Con Try.prog 45 2 rs.length 2 pin pout impl := by
  refine con_of_run3 (nt := 9) (c := c0) tabGood Try.func45 (by kernel_rfl) (by kernel_rfl) (by kernel_rfl) (by kernel_rfl) (by kernel_rfl) (by kernel_rfl) (by kernel_rfl) ?_
  intro w0 O y Post hnp fin
  have hp : Parts Try.prog 45 (pg slices_IndexFunc_of.impl) [] := ⟨tab_ok tabGood rfl, (handAt_ok slices_IndexFunc_of.con handNil_ok), rfl⟩
  exact good_first (hp) (runOK_of (hp) hnp trivial fin) (fun x => (seg0 slices_IndexFunc_of.impl x.1 x.2.1))
end slices_ContainsFunc_of

/-! ### loop.example/wholecheck/impl.WordValid -/
namespace impl_WordValid
noncomputable abbrev c0 : Code := (Try.f10.body).getD .skip
noncomputable abbrev pin : Tpl := ⟨[⟨0, false, [.d (.sl (.sl i64))]⟩, ⟨1, false, [.d (.sl (.sl i64))]⟩, ⟨2, false, [.d i64]⟩], []⟩
noncomputable abbrev pout : Tpl := ⟨[⟨0, false, [.d .bool]⟩], []⟩
noncomputable abbrev PI := (List (List Int)) × (List (List Int)) × Int × Unit
noncomputable abbrev PO := Bool × Unit
noncomputable abbrev G := PI → Option PO
noncomputable abbrev rs : List ResultVar := [.tmp 6]
noncomputable def F0 (Gimpl_in : impl_in.G) (Gslices_ContainsFunc_of : slices_ContainsFunc_of.G) (x0 : List (List Int)) (x1 : List (List Int)) (x2 : Int) : Option PO :=
  Option.bind (Gimpl_in (x2, 0, 4, ())) fun y0 =>
  bif y0.1 then
    bif decide ((x1.length : Int) > 0) then
      bif decide (wI ((x0.length : Int) + (x1.length : Int)) ≤ 60) then
        Option.bind (Gslices_ContainsFunc_of (x0, x2, ())) fun y1 =>
        bif !y1.1 then
          Option.bind (Gslices_ContainsFunc_of (x1, y1.2.1, ())) fun y2 =>
          some (!y2.1, ())
        else
          some (false, ())
      else
        some (false, ())
    else
      some (false, ())
  else
    some (false, ())
noncomputable def hd {R : Type} (Gimpl_in : impl_in.G) (Gslices_ContainsFunc_of : slices_ContainsFunc_of.G) : Hand R := (handAt 45 [27, 33] true ⟨2, 1, 2, slices_ContainsFunc_of.pin, slices_ContainsFunc_of.pout, Gslices_ContainsFunc_of⟩ (handAt 44 [10] true ⟨3, 1, 3, impl_in.pin, impl_in.pout, Gimpl_in⟩ handNil))
noncomputable def pg (Gimpl_in : impl_in.G) (Gslices_ContainsFunc_of : slices_ContainsFunc_of.G) : Prog PO := { nt := 36, np := 3, tb := tabOf tab, hd := hd Gimpl_in Gslices_ContainsFunc_of, cuts := cutsOf [], fin := endOf (tabOf tab) rs 3 pout }
noncomputable def q : FuncId → Bool := fun f => hasId [44] f
theorem seg0 (Gimpl_in : impl_in.G) (Gslices_ContainsFunc_of : slices_ContainsFunc_of.G) (x0 : List (List Int)) (x1 : List (List Int)) (x2 : Int) : arun (pg Gimpl_in Gslices_ContainsFunc_of) 5000 [.code c0] (mk pin (x0, x1, x2, ())) = F0 Gimpl_in Gslices_ContainsFunc_of x0 x1 x2 := by kernel_rfl
noncomputable def impl : G := fun x => F0 impl_in.impl slices_ContainsFunc_of.impl x.1 x.2.1 x.2.2.1
theorem impl_eq (x0 : List (List Int)) (x1 : List (List Int)) (x2 : Int) : impl (x0, x1, x2, ()) = F0 impl_in.impl slices_ContainsFunc_of.impl x0 x1 x2 := rfl
theorem con : Con Try.prog 10 3 rs.length 3 pin pout impl := by
  refine con_of_run3 (nt := 36) (c := c0) tabGood Try.func10 (by kernel_rfl) (by kernel_rfl) (by kernel_rfl) (by kernel_rfl) (by kernel_rfl) (by kernel_rfl) (by kernel_rfl) ?_
  intro w0 O y Post hnp fin
  have hp : Parts Try.prog 10 (pg impl_in.impl slices_ContainsFunc_of.impl) [] := ⟨tab_ok tabGood rfl, (handAt_ok slices_ContainsFunc_of.con (handAt_ok impl_in.con handNil_ok)), rfl⟩
  exact good_first (hp) (runOK_of (hp) hnp trivial fin) (fun x => (seg0 impl_in.impl slices_ContainsFunc_of.impl x.1 x.2.1 x.2.2.1))
end impl_WordValid

/-! ### slices.Grow[[][]int,[]int] -/
namespace slices_Grow_of
noncomputable abbrev c0 : Code := (Try.f161.body).getD .skip
noncomputable abbrev pin : Tpl := ⟨[⟨0, false, [.nilS]⟩, ⟨1, false, [.d i64]⟩], []⟩
noncomputable abbrev pout : Tpl := ⟨[⟨0, false, [.row 600001]⟩], [(600001, .row 60 false (.sl i64))]⟩
noncomputable abbrev p3 : Tpl := ⟨[⟨0, false, [.nilS]⟩, ⟨1, false, [.d i64]⟩], []⟩
noncomputable def T3 : List Item := (find 3 c0 []).getD []
noncomputable abbrev PI := Int × Unit
noncomputable abbrev PO := (List (List Int)) × Unit
noncomputable abbrev G := PI → Option PO
noncomputable abbrev P3 := Int × Unit
noncomputable abbrev C3 := P3 → Option PO
noncomputable abbrev rs : List ResultVar := [.tmp 4]
noncomputable def F0 (J3 : C3) (x1 : Int) : Option PO :=
  bif decide (x1 < 0) then
    none
  else
    J3 (x1, ())
noncomputable def F3 (t1 : Int) : Option PO :=
  bif decide (wI (t1 - 0) > 0) then
    bif decide (1 ≤ wI (t1 - 0)) && decide ((wI (t1 - 0)) * 24 ≤ 140737488355328) then
      bif decide (0 ≤ ((List.replicate (wI (t1 - 0)).toNat [] : List (List Int)).length : Int)) then
        some ((List.replicate (wI (t1 - 0)).toNat [] : List (List Int)).take (0 - 0), ())
      else
        none
    else
      none
  else
    some ([], ())
noncomputable def hd {R : Type} : Hand R := handNil
noncomputable def pg (J3 : List Item → C3) : Prog PO := { nt := 27, np := 0, tb := tabOf tab, hd := hd, cuts := cutsOf [(3, cut p3 J3)], fin := endOf (tabOf tab) rs 0 pout }
noncomputable def q : FuncId → Bool := fun f => hasId [] f
theorem seg0 (J3 : List Item → C3) (x1 : Int) : arun (pg J3) 5000 [.code c0] (mk pin (x1, ())) = F0 (J3 T3) x1 := by kernel_rfl
theorem seg3 (J3 : List Item → C3) (t1 : Int) : arun1 (pg J3) 5000 T3 (mk p3 (t1, ())) = F3 t1 := by kernel_rfl
noncomputable def L3 : C3 := fun x => F3 x.1
noncomputable def impl : G := fun x => F0 L3 x.1
theorem L3_eq (t1 : Int) : L3 (t1, ()) = F3 t1 := rfl
theorem impl_eq (x1 : Int) : impl (x1, ()) = F0 L3 x1 := rfl
theorem con : Con Try.prog 161 2 rs.length 0 pin pout impl := by
  refine con_of_run3 (nt := 27) (c := c0) tabGood Try.func161 (by kernel_rfl) (by kernel_rfl) (by kernel_rfl) (by kernel_rfl) (by kernel_rfl) (by kernel_rfl) (by kernel_rfl) ?_
  intro w0 O y Post hnp fin
  have hp : ∀ (J3 : List Item → C3), Parts Try.prog 161 (pg J3) [(3, cut p3 J3)] := fun J3 => ⟨tab_ok tabGood rfl, handNil_ok, rfl⟩
  have g3 : Good Try.prog 27 w0 O Post y T3 p3 L3 := good_part (hp (atT T3 (fun _ => none))) (runOK_of (hp (atT T3 (fun _ => none))) hnp ⟨cutOK_at (p := p3) (T := T3) (J := fun _ => none) good_none, trivial⟩ fin) (fun x => (seg3 (atT T3 (fun _ => none)) x.1))
  exact good_first (hp (atT T3 L3)) (runOK_of (hp (atT T3 L3)) hnp ⟨cutOK_at g3, trivial⟩ fin) (fun x => (seg0 (atT T3 L3) x.1).trans (by simp only [atT_self] <;> rfl))
end slices_Grow_of

/-! ### slices.Concat[[][]int,[]int] -/
namespace slices_Concat_of
noncomputable abbrev c0 : Code := (Try.f136.body).getD .skip
noncomputable abbrev pin : Tpl := ⟨[⟨0, false, [.d (.sl (.sl (.sl i64)))]⟩], []⟩
noncomputable abbrev pout : Tpl := ⟨[⟨0, false, [.row 600001]⟩], [(600001, .row 60 false (.sl i64))]⟩
noncomputable abbrev p3 : Tpl := ⟨[⟨0, false, [.d (.sl (.sl (.sl i64)))]⟩, ⟨3, false, [.d i64]⟩, ⟨9, false, [.d (.sl (.sl (.sl i64)))]⟩, ⟨10, false, [.d i64]⟩, ⟨11, false, [.d i64]⟩], []⟩
noncomputable def T3 : List Item := (find 3 c0 []).getD []
noncomputable abbrev p11 : Tpl := ⟨[⟨6, false, [.row 3000000]⟩, ⟨25, false, [.d (.sl (.sl (.sl i64)))]⟩, ⟨26, false, [.d i64]⟩, ⟨27, false, [.d i64]⟩], [(3000000, .row 60 false (.sl i64))]⟩
noncomputable def T11 : List Item := (find 11 c0 []).getD []
noncomputable abbrev PI := (List (List (List Int))) × Unit
noncomputable abbrev PO := (List (List Int)) × Unit
noncomputable abbrev G := PI → Option PO
noncomputable abbrev P3 := (List (List (List Int))) × Int × (List (List (List Int))) × Int × Int × Unit
noncomputable abbrev C3 := P3 → Option PO
noncomputable abbrev P11 := (List (List (List Int))) × Int × Int × (List (List Int)) × Unit
noncomputable abbrev C11 := P11 → Option PO
noncomputable abbrev rs : List ResultVar := [.tmp 2]
noncomputable def F0 (J3 : C3) (x0 : List (List (List Int))) : Option PO :=
  J3 (x0, 0, x0, (x0.length : Int), 0, ())
noncomputable def F3 (J3 : C3) (J11 : C11) (Gslices_Grow_of : slices_Grow_of.G) (t0 : List (List (List Int))) (t3 : Int) (t9 : List (List (List Int))) (t10 : Int) (t11 : Int) : Option PO :=
  bif decide (t11 < t10) then
    bif inb t11 t9.length then
      bif decide (wI (t3 + ((t9.getD t11.toNat []).length : Int)) < 0) then
        none
      else
        J3 (t0, wI (t3 + ((t9.getD t11.toNat []).length : Int)), t9, t10, wI (t11 + 1), ())
    else
      none
  else
    Option.bind (Gslices_Grow_of (t3, ())) fun y0 =>
    J11 (t0, (t0.length : Int), 0, y0.1, ())
noncomputable def F11 (J11 : C11) (t25 : List (List (List Int))) (t26 : Int) (t27 : Int) (r0 : List (List Int)) : Option PO :=
  bif decide (t27 < t26) then
    bif inb t27 t25.length then
      bif decide ((r0.length + (t25.getD t27.toNat []).length) * 24 ≤ 140737488355328) then
        J11 (t25, t26, wI (t27 + 1), r0 ++ (t25.getD t27.toNat []), ())
      else
        none
    else
      none
  else
    some (r0, ())
noncomputable def hd {R : Type} (Gslices_Grow_of : slices_Grow_of.G) : Hand R := (handAt 161 [24] false ⟨2, 1, 0, slices_Grow_of.pin, slices_Grow_of.pout, Gslices_Grow_of⟩ handNil)
noncomputable def pg (Gslices_Grow_of : slices_Grow_of.G) (J3 : List Item → C3) (J11 : List Item → C11) : Prog PO := { nt := 36, np := 1, tb := tabOf tab, hd := hd Gslices_Grow_of, cuts := cutsOf [(3, cut p3 J3), (11, cut p11 J11)], fin := endOf (tabOf tab) rs 1 pout }
noncomputable def q : FuncId → Bool := fun f => hasId [] f
theorem seg0 (Gslices_Grow_of : slices_Grow_of.G) (J3 : List Item → C3) (J11 : List Item → C11) (x0 : List (List (List Int))) : arun (pg Gslices_Grow_of J3 J11) 5000 [.code c0] (mk pin (x0, ())) = F0 (J3 T3) x0 := by kernel_rfl
theorem seg3 (Gslices_Grow_of : slices_Grow_of.G) (J3 : List Item → C3) (J11 : List Item → C11) (t0 : List (List (List Int))) (t3 : Int) (t9 : List (List (List Int))) (t10 : Int) (t11 : Int) : arun1 (pg Gslices_Grow_of J3 J11) 5000 T3 (mk p3 (t0, t3, t9, t10, t11, ())) = F3 (J3 T3) (J11 T11) Gslices_Grow_of t0 t3 t9 t10 t11 := by kernel_rfl
theorem seg11 (Gslices_Grow_of : slices_Grow_of.G) (J3 : List Item → C3) (J11 : List Item → C11) (t25 : List (List (List Int))) (t26 : Int) (t27 : Int) (r0 : List (List Int)) : arun1 (pg Gslices_Grow_of J3 J11) 5000 T11 (mk p11 (t25, t26, t27, r0, ())) = F11 (J11 T11) t25 t26 t27 r0 := by kernel_rfl
noncomputable def L11 : C11 := lfp fun J11 x => F11 J11 x.1 x.2.1 x.2.2.1 x.2.2.2.1
noncomputable def L3 : C3 := lfp fun J3 x => F3 J3 L11 slices_Grow_of.impl x.1 x.2.1 x.2.2.1 x.2.2.2.1 x.2.2.2.2.1
noncomputable def impl : G := fun x => F0 L3 x.1
theorem F11_le {J11 J11' : C11} (h11 : OLe J11 J11') (t25 : List (List (List Int))) (t26 : Int) (t27 : Int) (r0 : List (List Int)) : OptLe (F11 J11 t25 t26 t27 r0) (F11 J11' t25 t26 t27 r0) := by unfold F11; exact .cond (.cond (.cond (.of h11 _) (.refl _)) (.refl _)) (.refl _)
theorem F3_le {J3 J3' : C3} (h3 : OLe J3 J3') {J11 J11' : C11} (h11 : OLe J11 J11') {Gslices_Grow_of : slices_Grow_of.G} (t0 : List (List (List Int))) (t3 : Int) (t9 : List (List (List Int))) (t10 : Int) (t11 : Int) : OptLe (F3 J3 J11 Gslices_Grow_of t0 t3 t9 t10 t11) (F3 J3' J11' Gslices_Grow_of t0 t3 t9 t10 t11) := by unfold F3; exact .cond (.cond (.cond (.refl _) (.of h3 _)) (.refl _)) (.bind (.refl _) fun _ => .of h11 _)
theorem L11_mono : OMono fun J11 (x : P11) => F11 J11 x.1 x.2.1 x.2.2.1 x.2.2.2.1 := fun J J' h11 x => F11_le h11 x.1 x.2.1 x.2.2.1 x.2.2.2.1
theorem L11_eq (t25 : List (List (List Int))) (t26 : Int) (t27 : Int) (r0 : List (List Int)) : L11 (t25, t26, t27, r0, ()) = F11 (L11) t25 t26 t27 r0 := congrFun (lfp_eq (L11_mono)) _
theorem L3_mono : OMono fun J3 (x : P3) => F3 J3 L11 slices_Grow_of.impl x.1 x.2.1 x.2.2.1 x.2.2.2.1 x.2.2.2.2.1 := fun J J' h3 x => F3_le h3 (fun _ _ h => h) x.1 x.2.1 x.2.2.1 x.2.2.2.1 x.2.2.2.2.1
theorem L3_eq (t0 : List (List (List Int))) (t3 : Int) (t9 : List (List (List Int))) (t10 : Int) (t11 : Int) : L3 (t0, t3, t9, t10, t11, ()) = F3 (L3) (L11) slices_Grow_of.impl t0 t3 t9 t10 t11 := congrFun (lfp_eq (L3_mono)) _
theorem impl_eq (x0 : List (List (List Int))) : impl (x0, ()) = F0 L3 x0 := rfl
theorem con : Con Try.prog 136 1 rs.length 1 pin pout impl := by
  refine con_of_run3 (nt := 36) (c := c0) tabGood Try.func136 (by kernel_rfl) (by kernel_rfl) (by kernel_rfl) (by kernel_rfl) (by kernel_rfl) (by kernel_rfl) (by kernel_rfl) ?_
  intro w0 O y Post hnp fin
  have hp : ∀ (J3 : List Item → C3), ∀ (J11 : List Item → C11), Parts Try.prog 136 (pg slices_Grow_of.impl J3 J11) [(3, cut p3 J3), (11, cut p11 J11)] := fun J3 J11 => ⟨tab_ok tabGood rfl, (handAt_ok slices_Grow_of.con handNil_ok), rfl⟩
  have g11 : Good Try.prog 36 w0 O Post y T11 p11 L11 := good_lfp fun J11 h11 => good_part (hp (atT T3 (fun _ => none)) (atT T11 J11)) (runOK_of (hp (atT T3 (fun _ => none)) (atT T11 J11)) hnp ⟨cutOK_at (p := p3) (T := T3) (J := fun _ => none) good_none, cutOK_at h11, trivial⟩ fin) (fun x => (seg11 slices_Grow_of.impl (atT T3 (fun _ => none)) (atT T11 J11) x.1 x.2.1 x.2.2.1 x.2.2.2.1).trans (by simp only [atT_self] <;> rfl))
  have g3 : Good Try.prog 36 w0 O Post y T3 p3 L3 := good_lfp fun J3 h3 => good_part (hp (atT T3 J3) (atT T11 L11)) (runOK_of (hp (atT T3 J3) (atT T11 L11)) hnp ⟨cutOK_at h3, cutOK_at g11, trivial⟩ fin) (fun x => (seg3 slices_Grow_of.impl (atT T3 J3) (atT T11 L11) x.1 x.2.1 x.2.2.1 x.2.2.2.1 x.2.2.2.2.1).trans (by simp only [atT_self] <;> rfl))
  exact good_first (hp (atT T3 L3) (atT T11 (fun _ => none))) (runOK_of (hp (atT T3 L3) (atT T11 (fun _ => none))) hnp ⟨cutOK_at g3, cutOK_at (p := p11) (T := T11) (J := fun _ => none) good_none, trivial⟩ fin) (fun x => (seg0 slices_Grow_of.impl (atT T3 L3) (atT T11 (fun _ => none)) x.1).trans (by simp only [atT_self] <;> rfl))
end slices_Concat_of

/-! ### loop.example/wholecheck/impl.timesOn$1 -/
namespace impl_timesOn_1
noncomputable abbrev c0 : Code := (Try.f137.body).getD .skip
noncomputable abbrev pin : Tpl := ⟨[⟨0, false, [.d i64]⟩, ⟨1, false, [.ptr 500001 0]⟩, ⟨2, false, [.ptr 500002 0]⟩], [(500001, .box [.d i64]), (500002, .box [.d (.sl (.sl i64))])]⟩
noncomputable abbrev pout : Tpl := ⟨[⟨0, false, [.d i64]⟩, ⟨2, false, [.ptr 500001 0]⟩, ⟨3, false, [.ptr 500002 0]⟩], [(500001, .box [.d i64]), (500002, .box [.d (.sl (.sl i64))])]⟩
noncomputable abbrev PI := Int × Int × (List (List Int)) × Unit
noncomputable abbrev PO := Int × Int × (List (List Int)) × Unit
noncomputable abbrev G := PI → Option PO
noncomputable abbrev rs : List ResultVar := [.tmp 4]
noncomputable def F0 (x0 : Int) (c1_0 : Int) (c2_0 : List (List Int)) : Option PO :=
  bif wI (x0 + 1) == c1_0 then
    some ((c2_0.length : Int), c1_0, c2_0, ())
  else
    some (wI (x0 + 1), c1_0, c2_0, ())
noncomputable def hd {R : Type} : Hand R := handNil
noncomputable def pg : Prog PO := { nt := 13, np := 3, tb := tabOf tab, hd := hd, cuts := cutsOf [], fin := endOf (tabOf tab) rs 3 pout }
noncomputable def q : FuncId → Bool := fun f => hasId [] f
theorem seg0 (x0 : Int) (c1_0 : Int) (c2_0 : List (List Int)) : arun (pg) 5000 [.code c0] (mk pin (x0, c1_0, c2_0, ())) = F0 x0 c1_0 c2_0 := by kernel_rfl
noncomputable def impl : G := fun x => F0 x.1 x.2.1 x.2.2.1
theorem impl_eq (x0 : Int) (c1_0 : Int) (c2_0 : List (List Int)) : impl (x0, c1_0, c2_0, ()) = F0 x0 c1_0 c2_0 := rfl
theorem con : Con Try.prog 137 3 rs.length 3 pin pout impl := by
  refine con_of_run3 (nt := 13) (c := c0) tabGood Try.func137 (by kernel_rfl) (by kernel_rfl) (by kernel_rfl) (by kernel_rfl) (by kernel_rfl) (by kernel_rfl) (by kernel_rfl) ?_
  intro w0 O y Post hnp fin
  have hp : Parts Try.prog 137 (pg) [] := ⟨tab_ok tabGood rfl, handNil_ok, rfl⟩
  exact good_first (hp) (runOK_of (hp) hnp trivial fin) (fun x => (seg0 x.1 x.2.1 x.2.2.1))
end impl_timesOn_1

/-! ### loop.example/wholecheck/impl.timesOn$2 -/
namespace impl_timesOn_2
noncomputable abbrev c0 : Code := (Try.f138.body).getD .skip
noncomputable abbrev pin : Tpl := ⟨[⟨0, false, [.d i64]⟩, ⟨1, false, [.ptr 500001 0]⟩, ⟨2, false, [.ptr 500002 0]⟩, ⟨3, false, [.ptr 500003 0]⟩, ⟨4, false, [.ptr 500004 0]⟩, ⟨5, false, [.ptr 500005 0]⟩], [(500001, .box [.d i64, .d i64, .d i64, .d i64]), (500002, .box [.row 550006]), (500003, .box [.row 550007]), (500004, .box [.fn 137 [(500008, 0), (500009, 0)]]), (500005, .box [.row 550010]), (550006, .row 60 false (.sl i64)), (550007, .row 60 false (.sl i64)), (500008, .box [.d i64]), (500009, .box [.d (.sl (.sl i64))]), (550010, .row 3 false i64)]⟩
noncomputable abbrev pout : Tpl := ⟨[⟨0, false, [.d i64]⟩, ⟨2, false, [.ptr 500001 0]⟩, ⟨3, false, [.ptr 500002 0]⟩, ⟨4, false, [.ptr 500003 0]⟩, ⟨5, false, [.ptr 500004 0]⟩, ⟨6, false, [.ptr 500005 0]⟩], [(500001, .box [.d i64, .d i64, .d i64, .d i64]), (500002, .box [.row 550006]), (500003, .box [.row 550007]), (500004, .box [.fn 137 [(500008, 0), (500009, 0)]]), (500005, .box [.row 550010]), (550006, .row 60 false (.sl i64)), (550007, .row 60 false (.sl i64)), (500008, .box [.d i64]), (500009, .box [.d (.sl (.sl i64))]), (550010, .row 3 false i64)]⟩
noncomputable abbrev p3 : Tpl := ⟨[⟨0, false, [.d i64]⟩, ⟨1, false, [.ptr 500001 0]⟩, ⟨2, false, [.ptr 500002 0]⟩, ⟨3, false, [.ptr 500003 0]⟩, ⟨4, false, [.ptr 500004 0]⟩, ⟨5, false, [.ptr 500005 0]⟩], [(500001, .box [.d i64, .d i64, .d i64, .d i64]), (500002, .box [.row 550006]), (500003, .box [.row 550007]), (500004, .box [.fn 137 [(500008, 0), (500009, 0)]]), (500005, .box [.row 550010]), (550006, .row 60 false (.sl i64)), (550007, .row 60 false (.sl i64)), (500008, .box [.d i64]), (500009, .box [.d (.sl (.sl i64))]), (550010, .row 3 false i64)]⟩
noncomputable def T3 : List Item := (find 3 c0 []).getD []
noncomputable abbrev p4 : Tpl := ⟨[⟨0, false, [.d i64]⟩, ⟨1, false, [.ptr 500001 0]⟩, ⟨2, false, [.ptr 500002 0]⟩, ⟨3, false, [.ptr 500003 0]⟩, ⟨4, false, [.ptr 500004 0]⟩, ⟨5, false, [.ptr 500005 0]⟩, ⟨8, false, [.d i64]⟩, ⟨9, false, [.d i64]⟩], [(500001, .box [.d i64, .d i64, .d i64, .d i64]), (500002, .box [.row 550006]), (500003, .box [.row 550007]), (500004, .box [.fn 137 [(500008, 0), (500009, 0)]]), (500005, .box [.row 550010]), (550006, .row 60 false (.sl i64)), (550007, .row 60 false (.sl i64)), (500008, .box [.d i64]), (500009, .box [.d (.sl (.sl i64))]), (550010, .row 3 false i64)]⟩
noncomputable def T4 : List Item := (find 4 c0 []).getD []
noncomputable abbrev p8 : Tpl := ⟨[⟨0, false, [.d i64]⟩, ⟨1, false, [.ptr 500001 0]⟩, ⟨2, false, [.ptr 500002 0]⟩, ⟨3, false, [.ptr 500003 0]⟩, ⟨4, false, [.ptr 500004 0]⟩, ⟨5, false, [.ptr 500005 0]⟩], [(500001, .box [.d i64, .d i64, .d i64, .d i64]), (500002, .box [.row 550006]), (500003, .box [.row 550007]), (500004, .box [.fn 137 [(500008, 0), (500009, 0)]]), (500005, .box [.row 550010]), (550006, .row 60 false (.sl i64)), (550007, .row 60 false (.sl i64)), (500008, .box [.d i64]), (500009, .box [.d (.sl (.sl i64))]), (550010, .row 3 false i64)]⟩
noncomputable def T8 : List Item := (find 8 c0 []).getD []
noncomputable abbrev p16 : Tpl := ⟨[⟨0, false, [.d i64]⟩, ⟨1, false, [.ptr 500001 0]⟩, ⟨2, false, [.ptr 500002 0]⟩, ⟨3, false, [.ptr 500003 0]⟩, ⟨4, false, [.ptr 500004 0]⟩, ⟨5, false, [.ptr 500005 0]⟩], [(500001, .box [.d i64, .d i64, .d i64, .d i64]), (500002, .box [.row 550006]), (500003, .box [.row 550007]), (500004, .box [.fn 137 [(500008, 0), (500009, 0)]]), (500005, .box [.row 550010]), (550006, .row 60 false (.sl i64)), (550007, .row 60 false (.sl i64)), (500008, .box [.d i64]), (500009, .box [.d (.sl (.sl i64))]), (550010, .row 3 false i64)]⟩
noncomputable def T16 : List Item := (find 16 c0 []).getD []
noncomputable abbrev p18 : Tpl := ⟨[⟨0, false, [.d i64]⟩, ⟨1, false, [.ptr 500001 0]⟩, ⟨2, false, [.ptr 500002 0]⟩, ⟨3, false, [.ptr 500003 0]⟩, ⟨4, false, [.ptr 500004 0]⟩, ⟨5, false, [.ptr 500005 0]⟩, ⟨8, false, [.d i64]⟩, ⟨9, false, [.d i64]⟩], [(500001, .box [.d i64, .d i64, .d i64, .d i64]), (500002, .box [.row 550006]), (500003, .box [.row 550007]), (500004, .box [.fn 137 [(500008, 0), (500009, 0)]]), (500005, .box [.row 550010]), (550006, .row 60 false (.sl i64)), (550007, .row 60 false (.sl i64)), (500008, .box [.d i64]), (500009, .box [.d (.sl (.sl i64))]), (550010, .row 3 false i64)]⟩
noncomputable def T18 : List Item := (find 18 c0 []).getD []
noncomputable abbrev p19 : Tpl := ⟨[⟨0, false, [.d i64]⟩, ⟨1, false, [.ptr 500001 0]⟩, ⟨2, false, [.ptr 500002 0]⟩, ⟨3, false, [.ptr 500003 0]⟩, ⟨4, false, [.ptr 500004 0]⟩, ⟨5, false, [.ptr 500005 0]⟩, ⟨8, false, [.d i64]⟩, ⟨9, false, [.d i64]⟩], [(500001, .box [.d i64, .d i64, .d i64, .d i64]), (500002, .box [.row 550006]), (500003, .box [.row 550007]), (500004, .box [.fn 137 [(500008, 0), (500009, 0)]]), (500005, .box [.row 550010]), (550006, .row 60 false (.sl i64)), (550007, .row 60 false (.sl i64)), (500008, .box [.d i64]), (500009, .box [.d (.sl (.sl i64))]), (550010, .row 3 false i64)]⟩
noncomputable def T19 : List Item := (find 19 c0 []).getD []
noncomputable abbrev PI := Int × Int × Int × Int × Int × (List (List Int)) × (List (List Int)) × Int × (List (List Int)) × (List Int) × Unit
noncomputable abbrev PO := Int × Int × Int × Int × Int × (List (List Int)) × (List (List Int)) × Int × (List (List Int)) × (List Int) × Unit
noncomputable abbrev G := PI → Option PO
noncomputable abbrev P3 := Int × Int × Int × Int × Int × (List (List Int)) × (List (List Int)) × Int × (List (List Int)) × (List Int) × Unit
noncomputable abbrev C3 := P3 → Option PO
noncomputable abbrev P4 := Int × Int × Int × Int × Int × Int × Int × (List (List Int)) × (List (List Int)) × Int × (List (List Int)) × (List Int) × Unit
noncomputable abbrev C4 := P4 → Option PO
noncomputable abbrev P8 := Int × Int × Int × Int × Int × (List (List Int)) × (List (List Int)) × Int × (List (List Int)) × (List Int) × Unit
noncomputable abbrev C8 := P8 → Option PO
noncomputable abbrev P16 := Int × Int × Int × Int × Int × (List (List Int)) × (List (List Int)) × Int × (List (List Int)) × (List Int) × Unit
noncomputable abbrev C16 := P16 → Option PO
noncomputable abbrev P18 := Int × Int × Int × Int × Int × Int × Int × (List (List Int)) × (List (List Int)) × Int × (List (List Int)) × (List Int) × Unit
noncomputable abbrev C18 := P18 → Option PO
noncomputable abbrev P19 := Int × Int × Int × Int × Int × Int × Int × (List (List Int)) × (List (List Int)) × Int × (List (List Int)) × (List Int) × Unit
noncomputable abbrev C19 := P19 → Option PO
noncomputable abbrev rs : List ResultVar := [.tmp 7]
noncomputable def F0 (J3 : C3) (J4 : C4) (x0 : Int) (c1_0 : Int) (c1_1 : Int) (c1_2 : Int) (c1_3 : Int) (s6 : List (List Int)) (s7 : List (List Int)) (c8_0 : Int) (c9_0 : List (List Int)) (s10 : List Int) : Option PO :=
  bif decide (c1_0 > 1) then
    J3 (x0, c1_0, c1_1, c1_2, c1_3, s6, s7, c8_0, c9_0, s10, ())
  else
    J4 (x0, 0, 0, c1_0, c1_1, c1_2, c1_3, s6, s7, c8_0, c9_0, s10, ())
noncomputable def F3 (J4 : C4) (t0 : Int) (c1_0 : Int) (c1_1 : Int) (c1_2 : Int) (c1_3 : Int) (s6 : List (List Int)) (s7 : List (List Int)) (c8_0 : Int) (c9_0 : List (List Int)) (s10 : List Int) : Option PO :=
  bif inb c1_2 s6.length then
    bif inb t0 (s6.getD c1_2.toNat []).length then
      bif inb c1_3 s6.length then
        bif inb t0 (s6.getD c1_3.toNat []).length then
          J4 (t0, (s6.getD c1_2.toNat []).getD t0.toNat 0, (s6.getD c1_3.toNat []).getD t0.toNat 0, c1_0, c1_1, c1_2, c1_3, s6, s7, c8_0, c9_0, s10, ())
        else
          none
      else
        none
    else
      none
  else
    none
noncomputable def F4 (J8 : C8) (J16 : C16) (J18 : C18) (J19 : C19) (t0 : Int) (t8 : Int) (t9 : Int) (c1_0 : Int) (c1_1 : Int) (c1_2 : Int) (c1_3 : Int) (s6 : List (List Int)) (s7 : List (List Int)) (c8_0 : Int) (c9_0 : List (List Int)) (s10 : List Int) : Option PO :=
  bif c1_0 == 0 then
    some (1, c1_0, c1_1, c1_2, c1_3, s6, s7, c8_0, c9_0, s10, ())
  else
    bif c1_0 == 1 then
      J8 (t0, c1_0, c1_1, c1_2, c1_3, s6, s7, c8_0, c9_0, s10, ())
    else
      bif c1_0 == 2 then
        some (wI (1 - t8), c1_0, c1_1, c1_2, c1_3, s6, s7, c8_0, c9_0, s10, ())
      else
        bif c1_0 == 3 then
          some (andI .i64 t8 t9, c1_0, c1_1, c1_2, c1_3, s6, s7, c8_0, c9_0, s10, ())
        else
          bif c1_0 == 4 then
            some (orI .i64 t8 t9, c1_0, c1_1, c1_2, c1_3, s6, s7, c8_0, c9_0, s10, ())
          else
            bif c1_0 == 5 then
              J16 (t0, c1_0, c1_1, c1_2, c1_3, s6, s7, c8_0, c9_0, s10, ())
            else
              bif c1_0 == 6 then
                J18 (t0, t8, t9, c1_0, c1_1, c1_2, c1_3, s6, s7, c8_0, c9_0, s10, ())
              else
                J19 (t0, t8, t9, c1_0, c1_1, c1_2, c1_3, s6, s7, c8_0, c9_0, s10, ())
noncomputable def F8 (t0 : Int) (c1_0 : Int) (c1_1 : Int) (c1_2 : Int) (c1_3 : Int) (s6 : List (List Int)) (s7 : List (List Int)) (c8_0 : Int) (c9_0 : List (List Int)) (s10 : List Int) : Option PO :=
  bif inb t0 s7.length then
    bif inb c1_1 (s7.getD t0.toNat []).length then
      some ((s7.getD t0.toNat []).getD c1_1.toNat 0, c1_0, c1_1, c1_2, c1_3, s6, s7, c8_0, c9_0, s10, ())
    else
      none
  else
    none
noncomputable def F16 (Gimpl_timesOn_1 : impl_timesOn_1.G) (t0 : Int) (c1_0 : Int) (c1_1 : Int) (c1_2 : Int) (c1_3 : Int) (s6 : List (List Int)) (s7 : List (List Int)) (c8_0 : Int) (c9_0 : List (List Int)) (s10 : List Int) : Option PO :=
  bif inb c1_2 s6.length then
    Option.bind (Gimpl_timesOn_1 (t0, c8_0, c9_0, ())) fun y0 =>
    bif inb y0.1 (s6.getD c1_2.toNat []).length then
      some ((s6.getD c1_2.toNat []).getD y0.1.toNat 0, c1_0, c1_1, c1_2, c1_3, s6, s7, y0.2.1, y0.2.2.1, s10, ())
    else
      none
  else
    none
noncomputable def F16o1 (Gimpl_timesOn_1 : impl_timesOn_1.G) (t0 : Int) (c1_0 : Int) (c1_1 : Int) (c1_2 : Int) (c1_3 : Int) (s6 : List (List Int)) (s7 : List (List Int)) (c8_0 : Int) (c9_0 : List (List Int)) (s10 : List Int) : Option PO :=
  Option.bind (Gimpl_timesOn_1 (t0, c8_0, c9_0, ())) fun y0 =>
  bif inb c1_2 s6.length then
    bif inb y0.1 (s6.getD c1_2.toNat []).length then
      some ((s6.getD c1_2.toNat []).getD y0.1.toNat 0, c1_0, c1_1, c1_2, c1_3, s6, s7, y0.2.1, y0.2.2.1, s10, ())
    else
      none
  else
    none
theorem F16o1_le (Gimpl_timesOn_1 : impl_timesOn_1.G) (t0 : Int) (c1_0 : Int) (c1_1 : Int) (c1_2 : Int) (c1_3 : Int) (s6 : List (List Int)) (s7 : List (List Int)) (c8_0 : Int) (c9_0 : List (List Int)) (s10 : List Int) : OptLe (F16 Gimpl_timesOn_1 t0 c1_0 c1_1 c1_2 c1_3 s6 s7 c8_0 c9_0 s10) (F16o1 Gimpl_timesOn_1 t0 c1_0 c1_1 c1_2 c1_3 s6 s7 c8_0 c9_0 s10) := by
  intro y h; unfold F16 at h; unfold F16o1
  have e0 := (cond_some h).1; replace h := (cond_some h).2
  obtain ⟨y0, e1, h⟩ := Option.bind_eq_some_iff.1 h
  have e2 := (cond_some h).1; replace h := (cond_some h).2
  simp only [e0, e1, e2, cond_true, cond_false, Option.bind_some]; exact h
noncomputable def F18 (Gimpl_timesOn_1 : impl_timesOn_1.G) (t0 : Int) (t8 : Int) (t9 : Int) (c1_0 : Int) (c1_1 : Int) (c1_2 : Int) (c1_3 : Int) (s6 : List (List Int)) (s7 : List (List Int)) (c8_0 : Int) (c9_0 : List (List Int)) (s10 : List Int) : Option PO :=
  Option.bind (Gimpl_timesOn_1 (t0, c8_0, c9_0, ())) fun y1 =>
  bif inb y1.1 s10.length then
    some (orI .i64 t9 (andI .i64 t8 (s10.getD y1.1.toNat 0)), c1_0, c1_1, c1_2, c1_3, s6, s7, y1.2.1, y1.2.2.1, s10, ())
  else
    none
noncomputable def F19 (Gimpl_timesOn_1 : impl_timesOn_1.G) (t0 : Int) (t8 : Int) (t9 : Int) (c1_0 : Int) (c1_1 : Int) (c1_2 : Int) (c1_3 : Int) (s6 : List (List Int)) (s7 : List (List Int)) (c8_0 : Int) (c9_0 : List (List Int)) (s10 : List Int) : Option PO :=
  Option.bind (Gimpl_timesOn_1 (t0, c8_0, c9_0, ())) fun y2 =>
  bif inb y2.1 s10.length then
    some (andI .i64 t9 (orI .i64 t8 (s10.getD y2.1.toNat 0)), c1_0, c1_1, c1_2, c1_3, s6, s7, y2.2.1, y2.2.2.1, s10, ())
  else
    none
noncomputable def hd {R : Type} (Gimpl_timesOn_1 : impl_timesOn_1.G) : Hand R := (handAt 137 [66, 76, 86] false ⟨3, 1, 3, impl_timesOn_1.pin, impl_timesOn_1.pout, Gimpl_timesOn_1⟩ handNil)
noncomputable def pg (Gimpl_timesOn_1 : impl_timesOn_1.G) (J3 : List Item → C3) (J4 : List Item → C4) (J8 : List Item → C8) (J16 : List Item → C16) (J18 : List Item → C18) (J19 : List Item → C19) : Prog PO := { nt := 91, np := 6, tb := tabOf tab, hd := hd Gimpl_timesOn_1, cuts := cutsOf [(3, cut p3 J3), (4, cut p4 J4), (8, cut p8 J8), (16, cut p16 J16), (18, cut p18 J18), (19, cut p19 J19)], fin := endOf (tabOf tab) rs 6 pout }
noncomputable def q : FuncId → Bool := fun f => hasId [] f
theorem seg0 (Gimpl_timesOn_1 : impl_timesOn_1.G) (J3 : List Item → C3) (J4 : List Item → C4) (J8 : List Item → C8) (J16 : List Item → C16) (J18 : List Item → C18) (J19 : List Item → C19) (x0 : Int) (c1_0 : Int) (c1_1 : Int) (c1_2 : Int) (c1_3 : Int) (s6 : List (List Int)) (s7 : List (List Int)) (c8_0 : Int) (c9_0 : List (List Int)) (s10 : List Int) : arun (pg Gimpl_timesOn_1 J3 J4 J8 J16 J18 J19) 5000 [.code c0] (mk pin (x0, c1_0, c1_1, c1_2, c1_3, s6, s7, c8_0, c9_0, s10, ())) = F0 (J3 T3) (J4 T4) x0 c1_0 c1_1 c1_2 c1_3 s6 s7 c8_0 c9_0 s10 := by kernel_rfl
theorem seg3 (Gimpl_timesOn_1 : impl_timesOn_1.G) (J3 : List Item → C3) (J4 : List Item → C4) (J8 : List Item → C8) (J16 : List Item → C16) (J18 : List Item → C18) (J19 : List Item → C19) (t0 : Int) (c1_0 : Int) (c1_1 : Int) (c1_2 : Int) (c1_3 : Int) (s6 : List (List Int)) (s7 : List (List Int)) (c8_0 : Int) (c9_0 : List (List Int)) (s10 : List Int) : arunQ (pg Gimpl_timesOn_1 J3 J4 J8 J16 J18 J19) q [] [] 5000 T3 (mk p3 (t0, c1_0, c1_1, c1_2, c1_3, s6, s7, c8_0, c9_0, s10, ())) = List.replicate (arunQ (pg Gimpl_timesOn_1 J3 J4 J8 J16 J18 J19) q [] [] 5000 T3 (mk p3 (t0, c1_0, c1_1, c1_2, c1_3, s6, s7, c8_0, c9_0, s10, ()))).length (F3 (J4 T4) t0 c1_0 c1_1 c1_2 c1_3 s6 s7 c8_0 c9_0 s10) := by kernel_rfl
theorem seg4 (Gimpl_timesOn_1 : impl_timesOn_1.G) (J3 : List Item → C3) (J4 : List Item → C4) (J8 : List Item → C8) (J16 : List Item → C16) (J18 : List Item → C18) (J19 : List Item → C19) (t0 : Int) (t8 : Int) (t9 : Int) (c1_0 : Int) (c1_1 : Int) (c1_2 : Int) (c1_3 : Int) (s6 : List (List Int)) (s7 : List (List Int)) (c8_0 : Int) (c9_0 : List (List Int)) (s10 : List Int) : arun1 (pg Gimpl_timesOn_1 J3 J4 J8 J16 J18 J19) 5000 T4 (mk p4 (t0, t8, t9, c1_0, c1_1, c1_2, c1_3, s6, s7, c8_0, c9_0, s10, ())) = F4 (J8 T8) (J16 T16) (J18 T18) (J19 T19) t0 t8 t9 c1_0 c1_1 c1_2 c1_3 s6 s7 c8_0 c9_0 s10 := by kernel_rfl
theorem seg8 (Gimpl_timesOn_1 : impl_timesOn_1.G) (J3 : List Item → C3) (J4 : List Item → C4) (J8 : List Item → C8) (J16 : List Item → C16) (J18 : List Item → C18) (J19 : List Item → C19) (t0 : Int) (c1_0 : Int) (c1_1 : Int) (c1_2 : Int) (c1_3 : Int) (s6 : List (List Int)) (s7 : List (List Int)) (c8_0 : Int) (c9_0 : List (List Int)) (s10 : List Int) : arunQ (pg Gimpl_timesOn_1 J3 J4 J8 J16 J18 J19) q [] [] 5000 T8 (mk p8 (t0, c1_0, c1_1, c1_2, c1_3, s6, s7, c8_0, c9_0, s10, ())) = List.replicate (arunQ (pg Gimpl_timesOn_1 J3 J4 J8 J16 J18 J19) q [] [] 5000 T8 (mk p8 (t0, c1_0, c1_1, c1_2, c1_3, s6, s7, c8_0, c9_0, s10, ()))).length (F8 t0 c1_0 c1_1 c1_2 c1_3 s6 s7 c8_0 c9_0 s10) := by kernel_rfl
theorem seg16 (Gimpl_timesOn_1 : impl_timesOn_1.G) (J3 : List Item → C3) (J4 : List Item → C4) (J8 : List Item → C8) (J16 : List Item → C16) (J18 : List Item → C18) (J19 : List Item → C19) (t0 : Int) (c1_0 : Int) (c1_1 : Int) (c1_2 : Int) (c1_3 : Int) (s6 : List (List Int)) (s7 : List (List Int)) (c8_0 : Int) (c9_0 : List (List Int)) (s10 : List Int) : arunE (pg Gimpl_timesOn_1 J3 J4 J8 J16 J18 J19) 5000 T16 (mk p16 (t0, c1_0, c1_1, c1_2, c1_3, s6, s7, c8_0, c9_0, s10, ())) = [F16 Gimpl_timesOn_1 t0 c1_0 c1_1 c1_2 c1_3 s6 s7 c8_0 c9_0 s10, F16 Gimpl_timesOn_1 t0 c1_0 c1_1 c1_2 c1_3 s6 s7 c8_0 c9_0 s10, F16 Gimpl_timesOn_1 t0 c1_0 c1_1 c1_2 c1_3 s6 s7 c8_0 c9_0 s10, F16 Gimpl_timesOn_1 t0 c1_0 c1_1 c1_2 c1_3 s6 s7 c8_0 c9_0 s10, F16 Gimpl_timesOn_1 t0 c1_0 c1_1 c1_2 c1_3 s6 s7 c8_0 c9_0 s10, F16o1 Gimpl_timesOn_1 t0 c1_0 c1_1 c1_2 c1_3 s6 s7 c8_0 c9_0 s10, F16 Gimpl_timesOn_1 t0 c1_0 c1_1 c1_2 c1_3 s6 s7 c8_0 c9_0 s10, F16 Gimpl_timesOn_1 t0 c1_0 c1_1 c1_2 c1_3 s6 s7 c8_0 c9_0 s10, F16 Gimpl_timesOn_1 t0 c1_0 c1_1 c1_2 c1_3 s6 s7 c8_0 c9_0 s10, F16 Gimpl_timesOn_1 t0 c1_0 c1_1 c1_2 c1_3 s6 s7 c8_0 c9_0 s10, F16 Gimpl_timesOn_1 t0 c1_0 c1_1 c1_2 c1_3 s6 s7 c8_0 c9_0 s10, F16o1 Gimpl_timesOn_1 t0 c1_0 c1_1 c1_2 c1_3 s6 s7 c8_0 c9_0 s10, F16 Gimpl_timesOn_1 t0 c1_0 c1_1 c1_2 c1_3 s6 s7 c8_0 c9_0 s10, F16 Gimpl_timesOn_1 t0 c1_0 c1_1 c1_2 c1_3 s6 s7 c8_0 c9_0 s10, F16o1 Gimpl_timesOn_1 t0 c1_0 c1_1 c1_2 c1_3 s6 s7 c8_0 c9_0 s10, F16 Gimpl_timesOn_1 t0 c1_0 c1_1 c1_2 c1_3 s6 s7 c8_0 c9_0 s10, F16 Gimpl_timesOn_1 t0 c1_0 c1_1 c1_2 c1_3 s6 s7 c8_0 c9_0 s10, F16o1 Gimpl_timesOn_1 t0 c1_0 c1_1 c1_2 c1_3 s6 s7 c8_0 c9_0 s10, F16o1 Gimpl_timesOn_1 t0 c1_0 c1_1 c1_2 c1_3 s6 s7 c8_0 c9_0 s10, F16o1 Gimpl_timesOn_1 t0 c1_0 c1_1 c1_2 c1_3 s6 s7 c8_0 c9_0 s10] := by kernel_rfl
theorem seg18 (Gimpl_timesOn_1 : impl_timesOn_1.G) (J3 : List Item → C3) (J4 : List Item → C4) (J8 : List Item → C8) (J16 : List Item → C16) (J18 : List Item → C18) (J19 : List Item → C19) (t0 : Int) (t8 : Int) (t9 : Int) (c1_0 : Int) (c1_1 : Int) (c1_2 : Int) (c1_3 : Int) (s6 : List (List Int)) (s7 : List (List Int)) (c8_0 : Int) (c9_0 : List (List Int)) (s10 : List Int) : arunE (pg Gimpl_timesOn_1 J3 J4 J8 J16 J18 J19) 5000 T18 (mk p18 (t0, t8, t9, c1_0, c1_1, c1_2, c1_3, s6, s7, c8_0, c9_0, s10, ())) = List.replicate (arunE (pg Gimpl_timesOn_1 J3 J4 J8 J16 J18 J19) 5000 T18 (mk p18 (t0, t8, t9, c1_0, c1_1, c1_2, c1_3, s6, s7, c8_0, c9_0, s10, ()))).length (F18 Gimpl_timesOn_1 t0 t8 t9 c1_0 c1_1 c1_2 c1_3 s6 s7 c8_0 c9_0 s10) := by kernel_rfl
theorem seg19 (Gimpl_timesOn_1 : impl_timesOn_1.G) (J3 : List Item → C3) (J4 : List Item → C4) (J8 : List Item → C8) (J16 : List Item → C16) (J18 : List Item → C18) (J19 : List Item → C19) (t0 : Int) (t8 : Int) (t9 : Int) (c1_0 : Int) (c1_1 : Int) (c1_2 : Int) (c1_3 : Int) (s6 : List (List Int)) (s7 : List (List Int)) (c8_0 : Int) (c9_0 : List (List Int)) (s10 : List Int) : arunE (pg Gimpl_timesOn_1 J3 J4 J8 J16 J18 J19) 5000 T19 (mk p19 (t0, t8, t9, c1_0, c1_1, c1_2, c1_3, s6, s7, c8_0, c9_0, s10, ())) = List.replicate (arunE (pg Gimpl_timesOn_1 J3 J4 J8 J16 J18 J19) 5000 T19 (mk p19 (t0, t8, t9, c1_0, c1_1, c1_2, c1_3, s6, s7, c8_0, c9_0, s10, ()))).length (F19 Gimpl_timesOn_1 t0 t8 t9 c1_0 c1_1 c1_2 c1_3 s6 s7 c8_0 c9_0 s10) := by kernel_rfl
noncomputable def L8 : C8 := fun x => F8 x.1 x.2.1 x.2.2.1 x.2.2.2.1 x.2.2.2.2.1 x.2.2.2.2.2.1 x.2.2.2.2.2.2.1 x.2.2.2.2.2.2.2.1 x.2.2.2.2.2.2.2.2.1 x.2.2.2.2.2.2.2.2.2.1
noncomputable def L16 : C16 := fun x => F16 impl_timesOn_1.impl x.1 x.2.1 x.2.2.1 x.2.2.2.1 x.2.2.2.2.1 x.2.2.2.2.2.1 x.2.2.2.2.2.2.1 x.2.2.2.2.2.2.2.1 x.2.2.2.2.2.2.2.2.1 x.2.2.2.2.2.2.2.2.2.1
noncomputable def L18 : C18 := fun x => F18 impl_timesOn_1.impl x.1 x.2.1 x.2.2.1 x.2.2.2.1 x.2.2.2.2.1 x.2.2.2.2.2.1 x.2.2.2.2.2.2.1 x.2.2.2.2.2.2.2.1 x.2.2.2.2.2.2.2.2.1 x.2.2.2.2.2.2.2.2.2.1 x.2.2.2.2.2.2.2.2.2.2.1 x.2.2.2.2.2.2.2.2.2.2.2.1
noncomputable def L19 : C19 := fun x => F19 impl_timesOn_1.impl x.1 x.2.1 x.2.2.1 x.2.2.2.1 x.2.2.2.2.1 x.2.2.2.2.2.1 x.2.2.2.2.2.2.1 x.2.2.2.2.2.2.2.1 x.2.2.2.2.2.2.2.2.1 x.2.2.2.2.2.2.2.2.2.1 x.2.2.2.2.2.2.2.2.2.2.1 x.2.2.2.2.2.2.2.2.2.2.2.1
noncomputable def L4 : C4 := fun x => F4 L8 L16 L18 L19 x.1 x.2.1 x.2.2.1 x.2.2.2.1 x.2.2.2.2.1 x.2.2.2.2.2.1 x.2.2.2.2.2.2.1 x.2.2.2.2.2.2.2.1 x.2.2.2.2.2.2.2.2.1 x.2.2.2.2.2.2.2.2.2.1 x.2.2.2.2.2.2.2.2.2.2.1 x.2.2.2.2.2.2.2.2.2.2.2.1
noncomputable def L3 : C3 := fun x => F3 L4 x.1 x.2.1 x.2.2.1 x.2.2.2.1 x.2.2.2.2.1 x.2.2.2.2.2.1 x.2.2.2.2.2.2.1 x.2.2.2.2.2.2.2.1 x.2.2.2.2.2.2.2.2.1 x.2.2.2.2.2.2.2.2.2.1
noncomputable def impl : G := fun x => F0 L3 L4 x.1 x.2.1 x.2.2.1 x.2.2.2.1 x.2.2.2.2.1 x.2.2.2.2.2.1 x.2.2.2.2.2.2.1 x.2.2.2.2.2.2.2.1 x.2.2.2.2.2.2.2.2.1 x.2.2.2.2.2.2.2.2.2.1
theorem L8_eq (t0 : Int) (c1_0 : Int) (c1_1 : Int) (c1_2 : Int) (c1_3 : Int) (s6 : List (List Int)) (s7 : List (List Int)) (c8_0 : Int) (c9_0 : List (List Int)) (s10 : List Int) : L8 (t0, c1_0, c1_1, c1_2, c1_3, s6, s7, c8_0, c9_0, s10, ()) = F8 t0 c1_0 c1_1 c1_2 c1_3 s6 s7 c8_0 c9_0 s10 := rfl
theorem L16_eq (t0 : Int) (c1_0 : Int) (c1_1 : Int) (c1_2 : Int) (c1_3 : Int) (s6 : List (List Int)) (s7 : List (List Int)) (c8_0 : Int) (c9_0 : List (List Int)) (s10 : List Int) : L16 (t0, c1_0, c1_1, c1_2, c1_3, s6, s7, c8_0, c9_0, s10, ()) = F16 impl_timesOn_1.impl t0 c1_0 c1_1 c1_2 c1_3 s6 s7 c8_0 c9_0 s10 := rfl
theorem L18_eq (t0 : Int) (t8 : Int) (t9 : Int) (c1_0 : Int) (c1_1 : Int) (c1_2 : Int) (c1_3 : Int) (s6 : List (List Int)) (s7 : List (List Int)) (c8_0 : Int) (c9_0 : List (List Int)) (s10 : List Int) : L18 (t0, t8, t9, c1_0, c1_1, c1_2, c1_3, s6, s7, c8_0, c9_0, s10, ()) = F18 impl_timesOn_1.impl t0 t8 t9 c1_0 c1_1 c1_2 c1_3 s6 s7 c8_0 c9_0 s10 := rfl
theorem L19_eq (t0 : Int) (t8 : Int) (t9 : Int) (c1_0 : Int) (c1_1 : Int) (c1_2 : Int) (c1_3 : Int) (s6 : List (List Int)) (s7 : List (List Int)) (c8_0 : Int) (c9_0 : List (List Int)) (s10 : List Int) : L19 (t0, t8, t9, c1_0, c1_1, c1_2, c1_3, s6, s7, c8_0, c9_0, s10, ()) = F19 impl_timesOn_1.impl t0 t8 t9 c1_0 c1_1 c1_2 c1_3 s6 s7 c8_0 c9_0 s10 := rfl
theorem L4_eq (t0 : Int) (t8 : Int) (t9 : Int) (c1_0 : Int) (c1_1 : Int) (c1_2 : Int) (c1_3 : Int) (s6 : List (List Int)) (s7 : List (List Int)) (c8_0 : Int) (c9_0 : List (List Int)) (s10 : List Int) : L4 (t0, t8, t9, c1_0, c1_1, c1_2, c1_3, s6, s7, c8_0, c9_0, s10, ()) = F4 (L8) (L16) (L18) (L19) t0 t8 t9 c1_0 c1_1 c1_2 c1_3 s6 s7 c8_0 c9_0 s10 := rfl
theorem L3_eq (t0 : Int) (c1_0 : Int) (c1_1 : Int) (c1_2 : Int) (c1_3 : Int) (s6 : List (List Int)) (s7 : List (List Int)) (c8_0 : Int) (c9_0 : List (List Int)) (s10 : List Int) : L3 (t0, c1_0, c1_1, c1_2, c1_3, s6, s7, c8_0, c9_0, s10, ()) = F3 (L4) t0 c1_0 c1_1 c1_2 c1_3 s6 s7 c8_0 c9_0 s10 := rfl
theorem impl_eq (x0 : Int) (c1_0 : Int) (c1_1 : Int) (c1_2 : Int) (c1_3 : Int) (s6 : List (List Int)) (s7 : List (List Int)) (c8_0 : Int) (c9_0 : List (List Int)) (s10 : List Int) : impl (x0, c1_0, c1_1, c1_2, c1_3, s6, s7, c8_0, c9_0, s10, ()) = F0 L3 L4 x0 c1_0 c1_1 c1_2 c1_3 s6 s7 c8_0 c9_0 s10 := rfl
theorem con : Con Try.prog 138 6 rs.length 6 pin pout impl := by
  refine con_of_run3 (nt := 91) (c := c0) tabGood Try.func138 (by kernel_rfl) (by kernel_rfl) (by kernel_rfl) (by kernel_rfl) (by kernel_rfl) (by kernel_rfl) (by kernel_rfl) ?_
  intro w0 O y Post hnp fin
  have hp : ∀ (J3 : List Item → C3), ∀ (J4 : List Item → C4), ∀ (J8 : List Item → C8), ∀ (J16 : List Item → C16), ∀ (J18 : List Item → C18), ∀ (J19 : List Item → C19), Parts Try.prog 138 (pg impl_timesOn_1.impl J3 J4 J8 J16 J18 J19) [(3, cut p3 J3), (4, cut p4 J4), (8, cut p8 J8), (16, cut p16 J16), (18, cut p18 J18), (19, cut p19 J19)] := fun J3 J4 J8 J16 J18 J19 => ⟨tab_ok tabGood rfl, (handAt_ok impl_timesOn_1.con handNil_ok), rfl⟩
  have g8 : Good Try.prog 91 w0 O Post y T8 p8 L8 := good_quiet (hs := hd impl_timesOn_1.impl) (cv' := hd impl_timesOn_1.impl) (Checked.mixed Try.checked) (hp (atT T3 (fun _ => none)) (atT T4 (fun _ => none)) (atT T8 (fun _ => none)) (atT T16 (fun _ => none)) (atT T18 (fun _ => none)) (atT T19 (fun _ => none))) (handAt_D' rfl handNil_D) (handAt_nat handNil_nat) (handAt_nat handNil_nat) (runOK_of (hp (atT T3 (fun _ => none)) (atT T4 (fun _ => none)) (atT T8 (fun _ => none)) (atT T16 (fun _ => none)) (atT T18 (fun _ => none)) (atT T19 (fun _ => none))) hnp ⟨cutOK_at (p := p3) (T := T3) (J := fun _ => none) good_none, cutOK_at (p := p4) (T := T4) (J := fun _ => none) good_none, cutOK_at (p := p8) (T := T8) (J := fun _ => none) good_none, cutOK_at (p := p16) (T := T16) (J := fun _ => none) good_none, cutOK_at (p := p18) (T := T18) (J := fun _ => none) good_none, cutOK_at (p := p19) (T := T19) (J := fun _ => none) good_none, trivial⟩ fin) (fun x => all_same ⟨_, (seg8 impl_timesOn_1.impl (atT T3 (fun _ => none)) (atT T4 (fun _ => none)) (atT T8 (fun _ => none)) (atT T16 (fun _ => none)) (atT T18 (fun _ => none)) (atT T19 (fun _ => none)) x.1 x.2.1 x.2.2.1 x.2.2.2.1 x.2.2.2.2.1 x.2.2.2.2.2.1 x.2.2.2.2.2.2.1 x.2.2.2.2.2.2.2.1 x.2.2.2.2.2.2.2.2.1 x.2.2.2.2.2.2.2.2.2.1)⟩)
  have g16 : Good Try.prog 91 w0 O Post y T16 p16 L16 := good_orders (hs := hd impl_timesOn_1.impl) (cv' := hd impl_timesOn_1.impl) (Checked.mixed Try.checked) (hp (atT T3 (fun _ => none)) (atT T4 (fun _ => none)) (atT T8 (fun _ => none)) (atT T16 (fun _ => none)) (atT T18 (fun _ => none)) (atT T19 (fun _ => none))) (handAt_ok impl_timesOn_1.con handNil_ok) (handAt_nat handNil_nat) (handAt_nat handNil_nat) (runOK_of (hp (atT T3 (fun _ => none)) (atT T4 (fun _ => none)) (atT T8 (fun _ => none)) (atT T16 (fun _ => none)) (atT T18 (fun _ => none)) (atT T19 (fun _ => none))) hnp ⟨cutOK_at (p := p3) (T := T3) (J := fun _ => none) good_none, cutOK_at (p := p4) (T := T4) (J := fun _ => none) good_none, cutOK_at (p := p8) (T := T8) (J := fun _ => none) good_none, cutOK_at (p := p16) (T := T16) (J := fun _ => none) good_none, cutOK_at (p := p18) (T := T18) (J := fun _ => none) good_none, cutOK_at (p := p19) (T := T19) (J := fun _ => none) good_none, trivial⟩ fin) (fun x => all_of (L := [F16 impl_timesOn_1.impl x.1 x.2.1 x.2.2.1 x.2.2.2.1 x.2.2.2.2.1 x.2.2.2.2.2.1 x.2.2.2.2.2.2.1 x.2.2.2.2.2.2.2.1 x.2.2.2.2.2.2.2.2.1 x.2.2.2.2.2.2.2.2.2.1, F16 impl_timesOn_1.impl x.1 x.2.1 x.2.2.1 x.2.2.2.1 x.2.2.2.2.1 x.2.2.2.2.2.1 x.2.2.2.2.2.2.1 x.2.2.2.2.2.2.2.1 x.2.2.2.2.2.2.2.2.1 x.2.2.2.2.2.2.2.2.2.1, F16 impl_timesOn_1.impl x.1 x.2.1 x.2.2.1 x.2.2.2.1 x.2.2.2.2.1 x.2.2.2.2.2.1 x.2.2.2.2.2.2.1 x.2.2.2.2.2.2.2.1 x.2.2.2.2.2.2.2.2.1 x.2.2.2.2.2.2.2.2.2.1, F16 impl_timesOn_1.impl x.1 x.2.1 x.2.2.1 x.2.2.2.1 x.2.2.2.2.1 x.2.2.2.2.2.1 x.2.2.2.2.2.2.1 x.2.2.2.2.2.2.2.1 x.2.2.2.2.2.2.2.2.1 x.2.2.2.2.2.2.2.2.2.1, F16 impl_timesOn_1.impl x.1 x.2.1 x.2.2.1 x.2.2.2.1 x.2.2.2.2.1 x.2.2.2.2.2.1 x.2.2.2.2.2.2.1 x.2.2.2.2.2.2.2.1 x.2.2.2.2.2.2.2.2.1 x.2.2.2.2.2.2.2.2.2.1, F16o1 impl_timesOn_1.impl x.1 x.2.1 x.2.2.1 x.2.2.2.1 x.2.2.2.2.1 x.2.2.2.2.2.1 x.2.2.2.2.2.2.1 x.2.2.2.2.2.2.2.1 x.2.2.2.2.2.2.2.2.1 x.2.2.2.2.2.2.2.2.2.1, F16 impl_timesOn_1.impl x.1 x.2.1 x.2.2.1 x.2.2.2.1 x.2.2.2.2.1 x.2.2.2.2.2.1 x.2.2.2.2.2.2.1 x.2.2.2.2.2.2.2.1 x.2.2.2.2.2.2.2.2.1 x.2.2.2.2.2.2.2.2.2.1, F16 impl_timesOn_1.impl x.1 x.2.1 x.2.2.1 x.2.2.2.1 x.2.2.2.2.1 x.2.2.2.2.2.1 x.2.2.2.2.2.2.1 x.2.2.2.2.2.2.2.1 x.2.2.2.2.2.2.2.2.1 x.2.2.2.2.2.2.2.2.2.1, F16 impl_timesOn_1.impl x.1 x.2.1 x.2.2.1 x.2.2.2.1 x.2.2.2.2.1 x.2.2.2.2.2.1 x.2.2.2.2.2.2.1 x.2.2.2.2.2.2.2.1 x.2.2.2.2.2.2.2.2.1 x.2.2.2.2.2.2.2.2.2.1, F16 impl_timesOn_1.impl x.1 x.2.1 x.2.2.1 x.2.2.2.1 x.2.2.2.2.1 x.2.2.2.2.2.1 x.2.2.2.2.2.2.1 x.2.2.2.2.2.2.2.1 x.2.2.2.2.2.2.2.2.1 x.2.2.2.2.2.2.2.2.2.1, F16 impl_timesOn_1.impl x.1 x.2.1 x.2.2.1 x.2.2.2.1 x.2.2.2.2.1 x.2.2.2.2.2.1 x.2.2.2.2.2.2.1 x.2.2.2.2.2.2.2.1 x.2.2.2.2.2.2.2.2.1 x.2.2.2.2.2.2.2.2.2.1, F16o1 impl_timesOn_1.impl x.1 x.2.1 x.2.2.1 x.2.2.2.1 x.2.2.2.2.1 x.2.2.2.2.2.1 x.2.2.2.2.2.2.1 x.2.2.2.2.2.2.2.1 x.2.2.2.2.2.2.2.2.1 x.2.2.2.2.2.2.2.2.2.1, F16 impl_timesOn_1.impl x.1 x.2.1 x.2.2.1 x.2.2.2.1 x.2.2.2.2.1 x.2.2.2.2.2.1 x.2.2.2.2.2.2.1 x.2.2.2.2.2.2.2.1 x.2.2.2.2.2.2.2.2.1 x.2.2.2.2.2.2.2.2.2.1, F16 impl_timesOn_1.impl x.1 x.2.1 x.2.2.1 x.2.2.2.1 x.2.2.2.2.1 x.2.2.2.2.2.1 x.2.2.2.2.2.2.1 x.2.2.2.2.2.2.2.1 x.2.2.2.2.2.2.2.2.1 x.2.2.2.2.2.2.2.2.2.1, F16o1 impl_timesOn_1.impl x.1 x.2.1 x.2.2.1 x.2.2.2.1 x.2.2.2.2.1 x.2.2.2.2.2.1 x.2.2.2.2.2.2.1 x.2.2.2.2.2.2.2.1 x.2.2.2.2.2.2.2.2.1 x.2.2.2.2.2.2.2.2.2.1, F16 impl_timesOn_1.impl x.1 x.2.1 x.2.2.1 x.2.2.2.1 x.2.2.2.2.1 x.2.2.2.2.2.1 x.2.2.2.2.2.2.1 x.2.2.2.2.2.2.2.1 x.2.2.2.2.2.2.2.2.1 x.2.2.2.2.2.2.2.2.2.1, F16 impl_timesOn_1.impl x.1 x.2.1 x.2.2.1 x.2.2.2.1 x.2.2.2.2.1 x.2.2.2.2.2.1 x.2.2.2.2.2.2.1 x.2.2.2.2.2.2.2.1 x.2.2.2.2.2.2.2.2.1 x.2.2.2.2.2.2.2.2.2.1, F16o1 impl_timesOn_1.impl x.1 x.2.1 x.2.2.1 x.2.2.2.1 x.2.2.2.2.1 x.2.2.2.2.2.1 x.2.2.2.2.2.2.1 x.2.2.2.2.2.2.2.1 x.2.2.2.2.2.2.2.2.1 x.2.2.2.2.2.2.2.2.2.1, F16o1 impl_timesOn_1.impl x.1 x.2.1 x.2.2.1 x.2.2.2.1 x.2.2.2.2.1 x.2.2.2.2.2.1 x.2.2.2.2.2.2.1 x.2.2.2.2.2.2.2.1 x.2.2.2.2.2.2.2.2.1 x.2.2.2.2.2.2.2.2.2.1, F16o1 impl_timesOn_1.impl x.1 x.2.1 x.2.2.1 x.2.2.2.1 x.2.2.2.2.1 x.2.2.2.2.2.1 x.2.2.2.2.2.2.1 x.2.2.2.2.2.2.2.1 x.2.2.2.2.2.2.2.2.1 x.2.2.2.2.2.2.2.2.2.1]) ((seg16 impl_timesOn_1.impl (atT T3 (fun _ => none)) (atT T4 (fun _ => none)) (atT T8 (fun _ => none)) (atT T16 (fun _ => none)) (atT T18 (fun _ => none)) (atT T19 (fun _ => none)) x.1 x.2.1 x.2.2.1 x.2.2.2.1 x.2.2.2.2.1 x.2.2.2.2.2.1 x.2.2.2.2.2.2.1 x.2.2.2.2.2.2.2.1 x.2.2.2.2.2.2.2.2.1 x.2.2.2.2.2.2.2.2.2.1)) (all_cons (fun _ h => h) (all_cons (fun _ h => h) (all_cons (fun _ h => h) (all_cons (fun _ h => h) (all_cons (fun _ h => h) (all_cons (F16o1_le impl_timesOn_1.impl x.1 x.2.1 x.2.2.1 x.2.2.2.1 x.2.2.2.2.1 x.2.2.2.2.2.1 x.2.2.2.2.2.2.1 x.2.2.2.2.2.2.2.1 x.2.2.2.2.2.2.2.2.1 x.2.2.2.2.2.2.2.2.2.1) (all_cons (fun _ h => h) (all_cons (fun _ h => h) (all_cons (fun _ h => h) (all_cons (fun _ h => h) (all_cons (fun _ h => h) (all_cons (F16o1_le impl_timesOn_1.impl x.1 x.2.1 x.2.2.1 x.2.2.2.1 x.2.2.2.2.1 x.2.2.2.2.2.1 x.2.2.2.2.2.2.1 x.2.2.2.2.2.2.2.1 x.2.2.2.2.2.2.2.2.1 x.2.2.2.2.2.2.2.2.2.1) (all_cons (fun _ h => h) (all_cons (fun _ h => h) (all_cons (F16o1_le impl_timesOn_1.impl x.1 x.2.1 x.2.2.1 x.2.2.2.1 x.2.2.2.2.1 x.2.2.2.2.2.1 x.2.2.2.2.2.2.1 x.2.2.2.2.2.2.2.1 x.2.2.2.2.2.2.2.2.1 x.2.2.2.2.2.2.2.2.2.1) (all_cons (fun _ h => h) (all_cons (fun _ h => h) (all_cons (F16o1_le impl_timesOn_1.impl x.1 x.2.1 x.2.2.1 x.2.2.2.1 x.2.2.2.2.1 x.2.2.2.2.2.1 x.2.2.2.2.2.2.1 x.2.2.2.2.2.2.2.1 x.2.2.2.2.2.2.2.2.1 x.2.2.2.2.2.2.2.2.2.1) (all_cons (F16o1_le impl_timesOn_1.impl x.1 x.2.1 x.2.2.1 x.2.2.2.1 x.2.2.2.2.1 x.2.2.2.2.2.1 x.2.2.2.2.2.2.1 x.2.2.2.2.2.2.2.1 x.2.2.2.2.2.2.2.2.1 x.2.2.2.2.2.2.2.2.2.1) (all_cons (F16o1_le impl_timesOn_1.impl x.1 x.2.1 x.2.2.1 x.2.2.2.1 x.2.2.2.2.1 x.2.2.2.2.2.1 x.2.2.2.2.2.2.1 x.2.2.2.2.2.2.2.1 x.2.2.2.2.2.2.2.2.1 x.2.2.2.2.2.2.2.2.2.1) all_nil)))))))))))))))))))))
  have g18 : Good Try.prog 91 w0 O Post y T18 p18 L18 := good_orders (hs := hd impl_timesOn_1.impl) (cv' := hd impl_timesOn_1.impl) (Checked.mixed Try.checked) (hp (atT T3 (fun _ => none)) (atT T4 (fun _ => none)) (atT T8 (fun _ => none)) (atT T16 (fun _ => none)) (atT T18 (fun _ => none)) (atT T19 (fun _ => none))) (handAt_ok impl_timesOn_1.con handNil_ok) (handAt_nat handNil_nat) (handAt_nat handNil_nat) (runOK_of (hp (atT T3 (fun _ => none)) (atT T4 (fun _ => none)) (atT T8 (fun _ => none)) (atT T16 (fun _ => none)) (atT T18 (fun _ => none)) (atT T19 (fun _ => none))) hnp ⟨cutOK_at (p := p3) (T := T3) (J := fun _ => none) good_none, cutOK_at (p := p4) (T := T4) (J := fun _ => none) good_none, cutOK_at (p := p8) (T := T8) (J := fun _ => none) good_none, cutOK_at (p := p16) (T := T16) (J := fun _ => none) good_none, cutOK_at (p := p18) (T := T18) (J := fun _ => none) good_none, cutOK_at (p := p19) (T := T19) (J := fun _ => none) good_none, trivial⟩ fin) (fun x => all_same ⟨_, (seg18 impl_timesOn_1.impl (atT T3 (fun _ => none)) (atT T4 (fun _ => none)) (atT T8 (fun _ => none)) (atT T16 (fun _ => none)) (atT T18 (fun _ => none)) (atT T19 (fun _ => none)) x.1 x.2.1 x.2.2.1 x.2.2.2.1 x.2.2.2.2.1 x.2.2.2.2.2.1 x.2.2.2.2.2.2.1 x.2.2.2.2.2.2.2.1 x.2.2.2.2.2.2.2.2.1 x.2.2.2.2.2.2.2.2.2.1 x.2.2.2.2.2.2.2.2.2.2.1 x.2.2.2.2.2.2.2.2.2.2.2.1)⟩)
  have g19 : Good Try.prog 91 w0 O Post y T19 p19 L19 := good_orders (hs := hd impl_timesOn_1.impl) (cv' := hd impl_timesOn_1.impl) (Checked.mixed Try.checked) (hp (atT T3 (fun _ => none)) (atT T4 (fun _ => none)) (atT T8 (fun _ => none)) (atT T16 (fun _ => none)) (atT T18 (fun _ => none)) (atT T19 (fun _ => none))) (handAt_ok impl_timesOn_1.con handNil_ok) (handAt_nat handNil_nat) (handAt_nat handNil_nat) (runOK_of (hp (atT T3 (fun _ => none)) (atT T4 (fun _ => none)) (atT T8 (fun _ => none)) (atT T16 (fun _ => none)) (atT T18 (fun _ => none)) (atT T19 (fun _ => none))) hnp ⟨cutOK_at (p := p3) (T := T3) (J := fun _ => none) good_none, cutOK_at (p := p4) (T := T4) (J := fun _ => none) good_none, cutOK_at (p := p8) (T := T8) (J := fun _ => none) good_none, cutOK_at (p := p16) (T := T16) (J := fun _ => none) good_none, cutOK_at (p := p18) (T := T18) (J := fun _ => none) good_none, cutOK_at (p := p19) (T := T19) (J := fun _ => none) good_none, trivial⟩ fin) (fun x => all_same ⟨_, (seg19 impl_timesOn_1.impl (atT T3 (fun _ => none)) (atT T4 (fun _ => none)) (atT T8 (fun _ => none)) (atT T16 (fun _ => none)) (atT T18 (fun _ => none)) (atT T19 (fun _ => none)) x.1 x.2.1 x.2.2.1 x.2.2.2.1 x.2.2.2.2.1 x.2.2.2.2.2.1 x.2.2.2.2.2.2.1 x.2.2.2.2.2.2.2.1 x.2.2.2.2.2.2.2.2.1 x.2.2.2.2.2.2.2.2.2.1 x.2.2.2.2.2.2.2.2.2.2.1 x.2.2.2.2.2.2.2.2.2.2.2.1)⟩)
  have g4 : Good Try.prog 91 w0 O Post y T4 p4 L4 := good_part (hp (atT T3 (fun _ => none)) (atT T4 (fun _ => none)) (atT T8 L8) (atT T16 L16) (atT T18 L18) (atT T19 L19)) (runOK_of (hp (atT T3 (fun _ => none)) (atT T4 (fun _ => none)) (atT T8 L8) (atT T16 L16) (atT T18 L18) (atT T19 L19)) hnp ⟨cutOK_at (p := p3) (T := T3) (J := fun _ => none) good_none, cutOK_at (p := p4) (T := T4) (J := fun _ => none) good_none, cutOK_at g8, cutOK_at g16, cutOK_at g18, cutOK_at g19, trivial⟩ fin) (fun x => (seg4 impl_timesOn_1.impl (atT T3 (fun _ => none)) (atT T4 (fun _ => none)) (atT T8 L8) (atT T16 L16) (atT T18 L18) (atT T19 L19) x.1 x.2.1 x.2.2.1 x.2.2.2.1 x.2.2.2.2.1 x.2.2.2.2.2.1 x.2.2.2.2.2.2.1 x.2.2.2.2.2.2.2.1 x.2.2.2.2.2.2.2.2.1 x.2.2.2.2.2.2.2.2.2.1 x.2.2.2.2.2.2.2.2.2.2.1 x.2.2.2.2.2.2.2.2.2.2.2.1).trans (by simp only [atT_self] <;> rfl))
  have g3 : Good Try.prog 91 w0 O Post y T3 p3 L3 := good_quiet (hs := hd impl_timesOn_1.impl) (cv' := hd impl_timesOn_1.impl) (Checked.mixed Try.checked) (hp (atT T3 (fun _ => none)) (atT T4 L4) (atT T8 (fun _ => none)) (atT T16 (fun _ => none)) (atT T18 (fun _ => none)) (atT T19 (fun _ => none))) (handAt_D' rfl handNil_D) (handAt_nat handNil_nat) (handAt_nat handNil_nat) (runOK_of (hp (atT T3 (fun _ => none)) (atT T4 L4) (atT T8 (fun _ => none)) (atT T16 (fun _ => none)) (atT T18 (fun _ => none)) (atT T19 (fun _ => none))) hnp ⟨cutOK_at (p := p3) (T := T3) (J := fun _ => none) good_none, cutOK_at g4, cutOK_at (p := p8) (T := T8) (J := fun _ => none) good_none, cutOK_at (p := p16) (T := T16) (J := fun _ => none) good_none, cutOK_at (p := p18) (T := T18) (J := fun _ => none) good_none, cutOK_at (p := p19) (T := T19) (J := fun _ => none) good_none, trivial⟩ fin) (fun x => all_same ⟨_, (seg3 impl_timesOn_1.impl (atT T3 (fun _ => none)) (atT T4 L4) (atT T8 (fun _ => none)) (atT T16 (fun _ => none)) (atT T18 (fun _ => none)) (atT T19 (fun _ => none)) x.1 x.2.1 x.2.2.1 x.2.2.2.1 x.2.2.2.2.1 x.2.2.2.2.2.1 x.2.2.2.2.2.2.1 x.2.2.2.2.2.2.2.1 x.2.2.2.2.2.2.2.2.1 x.2.2.2.2.2.2.2.2.2.1).trans (by simp only [atT_self] <;> rfl)⟩)
  exact good_first (hp (atT T3 L3) (atT T4 L4) (atT T8 (fun _ => none)) (atT T16 (fun _ => none)) (atT T18 (fun _ => none)) (atT T19 (fun _ => none))) (runOK_of (hp (atT T3 L3) (atT T4 L4) (atT T8 (fun _ => none)) (atT T16 (fun _ => none)) (atT T18 (fun _ => none)) (atT T19 (fun _ => none))) hnp ⟨cutOK_at g3, cutOK_at g4, cutOK_at (p := p8) (T := T8) (J := fun _ => none) good_none, cutOK_at (p := p16) (T := T16) (J := fun _ => none) good_none, cutOK_at (p := p18) (T := T18) (J := fun _ => none) good_none, cutOK_at (p := p19) (T := T19) (J := fun _ => none) good_none, trivial⟩ fin) (fun x => (seg0 impl_timesOn_1.impl (atT T3 L3) (atT T4 L4) (atT T8 (fun _ => none)) (atT T16 (fun _ => none)) (atT T18 (fun _ => none)) (atT T19 (fun _ => none)) x.1 x.2.1 x.2.2.1 x.2.2.2.1 x.2.2.2.2.1 x.2.2.2.2.2.1 x.2.2.2.2.2.2.1 x.2.2.2.2.2.2.2.1 x.2.2.2.2.2.2.2.2.1 x.2.2.2.2.2.2.2.2.2.1).trans (by simp only [atT_self] <;> rfl))
end impl_timesOn_2

/-! ### loop.example/wholecheck/impl.timesOn -/
namespace impl_timesOn
noncomputable abbrev c0 : Code := (Try.f89.body).getD .skip
noncomputable abbrev pin : Tpl := ⟨[⟨0, false, [.d (.sl q4)]⟩, ⟨1, false, [.d (.sl (.sl i64))]⟩, ⟨2, false, [.d (.sl (.sl i64))]⟩], []⟩
noncomputable abbrev pout : Tpl := ⟨[⟨0, false, [.row 600001]⟩], [(600001, .row 60 false (.sl i64))]⟩
noncomputable abbrev p6 : Tpl := ⟨[⟨7, false, [.ptr 3000000 0]⟩, ⟨8, false, [.ptr 3000001 0]⟩, ⟨9, false, [.ptr 3000002 0]⟩, ⟨10, false, [.ptr 3000003 0]⟩, ⟨28, false, [.d (.sl q4)]⟩, ⟨29, false, [.d i64]⟩, ⟨30, false, [.d i64]⟩], [(3000000, .box [.row 3000004]), (3000001, .box [.d i64]), (3000002, .box [.fn 137 [(3000001, 0), (3000005, 0)]]), (3000003, .box [.row 3000006]), (3000004, .row 60 false (.sl i64)), (3000005, .box [.d (.sl (.sl i64))]), (3000006, .row 60 false (.sl i64))]⟩
noncomputable def T6 : List Item := (find 6 c0 []).getD []
noncomputable abbrev p13 : Tpl := ⟨[⟨7, false, [.ptr 3000000 0]⟩, ⟨8, false, [.ptr 3000001 0]⟩, ⟨9, false, [.ptr 3000002 0]⟩, ⟨10, false, [.ptr 3000003 0]⟩, ⟨11, false, [.d i64]⟩, ⟨13, false, [.ptr 3000004 0]⟩, ⟨14, false, [.d i64]⟩, ⟨15, false, [.fn 138 [(3000005, 0), (3000003, 0), (3000000, 0), (3000002, 0), (3000004, 0)]]⟩, ⟨28, false, [.d (.sl q4)]⟩, ⟨29, false, [.d i64]⟩, ⟨30, false, [.d i64]⟩], [(3000000, .box [.row 3000006]), (3000001, .box [.d i64]), (3000002, .box [.fn 137 [(3000001, 0), (3000007, 0)]]), (3000003, .box [.row 3000008]), (3000004, .box [.row 3000009]), (3000005, .box [.d i64, .d i64, .d i64, .d i64]), (3000006, .row 60 false (.sl i64)), (3000007, .box [.d (.sl (.sl i64))]), (3000008, .row 60 false (.sl i64)), (3000009, .row 3 false i64)]⟩
noncomputable def T13 : List Item := (find 13 c0 []).getD []
noncomputable abbrev p14 : Tpl := ⟨[⟨7, false, [.ptr 3000000 0]⟩, ⟨8, false, [.ptr 3000001 0]⟩, ⟨9, false, [.ptr 3000002 0]⟩, ⟨10, false, [.ptr 3000003 0]⟩, ⟨11, false, [.d i64]⟩, ⟨13, false, [.ptr 3000004 0]⟩, ⟨14, false, [.d i64]⟩, ⟨15, false, [.fn 138 [(3000005, 0), (3000003, 0), (3000000, 0), (3000002, 0), (3000004, 0)]]⟩, ⟨28, false, [.d (.sl q4)]⟩, ⟨29, false, [.d i64]⟩, ⟨30, false, [.d i64]⟩, ⟨42, false, [.d i64]⟩, ⟨43, false, [.d i64]⟩], [(3000000, .box [.row 3000006]), (3000001, .box [.d i64]), (3000002, .box [.fn 137 [(3000001, 0), (3000007, 0)]]), (3000003, .box [.row 3000008]), (3000004, .box [.row 3000009]), (3000005, .box [.d i64, .d i64, .d i64, .d i64]), (3000006, .row 60 false (.sl i64)), (3000007, .box [.d (.sl (.sl i64))]), (3000008, .row 60 false (.sl i64)), (3000009, .row 3 false i64)]⟩
noncomputable def T14 : List Item := (find 14 c0 []).getD []
noncomputable abbrev p19 : Tpl := ⟨[⟨7, false, [.ptr 3000000 0]⟩, ⟨8, false, [.ptr 3000001 0]⟩, ⟨9, false, [.ptr 3000002 0]⟩, ⟨10, false, [.ptr 3000003 0]⟩, ⟨11, false, [.d i64]⟩, ⟨13, false, [.ptr 3000004 0]⟩, ⟨15, false, [.fn 138 [(3000005, 0), (3000003, 0), (3000000, 0), (3000002, 0), (3000004, 0)]]⟩, ⟨28, false, [.d (.sl q4)]⟩, ⟨29, false, [.d i64]⟩, ⟨30, false, [.d i64]⟩, ⟨51, false, [.d i64]⟩], [(3000000, .box [.row 3000006]), (3000001, .box [.d i64]), (3000002, .box [.fn 137 [(3000001, 0), (3000007, 0)]]), (3000003, .box [.row 3000008]), (3000004, .box [.row 3000009]), (3000005, .box [.d i64, .d i64, .d i64, .d i64]), (3000006, .row 60 false (.sl i64)), (3000007, .box [.d (.sl (.sl i64))]), (3000008, .row 60 false (.sl i64)), (3000009, .row 3 false i64)]⟩
noncomputable def T19 : List Item := (find 19 c0 []).getD []
noncomputable abbrev p21 : Tpl := ⟨[⟨7, false, [.ptr 3000000 0]⟩, ⟨8, false, [.ptr 3000001 0]⟩, ⟨9, false, [.ptr 3000002 0]⟩, ⟨10, false, [.ptr 3000003 0]⟩, ⟨11, false, [.d i64]⟩, ⟨13, false, [.ptr 3000004 0]⟩, ⟨15, false, [.fn 138 [(3000005, 0), (3000003, 0), (3000000, 0), (3000002, 0), (3000004, 0)]]⟩, ⟨17, false, [.d i64]⟩, ⟨28, false, [.d (.sl q4)]⟩, ⟨29, false, [.d i64]⟩, ⟨30, false, [.d i64]⟩, ⟨51, false, [.d i64]⟩], [(3000000, .box [.row 3000006]), (3000001, .box [.d i64]), (3000002, .box [.fn 137 [(3000001, 0), (3000007, 0)]]), (3000003, .box [.row 3000008]), (3000004, .box [.row 3000009]), (3000005, .box [.d i64, .d i64, .d i64, .d i64]), (3000006, .row 60 false (.sl i64)), (3000007, .box [.d (.sl (.sl i64))]), (3000008, .row 60 false (.sl i64)), (3000009, .row 3 false i64)]⟩
noncomputable def T21 : List Item := (find 21 c0 []).getD []
noncomputable abbrev p23 : Tpl := ⟨[⟨7, false, [.ptr 3000000 0]⟩, ⟨8, false, [.ptr 3000001 0]⟩, ⟨9, false, [.ptr 3000002 0]⟩, ⟨10, false, [.ptr 3000003 0]⟩, ⟨11, false, [.d i64]⟩, ⟨13, false, [.ptr 3000004 0]⟩, ⟨15, false, [.fn 138 [(3000005, 0), (3000003, 0), (3000000, 0), (3000002, 0), (3000004, 0)]]⟩, ⟨17, false, [.d i64]⟩, ⟨28, false, [.d (.sl q4)]⟩, ⟨29, false, [.d i64]⟩, ⟨30, false, [.d i64]⟩, ⟨51, false, [.d i64]⟩], [(3000000, .box [.row 3000006]), (3000001, .box [.d i64]), (3000002, .box [.fn 137 [(3000001, 0), (3000007, 0)]]), (3000003, .box [.row 3000008]), (3000004, .box [.row 3000009]), (3000005, .box [.d i64, .d i64, .d i64, .d i64]), (3000006, .row 60 false (.sl i64)), (3000007, .box [.d (.sl (.sl i64))]), (3000008, .row 60 false (.sl i64)), (3000009, .row 3 false i64)]⟩
noncomputable def T23 : List Item := (find 23 c0 []).getD []
noncomputable abbrev PI := (List Q4) × (List (List Int)) × (List (List Int)) × Unit
noncomputable abbrev PO := (List (List Int)) × Unit
noncomputable abbrev G := PI → Option PO
noncomputable abbrev P6 := (List Q4) × Int × Int × Int × (List (List Int)) × (List (List Int)) × (List (List Int)) × Unit
noncomputable abbrev C6 := P6 → Option PO
noncomputable abbrev P13 := Int × Int × (List Q4) × Int × Int × Int × Int × Int × Int × Int × (List (List Int)) × (List (List Int)) × (List (List Int)) × (List Int) × Unit
noncomputable abbrev C13 := P13 → Option PO
noncomputable abbrev P14 := Int × Int × (List Q4) × Int × Int × Int × Int × Int × Int × Int × Int × Int × (List (List Int)) × (List (List Int)) × (List (List Int)) × (List Int) × Unit
noncomputable abbrev C14 := P14 → Option PO
noncomputable abbrev P19 := Int × (List Q4) × Int × Int × Int × Int × Int × Int × Int × Int × (List (List Int)) × (List (List Int)) × (List (List Int)) × (List Int) × Unit
noncomputable abbrev C19 := P19 → Option PO
noncomputable abbrev P21 := Int × Int × (List Q4) × Int × Int × Int × Int × Int × Int × Int × Int × (List (List Int)) × (List (List Int)) × (List (List Int)) × (List Int) × Unit
noncomputable abbrev C21 := P21 → Option PO
noncomputable abbrev P23 := Int × Int × (List Q4) × Int × Int × Int × Int × Int × Int × Int × Int × (List (List Int)) × (List (List Int)) × (List (List Int)) × (List Int) × Unit
noncomputable abbrev C23 := P23 → Option PO
noncomputable abbrev rs : List ResultVar := [.tmp 6]
noncomputable def F0 (J6 : C6) (Gslices_Concat_of : slices_Concat_of.G) (x0 : List Q4) (x1 : List (List Int)) (x2 : List (List Int)) : Option PO :=
  Option.bind (Gslices_Concat_of (([x1, x2] : List (List (List Int))), ())) fun y0 =>
  bif decide (0 ≤ (x0.length : Int)) && decide ((x0.length : Int) ≤ (x0.length : Int)) && decide ((x0.length : Int) * 24 ≤ 140737488355328) then
    J6 (x0, (x0.length : Int), 0, (y0.1.length : Int), y0.1, x1, (List.replicate (x0.length : Int).toNat [] : List (List Int)), ())
  else
    none
noncomputable def F6 (J13 : C13) (t28 : List Q4) (t29 : Int) (t30 : Int) (b1_0 : Int) (r4 : List (List Int)) (b5_0 : List (List Int)) (r6 : List (List Int)) : Option PO :=
  bif decide (t30 < t29) then
    bif inb t30 t28.length then
      bif decide (0 ≤ b1_0) && decide (b1_0 ≤ b1_0) && decide (b1_0 * 8 ≤ 140737488355328) then
        bif (t28.getD t30.toNat (0, 0, 0, 0)).1 == 7 then
          J13 (t30, 1, t28, t29, t30, b1_0, (t28.getD t30.toNat (0, 0, 0, 0)).1, (t28.getD t30.toNat (0, 0, 0, 0)).2.1, (t28.getD t30.toNat (0, 0, 0, 0)).2.2.1, (t28.getD t30.toNat (0, 0, 0, 0)).2.2.2, r4, b5_0, r6, (List.replicate b1_0.toNat 0 : List Int), ())
        else
          J13 (t30, 0, t28, t29, t30, b1_0, (t28.getD t30.toNat (0, 0, 0, 0)).1, (t28.getD t30.toNat (0, 0, 0, 0)).2.1, (t28.getD t30.toNat (0, 0, 0, 0)).2.2.1, (t28.getD t30.toNat (0, 0, 0, 0)).2.2.2, r4, b5_0, r6, (List.replicate b1_0.toNat 0 : List Int), ())
      else
        none
    else
      none
  else
    some (r6, ())
noncomputable def F13 (J14 : C14) (t11 : Int) (t14 : Int) (t28 : List Q4) (t29 : Int) (t30 : Int) (b1_0 : Int) (b5_0 : Int) (b5_1 : Int) (b5_2 : Int) (b5_3 : Int) (r6 : List (List Int)) (b7_0 : List (List Int)) (r8 : List (List Int)) (r9 : List Int) : Option PO :=
  J14 (t11, t14, t28, t29, t30, (r9.length : Int), 0, b1_0, b5_0, b5_1, b5_2, b5_3, r6, b7_0, r8, r9, ())
noncomputable def F14 (J14 : C14) (J19 : C19) (t11 : Int) (t14 : Int) (t28 : List Q4) (t29 : Int) (t30 : Int) (t42 : Int) (t43 : Int) (b1_0 : Int) (b5_0 : Int) (b5_1 : Int) (b5_2 : Int) (b5_3 : Int) (r6 : List (List Int)) (b7_0 : List (List Int)) (r8 : List (List Int)) (r9 : List Int) : Option PO :=
  bif decide (t43 < t42) then
    bif inb t43 r9.length then
      J14 (t11, t14, t28, t29, t30, t42, wI (t43 + 1), b1_0, b5_0, b5_1, b5_2, b5_3, r6, b7_0, r8, r9.set t43.toNat t14, ())
    else
      none
  else
    J19 (t11, t28, t29, t30, 0, b1_0, b5_0, b5_1, b5_2, b5_3, r6, b7_0, r8, r9, ())
noncomputable def F19 (J6 : C6) (J21 : C21) (t11 : Int) (t28 : List Q4) (t29 : Int) (t30 : Int) (t51 : Int) (b1_0 : Int) (b5_0 : Int) (b5_1 : Int) (b5_2 : Int) (b5_3 : Int) (r6 : List (List Int)) (b7_0 : List (List Int)) (r8 : List (List Int)) (r9 : List Int) : Option PO :=
  bif decide (t51 < 2) then
    J21 (t11, wI (b1_0 - 1), t28, t29, t30, t51, b1_0, b5_0, b5_1, b5_2, b5_3, r6, b7_0, r8, r9, ())
  else
    bif inb t11 r8.length then
      J6 (t28, t29, wI (t30 + 1), b1_0, r6, b7_0, r8.set t11.toNat r9, ())
    else
      none
noncomputable def F21 (J19 : C19) (J23 : C23) (t11 : Int) (t17 : Int) (t28 : List Q4) (t29 : Int) (t30 : Int) (t51 : Int) (b1_0 : Int) (b5_0 : Int) (b5_1 : Int) (b5_2 : Int) (b5_3 : Int) (r6 : List (List Int)) (b7_0 : List (List Int)) (r8 : List (List Int)) (r9 : List Int) : Option PO :=
  bif decide (t17 ≥ 0) then
    J23 (t11, t17, t28, t29, t30, t51, b1_0, b5_0, b5_1, b5_2, b5_3, r6, b7_0, r8, r9, ())
  else
    J19 (t11, t28, t29, t30, wI (t51 + 1), b1_0, b5_0, b5_1, b5_2, b5_3, r6, b7_0, r8, r9, ())
noncomputable def F23 (J21 : C21) (Gimpl_timesOn_2 : impl_timesOn_2.G) (t11 : Int) (t17 : Int) (t28 : List Q4) (t29 : Int) (t30 : Int) (t51 : Int) (b1_0 : Int) (b5_0 : Int) (b5_1 : Int) (b5_2 : Int) (b5_3 : Int) (r6 : List (List Int)) (b7_0 : List (List Int)) (r8 : List (List Int)) (r9 : List Int) : Option PO :=
  Option.bind (Gimpl_timesOn_2 (t17, b5_0, b5_1, b5_2, b5_3, r8, r6, b1_0, b7_0, r9, ())) fun y1 =>
  bif inb t17 y1.2.2.2.2.2.2.2.2.2.1.length then
    J21 (t11, wI (t17 - 1), t28, t29, t30, t51, y1.2.2.2.2.2.2.2.1, y1.2.1, y1.2.2.1, y1.2.2.2.1, y1.2.2.2.2.1, y1.2.2.2.2.2.2.1, y1.2.2.2.2.2.2.2.2.1, y1.2.2.2.2.2.1, y1.2.2.2.2.2.2.2.2.2.1.set t17.toNat y1.1, ())
  else
    none
noncomputable def hd {R : Type} (Gimpl_timesOn_2 : impl_timesOn_2.G) (Gslices_Concat_of : slices_Concat_of.G) : Hand R := (handAt 138 [63] false ⟨6, 1, 6, impl_timesOn_2.pin, impl_timesOn_2.pout, Gimpl_timesOn_2⟩ (handAt 136 [21] false ⟨1, 1, 1, slices_Concat_of.pin, slices_Concat_of.pout, Gslices_Concat_of⟩ handNil))
noncomputable def pg (Gimpl_timesOn_2 : impl_timesOn_2.G) (Gslices_Concat_of : slices_Concat_of.G) (J6 : List Item → C6) (J13 : List Item → C13) (J14 : List Item → C14) (J19 : List Item → C19) (J21 : List Item → C21) (J23 : List Item → C23) : Prog PO := { nt := 72, np := 3, tb := tabOf tab, hd := hd Gimpl_timesOn_2 Gslices_Concat_of, cuts := cutsOf [(6, cut p6 J6), (13, cut p13 J13), (14, cut p14 J14), (19, cut p19 J19), (21, cut p21 J21), (23, cut p23 J23)], fin := endOf (tabOf tab) rs 3 pout }
noncomputable def q : FuncId → Bool := fun f => hasId [] f
theorem seg0 (Gimpl_timesOn_2 : impl_timesOn_2.G) (Gslices_Concat_of : slices_Concat_of.G) (J6 : List Item → C6) (J13 : List Item → C13) (J14 : List Item → C14) (J19 : List Item → C19) (J21 : List Item → C21) (J23 : List Item → C23) (x0 : List Q4) (x1 : List (List Int)) (x2 : List (List Int)) : arun (pg Gimpl_timesOn_2 Gslices_Concat_of J6 J13 J14 J19 J21 J23) 5000 [.code c0] (mk pin (x0, x1, x2, ())) = F0 (J6 T6) Gslices_Concat_of x0 x1 x2 := by kernel_rfl
theorem seg6 (Gimpl_timesOn_2 : impl_timesOn_2.G) (Gslices_Concat_of : slices_Concat_of.G) (J6 : List Item → C6) (J13 : List Item → C13) (J14 : List Item → C14) (J19 : List Item → C19) (J21 : List Item → C21) (J23 : List Item → C23) (t28 : List Q4) (t29 : Int) (t30 : Int) (b1_0 : Int) (r4 : List (List Int)) (b5_0 : List (List Int)) (r6 : List (List Int)) : arun1 (pg Gimpl_timesOn_2 Gslices_Concat_of J6 J13 J14 J19 J21 J23) 5000 T6 (mk p6 (t28, t29, t30, b1_0, r4, b5_0, r6, ())) = F6 (J13 T13) t28 t29 t30 b1_0 r4 b5_0 r6 := by kernel_rfl
theorem seg13 (Gimpl_timesOn_2 : impl_timesOn_2.G) (Gslices_Concat_of : slices_Concat_of.G) (J6 : List Item → C6) (J13 : List Item → C13) (J14 : List Item → C14) (J19 : List Item → C19) (J21 : List Item → C21) (J23 : List Item → C23) (t11 : Int) (t14 : Int) (t28 : List Q4) (t29 : Int) (t30 : Int) (b1_0 : Int) (b5_0 : Int) (b5_1 : Int) (b5_2 : Int) (b5_3 : Int) (r6 : List (List Int)) (b7_0 : List (List Int)) (r8 : List (List Int)) (r9 : List Int) : arun1 (pg Gimpl_timesOn_2 Gslices_Concat_of J6 J13 J14 J19 J21 J23) 5000 T13 (mk p13 (t11, t14, t28, t29, t30, b1_0, b5_0, b5_1, b5_2, b5_3, r6, b7_0, r8, r9, ())) = F13 (J14 T14) t11 t14 t28 t29 t30 b1_0 b5_0 b5_1 b5_2 b5_3 r6 b7_0 r8 r9 := by kernel_rfl
theorem seg14 (Gimpl_timesOn_2 : impl_timesOn_2.G) (Gslices_Concat_of : slices_Concat_of.G) (J6 : List Item → C6) (J13 : List Item → C13) (J14 : List Item → C14) (J19 : List Item → C19) (J21 : List Item → C21) (J23 : List Item → C23) (t11 : Int) (t14 : Int) (t28 : List Q4) (t29 : Int) (t30 : Int) (t42 : Int) (t43 : Int) (b1_0 : Int) (b5_0 : Int) (b5_1 : Int) (b5_2 : Int) (b5_3 : Int) (r6 : List (List Int)) (b7_0 : List (List Int)) (r8 : List (List Int)) (r9 : List Int) : arun1 (pg Gimpl_timesOn_2 Gslices_Concat_of J6 J13 J14 J19 J21 J23) 5000 T14 (mk p14 (t11, t14, t28, t29, t30, t42, t43, b1_0, b5_0, b5_1, b5_2, b5_3, r6, b7_0, r8, r9, ())) = F14 (J14 T14) (J19 T19) t11 t14 t28 t29 t30 t42 t43 b1_0 b5_0 b5_1 b5_2 b5_3 r6 b7_0 r8 r9 := by kernel_rfl
theorem seg19 (Gimpl_timesOn_2 : impl_timesOn_2.G) (Gslices_Concat_of : slices_Concat_of.G) (J6 : List Item → C6) (J13 : List Item → C13) (J14 : List Item → C14) (J19 : List Item → C19) (J21 : List Item → C21) (J23 : List Item → C23) (t11 : Int) (t28 : List Q4) (t29 : Int) (t30 : Int) (t51 : Int) (b1_0 : Int) (b5_0 : Int) (b5_1 : Int) (b5_2 : Int) (b5_3 : Int) (r6 : List (List Int)) (b7_0 : List (List Int)) (r8 : List (List Int)) (r9 : List Int) : arun1 (pg Gimpl_timesOn_2 Gslices_Concat_of J6 J13 J14 J19 J21 J23) 5000 T19 (mk p19 (t11, t28, t29, t30, t51, b1_0, b5_0, b5_1, b5_2, b5_3, r6, b7_0, r8, r9, ())) = F19 (J6 T6) (J21 T21) t11 t28 t29 t30 t51 b1_0 b5_0 b5_1 b5_2 b5_3 r6 b7_0 r8 r9 := by kernel_rfl
theorem seg21 (Gimpl_timesOn_2 : impl_timesOn_2.G) (Gslices_Concat_of : slices_Concat_of.G) (J6 : List Item → C6) (J13 : List Item → C13) (J14 : List Item → C14) (J19 : List Item → C19) (J21 : List Item → C21) (J23 : List Item → C23) (t11 : Int) (t17 : Int) (t28 : List Q4) (t29 : Int) (t30 : Int) (t51 : Int) (b1_0 : Int) (b5_0 : Int) (b5_1 : Int) (b5_2 : Int) (b5_3 : Int) (r6 : List (List Int)) (b7_0 : List (List Int)) (r8 : List (List Int)) (r9 : List Int) : arun1 (pg Gimpl_timesOn_2 Gslices_Concat_of J6 J13 J14 J19 J21 J23) 5000 T21 (mk p21 (t11, t17, t28, t29, t30, t51, b1_0, b5_0, b5_1, b5_2, b5_3, r6, b7_0, r8, r9, ())) = F21 (J19 T19) (J23 T23) t11 t17 t28 t29 t30 t51 b1_0 b5_0 b5_1 b5_2 b5_3 r6 b7_0 r8 r9 := by kernel_rfl
theorem seg23 (Gimpl_timesOn_2 : impl_timesOn_2.G) (Gslices_Concat_of : slices_Concat_of.G) (J6 : List Item → C6) (J13 : List Item → C13) (J14 : List Item → C14) (J19 : List Item → C19) (J21 : List Item → C21) (J23 : List Item → C23) (t11 : Int) (t17 : Int) (t28 : List Q4) (t29 : Int) (t30 : Int) (t51 : Int) (b1_0 : Int) (b5_0 : Int) (b5_1 : Int) (b5_2 : Int) (b5_3 : Int) (r6 : List (List Int)) (b7_0 : List (List Int)) (r8 : List (List Int)) (r9 : List Int) : arunE (pg Gimpl_timesOn_2 Gslices_Concat_of J6 J13 J14 J19 J21 J23) 5000 T23 (mk p23 (t11, t17, t28, t29, t30, t51, b1_0, b5_0, b5_1, b5_2, b5_3, r6, b7_0, r8, r9, ())) = List.replicate (arunE (pg Gimpl_timesOn_2 Gslices_Concat_of J6 J13 J14 J19 J21 J23) 5000 T23 (mk p23 (t11, t17, t28, t29, t30, t51, b1_0, b5_0, b5_1, b5_2, b5_3, r6, b7_0, r8, r9, ()))).length (F23 (J21 T21) Gimpl_timesOn_2 t11 t17 t28 t29 t30 t51 b1_0 b5_0 b5_1 b5_2 b5_3 r6 b7_0 r8 r9) := by kernel_rfl
noncomputable def L23 (J6 : C6) (J19 : C19) (J21 : C21) : C23 := fun x => F23 J21 impl_timesOn_2.impl x.1 x.2.1 x.2.2.1 x.2.2.2.1 x.2.2.2.2.1 x.2.2.2.2.2.1 x.2.2.2.2.2.2.1 x.2.2.2.2.2.2.2.1 x.2.2.2.2.2.2.2.2.1 x.2.2.2.2.2.2.2.2.2.1 x.2.2.2.2.2.2.2.2.2.2.1 x.2.2.2.2.2.2.2.2.2.2.2.1 x.2.2.2.2.2.2.2.2.2.2.2.2.1 x.2.2.2.2.2.2.2.2.2.2.2.2.2.1 x.2.2.2.2.2.2.2.2.2.2.2.2.2.2.1
noncomputable def L21 (J6 : C6) (J19 : C19) : C21 := lfp fun J21 x => F21 J19 (L23 J6 J19 J21) x.1 x.2.1 x.2.2.1 x.2.2.2.1 x.2.2.2.2.1 x.2.2.2.2.2.1 x.2.2.2.2.2.2.1 x.2.2.2.2.2.2.2.1 x.2.2.2.2.2.2.2.2.1 x.2.2.2.2.2.2.2.2.2.1 x.2.2.2.2.2.2.2.2.2.2.1 x.2.2.2.2.2.2.2.2.2.2.2.1 x.2.2.2.2.2.2.2.2.2.2.2.2.1 x.2.2.2.2.2.2.2.2.2.2.2.2.2.1 x.2.2.2.2.2.2.2.2.2.2.2.2.2.2.1
noncomputable def L19 (J6 : C6) : C19 := lfp fun J19 x => F19 J6 (L21 J6 J19) x.1 x.2.1 x.2.2.1 x.2.2.2.1 x.2.2.2.2.1 x.2.2.2.2.2.1 x.2.2.2.2.2.2.1 x.2.2.2.2.2.2.2.1 x.2.2.2.2.2.2.2.2.1 x.2.2.2.2.2.2.2.2.2.1 x.2.2.2.2.2.2.2.2.2.2.1 x.2.2.2.2.2.2.2.2.2.2.2.1 x.2.2.2.2.2.2.2.2.2.2.2.2.1 x.2.2.2.2.2.2.2.2.2.2.2.2.2.1
noncomputable def L14 (J6 : C6) : C14 := lfp fun J14 x => F14 J14 (L19 J6) x.1 x.2.1 x.2.2.1 x.2.2.2.1 x.2.2.2.2.1 x.2.2.2.2.2.1 x.2.2.2.2.2.2.1 x.2.2.2.2.2.2.2.1 x.2.2.2.2.2.2.2.2.1 x.2.2.2.2.2.2.2.2.2.1 x.2.2.2.2.2.2.2.2.2.2.1 x.2.2.2.2.2.2.2.2.2.2.2.1 x.2.2.2.2.2.2.2.2.2.2.2.2.1 x.2.2.2.2.2.2.2.2.2.2.2.2.2.1 x.2.2.2.2.2.2.2.2.2.2.2.2.2.2.1 x.2.2.2.2.2.2.2.2.2.2.2.2.2.2.2.1
noncomputable def L13 (J6 : C6) : C13 := fun x => F13 (L14 J6) x.1 x.2.1 x.2.2.1 x.2.2.2.1 x.2.2.2.2.1 x.2.2.2.2.2.1 x.2.2.2.2.2.2.1 x.2.2.2.2.2.2.2.1 x.2.2.2.2.2.2.2.2.1 x.2.2.2.2.2.2.2.2.2.1 x.2.2.2.2.2.2.2.2.2.2.1 x.2.2.2.2.2.2.2.2.2.2.2.1 x.2.2.2.2.2.2.2.2.2.2.2.2.1 x.2.2.2.2.2.2.2.2.2.2.2.2.2.1
noncomputable def L6 : C6 := lfp fun J6 x => F6 (L13 J6) x.1 x.2.1 x.2.2.1 x.2.2.2.1 x.2.2.2.2.1 x.2.2.2.2.2.1 x.2.2.2.2.2.2.1
noncomputable def impl : G := fun x => F0 L6 slices_Concat_of.impl x.1 x.2.1 x.2.2.1
theorem F23_le {J21 J21' : C21} (h21 : OLe J21 J21') {Gimpl_timesOn_2 : impl_timesOn_2.G} (t11 : Int) (t17 : Int) (t28 : List Q4) (t29 : Int) (t30 : Int) (t51 : Int) (b1_0 : Int) (b5_0 : Int) (b5_1 : Int) (b5_2 : Int) (b5_3 : Int) (r6 : List (List Int)) (b7_0 : List (List Int)) (r8 : List (List Int)) (r9 : List Int) : OptLe (F23 J21 Gimpl_timesOn_2 t11 t17 t28 t29 t30 t51 b1_0 b5_0 b5_1 b5_2 b5_3 r6 b7_0 r8 r9) (F23 J21' Gimpl_timesOn_2 t11 t17 t28 t29 t30 t51 b1_0 b5_0 b5_1 b5_2 b5_3 r6 b7_0 r8 r9) := by unfold F23; exact .bind (.refl _) fun _ => .cond (.of h21 _) (.refl _)
theorem F21_le {J19 J19' : C19} (h19 : OLe J19 J19') {J23 J23' : C23} (h23 : OLe J23 J23') (t11 : Int) (t17 : Int) (t28 : List Q4) (t29 : Int) (t30 : Int) (t51 : Int) (b1_0 : Int) (b5_0 : Int) (b5_1 : Int) (b5_2 : Int) (b5_3 : Int) (r6 : List (List Int)) (b7_0 : List (List Int)) (r8 : List (List Int)) (r9 : List Int) : OptLe (F21 J19 J23 t11 t17 t28 t29 t30 t51 b1_0 b5_0 b5_1 b5_2 b5_3 r6 b7_0 r8 r9) (F21 J19' J23' t11 t17 t28 t29 t30 t51 b1_0 b5_0 b5_1 b5_2 b5_3 r6 b7_0 r8 r9) := by unfold F21; exact .cond (.of h23 _) (.of h19 _)
theorem F19_le {J6 J6' : C6} (h6 : OLe J6 J6') {J21 J21' : C21} (h21 : OLe J21 J21') (t11 : Int) (t28 : List Q4) (t29 : Int) (t30 : Int) (t51 : Int) (b1_0 : Int) (b5_0 : Int) (b5_1 : Int) (b5_2 : Int) (b5_3 : Int) (r6 : List (List Int)) (b7_0 : List (List Int)) (r8 : List (List Int)) (r9 : List Int) : OptLe (F19 J6 J21 t11 t28 t29 t30 t51 b1_0 b5_0 b5_1 b5_2 b5_3 r6 b7_0 r8 r9) (F19 J6' J21' t11 t28 t29 t30 t51 b1_0 b5_0 b5_1 b5_2 b5_3 r6 b7_0 r8 r9) := by unfold F19; exact .cond (.of h21 _) (.cond (.of h6 _) (.refl _))
theorem F14_le {J14 J14' : C14} (h14 : OLe J14 J14') {J19 J19' : C19} (h19 : OLe J19 J19') (t11 : Int) (t14 : Int) (t28 : List Q4) (t29 : Int) (t30 : Int) (t42 : Int) (t43 : Int) (b1_0 : Int) (b5_0 : Int) (b5_1 : Int) (b5_2 : Int) (b5_3 : Int) (r6 : List (List Int)) (b7_0 : List (List Int)) (r8 : List (List Int)) (r9 : List Int) : OptLe (F14 J14 J19 t11 t14 t28 t29 t30 t42 t43 b1_0 b5_0 b5_1 b5_2 b5_3 r6 b7_0 r8 r9) (F14 J14' J19' t11 t14 t28 t29 t30 t42 t43 b1_0 b5_0 b5_1 b5_2 b5_3 r6 b7_0 r8 r9) := by unfold F14; exact .cond (.cond (.of h14 _) (.refl _)) (.of h19 _)
theorem F13_le {J14 J14' : C14} (h14 : OLe J14 J14') (t11 : Int) (t14 : Int) (t28 : List Q4) (t29 : Int) (t30 : Int) (b1_0 : Int) (b5_0 : Int) (b5_1 : Int) (b5_2 : Int) (b5_3 : Int) (r6 : List (List Int)) (b7_0 : List (List Int)) (r8 : List (List Int)) (r9 : List Int) : OptLe (F13 J14 t11 t14 t28 t29 t30 b1_0 b5_0 b5_1 b5_2 b5_3 r6 b7_0 r8 r9) (F13 J14' t11 t14 t28 t29 t30 b1_0 b5_0 b5_1 b5_2 b5_3 r6 b7_0 r8 r9) := by unfold F13; exact .of h14 _
theorem F6_le {J13 J13' : C13} (h13 : OLe J13 J13') (t28 : List Q4) (t29 : Int) (t30 : Int) (b1_0 : Int) (r4 : List (List Int)) (b5_0 : List (List Int)) (r6 : List (List Int)) : OptLe (F6 J13 t28 t29 t30 b1_0 r4 b5_0 r6) (F6 J13' t28 t29 t30 b1_0 r4 b5_0 r6) := by unfold F6; exact .cond (.cond (.cond (.cond (.of h13 _) (.of h13 _)) (.refl _)) (.refl _)) (.refl _)
theorem L23_eq (J6 : C6) (J19 : C19) (J21 : C21) (t11 : Int) (t17 : Int) (t28 : List Q4) (t29 : Int) (t30 : Int) (t51 : Int) (b1_0 : Int) (b5_0 : Int) (b5_1 : Int) (b5_2 : Int) (b5_3 : Int) (r6 : List (List Int)) (b7_0 : List (List Int)) (r8 : List (List Int)) (r9 : List Int) : L23 J6 J19 J21 (t11, t17, t28, t29, t30, t51, b1_0, b5_0, b5_1, b5_2, b5_3, r6, b7_0, r8, r9, ()) = F23 J21 impl_timesOn_2.impl t11 t17 t28 t29 t30 t51 b1_0 b5_0 b5_1 b5_2 b5_3 r6 b7_0 r8 r9 := rfl
theorem L23_le {J6 J6' : C6} (h6 : OLe J6 J6') {J19 J19' : C19} (h19 : OLe J19 J19') {J21 J21' : C21} (h21 : OLe J21 J21') : OLe (L23 J6 J19 J21) (L23 J6' J19' J21') := fun x => F23_le h21 x.1 x.2.1 x.2.2.1 x.2.2.2.1 x.2.2.2.2.1 x.2.2.2.2.2.1 x.2.2.2.2.2.2.1 x.2.2.2.2.2.2.2.1 x.2.2.2.2.2.2.2.2.1 x.2.2.2.2.2.2.2.2.2.1 x.2.2.2.2.2.2.2.2.2.2.1 x.2.2.2.2.2.2.2.2.2.2.2.1 x.2.2.2.2.2.2.2.2.2.2.2.2.1 x.2.2.2.2.2.2.2.2.2.2.2.2.2.1 x.2.2.2.2.2.2.2.2.2.2.2.2.2.2.1
theorem L21_mono (J6 : C6) (J19 : C19) : OMono fun J21 (x : P21) => F21 J19 (L23 J6 J19 J21) x.1 x.2.1 x.2.2.1 x.2.2.2.1 x.2.2.2.2.1 x.2.2.2.2.2.1 x.2.2.2.2.2.2.1 x.2.2.2.2.2.2.2.1 x.2.2.2.2.2.2.2.2.1 x.2.2.2.2.2.2.2.2.2.1 x.2.2.2.2.2.2.2.2.2.2.1 x.2.2.2.2.2.2.2.2.2.2.2.1 x.2.2.2.2.2.2.2.2.2.2.2.2.1 x.2.2.2.2.2.2.2.2.2.2.2.2.2.1 x.2.2.2.2.2.2.2.2.2.2.2.2.2.2.1 := fun J J' h21 x => F21_le (fun _ _ h => h) (L23_le (fun _ _ h => h) (fun _ _ h => h) h21) x.1 x.2.1 x.2.2.1 x.2.2.2.1 x.2.2.2.2.1 x.2.2.2.2.2.1 x.2.2.2.2.2.2.1 x.2.2.2.2.2.2.2.1 x.2.2.2.2.2.2.2.2.1 x.2.2.2.2.2.2.2.2.2.1 x.2.2.2.2.2.2.2.2.2.2.1 x.2.2.2.2.2.2.2.2.2.2.2.1 x.2.2.2.2.2.2.2.2.2.2.2.2.1 x.2.2.2.2.2.2.2.2.2.2.2.2.2.1 x.2.2.2.2.2.2.2.2.2.2.2.2.2.2.1
theorem L21_eq (J6 : C6) (J19 : C19) (t11 : Int) (t17 : Int) (t28 : List Q4) (t29 : Int) (t30 : Int) (t51 : Int) (b1_0 : Int) (b5_0 : Int) (b5_1 : Int) (b5_2 : Int) (b5_3 : Int) (r6 : List (List Int)) (b7_0 : List (List Int)) (r8 : List (List Int)) (r9 : List Int) : L21 J6 J19 (t11, t17, t28, t29, t30, t51, b1_0, b5_0, b5_1, b5_2, b5_3, r6, b7_0, r8, r9, ()) = F21 J19 (L23 J6 J19 (L21 J6 J19)) t11 t17 t28 t29 t30 t51 b1_0 b5_0 b5_1 b5_2 b5_3 r6 b7_0 r8 r9 := congrFun (lfp_eq (L21_mono J6 J19)) _
theorem L21_le {J6 J6' : C6} (h6 : OLe J6 J6') {J19 J19' : C19} (h19 : OLe J19 J19') : OLe (L21 J6 J19) (L21 J6' J19') := lfp_le (L21_mono J6' J19') fun J x => F21_le h19 (L23_le h6 h19 (fun _ _ h => h)) x.1 x.2.1 x.2.2.1 x.2.2.2.1 x.2.2.2.2.1 x.2.2.2.2.2.1 x.2.2.2.2.2.2.1 x.2.2.2.2.2.2.2.1 x.2.2.2.2.2.2.2.2.1 x.2.2.2.2.2.2.2.2.2.1 x.2.2.2.2.2.2.2.2.2.2.1 x.2.2.2.2.2.2.2.2.2.2.2.1 x.2.2.2.2.2.2.2.2.2.2.2.2.1 x.2.2.2.2.2.2.2.2.2.2.2.2.2.1 x.2.2.2.2.2.2.2.2.2.2.2.2.2.2.1
theorem L19_mono (J6 : C6) : OMono fun J19 (x : P19) => F19 J6 (L21 J6 J19) x.1 x.2.1 x.2.2.1 x.2.2.2.1 x.2.2.2.2.1 x.2.2.2.2.2.1 x.2.2.2.2.2.2.1 x.2.2.2.2.2.2.2.1 x.2.2.2.2.2.2.2.2.1 x.2.2.2.2.2.2.2.2.2.1 x.2.2.2.2.2.2.2.2.2.2.1 x.2.2.2.2.2.2.2.2.2.2.2.1 x.2.2.2.2.2.2.2.2.2.2.2.2.1 x.2.2.2.2.2.2.2.2.2.2.2.2.2.1 := fun J J' h19 x => F19_le (fun _ _ h => h) (L21_le (fun _ _ h => h) h19) x.1 x.2.1 x.2.2.1 x.2.2.2.1 x.2.2.2.2.1 x.2.2.2.2.2.1 x.2.2.2.2.2.2.1 x.2.2.2.2.2.2.2.1 x.2.2.2.2.2.2.2.2.1 x.2.2.2.2.2.2.2.2.2.1 x.2.2.2.2.2.2.2.2.2.2.1 x.2.2.2.2.2.2.2.2.2.2.2.1 x.2.2.2.2.2.2.2.2.2.2.2.2.1 x.2.2.2.2.2.2.2.2.2.2.2.2.2.1
theorem L19_eq (J6 : C6) (t11 : Int) (t28 : List Q4) (t29 : Int) (t30 : Int) (t51 : Int) (b1_0 : Int) (b5_0 : Int) (b5_1 : Int) (b5_2 : Int) (b5_3 : Int) (r6 : List (List Int)) (b7_0 : List (List Int)) (r8 : List (List Int)) (r9 : List Int) : L19 J6 (t11, t28, t29, t30, t51, b1_0, b5_0, b5_1, b5_2, b5_3, r6, b7_0, r8, r9, ()) = F19 J6 (L21 J6 (L19 J6)) t11 t28 t29 t30 t51 b1_0 b5_0 b5_1 b5_2 b5_3 r6 b7_0 r8 r9 := congrFun (lfp_eq (L19_mono J6)) _
theorem L19_le {J6 J6' : C6} (h6 : OLe J6 J6') : OLe (L19 J6) (L19 J6') := lfp_le (L19_mono J6') fun J x => F19_le h6 (L21_le h6 (fun _ _ h => h)) x.1 x.2.1 x.2.2.1 x.2.2.2.1 x.2.2.2.2.1 x.2.2.2.2.2.1 x.2.2.2.2.2.2.1 x.2.2.2.2.2.2.2.1 x.2.2.2.2.2.2.2.2.1 x.2.2.2.2.2.2.2.2.2.1 x.2.2.2.2.2.2.2.2.2.2.1 x.2.2.2.2.2.2.2.2.2.2.2.1 x.2.2.2.2.2.2.2.2.2.2.2.2.1 x.2.2.2.2.2.2.2.2.2.2.2.2.2.1
theorem L14_mono (J6 : C6) : OMono fun J14 (x : P14) => F14 J14 (L19 J6) x.1 x.2.1 x.2.2.1 x.2.2.2.1 x.2.2.2.2.1 x.2.2.2.2.2.1 x.2.2.2.2.2.2.1 x.2.2.2.2.2.2.2.1 x.2.2.2.2.2.2.2.2.1 x.2.2.2.2.2.2.2.2.2.1 x.2.2.2.2.2.2.2.2.2.2.1 x.2.2.2.2.2.2.2.2.2.2.2.1 x.2.2.2.2.2.2.2.2.2.2.2.2.1 x.2.2.2.2.2.2.2.2.2.2.2.2.2.1 x.2.2.2.2.2.2.2.2.2.2.2.2.2.2.1 x.2.2.2.2.2.2.2.2.2.2.2.2.2.2.2.1 := fun J J' h14 x => F14_le h14 (L19_le (fun _ _ h => h)) x.1 x.2.1 x.2.2.1 x.2.2.2.1 x.2.2.2.2.1 x.2.2.2.2.2.1 x.2.2.2.2.2.2.1 x.2.2.2.2.2.2.2.1 x.2.2.2.2.2.2.2.2.1 x.2.2.2.2.2.2.2.2.2.1 x.2.2.2.2.2.2.2.2.2.2.1 x.2.2.2.2.2.2.2.2.2.2.2.1 x.2.2.2.2.2.2.2.2.2.2.2.2.1 x.2.2.2.2.2.2.2.2.2.2.2.2.2.1 x.2.2.2.2.2.2.2.2.2.2.2.2.2.2.1 x.2.2.2.2.2.2.2.2.2.2.2.2.2.2.2.1
theorem L14_eq (J6 : C6) (t11 : Int) (t14 : Int) (t28 : List Q4) (t29 : Int) (t30 : Int) (t42 : Int) (t43 : Int) (b1_0 : Int) (b5_0 : Int) (b5_1 : Int) (b5_2 : Int) (b5_3 : Int) (r6 : List (List Int)) (b7_0 : List (List Int)) (r8 : List (List Int)) (r9 : List Int) : L14 J6 (t11, t14, t28, t29, t30, t42, t43, b1_0, b5_0, b5_1, b5_2, b5_3, r6, b7_0, r8, r9, ()) = F14 (L14 J6) (L19 J6) t11 t14 t28 t29 t30 t42 t43 b1_0 b5_0 b5_1 b5_2 b5_3 r6 b7_0 r8 r9 := congrFun (lfp_eq (L14_mono J6)) _
theorem L14_le {J6 J6' : C6} (h6 : OLe J6 J6') : OLe (L14 J6) (L14 J6') := lfp_le (L14_mono J6') fun J x => F14_le (fun _ _ h => h) (L19_le h6) x.1 x.2.1 x.2.2.1 x.2.2.2.1 x.2.2.2.2.1 x.2.2.2.2.2.1 x.2.2.2.2.2.2.1 x.2.2.2.2.2.2.2.1 x.2.2.2.2.2.2.2.2.1 x.2.2.2.2.2.2.2.2.2.1 x.2.2.2.2.2.2.2.2.2.2.1 x.2.2.2.2.2.2.2.2.2.2.2.1 x.2.2.2.2.2.2.2.2.2.2.2.2.1 x.2.2.2.2.2.2.2.2.2.2.2.2.2.1 x.2.2.2.2.2.2.2.2.2.2.2.2.2.2.1 x.2.2.2.2.2.2.2.2.2.2.2.2.2.2.2.1
theorem L13_eq (J6 : C6) (t11 : Int) (t14 : Int) (t28 : List Q4) (t29 : Int) (t30 : Int) (b1_0 : Int) (b5_0 : Int) (b5_1 : Int) (b5_2 : Int) (b5_3 : Int) (r6 : List (List Int)) (b7_0 : List (List Int)) (r8 : List (List Int)) (r9 : List Int) : L13 J6 (t11, t14, t28, t29, t30, b1_0, b5_0, b5_1, b5_2, b5_3, r6, b7_0, r8, r9, ()) = F13 (L14 J6) t11 t14 t28 t29 t30 b1_0 b5_0 b5_1 b5_2 b5_3 r6 b7_0 r8 r9 := rfl
theorem L13_le {J6 J6' : C6} (h6 : OLe J6 J6') : OLe (L13 J6) (L13 J6') := fun x => F13_le (L14_le h6) x.1 x.2.1 x.2.2.1 x.2.2.2.1 x.2.2.2.2.1 x.2.2.2.2.2.1 x.2.2.2.2.2.2.1 x.2.2.2.2.2.2.2.1 x.2.2.2.2.2.2.2.2.1 x.2.2.2.2.2.2.2.2.2.1 x.2.2.2.2.2.2.2.2.2.2.1 x.2.2.2.2.2.2.2.2.2.2.2.1 x.2.2.2.2.2.2.2.2.2.2.2.2.1 x.2.2.2.2.2.2.2.2.2.2.2.2.2.1
theorem L6_mono : OMono fun J6 (x : P6) => F6 (L13 J6) x.1 x.2.1 x.2.2.1 x.2.2.2.1 x.2.2.2.2.1 x.2.2.2.2.2.1 x.2.2.2.2.2.2.1 := fun J J' h6 x => F6_le (L13_le h6) x.1 x.2.1 x.2.2.1 x.2.2.2.1 x.2.2.2.2.1 x.2.2.2.2.2.1 x.2.2.2.2.2.2.1
theorem L6_eq (t28 : List Q4) (t29 : Int) (t30 : Int) (b1_0 : Int) (r4 : List (List Int)) (b5_0 : List (List Int)) (r6 : List (List Int)) : L6 (t28, t29, t30, b1_0, r4, b5_0, r6, ()) = F6 (L13 (L6)) t28 t29 t30 b1_0 r4 b5_0 r6 := congrFun (lfp_eq (L6_mono)) _
theorem impl_eq (x0 : List Q4) (x1 : List (List Int)) (x2 : List (List Int)) : impl (x0, x1, x2, ()) = F0 L6 slices_Concat_of.impl x0 x1 x2 := rfl
theorem con : Con Try.prog 89 3 rs.length 3 pin pout impl := by
  refine con_of_run3 (nt := 72) (c := c0) tabGood Try.func89 (by kernel_rfl) (by kernel_rfl) (by kernel_rfl) (by kernel_rfl) (by kernel_rfl) (by kernel_rfl) (by kernel_rfl) ?_
  intro w0 O y Post hnp fin
  have hp : ∀ (J6 : List Item → C6), ∀ (J13 : List Item → C13), ∀ (J14 : List Item → C14), ∀ (J19 : List Item → C19), ∀ (J21 : List Item → C21), ∀ (J23 : List Item → C23), Parts Try.prog 89 (pg impl_timesOn_2.impl slices_Concat_of.impl J6 J13 J14 J19 J21 J23) [(6, cut p6 J6), (13, cut p13 J13), (14, cut p14 J14), (19, cut p19 J19), (21, cut p21 J21), (23, cut p23 J23)] := fun J6 J13 J14 J19 J21 J23 => ⟨tab_ok tabGood rfl, (handAt_ok impl_timesOn_2.con (handAt_ok slices_Concat_of.con handNil_ok)), rfl⟩
  have g23 : ∀ (J6 : C6), Good Try.prog 72 w0 O Post y T6 p6 J6 → ∀ (J19 : C19), Good Try.prog 72 w0 O Post y T19 p19 J19 → ∀ (J21 : C21), Good Try.prog 72 w0 O Post y T21 p21 J21 → Good Try.prog 72 w0 O Post y T23 p23 (L23 J6 J19 J21) := fun J6 h6 J19 h19 J21 h21 => good_orders (hs := hd impl_timesOn_2.impl slices_Concat_of.impl) (cv' := hd impl_timesOn_2.impl slices_Concat_of.impl) (Checked.mixed Try.checked) (hp (atT T6 (fun _ => none)) (atT T13 (fun _ => none)) (atT T14 (fun _ => none)) (atT T19 (fun _ => none)) (atT T21 J21) (atT T23 (fun _ => none))) (handAt_ok impl_timesOn_2.con (handAt_ok slices_Concat_of.con handNil_ok)) (handAt_nat (handAt_nat handNil_nat)) (handAt_nat (handAt_nat handNil_nat)) (runOK_of (hp (atT T6 (fun _ => none)) (atT T13 (fun _ => none)) (atT T14 (fun _ => none)) (atT T19 (fun _ => none)) (atT T21 J21) (atT T23 (fun _ => none))) hnp ⟨cutOK_at (p := p6) (T := T6) (J := fun _ => none) good_none, cutOK_at (p := p13) (T := T13) (J := fun _ => none) good_none, cutOK_at (p := p14) (T := T14) (J := fun _ => none) good_none, cutOK_at (p := p19) (T := T19) (J := fun _ => none) good_none, cutOK_at h21, cutOK_at (p := p23) (T := T23) (J := fun _ => none) good_none, trivial⟩ fin) (fun x => all_same ⟨_, (seg23 impl_timesOn_2.impl slices_Concat_of.impl (atT T6 (fun _ => none)) (atT T13 (fun _ => none)) (atT T14 (fun _ => none)) (atT T19 (fun _ => none)) (atT T21 J21) (atT T23 (fun _ => none)) x.1 x.2.1 x.2.2.1 x.2.2.2.1 x.2.2.2.2.1 x.2.2.2.2.2.1 x.2.2.2.2.2.2.1 x.2.2.2.2.2.2.2.1 x.2.2.2.2.2.2.2.2.1 x.2.2.2.2.2.2.2.2.2.1 x.2.2.2.2.2.2.2.2.2.2.1 x.2.2.2.2.2.2.2.2.2.2.2.1 x.2.2.2.2.2.2.2.2.2.2.2.2.1 x.2.2.2.2.2.2.2.2.2.2.2.2.2.1 x.2.2.2.2.2.2.2.2.2.2.2.2.2.2.1).trans (by simp only [atT_self] <;> rfl)⟩)
  have g21 : ∀ (J6 : C6), Good Try.prog 72 w0 O Post y T6 p6 J6 → ∀ (J19 : C19), Good Try.prog 72 w0 O Post y T19 p19 J19 → Good Try.prog 72 w0 O Post y T21 p21 (L21 J6 J19) := fun J6 h6 J19 h19 => good_lfp fun J21 h21 => good_part (hp (atT T6 (fun _ => none)) (atT T13 (fun _ => none)) (atT T14 (fun _ => none)) (atT T19 J19) (atT T21 (fun _ => none)) (atT T23 (L23 J6 J19 J21))) (runOK_of (hp (atT T6 (fun _ => none)) (atT T13 (fun _ => none)) (atT T14 (fun _ => none)) (atT T19 J19) (atT T21 (fun _ => none)) (atT T23 (L23 J6 J19 J21))) hnp ⟨cutOK_at (p := p6) (T := T6) (J := fun _ => none) good_none, cutOK_at (p := p13) (T := T13) (J := fun _ => none) good_none, cutOK_at (p := p14) (T := T14) (J := fun _ => none) good_none, cutOK_at h19, cutOK_at (p := p21) (T := T21) (J := fun _ => none) good_none, cutOK_at (g23 J6 h6 J19 h19 J21 h21), trivial⟩ fin) (fun x => (seg21 impl_timesOn_2.impl slices_Concat_of.impl (atT T6 (fun _ => none)) (atT T13 (fun _ => none)) (atT T14 (fun _ => none)) (atT T19 J19) (atT T21 (fun _ => none)) (atT T23 (L23 J6 J19 J21)) x.1 x.2.1 x.2.2.1 x.2.2.2.1 x.2.2.2.2.1 x.2.2.2.2.2.1 x.2.2.2.2.2.2.1 x.2.2.2.2.2.2.2.1 x.2.2.2.2.2.2.2.2.1 x.2.2.2.2.2.2.2.2.2.1 x.2.2.2.2.2.2.2.2.2.2.1 x.2.2.2.2.2.2.2.2.2.2.2.1 x.2.2.2.2.2.2.2.2.2.2.2.2.1 x.2.2.2.2.2.2.2.2.2.2.2.2.2.1 x.2.2.2.2.2.2.2.2.2.2.2.2.2.2.1).trans (by simp only [atT_self] <;> rfl))
  have g19 : ∀ (J6 : C6), Good Try.prog 72 w0 O Post y T6 p6 J6 → Good Try.prog 72 w0 O Post y T19 p19 (L19 J6) := fun J6 h6 => good_lfp fun J19 h19 => good_part (hp (atT T6 J6) (atT T13 (fun _ => none)) (atT T14 (fun _ => none)) (atT T19 (fun _ => none)) (atT T21 (L21 J6 J19)) (atT T23 (fun _ => none))) (runOK_of (hp (atT T6 J6) (atT T13 (fun _ => none)) (atT T14 (fun _ => none)) (atT T19 (fun _ => none)) (atT T21 (L21 J6 J19)) (atT T23 (fun _ => none))) hnp ⟨cutOK_at h6, cutOK_at (p := p13) (T := T13) (J := fun _ => none) good_none, cutOK_at (p := p14) (T := T14) (J := fun _ => none) good_none, cutOK_at (p := p19) (T := T19) (J := fun _ => none) good_none, cutOK_at (g21 J6 h6 J19 h19), cutOK_at (p := p23) (T := T23) (J := fun _ => none) good_none, trivial⟩ fin) (fun x => (seg19 impl_timesOn_2.impl slices_Concat_of.impl (atT T6 J6) (atT T13 (fun _ => none)) (atT T14 (fun _ => none)) (atT T19 (fun _ => none)) (atT T21 (L21 J6 J19)) (atT T23 (fun _ => none)) x.1 x.2.1 x.2.2.1 x.2.2.2.1 x.2.2.2.2.1 x.2.2.2.2.2.1 x.2.2.2.2.2.2.1 x.2.2.2.2.2.2.2.1 x.2.2.2.2.2.2.2.2.1 x.2.2.2.2.2.2.2.2.2.1 x.2.2.2.2.2.2.2.2.2.2.1 x.2.2.2.2.2.2.2.2.2.2.2.1 x.2.2.2.2.2.2.2.2.2.2.2.2.1 x.2.2.2.2.2.2.2.2.2.2.2.2.2.1).trans (by simp only [atT_self] <;> rfl))
  have g14 : ∀ (J6 : C6), Good Try.prog 72 w0 O Post y T6 p6 J6 → Good Try.prog 72 w0 O Post y T14 p14 (L14 J6) := fun J6 h6 => good_lfp fun J14 h14 => good_part (hp (atT T6 (fun _ => none)) (atT T13 (fun _ => none)) (atT T14 J14) (atT T19 (L19 J6)) (atT T21 (fun _ => none)) (atT T23 (fun _ => none))) (runOK_of (hp (atT T6 (fun _ => none)) (atT T13 (fun _ => none)) (atT T14 J14) (atT T19 (L19 J6)) (atT T21 (fun _ => none)) (atT T23 (fun _ => none))) hnp ⟨cutOK_at (p := p6) (T := T6) (J := fun _ => none) good_none, cutOK_at (p := p13) (T := T13) (J := fun _ => none) good_none, cutOK_at h14, cutOK_at (g19 J6 h6), cutOK_at (p := p21) (T := T21) (J := fun _ => none) good_none, cutOK_at (p := p23) (T := T23) (J := fun _ => none) good_none, trivial⟩ fin) (fun x => (seg14 impl_timesOn_2.impl slices_Concat_of.impl (atT T6 (fun _ => none)) (atT T13 (fun _ => none)) (atT T14 J14) (atT T19 (L19 J6)) (atT T21 (fun _ => none)) (atT T23 (fun _ => none)) x.1 x.2.1 x.2.2.1 x.2.2.2.1 x.2.2.2.2.1 x.2.2.2.2.2.1 x.2.2.2.2.2.2.1 x.2.2.2.2.2.2.2.1 x.2.2.2.2.2.2.2.2.1 x.2.2.2.2.2.2.2.2.2.1 x.2.2.2.2.2.2.2.2.2.2.1 x.2.2.2.2.2.2.2.2.2.2.2.1 x.2.2.2.2.2.2.2.2.2.2.2.2.1 x.2.2.2.2.2.2.2.2.2.2.2.2.2.1 x.2.2.2.2.2.2.2.2.2.2.2.2.2.2.1 x.2.2.2.2.2.2.2.2.2.2.2.2.2.2.2.1).trans (by simp only [atT_self] <;> rfl))
  have g13 : ∀ (J6 : C6), Good Try.prog 72 w0 O Post y T6 p6 J6 → Good Try.prog 72 w0 O Post y T13 p13 (L13 J6) := fun J6 h6 => good_part (hp (atT T6 (fun _ => none)) (atT T13 (fun _ => none)) (atT T14 (L14 J6)) (atT T19 (fun _ => none)) (atT T21 (fun _ => none)) (atT T23 (fun _ => none))) (runOK_of (hp (atT T6 (fun _ => none)) (atT T13 (fun _ => none)) (atT T14 (L14 J6)) (atT T19 (fun _ => none)) (atT T21 (fun _ => none)) (atT T23 (fun _ => none))) hnp ⟨cutOK_at (p := p6) (T := T6) (J := fun _ => none) good_none, cutOK_at (p := p13) (T := T13) (J := fun _ => none) good_none, cutOK_at (g14 J6 h6), cutOK_at (p := p19) (T := T19) (J := fun _ => none) good_none, cutOK_at (p := p21) (T := T21) (J := fun _ => none) good_none, cutOK_at (p := p23) (T := T23) (J := fun _ => none) good_none, trivial⟩ fin) (fun x => (seg13 impl_timesOn_2.impl slices_Concat_of.impl (atT T6 (fun _ => none)) (atT T13 (fun _ => none)) (atT T14 (L14 J6)) (atT T19 (fun _ => none)) (atT T21 (fun _ => none)) (atT T23 (fun _ => none)) x.1 x.2.1 x.2.2.1 x.2.2.2.1 x.2.2.2.2.1 x.2.2.2.2.2.1 x.2.2.2.2.2.2.1 x.2.2.2.2.2.2.2.1 x.2.2.2.2.2.2.2.2.1 x.2.2.2.2.2.2.2.2.2.1 x.2.2.2.2.2.2.2.2.2.2.1 x.2.2.2.2.2.2.2.2.2.2.2.1 x.2.2.2.2.2.2.2.2.2.2.2.2.1 x.2.2.2.2.2.2.2.2.2.2.2.2.2.1).trans (by simp only [atT_self] <;> rfl))
  have g6 : Good Try.prog 72 w0 O Post y T6 p6 L6 := good_lfp fun J6 h6 => good_part (hp (atT T6 (fun _ => none)) (atT T13 (L13 J6)) (atT T14 (fun _ => none)) (atT T19 (fun _ => none)) (atT T21 (fun _ => none)) (atT T23 (fun _ => none))) (runOK_of (hp (atT T6 (fun _ => none)) (atT T13 (L13 J6)) (atT T14 (fun _ => none)) (atT T19 (fun _ => none)) (atT T21 (fun _ => none)) (atT T23 (fun _ => none))) hnp ⟨cutOK_at (p := p6) (T := T6) (J := fun _ => none) good_none, cutOK_at (g13 J6 h6), cutOK_at (p := p14) (T := T14) (J := fun _ => none) good_none, cutOK_at (p := p19) (T := T19) (J := fun _ => none) good_none, cutOK_at (p := p21) (T := T21) (J := fun _ => none) good_none, cutOK_at (p := p23) (T := T23) (J := fun _ => none) good_none, trivial⟩ fin) (fun x => (seg6 impl_timesOn_2.impl slices_Concat_of.impl (atT T6 (fun _ => none)) (atT T13 (L13 J6)) (atT T14 (fun _ => none)) (atT T19 (fun _ => none)) (atT T21 (fun _ => none)) (atT T23 (fun _ => none)) x.1 x.2.1 x.2.2.1 x.2.2.2.1 x.2.2.2.2.1 x.2.2.2.2.2.1 x.2.2.2.2.2.2.1).trans (by simp only [atT_self] <;> rfl))
  exact good_first (hp (atT T6 L6) (atT T13 (fun _ => none)) (atT T14 (fun _ => none)) (atT T19 (fun _ => none)) (atT T21 (fun _ => none)) (atT T23 (fun _ => none))) (runOK_of (hp (atT T6 L6) (atT T13 (fun _ => none)) (atT T14 (fun _ => none)) (atT T19 (fun _ => none)) (atT T21 (fun _ => none)) (atT T23 (fun _ => none))) hnp ⟨cutOK_at g6, cutOK_at (p := p13) (T := T13) (J := fun _ => none) good_none, cutOK_at (p := p14) (T := T14) (J := fun _ => none) good_none, cutOK_at (p := p19) (T := T19) (J := fun _ => none) good_none, cutOK_at (p := p21) (T := T21) (J := fun _ => none) good_none, cutOK_at (p := p23) (T := T23) (J := fun _ => none) good_none, trivial⟩ fin) (fun x => (seg0 impl_timesOn_2.impl slices_Concat_of.impl (atT T6 L6) (atT T13 (fun _ => none)) (atT T14 (fun _ => none)) (atT T19 (fun _ => none)) (atT T21 (fun _ => none)) (atT T23 (fun _ => none)) x.1 x.2.1 x.2.2.1).trans (by simp only [atT_self] <;> rfl))
end impl_timesOn

/-! ### loop.example/wholecheck/impl.TimesOn -/
namespace impl_TimesOn
noncomputable abbrev c0 : Code := (Try.f40.body).getD .skip
noncomputable abbrev pin : Tpl := ⟨[⟨0, false, [.d (.sl q4)]⟩, ⟨1, false, [.d (.sl (.sl i64))]⟩, ⟨2, false, [.d (.sl (.sl i64))]⟩, ⟨3, false, [.d i64]⟩], []⟩
noncomputable abbrev pout : Tpl := ⟨[⟨0, false, [.row 600001]⟩], [(600001, .row 60 true (.sl i64))]⟩
noncomputable abbrev PI := (List Q4) × (List (List Int)) × (List (List Int)) × Int × Unit
noncomputable abbrev PO := (List (List Int)) × Unit
noncomputable abbrev G := PI → Option PO
noncomputable abbrev rs : List ResultVar := [.tmp 8]
noncomputable def F0 (Gimpl_TimesValid : impl_TimesValid.G) (Gimpl_WordValid : impl_WordValid.G) (Gimpl_timesOn : impl_timesOn.G) (x0 : List Q4) (x1 : List (List Int)) (x2 : List (List Int)) (x3 : Int) : Option PO :=
  Option.bind (Gimpl_TimesValid (x0, x3, ())) fun y0 =>
  bif !y0.1 then
    some ([], ())
  else
    Option.bind (Gimpl_WordValid (x1, x2, x3, ())) fun y1 =>
    bif !y1.1 then
      some ([], ())
    else
      Option.bind (Gimpl_timesOn (x0, x1, x2, ())) fun y2 =>
      bif (!y2.1.isEmpty && true) then
        some (y2.1, ())
      else
        none
noncomputable def hd {R : Type} (Gimpl_TimesValid : impl_TimesValid.G) (Gimpl_WordValid : impl_WordValid.G) (Gimpl_timesOn : impl_timesOn.G) : Hand R := (handAt 89 [23] false ⟨3, 1, 3, impl_timesOn.pin, impl_timesOn.pout, Gimpl_timesOn⟩ (handAt 49 [11] true ⟨2, 1, 2, impl_TimesValid.pin, impl_TimesValid.pout, Gimpl_TimesValid⟩ (handAt 10 [17] true ⟨3, 1, 3, impl_WordValid.pin, impl_WordValid.pout, Gimpl_WordValid⟩ handNil)))
noncomputable def pg (Gimpl_TimesValid : impl_TimesValid.G) (Gimpl_WordValid : impl_WordValid.G) (Gimpl_timesOn : impl_timesOn.G) : Prog PO := { nt := 24, np := 4, tb := tabOf tab, hd := hd Gimpl_TimesValid Gimpl_WordValid Gimpl_timesOn, cuts := cutsOf [], fin := endOf (tabOf tab) rs 4 pout }
noncomputable def q : FuncId → Bool := fun f => hasId [10, 49] f
theorem seg0 (Gimpl_TimesValid : impl_TimesValid.G) (Gimpl_WordValid : impl_WordValid.G) (Gimpl_timesOn : impl_timesOn.G) (x0 : List Q4) (x1 : List (List Int)) (x2 : List (List Int)) (x3 : Int) : arun (pg Gimpl_TimesValid Gimpl_WordValid Gimpl_timesOn) 5000 [.code c0] (mk pin (x0, x1, x2, x3, ())) = F0 Gimpl_TimesValid Gimpl_WordValid Gimpl_timesOn x0 x1 x2 x3 := by kernel_rfl
noncomputable def impl : G := fun x => F0 impl_TimesValid.impl impl_WordValid.impl impl_timesOn.impl x.1 x.2.1 x.2.2.1 x.2.2.2.1
theorem impl_eq (x0 : List Q4) (x1 : List (List Int)) (x2 : List (List Int)) (x3 : Int) : impl (x0, x1, x2, x3, ()) = F0 impl_TimesValid.impl impl_WordValid.impl impl_timesOn.impl x0 x1 x2 x3 := rfl
theorem con : Con Try.prog 40 4 rs.length 4 pin pout impl := by
  refine con_of_run3 (nt := 24) (c := c0) tabGood Try.func40 (by kernel_rfl) (by kernel_rfl) (by kernel_rfl) (by kernel_rfl) (by kernel_rfl) (by kernel_rfl) (by kernel_rfl) ?_
  intro w0 O y Post hnp fin
  have hp : Parts Try.prog 40 (pg impl_TimesValid.impl impl_WordValid.impl impl_timesOn.impl) [] := ⟨tab_ok tabGood rfl, (handAt_ok impl_timesOn.con (handAt_ok impl_TimesValid.con (handAt_ok impl_WordValid.con handNil_ok))), rfl⟩
  exact good_first (hp) (runOK_of (hp) hnp trivial fin) (fun x => (seg0 impl_TimesValid.impl impl_WordValid.impl impl_timesOn.impl x.1 x.2.1 x.2.2.1 x.2.2.2.1))
end impl_TimesOn

/-! ### loop.example/wholecheck/impl.HoldsOn -/
namespace impl_HoldsOn
noncomputable abbrev c0 : Code := (Try.f8.body).getD .skip
noncomputable abbrev pin : Tpl := ⟨[⟨0, false, [.d (.sl q4)]⟩, ⟨1, false, [.d (.sl (.sl i64))]⟩, ⟨2, false, [.d (.sl (.sl i64))]⟩, ⟨3, false, [.d i64]⟩], []⟩
noncomputable abbrev pout : Tpl := ⟨[⟨0, false, [.d .bool]⟩], []⟩
noncomputable abbrev PI := (List Q4) × (List (List Int)) × (List (List Int)) × Int × Unit
noncomputable abbrev PO := Bool × Unit
noncomputable abbrev G := PI → Option PO
noncomputable abbrev rs : List ResultVar := [.tmp 8]
noncomputable def F0 (Gimpl_TimesOn : impl_TimesOn.G) (x0 : List Q4) (x1 : List (List Int)) (x2 : List (List Int)) (x3 : Int) : Option PO :=
  Option.bind (Gimpl_TimesOn (x0, x1, x2, x3, ())) fun y0 =>
  bif !y0.1.isEmpty then
    bif inb (wI ((y0.1.length : Int) - 1)) y0.1.length then
      bif inb 0 (y0.1.getD (wI ((y0.1.length : Int) - 1)).toNat []).length then
        some ((y0.1.getD (wI ((y0.1.length : Int) - 1)).toNat []).getD 0 0 == 1, ())
      else
        none
    else
      none
  else
    some (false, ())
noncomputable def hd {R : Type} (Gimpl_TimesOn : impl_TimesOn.G) : Hand R := (handAt 40 [14] false ⟨4, 1, 4, impl_TimesOn.pin, impl_TimesOn.pout, Gimpl_TimesOn⟩ handNil)
noncomputable def pg (Gimpl_TimesOn : impl_TimesOn.G) : Prog PO := { nt := 28, np := 4, tb := tabOf tab, hd := hd Gimpl_TimesOn, cuts := cutsOf [], fin := endOf (tabOf tab) rs 4 pout }
noncomputable def q : FuncId → Bool := fun f => hasId [] f
theorem seg0 (Gimpl_TimesOn : impl_TimesOn.G) (x0 : List Q4) (x1 : List (List Int)) (x2 : List (List Int)) (x3 : Int) : arun (pg Gimpl_TimesOn) 5000 [.code c0] (mk pin (x0, x1, x2, x3, ())) = F0 Gimpl_TimesOn x0 x1 x2 x3 := by kernel_rfl
noncomputable def impl : G := fun x => F0 impl_TimesOn.impl x.1 x.2.1 x.2.2.1 x.2.2.2.1
theorem impl_eq (x0 : List Q4) (x1 : List (List Int)) (x2 : List (List Int)) (x3 : Int) : impl (x0, x1, x2, x3, ()) = F0 impl_TimesOn.impl x0 x1 x2 x3 := rfl
theorem con : Con Try.prog 8 4 rs.length 4 pin pout impl := by
  refine con_of_run3 (nt := 28) (c := c0) tabGood Try.func8 (by kernel_rfl) (by kernel_rfl) (by kernel_rfl) (by kernel_rfl) (by kernel_rfl) (by kernel_rfl) (by kernel_rfl) ?_
  intro w0 O y Post hnp fin
  have hp : Parts Try.prog 8 (pg impl_TimesOn.impl) [] := ⟨tab_ok tabGood rfl, (handAt_ok impl_TimesOn.con handNil_ok), rfl⟩
  exact good_first (hp) (runOK_of (hp) hnp trivial fin) (fun x => (seg0 impl_TimesOn.impl x.1 x.2.1 x.2.2.1 x.2.2.2.1))
end impl_HoldsOn

/-! ### loop.example/wholecheck/spec.l1In -/
namespace spec_l1In
noncomputable abbrev c0 : Code := (Try.f46.body).getD .skip
noncomputable abbrev pin : Tpl := ⟨[⟨0, false, [.d i64]⟩, ⟨1, false, [.d i64]⟩, ⟨2, false, [.d i64]⟩], []⟩
noncomputable abbrev pout : Tpl := ⟨[⟨0, false, [.d .bool]⟩], []⟩
noncomputable abbrev PI := Int × Int × Int × Unit
noncomputable abbrev PO := Bool × Unit
noncomputable abbrev G := PI → Option PO
noncomputable abbrev rs : List ResultVar := [.tmp 6]
noncomputable def F0 (x0 : Int) (x1 : Int) (x2 : Int) : Option PO :=
  bif decide (x0 ≥ x1) then
    some (decide (x0 ≤ x2), ())
  else
    some (false, ())
noncomputable def hd {R : Type} : Hand R := handNil
noncomputable def pg : Prog PO := { nt := 15, np := 3, tb := tabOf tab, hd := hd, cuts := cutsOf [], fin := endOf (tabOf tab) rs 3 pout }
noncomputable def q : FuncId → Bool := fun f => hasId [] f
theorem seg0 (x0 : Int) (x1 : Int) (x2 : Int) : arun (pg) 5000 [.code c0] (mk pin (x0, x1, x2, ())) = F0 x0 x1 x2 := by kernel_rfl
noncomputable def impl : G := fun x => F0 x.1 x.2.1 x.2.2.1
theorem impl_eq (x0 : Int) (x1 : Int) (x2 : Int) : impl (x0, x1, x2, ()) = F0 x0 x1 x2 := rfl
theorem con : Con Try.prog 46 3 rs.length 3 pin pout impl := by
  refine con_of_run3 (nt := 15) (c := c0) tabGood Try.func46 (by kernel_rfl) (by kernel_rfl) (by kernel_rfl) (by kernel_rfl) (by kernel_rfl) (by kernel_rfl) (by kernel_rfl) ?_
  intro w0 O y Post hnp fin
  have hp : Parts Try.prog 46 (pg) [] := ⟨tab_ok tabGood rfl, handNil_ok, rfl⟩
  exact good_first (hp) (runOK_of (hp) hnp trivial fin) (fun x => (seg0 x.1 x.2.1 x.2.2.1))
end spec_l1In

/-! ### loop.example/wholecheck/spec.l20Step -/
namespace spec_l20Step
noncomputable abbrev c0 : Code := (Try.f48.body).getD .skip
noncomputable abbrev pin : Tpl := ⟨[⟨0, true, [.d q4]⟩, ⟨1, false, [.d i64]⟩, ⟨2, false, [.d i64]⟩], []⟩
noncomputable abbrev pout : Tpl := ⟨[⟨0, false, [.d .bool]⟩], []⟩
noncomputable abbrev p7 : Tpl := ⟨[⟨3, false, [.ptr 3000000 0]⟩], [(3000000, .box [.d i64, .d i64, .d i64, .d i64])]⟩
noncomputable def T7 : List Item := (find 7 c0 []).getD []
noncomputable abbrev PI := Q4 × Int × Int × Unit
noncomputable abbrev PO := Bool × Unit
noncomputable abbrev G := PI → Option PO
noncomputable abbrev P7 := Int × Int × Int × Int × Unit
noncomputable abbrev C7 := P7 → Option PO
noncomputable abbrev rs : List ResultVar := [.tmp 6]
noncomputable def F0 (J7 : C7) (Gspec_l1In : spec_l1In.G) (x0 : Int × Int × Int × Int) (x1 : Int) (x2 : Int) : Option PO :=
  bif x0.1 == 0 then
    bif x0.2.1 == 0 then
      bif x0.2.2.1 == 0 then
        some (x0.2.2.2 == 0, ())
      else
        some (false, ())
    else
      some (false, ())
  else
    bif x0.1 == 1 then
      Option.bind (Gspec_l1In (x0.2.1, 0, wI (x2 - 1), ())) fun y0 =>
      bif y0.1 then
        bif x0.2.2.1 == 0 then
          some (x0.2.2.2 == 0, ())
        else
          some (false, ())
      else
        some (false, ())
    else
      Option.bind (Gspec_l1In (x0.1, 2, 7, ())) fun y1 =>
      bif !y1.1 then
        some (false, ())
      else
        bif x0.2.1 != 0 then
          some (false, ())
        else
          Option.bind (Gspec_l1In (x0.2.2.1, 0, wI (x1 - 1), ())) fun y2 =>
          bif !y2.1 then
            some (false, ())
          else
            Option.bind (Gspec_l1In (x0.2.2.2, 0, wI (x1 - 1), ())) fun y3 =>
            bif !y3.1 then
              some (false, ())
            else
              J7 (x0.1, x0.2.1, x0.2.2.1, x0.2.2.2, ())
noncomputable def F7 (Gspec_l20One : spec_l20One.G) (b0_0 : Int) (b0_1 : Int) (b0_2 : Int) (b0_3 : Int) : Option PO :=
  Option.bind (Gspec_l20One (b0_0, ())) fun y4 =>
  bif !y4.1 then
    some (true, ())
  else
    some (b0_3 == b0_2, ())
noncomputable def hd {R : Type} (Gspec_l1In : spec_l1In.G) (Gspec_l20One : spec_l20One.G) : Hand R := (handAt 94 [68] true ⟨1, 1, 1, spec_l20One.pin, spec_l20One.pout, Gspec_l20One⟩ (handAt 46 [30, 43, 55, 63] true ⟨3, 1, 3, spec_l1In.pin, spec_l1In.pout, Gspec_l1In⟩ handNil))
noncomputable def pg (Gspec_l1In : spec_l1In.G) (Gspec_l20One : spec_l20One.G) (J7 : List Item → C7) : Prog PO := { nt := 77, np := 3, tb := tabOf tab, hd := hd Gspec_l1In Gspec_l20One, cuts := cutsOf [(7, cut p7 J7)], fin := endOf (tabOf tab) rs 3 pout }
noncomputable def q : FuncId → Bool := fun f => hasId [46, 94] f
theorem seg0 (Gspec_l1In : spec_l1In.G) (Gspec_l20One : spec_l20One.G) (J7 : List Item → C7) (x0 : Int × Int × Int × Int) (x1 : Int) (x2 : Int) : arun (pg Gspec_l1In Gspec_l20One J7) 5000 [.code c0] (mk pin (x0, x1, x2, ())) = F0 (J7 T7) Gspec_l1In x0 x1 x2 := by kernel_rfl
theorem seg7 (Gspec_l1In : spec_l1In.G) (Gspec_l20One : spec_l20One.G) (J7 : List Item → C7) (b0_0 : Int) (b0_1 : Int) (b0_2 : Int) (b0_3 : Int) : arun1 (pg Gspec_l1In Gspec_l20One J7) 5000 T7 (mk p7 (b0_0, b0_1, b0_2, b0_3, ())) = F7 Gspec_l20One b0_0 b0_1 b0_2 b0_3 := by kernel_rfl
noncomputable def L7 : C7 := fun x => F7 spec_l20One.impl x.1 x.2.1 x.2.2.1 x.2.2.2.1
noncomputable def impl : G := fun x => F0 L7 spec_l1In.impl x.1 x.2.1 x.2.2.1
theorem L7_eq (b0_0 : Int) (b0_1 : Int) (b0_2 : Int) (b0_3 : Int) : L7 (b0_0, b0_1, b0_2, b0_3, ()) = F7 spec_l20One.impl b0_0 b0_1 b0_2 b0_3 := rfl
theorem impl_eq (x0 : Int × Int × Int × Int) (x1 : Int) (x2 : Int) : impl (x0, x1, x2, ()) = F0 L7 spec_l1In.impl x0 x1 x2 := rfl
theorem con : Con Try.prog 48 3 rs.length 3 pin pout impl := by
  refine con_of_run3 (nt := 77) (c := c0) tabGood Try.func48 (by kernel_rfl) (by kernel_rfl) (by kernel_rfl) (by kernel_rfl) (by kernel_rfl) (by kernel_rfl) (by kernel_rfl) ?_
  intro w0 O y Post hnp fin
  have hp : ∀ (J7 : List Item → C7), Parts Try.prog 48 (pg spec_l1In.impl spec_l20One.impl J7) [(7, cut p7 J7)] := fun J7 => ⟨tab_ok tabGood rfl, (handAt_ok spec_l20One.con (handAt_ok spec_l1In.con handNil_ok)), rfl⟩
  have g7 : Good Try.prog 77 w0 O Post y T7 p7 L7 := good_part (hp (atT T7 (fun _ => none))) (runOK_of (hp (atT T7 (fun _ => none))) hnp ⟨cutOK_at (p := p7) (T := T7) (J := fun _ => none) good_none, trivial⟩ fin) (fun x => (seg7 spec_l1In.impl spec_l20One.impl (atT T7 (fun _ => none)) x.1 x.2.1 x.2.2.1 x.2.2.2.1))
  exact good_first (hp (atT T7 L7)) (runOK_of (hp (atT T7 L7)) hnp ⟨cutOK_at g7, trivial⟩ fin) (fun x => (seg0 spec_l1In.impl spec_l20One.impl (atT T7 L7) x.1 x.2.1 x.2.2.1).trans (by simp only [atT_self] <;> rfl))
end spec_l20Step

/-! ### loop.example/wholecheck/spec.TimesValid -/
namespace spec_TimesValid
noncomputable abbrev c0 : Code := (Try.f12.body).getD .skip
noncomputable abbrev pin : Tpl := ⟨[⟨0, false, [.d (.sl q4)]⟩, ⟨1, false, [.d i64]⟩], []⟩
noncomputable abbrev pout : Tpl := ⟨[⟨0, false, [.d .bool]⟩], []⟩
noncomputable abbrev p3 : Tpl := ⟨[⟨0, false, [.d (.sl q4)]⟩, ⟨1, false, [.d i64]⟩], []⟩
noncomputable def T3 : List Item := (find 3 c0 []).getD []
noncomputable abbrev p4 : Tpl := ⟨[⟨0, false, [.d (.sl q4)]⟩, ⟨1, false, [.d i64]⟩, ⟨5, false, [.d i64]⟩], []⟩
noncomputable def T4 : List Item := (find 4 c0 []).getD []
noncomputable abbrev PI := (List Q4) × Int × Unit
noncomputable abbrev PO := Bool × Unit
noncomputable abbrev G := PI → Option PO
noncomputable abbrev P3 := (List Q4) × Int × Unit
noncomputable abbrev C3 := P3 → Option PO
noncomputable abbrev P4 := (List Q4) × Int × Int × Unit
noncomputable abbrev C4 := P4 → Option PO
noncomputable abbrev rs : List ResultVar := [.tmp 4]
noncomputable def F0 (J3 : C3) (Gspec_l1In : spec_l1In.G) (x0 : List Q4) (x1 : Int) : Option PO :=
  Option.bind (Gspec_l1In (x1, 0, 4, ())) fun y0 =>
  bif !y0.1 then
    some (false, ())
  else
    Option.bind (Gspec_l1In ((x0.length : Int), 1, 24, ())) fun y1 =>
    bif !y1.1 then
      some (false, ())
    else
      J3 (x0, x1, ())
noncomputable def F3 (J4 : C4) (t0 : List Q4) (t1 : Int) : Option PO :=
  J4 (t0, t1, 0, ())
noncomputable def F4 (J4 : C4) (Gspec_l20Step : spec_l20Step.G) (t0 : List Q4) (t1 : Int) (t5 : Int) : Option PO :=
  bif decide (t5 < (t0.length : Int)) then
    bif inb t5 t0.length then
      Option.bind (Gspec_l20Step (t0.getD t5.toNat (0, 0, 0, 0), t5, t1, ())) fun y2 =>
      bif !y2.1 then
        some (false, ())
      else
        J4 (t0, t1, wI (t5 + 1), ())
    else
      none
  else
    some (true, ())
noncomputable def hd {R : Type} (Gspec_l1In : spec_l1In.G) (Gspec_l20Step : spec_l20Step.G) : Hand R := (handAt 48 [27] true ⟨3, 1, 3, spec_l20Step.pin, spec_l20Step.pout, Gspec_l20Step⟩ (handAt 46 [7, 12] true ⟨3, 1, 3, spec_l1In.pin, spec_l1In.pout, Gspec_l1In⟩ handNil))
noncomputable def pg (Gspec_l1In : spec_l1In.G) (Gspec_l20Step : spec_l20Step.G) (J3 : List Item → C3) (J4 : List Item → C4) : Prog PO := { nt := 29, np := 2, tb := tabOf tab, hd := hd Gspec_l1In Gspec_l20Step, cuts := cutsOf [(3, cut p3 J3), (4, cut p4 J4)], fin := endOf (tabOf tab) rs 2 pout }
noncomputable def q : FuncId → Bool := fun f => hasId [46, 48] f
theorem seg0 (Gspec_l1In : spec_l1In.G) (Gspec_l20Step : spec_l20Step.G) (J3 : List Item → C3) (J4 : List Item → C4) (x0 : List Q4) (x1 : Int) : arun (pg Gspec_l1In Gspec_l20Step J3 J4) 5000 [.code c0] (mk pin (x0, x1, ())) = F0 (J3 T3) Gspec_l1In x0 x1 := by kernel_rfl
theorem seg3 (Gspec_l1In : spec_l1In.G) (Gspec_l20Step : spec_l20Step.G) (J3 : List Item → C3) (J4 : List Item → C4) (t0 : List Q4) (t1 : Int) : arun1 (pg Gspec_l1In Gspec_l20Step J3 J4) 5000 T3 (mk p3 (t0, t1, ())) = F3 (J4 T4) t0 t1 := by kernel_rfl
theorem seg4 (Gspec_l1In : spec_l1In.G) (Gspec_l20Step : spec_l20Step.G) (J3 : List Item → C3) (J4 : List Item → C4) (t0 : List Q4) (t1 : Int) (t5 : Int) : arun1 (pg Gspec_l1In Gspec_l20Step J3 J4) 5000 T4 (mk p4 (t0, t1, t5, ())) = F4 (J4 T4) Gspec_l20Step t0 t1 t5 := by kernel_rfl
noncomputable def L4 : C4 := lfp fun J4 x => F4 J4 spec_l20Step.impl x.1 x.2.1 x.2.2.1
noncomputable def L3 : C3 := fun x => F3 L4 x.1 x.2.1
noncomputable def impl : G := fun x => F0 L3 spec_l1In.impl x.1 x.2.1
theorem F4_le {J4 J4' : C4} (h4 : OLe J4 J4') {Gspec_l20Step : spec_l20Step.G} (t0 : List Q4) (t1 : Int) (t5 : Int) : OptLe (F4 J4 Gspec_l20Step t0 t1 t5) (F4 J4' Gspec_l20Step t0 t1 t5) := by unfold F4; exact .cond (.cond (.bind (.refl _) fun _ => .cond (.refl _) (.of h4 _)) (.refl _)) (.refl _)
theorem L4_mono : OMono fun J4 (x : P4) => F4 J4 spec_l20Step.impl x.1 x.2.1 x.2.2.1 := fun J J' h4 x => F4_le h4 x.1 x.2.1 x.2.2.1
theorem L4_eq (t0 : List Q4) (t1 : Int) (t5 : Int) : L4 (t0, t1, t5, ()) = F4 (L4) spec_l20Step.impl t0 t1 t5 := congrFun (lfp_eq (L4_mono)) _
theorem L3_eq (t0 : List Q4) (t1 : Int) : L3 (t0, t1, ()) = F3 (L4) t0 t1 := rfl
theorem impl_eq (x0 : List Q4) (x1 : Int) : impl (x0, x1, ()) = F0 L3 spec_l1In.impl x0 x1 := rfl
theorem con : Con Try.prog 12 2 rs.length 2 pin pout impl := by
  refine con_of_run3 (nt := 29) (c := c0) tabGood Try.func12 (by kernel_rfl) (by kernel_rfl) (by kernel_rfl) (by kernel_rfl) (by kernel_rfl) (by kernel_rfl) (by kernel_rfl) ?_
  intro w0 O y Post hnp fin
  have hp : ∀ (J3 : List Item → C3), ∀ (J4 : List Item → C4), Parts Try.prog 12 (pg spec_l1In.impl spec_l20Step.impl J3 J4) [(3, cut p3 J3), (4, cut p4 J4)] := fun J3 J4 => ⟨tab_ok tabGood rfl, (handAt_ok spec_l20Step.con (handAt_ok spec_l1In.con handNil_ok)), rfl⟩
  have g4 : Good Try.prog 29 w0 O Post y T4 p4 L4 := good_lfp fun J4 h4 => good_part (hp (atT T3 (fun _ => none)) (atT T4 J4)) (runOK_of (hp (atT T3 (fun _ => none)) (atT T4 J4)) hnp ⟨cutOK_at (p := p3) (T := T3) (J := fun _ => none) good_none, cutOK_at h4, trivial⟩ fin) (fun x => (seg4 spec_l1In.impl spec_l20Step.impl (atT T3 (fun _ => none)) (atT T4 J4) x.1 x.2.1 x.2.2.1).trans (by simp only [atT_self] <;> rfl))
  have g3 : Good Try.prog 29 w0 O Post y T3 p3 L3 := good_part (hp (atT T3 (fun _ => none)) (atT T4 L4)) (runOK_of (hp (atT T3 (fun _ => none)) (atT T4 L4)) hnp ⟨cutOK_at (p := p3) (T := T3) (J := fun _ => none) good_none, cutOK_at g4, trivial⟩ fin) (fun x => (seg3 spec_l1In.impl spec_l20Step.impl (atT T3 (fun _ => none)) (atT T4 L4) x.1 x.2.1).trans (by simp only [atT_self] <;> rfl))
  exact good_first (hp (atT T3 L3) (atT T4 (fun _ => none))) (runOK_of (hp (atT T3 L3) (atT T4 (fun _ => none))) hnp ⟨cutOK_at g3, cutOK_at (p := p4) (T := T4) (J := fun _ => none) good_none, trivial⟩ fin) (fun x => (seg0 spec_l1In.impl spec_l20Step.impl (atT T3 L3) (atT T4 (fun _ => none)) x.1 x.2.1).trans (by simp only [atT_self] <;> rfl))
end spec_TimesValid

/-! ### loop.example/wholecheck/spec.l6Are -/
namespace spec_l6Are
noncomputable abbrev c0 : Code := (Try.f93.body).getD .skip
noncomputable abbrev pin : Tpl := ⟨[⟨0, false, [.d (.sl i64)]⟩], []⟩
noncomputable abbrev pout : Tpl := ⟨[⟨0, false, [.d .bool]⟩], []⟩
noncomputable abbrev p2 : Tpl := ⟨[⟨0, false, [.d (.sl i64)]⟩, ⟨3, false, [.d i64]⟩], []⟩
noncomputable def T2 : List Item := (find 2 c0 []).getD []
noncomputable abbrev PI := (List Int) × Unit
noncomputable abbrev PO := Bool × Unit
noncomputable abbrev G := PI → Option PO
noncomputable abbrev P2 := (List Int) × Int × Unit
noncomputable abbrev C2 := P2 → Option PO
noncomputable abbrev rs : List ResultVar := [.tmp 2]
noncomputable def F0 (J2 : C2) (x0 : List Int) : Option PO :=
  J2 (x0, 0, ())
noncomputable def F2 (J2 : C2) (Gspec_l1In : spec_l1In.G) (t0 : List Int) (t3 : Int) : Option PO :=
  bif decide (t3 < (t0.length : Int)) then
    bif inb t3 t0.length then
      Option.bind (Gspec_l1In (t0.getD t3.toNat 0, 0, 1, ())) fun y0 =>
      bif !y0.1 then
        some (false, ())
      else
        J2 (t0, wI (t3 + 1), ())
    else
      none
  else
    some (true, ())
noncomputable def hd {R : Type} (Gspec_l1In : spec_l1In.G) : Hand R := (handAt 46 [14] true ⟨3, 1, 3, spec_l1In.pin, spec_l1In.pout, Gspec_l1In⟩ handNil)
noncomputable def pg (Gspec_l1In : spec_l1In.G) (J2 : List Item → C2) : Prog PO := { nt := 16, np := 1, tb := tabOf tab, hd := hd Gspec_l1In, cuts := cutsOf [(2, cut p2 J2)], fin := endOf (tabOf tab) rs 1 pout }
noncomputable def q : FuncId → Bool := fun f => hasId [46] f
theorem seg0 (Gspec_l1In : spec_l1In.G) (J2 : List Item → C2) (x0 : List Int) : arun (pg Gspec_l1In J2) 5000 [.code c0] (mk pin (x0, ())) = F0 (J2 T2) x0 := by kernel_rfl
theorem seg2 (Gspec_l1In : spec_l1In.G) (J2 : List Item → C2) (t0 : List Int) (t3 : Int) : arun1 (pg Gspec_l1In J2) 5000 T2 (mk p2 (t0, t3, ())) = F2 (J2 T2) Gspec_l1In t0 t3 := by kernel_rfl
noncomputable def L2 : C2 := lfp fun J2 x => F2 J2 spec_l1In.impl x.1 x.2.1
noncomputable def impl : G := fun x => F0 L2 x.1
theorem F2_le {J2 J2' : C2} (h2 : OLe J2 J2') {Gspec_l1In : spec_l1In.G} (t0 : List Int) (t3 : Int) : OptLe (F2 J2 Gspec_l1In t0 t3) (F2 J2' Gspec_l1In t0 t3) := by unfold F2; exact .cond (.cond (.bind (.refl _) fun _ => .cond (.refl _) (.of h2 _)) (.refl _)) (.refl _)
theorem L2_mono : OMono fun J2 (x : P2) => F2 J2 spec_l1In.impl x.1 x.2.1 := fun J J' h2 x => F2_le h2 x.1 x.2.1
theorem L2_eq (t0 : List Int) (t3 : Int) : L2 (t0, t3, ()) = F2 (L2) spec_l1In.impl t0 t3 := congrFun (lfp_eq (L2_mono)) _
theorem impl_eq (x0 : List Int) : impl (x0, ()) = F0 L2 x0 := rfl
theorem con : Con Try.prog 93 1 rs.length 1 pin pout impl := by
  refine con_of_run3 (nt := 16) (c := c0) tabGood Try.func93 (by kernel_rfl) (by kernel_rfl) (by kernel_rfl) (by kernel_rfl) (by kernel_rfl) (by kernel_rfl) (by kernel_rfl) ?_
  intro w0 O y Post hnp fin
  have hp : ∀ (J2 : List Item → C2), Parts Try.prog 93 (pg spec_l1In.impl J2) [(2, cut p2 J2)] := fun J2 => ⟨tab_ok tabGood rfl, (handAt_ok spec_l1In.con handNil_ok), rfl⟩
  have g2 : Good Try.prog 16 w0 O Post y T2 p2 L2 := good_lfp fun J2 h2 => good_part (hp (atT T2 J2)) (runOK_of (hp (atT T2 J2)) hnp ⟨cutOK_at h2, trivial⟩ fin) (fun x => (seg2 spec_l1In.impl (atT T2 J2) x.1 x.2.1).trans (by simp only [atT_self] <;> rfl))
  exact good_first (hp (atT T2 L2)) (runOK_of (hp (atT T2 L2)) hnp ⟨cutOK_at g2, trivial⟩ fin) (fun x => (seg0 spec_l1In.impl (atT T2 L2) x.1).trans (by simp only [atT_self] <;> rfl))
end spec_l6Are

/-! ### loop.example/wholecheck/spec.l20Letters -/
namespace spec_l20Letters
noncomputable abbrev c0 : Code := (Try.f47.body).getD .skip
noncomputable abbrev pin : Tpl := ⟨[⟨0, false, [.d (.sl (.sl i64))]⟩, ⟨1, false, [.d i64]⟩], []⟩
noncomputable abbrev pout : Tpl := ⟨[⟨0, false, [.d .bool]⟩], []⟩
noncomputable abbrev p2 : Tpl := ⟨[⟨0, false, [.d (.sl (.sl i64))]⟩, ⟨1, false, [.d i64]⟩, ⟨5, false, [.d i64]⟩], []⟩
noncomputable def T2 : List Item := (find 2 c0 []).getD []
noncomputable abbrev PI := (List (List Int)) × Int × Unit
noncomputable abbrev PO := Bool × Unit
noncomputable abbrev G := PI → Option PO
noncomputable abbrev P2 := (List (List Int)) × Int × Int × Unit
noncomputable abbrev C2 := P2 → Option PO
noncomputable abbrev rs : List ResultVar := [.tmp 4]
noncomputable def F0 (J2 : C2) (x0 : List (List Int)) (x1 : Int) : Option PO :=
  J2 (x0, x1, 0, ())
noncomputable def F2 (J2 : C2) (Gspec_l6Are : spec_l6Are.G) (t0 : List (List Int)) (t1 : Int) (t5 : Int) : Option PO :=
  bif decide (t5 < (t0.length : Int)) then
    bif inb t5 t0.length then
      bif ((t0.getD t5.toNat []).length : Int) != t1 then
        some (false, ())
      else
        bif inb t5 t0.length then
          Option.bind (Gspec_l6Are (t0.getD t5.toNat [], ())) fun y0 =>
          bif !y0.1 then
            some (false, ())
          else
            J2 (t0, t1, wI (t5 + 1), ())
        else
          none
    else
      none
  else
    some (true, ())
noncomputable def hd {R : Type} (Gspec_l6Are : spec_l6Are.G) : Hand R := (handAt 93 [24] true ⟨1, 1, 1, spec_l6Are.pin, spec_l6Are.pout, Gspec_l6Are⟩ handNil)
noncomputable def pg (Gspec_l6Are : spec_l6Are.G) (J2 : List Item → C2) : Prog PO := { nt := 27, np := 2, tb := tabOf tab, hd := hd Gspec_l6Are, cuts := cutsOf [(2, cut p2 J2)], fin := endOf (tabOf tab) rs 2 pout }
noncomputable def q : FuncId → Bool := fun f => hasId [93] f
theorem seg0 (Gspec_l6Are : spec_l6Are.G) (J2 : List Item → C2) (x0 : List (List Int)) (x1 : Int) : arun (pg Gspec_l6Are J2) 5000 [.code c0] (mk pin (x0, x1, ())) = F0 (J2 T2) x0 x1 := by kernel_rfl
theorem seg2 (Gspec_l6Are : spec_l6Are.G) (J2 : List Item → C2) (t0 : List (List Int)) (t1 : Int) (t5 : Int) : arun1 (pg Gspec_l6Are J2) 5000 T2 (mk p2 (t0, t1, t5, ())) = F2 (J2 T2) Gspec_l6Are t0 t1 t5 := by kernel_rfl
noncomputable def L2 : C2 := lfp fun J2 x => F2 J2 spec_l6Are.impl x.1 x.2.1 x.2.2.1
noncomputable def impl : G := fun x => F0 L2 x.1 x.2.1
theorem F2_le {J2 J2' : C2} (h2 : OLe J2 J2') {Gspec_l6Are : spec_l6Are.G} (t0 : List (List Int)) (t1 : Int) (t5 : Int) : OptLe (F2 J2 Gspec_l6Are t0 t1 t5) (F2 J2' Gspec_l6Are t0 t1 t5) := by unfold F2; exact .cond (.cond (.cond (.refl _) (.cond (.bind (.refl _) fun _ => .cond (.refl _) (.of h2 _)) (.refl _))) (.refl _)) (.refl _)
theorem L2_mono : OMono fun J2 (x : P2) => F2 J2 spec_l6Are.impl x.1 x.2.1 x.2.2.1 := fun J J' h2 x => F2_le h2 x.1 x.2.1 x.2.2.1
theorem L2_eq (t0 : List (List Int)) (t1 : Int) (t5 : Int) : L2 (t0, t1, t5, ()) = F2 (L2) spec_l6Are.impl t0 t1 t5 := congrFun (lfp_eq (L2_mono)) _
theorem impl_eq (x0 : List (List Int)) (x1 : Int) : impl (x0, x1, ()) = F0 L2 x0 x1 := rfl
theorem con : Con Try.prog 47 2 rs.length 2 pin pout impl := by
  refine con_of_run3 (nt := 27) (c := c0) tabGood Try.func47 (by kernel_rfl) (by kernel_rfl) (by kernel_rfl) (by kernel_rfl) (by kernel_rfl) (by kernel_rfl) (by kernel_rfl) ?_
  intro w0 O y Post hnp fin
  have hp : ∀ (J2 : List Item → C2), Parts Try.prog 47 (pg spec_l6Are.impl J2) [(2, cut p2 J2)] := fun J2 => ⟨tab_ok tabGood rfl, (handAt_ok spec_l6Are.con handNil_ok), rfl⟩
  have g2 : Good Try.prog 27 w0 O Post y T2 p2 L2 := good_lfp fun J2 h2 => good_part (hp (atT T2 J2)) (runOK_of (hp (atT T2 J2)) hnp ⟨cutOK_at h2, trivial⟩ fin) (fun x => (seg2 spec_l6Are.impl (atT T2 J2) x.1 x.2.1 x.2.2.1).trans (by simp only [atT_self] <;> rfl))
  exact good_first (hp (atT T2 L2)) (runOK_of (hp (atT T2 L2)) hnp ⟨cutOK_at g2, trivial⟩ fin) (fun x => (seg0 spec_l6Are.impl (atT T2 L2) x.1 x.2.1).trans (by simp only [atT_self] <;> rfl))
end spec_l20Letters

/-! ### loop.example/wholecheck/spec.WordValid -/
namespace spec_WordValid
noncomputable abbrev c0 : Code := (Try.f11.body).getD .skip
noncomputable abbrev pin : Tpl := ⟨[⟨0, false, [.d (.sl (.sl i64))]⟩, ⟨1, false, [.d (.sl (.sl i64))]⟩, ⟨2, false, [.d i64]⟩], []⟩
noncomputable abbrev pout : Tpl := ⟨[⟨0, false, [.d .bool]⟩], []⟩
noncomputable abbrev PI := (List (List Int)) × (List (List Int)) × Int × Unit
noncomputable abbrev PO := Bool × Unit
noncomputable abbrev G := PI → Option PO
noncomputable abbrev rs : List ResultVar := [.tmp 6]
noncomputable def F0 (Gspec_l1In : spec_l1In.G) (Gspec_l20Letters : spec_l20Letters.G) (x0 : List (List Int)) (x1 : List (List Int)) (x2 : Int) : Option PO :=
  Option.bind (Gspec_l1In (x2, 0, 4, ())) fun y0 =>
  bif y0.1 then
    bif decide ((x1.length : Int) > 0) then
      bif decide (wI ((x0.length : Int) + (x1.length : Int)) ≤ 60) then
        Option.bind (Gspec_l20Letters (x0, x2, ())) fun y1 =>
        bif y1.1 then
          Option.bind (Gspec_l20Letters (x1, x2, ())) fun y2 =>
          some (y2.1, ())
        else
          some (false, ())
      else
        some (false, ())
    else
      some (false, ())
  else
    some (false, ())
noncomputable def hd {R : Type} (Gspec_l1In : spec_l1In.G) (Gspec_l20Letters : spec_l20Letters.G) : Hand R := (handAt 47 [25, 30] true ⟨2, 1, 2, spec_l20Letters.pin, spec_l20Letters.pout, Gspec_l20Letters⟩ (handAt 46 [8] true ⟨3, 1, 3, spec_l1In.pin, spec_l1In.pout, Gspec_l1In⟩ handNil))
noncomputable def pg (Gspec_l1In : spec_l1In.G) (Gspec_l20Letters : spec_l20Letters.G) : Prog PO := { nt := 32, np := 3, tb := tabOf tab, hd := hd Gspec_l1In Gspec_l20Letters, cuts := cutsOf [], fin := endOf (tabOf tab) rs 3 pout }
noncomputable def q : FuncId → Bool := fun f => hasId [46, 47] f
theorem seg0 (Gspec_l1In : spec_l1In.G) (Gspec_l20Letters : spec_l20Letters.G) (x0 : List (List Int)) (x1 : List (List Int)) (x2 : Int) : arun (pg Gspec_l1In Gspec_l20Letters) 5000 [.code c0] (mk pin (x0, x1, x2, ())) = F0 Gspec_l1In Gspec_l20Letters x0 x1 x2 := by kernel_rfl
noncomputable def impl : G := fun x => F0 spec_l1In.impl spec_l20Letters.impl x.1 x.2.1 x.2.2.1
theorem impl_eq (x0 : List (List Int)) (x1 : List (List Int)) (x2 : Int) : impl (x0, x1, x2, ()) = F0 spec_l1In.impl spec_l20Letters.impl x0 x1 x2 := rfl
theorem con : Con Try.prog 11 3 rs.length 3 pin pout impl := by
  refine con_of_run3 (nt := 32) (c := c0) tabGood Try.func11 (by kernel_rfl) (by kernel_rfl) (by kernel_rfl) (by kernel_rfl) (by kernel_rfl) (by kernel_rfl) (by kernel_rfl) ?_
  intro w0 O y Post hnp fin
  have hp : Parts Try.prog 11 (pg spec_l1In.impl spec_l20Letters.impl) [] := ⟨tab_ok tabGood rfl, (handAt_ok spec_l20Letters.con (handAt_ok spec_l1In.con handNil_ok)), rfl⟩
  exact good_first (hp) (runOK_of (hp) hnp trivial fin) (fun x => (seg0 spec_l1In.impl spec_l20Letters.impl x.1 x.2.1 x.2.2.1))
end spec_WordValid

/-! ### loop.example/wholecheck/spec.l20Next -/
namespace spec_l20Next
noncomputable abbrev c0 : Code := (Try.f142.body).getD .skip
noncomputable abbrev pin : Tpl := ⟨[⟨0, false, [.d i64]⟩, ⟨1, false, [.d i64]⟩, ⟨2, false, [.d i64]⟩], []⟩
noncomputable abbrev pout : Tpl := ⟨[⟨0, false, [.d i64]⟩], []⟩
noncomputable abbrev PI := Int × Int × Int × Unit
noncomputable abbrev PO := Int × Unit
noncomputable abbrev G := PI → Option PO
noncomputable abbrev rs : List ResultVar := [.tmp 6]
noncomputable def F0 (x0 : Int) (x1 : Int) (x2 : Int) : Option PO :=
  bif decide (wI (x0 + 1) < x2) then
    some (wI (x0 + 1), ())
  else
    some (x1, ())
noncomputable def hd {R : Type} : Hand R := handNil
noncomputable def pg : Prog PO := { nt := 14, np := 3, tb := tabOf tab, hd := hd, cuts := cutsOf [], fin := endOf (tabOf tab) rs 3 pout }
noncomputable def q : FuncId → Bool := fun f => hasId [] f
theorem seg0 (x0 : Int) (x1 : Int) (x2 : Int) : arun (pg) 5000 [.code c0] (mk pin (x0, x1, x2, ())) = F0 x0 x1 x2 := by kernel_rfl
noncomputable def impl : G := fun x => F0 x.1 x.2.1 x.2.2.1
theorem impl_eq (x0 : Int) (x1 : Int) (x2 : Int) : impl (x0, x1, x2, ()) = F0 x0 x1 x2 := rfl
theorem con : Con Try.prog 142 3 rs.length 3 pin pout impl := by
  refine con_of_run3 (nt := 14) (c := c0) tabGood Try.func142 (by kernel_rfl) (by kernel_rfl) (by kernel_rfl) (by kernel_rfl) (by kernel_rfl) (by kernel_rfl) (by kernel_rfl) ?_
  intro w0 O y Post hnp fin
  have hp : Parts Try.prog 142 (pg) [] := ⟨tab_ok tabGood rfl, handNil_ok, rfl⟩
  exact good_first (hp) (runOK_of (hp) hnp trivial fin) (fun x => (seg0 x.1 x.2.1 x.2.2.1))
end spec_l20Next

/-! ### loop.example/wholecheck/spec.l1Truth -/
namespace spec_l1Truth
noncomputable abbrev c0 : Code := (Try.f141.body).getD .skip
noncomputable abbrev pin : Tpl := ⟨[⟨0, false, [.d .bool]⟩], []⟩
noncomputable abbrev pout : Tpl := ⟨[⟨0, false, [.d i64]⟩], []⟩
noncomputable abbrev PI := Bool × Unit
noncomputable abbrev PO := Int × Unit
noncomputable abbrev G := PI → Option PO
noncomputable abbrev rs : List ResultVar := [.tmp 2]
noncomputable def F0 (x0 : Bool) : Option PO :=
  bif x0 then
    some (1, ())
  else
    some (0, ())
noncomputable def hd {R : Type} : Hand R := handNil
noncomputable def pg : Prog PO := { nt := 4, np := 1, tb := tabOf tab, hd := hd, cuts := cutsOf [], fin := endOf (tabOf tab) rs 1 pout }
noncomputable def q : FuncId → Bool := fun f => hasId [] f
theorem seg0 (x0 : Bool) : arun (pg) 5000 [.code c0] (mk pin (x0, ())) = F0 x0 := by kernel_rfl
noncomputable def impl : G := fun x => F0 x.1
theorem impl_eq (x0 : Bool) : impl (x0, ()) = F0 x0 := rfl
theorem con : Con Try.prog 141 1 rs.length 1 pin pout impl := by
  refine con_of_run3 (nt := 4) (c := c0) tabGood Try.func141 (by kernel_rfl) (by kernel_rfl) (by kernel_rfl) (by kernel_rfl) (by kernel_rfl) (by kernel_rfl) (by kernel_rfl) ?_
  intro w0 O y Post hnp fin
  have hp : Parts Try.prog 141 (pg) [] := ⟨tab_ok tabGood rfl, handNil_ok, rfl⟩
  exact good_first (hp) (runOK_of (hp) hnp trivial fin) (fun x => (seg0 x.1))
end spec_l1Truth

/-! ### loop.example/wholecheck/spec.l20Later -/
namespace spec_l20Later
noncomputable abbrev c0 : Code := (Try.f139.body).getD .skip
noncomputable abbrev pin : Tpl := ⟨[⟨0, true, [.d q4]⟩, ⟨1, false, [.d (.sl (.sl i64))]⟩, ⟨2, false, [.d i64]⟩, ⟨3, false, [.d i64]⟩], []⟩
noncomputable abbrev pout : Tpl := ⟨[⟨0, false, [.row 600001]⟩], [(600001, .row 3 false i64)]⟩
noncomputable abbrev p3 : Tpl := ⟨[⟨1, false, [.d (.sl (.sl i64))]⟩, ⟨2, false, [.d i64]⟩, ⟨3, false, [.d i64]⟩, ⟨4, false, [.ptr 3000000 0]⟩, ⟨9, false, [.row 3000001]⟩, ⟨10, false, [.d i64]⟩], [(3000000, .box [.d i64, .d i64, .d i64, .d i64]), (3000001, .row 3 false i64)]⟩
noncomputable def T3 : List Item := (find 3 c0 []).getD []
noncomputable abbrev p9 : Tpl := ⟨[⟨1, false, [.d (.sl (.sl i64))]⟩, ⟨2, false, [.d i64]⟩, ⟨3, false, [.d i64]⟩, ⟨4, false, [.ptr 3000000 0]⟩, ⟨9, false, [.row 3000001]⟩, ⟨11, false, [.d i64]⟩], [(3000000, .box [.d i64, .d i64, .d i64, .d i64]), (3000001, .row 3 false i64)]⟩
noncomputable def T9 : List Item := (find 9 c0 []).getD []
noncomputable abbrev p12 : Tpl := ⟨[⟨1, false, [.d (.sl (.sl i64))]⟩, ⟨2, false, [.d i64]⟩, ⟨3, false, [.d i64]⟩, ⟨4, false, [.ptr 3000000 0]⟩, ⟨9, false, [.row 3000001]⟩, ⟨11, false, [.d i64]⟩, ⟨12, false, [.d i64]⟩], [(3000000, .box [.d i64, .d i64, .d i64, .d i64]), (3000001, .row 3 false i64)]⟩
noncomputable def T12 : List Item := (find 12 c0 []).getD []
noncomputable abbrev PI := Q4 × (List (List Int)) × Int × Int × Unit
noncomputable abbrev PO := (List Int) × Unit
noncomputable abbrev G := PI → Option PO
noncomputable abbrev P3 := (List (List Int)) × Int × Int × Int × Int × Int × Int × Int × (List Int) × Unit
noncomputable abbrev C3 := P3 → Option PO
noncomputable abbrev P9 := (List (List Int)) × Int × Int × Int × Int × Int × Int × Int × (List Int) × Unit
noncomputable abbrev C9 := P9 → Option PO
noncomputable abbrev P12 := (List (List Int)) × Int × Int × Int × Int × Int × Int × Int × Int × (List Int) × Unit
noncomputable abbrev C12 := P12 → Option PO
noncomputable abbrev rs : List ResultVar := [.tmp 8]
noncomputable def F0 (J3 : C3) (x0 : Int × Int × Int × Int) (x1 : List (List Int)) (x2 : Int) (x3 : Int) : Option PO :=
  J3 (x1, x2, x3, 0, x0.1, x0.2.1, x0.2.2.1, x0.2.2.2, ([] : List Int), ())
noncomputable def F3 (J3 : C3) (J9 : C9) (t1 : List (List Int)) (t2 : Int) (t3 : Int) (t10 : Int) (b0_0 : Int) (b0_1 : Int) (b0_2 : Int) (b0_3 : Int) (r1 : List Int) : Option PO :=
  bif decide (t10 < t3) then
    bif b0_0 == 7 then
      bif decide ((r1.length + ([1] : List Int).length) * 8 ≤ 140737488355328) then
        J3 (t1, t2, t3, wI (t10 + 1), b0_0, b0_1, b0_2, b0_3, r1 ++ ([1] : List Int), ())
      else
        none
    else
      bif decide ((r1.length + ([0] : List Int).length) * 8 ≤ 140737488355328) then
        J3 (t1, t2, t3, wI (t10 + 1), b0_0, b0_1, b0_2, b0_3, r1 ++ ([0] : List Int), ())
      else
        none
  else
    J9 (t1, t2, t3, 0, b0_0, b0_1, b0_2, b0_3, r1, ())
noncomputable def F9 (J12 : C12) (t1 : List (List Int)) (t2 : Int) (t3 : Int) (t11 : Int) (b0_0 : Int) (b0_1 : Int) (b0_2 : Int) (b0_3 : Int) (r1 : List Int) : Option PO :=
  bif decide (t11 ≤ t3) then
    J12 (t1, t2, t3, t11, wI (t3 - 1), b0_0, b0_1, b0_2, b0_3, r1, ())
  else
    some (r1, ())
noncomputable def F12 (J9 : C9) (J12 : C12) (Gspec_l1Truth : spec_l1Truth.G) (Gspec_l20Next : spec_l20Next.G) (t1 : List (List Int)) (t2 : Int) (t3 : Int) (t11 : Int) (t12 : Int) (b0_0 : Int) (b0_1 : Int) (b0_2 : Int) (b0_3 : Int) (r1 : List Int) : Option PO :=
  bif decide (t12 ≥ 0) then
    bif inb b0_2 t1.length then
      bif inb t12 (t1.getD b0_2.toNat []).length then
        bif inb b0_3 t1.length then
          bif inb t12 (t1.getD b0_3.toNat []).length then
            Option.bind (Gspec_l20Next (t12, t2, t3, ())) fun y0 =>
            bif inb y0.1 r1.length then
              bif b0_0 == 6 then
                bif (t1.getD b0_3.toNat []).getD t12.toNat 0 == 1 then
                  Option.bind (Gspec_l1Truth (true, ())) fun y1 =>
                  bif inb t12 r1.length then
                    J12 (t1, t2, t3, t11, wI (t12 - 1), b0_0, b0_1, b0_2, b0_3, r1.set t12.toNat y1.1, ())
                  else
                    none
                else
                  bif (t1.getD b0_2.toNat []).getD t12.toNat 0 == 1 then
                    Option.bind (Gspec_l1Truth (r1.getD y0.1.toNat 0 == 1, ())) fun y2 =>
                    bif inb t12 r1.length then
                      J12 (t1, t2, t3, t11, wI (t12 - 1), b0_0, b0_1, b0_2, b0_3, r1.set t12.toNat y2.1, ())
                    else
                      none
                  else
                    Option.bind (Gspec_l1Truth (false, ())) fun y3 =>
                    bif inb t12 r1.length then
                      J12 (t1, t2, t3, t11, wI (t12 - 1), b0_0, b0_1, b0_2, b0_3, r1.set t12.toNat y3.1, ())
                    else
                      none
              else
                bif (t1.getD b0_3.toNat []).getD t12.toNat 0 == 1 then
                  bif (t1.getD b0_2.toNat []).getD t12.toNat 0 == 1 then
                    Option.bind (Gspec_l1Truth (true, ())) fun y4 =>
                    bif inb t12 r1.length then
                      J12 (t1, t2, t3, t11, wI (t12 - 1), b0_0, b0_1, b0_2, b0_3, r1.set t12.toNat y4.1, ())
                    else
                      none
                  else
                    Option.bind (Gspec_l1Truth (r1.getD y0.1.toNat 0 == 1, ())) fun y5 =>
                    bif inb t12 r1.length then
                      J12 (t1, t2, t3, t11, wI (t12 - 1), b0_0, b0_1, b0_2, b0_3, r1.set t12.toNat y5.1, ())
                    else
                      none
                else
                  Option.bind (Gspec_l1Truth (false, ())) fun y6 =>
                  bif inb t12 r1.length then
                    J12 (t1, t2, t3, t11, wI (t12 - 1), b0_0, b0_1, b0_2, b0_3, r1.set t12.toNat y6.1, ())
                  else
                    none
            else
              none
          else
            none
        else
          none
      else
        none
    else
      none
  else
    J9 (t1, t2, t3, wI (t11 + 1), b0_0, b0_1, b0_2, b0_3, r1, ())
noncomputable def hd {R : Type} (Gspec_l1Truth : spec_l1Truth.G) (Gspec_l20Next : spec_l20Next.G) : Hand R := (handAt 142 [62] true ⟨3, 1, 3, spec_l20Next.pin, spec_l20Next.pout, Gspec_l20Next⟩ (handAt 141 [80, 94] true ⟨1, 1, 1, spec_l1Truth.pin, spec_l1Truth.pout, Gspec_l1Truth⟩ handNil))
noncomputable def pg (Gspec_l1Truth : spec_l1Truth.G) (Gspec_l20Next : spec_l20Next.G) (J3 : List Item → C3) (J9 : List Item → C9) (J12 : List Item → C12) : Prog PO := { nt := 97, np := 4, tb := tabOf tab, hd := hd Gspec_l1Truth Gspec_l20Next, cuts := cutsOf [(3, cut p3 J3), (9, cut p9 J9), (12, cut p12 J12)], fin := endOf (tabOf tab) rs 4 pout }
noncomputable def q : FuncId → Bool := fun f => hasId [141, 142] f
theorem seg0 (Gspec_l1Truth : spec_l1Truth.G) (Gspec_l20Next : spec_l20Next.G) (J3 : List Item → C3) (J9 : List Item → C9) (J12 : List Item → C12) (x0 : Int × Int × Int × Int) (x1 : List (List Int)) (x2 : Int) (x3 : Int) : arun (pg Gspec_l1Truth Gspec_l20Next J3 J9 J12) 5000 [.code c0] (mk pin (x0, x1, x2, x3, ())) = F0 (J3 T3) x0 x1 x2 x3 := by kernel_rfl
theorem seg3 (Gspec_l1Truth : spec_l1Truth.G) (Gspec_l20Next : spec_l20Next.G) (J3 : List Item → C3) (J9 : List Item → C9) (J12 : List Item → C12) (t1 : List (List Int)) (t2 : Int) (t3 : Int) (t10 : Int) (b0_0 : Int) (b0_1 : Int) (b0_2 : Int) (b0_3 : Int) (r1 : List Int) : arun1 (pg Gspec_l1Truth Gspec_l20Next J3 J9 J12) 5000 T3 (mk p3 (t1, t2, t3, t10, b0_0, b0_1, b0_2, b0_3, r1, ())) = F3 (J3 T3) (J9 T9) t1 t2 t3 t10 b0_0 b0_1 b0_2 b0_3 r1 := by kernel_rfl
theorem seg9 (Gspec_l1Truth : spec_l1Truth.G) (Gspec_l20Next : spec_l20Next.G) (J3 : List Item → C3) (J9 : List Item → C9) (J12 : List Item → C12) (t1 : List (List Int)) (t2 : Int) (t3 : Int) (t11 : Int) (b0_0 : Int) (b0_1 : Int) (b0_2 : Int) (b0_3 : Int) (r1 : List Int) : arun1 (pg Gspec_l1Truth Gspec_l20Next J3 J9 J12) 5000 T9 (mk p9 (t1, t2, t3, t11, b0_0, b0_1, b0_2, b0_3, r1, ())) = F9 (J12 T12) t1 t2 t3 t11 b0_0 b0_1 b0_2 b0_3 r1 := by kernel_rfl
theorem seg12 (Gspec_l1Truth : spec_l1Truth.G) (Gspec_l20Next : spec_l20Next.G) (J3 : List Item → C3) (J9 : List Item → C9) (J12 : List Item → C12) (t1 : List (List Int)) (t2 : Int) (t3 : Int) (t11 : Int) (t12 : Int) (b0_0 : Int) (b0_1 : Int) (b0_2 : Int) (b0_3 : Int) (r1 : List Int) : arun1 (pg Gspec_l1Truth Gspec_l20Next J3 J9 J12) 5000 T12 (mk p12 (t1, t2, t3, t11, t12, b0_0, b0_1, b0_2, b0_3, r1, ())) = F12 (J9 T9) (J12 T12) Gspec_l1Truth Gspec_l20Next t1 t2 t3 t11 t12 b0_0 b0_1 b0_2 b0_3 r1 := by kernel_rfl
noncomputable def L12 (J9 : C9) : C12 := lfp fun J12 x => F12 J9 J12 spec_l1Truth.impl spec_l20Next.impl x.1 x.2.1 x.2.2.1 x.2.2.2.1 x.2.2.2.2.1 x.2.2.2.2.2.1 x.2.2.2.2.2.2.1 x.2.2.2.2.2.2.2.1 x.2.2.2.2.2.2.2.2.1 x.2.2.2.2.2.2.2.2.2.1
noncomputable def L9 : C9 := lfp fun J9 x => F9 (L12 J9) x.1 x.2.1 x.2.2.1 x.2.2.2.1 x.2.2.2.2.1 x.2.2.2.2.2.1 x.2.2.2.2.2.2.1 x.2.2.2.2.2.2.2.1 x.2.2.2.2.2.2.2.2.1
noncomputable def L3 : C3 := lfp fun J3 x => F3 J3 L9 x.1 x.2.1 x.2.2.1 x.2.2.2.1 x.2.2.2.2.1 x.2.2.2.2.2.1 x.2.2.2.2.2.2.1 x.2.2.2.2.2.2.2.1 x.2.2.2.2.2.2.2.2.1
noncomputable def impl : G := fun x => F0 L3 x.1 x.2.1 x.2.2.1 x.2.2.2.1
theorem F12_le {J9 J9' : C9} (h9 : OLe J9 J9') {J12 J12' : C12} (h12 : OLe J12 J12') {Gspec_l1Truth : spec_l1Truth.G} {Gspec_l20Next : spec_l20Next.G} (t1 : List (List Int)) (t2 : Int) (t3 : Int) (t11 : Int) (t12 : Int) (b0_0 : Int) (b0_1 : Int) (b0_2 : Int) (b0_3 : Int) (r1 : List Int) : OptLe (F12 J9 J12 Gspec_l1Truth Gspec_l20Next t1 t2 t3 t11 t12 b0_0 b0_1 b0_2 b0_3 r1) (F12 J9' J12' Gspec_l1Truth Gspec_l20Next t1 t2 t3 t11 t12 b0_0 b0_1 b0_2 b0_3 r1) := by unfold F12; exact .cond (.cond (.cond (.cond (.cond (.bind (.refl _) fun _ => .cond (.cond (.cond (.bind (.refl _) fun _ => .cond (.of h12 _) (.refl _)) (.cond (.bind (.refl _) fun _ => .cond (.of h12 _) (.refl _)) (.bind (.refl _) fun _ => .cond (.of h12 _) (.refl _)))) (.cond (.cond (.bind (.refl _) fun _ => .cond (.of h12 _) (.refl _)) (.bind (.refl _) fun _ => .cond (.of h12 _) (.refl _))) (.bind (.refl _) fun _ => .cond (.of h12 _) (.refl _)))) (.refl _)) (.refl _)) (.refl _)) (.refl _)) (.refl _)) (.of h9 _)
theorem F9_le {J12 J12' : C12} (h12 : OLe J12 J12') (t1 : List (List Int)) (t2 : Int) (t3 : Int) (t11 : Int) (b0_0 : Int) (b0_1 : Int) (b0_2 : Int) (b0_3 : Int) (r1 : List Int) : OptLe (F9 J12 t1 t2 t3 t11 b0_0 b0_1 b0_2 b0_3 r1) (F9 J12' t1 t2 t3 t11 b0_0 b0_1 b0_2 b0_3 r1) := by unfold F9; exact .cond (.of h12 _) (.refl _)
theorem F3_le {J3 J3' : C3} (h3 : OLe J3 J3') {J9 J9' : C9} (h9 : OLe J9 J9') (t1 : List (List Int)) (t2 : Int) (t3 : Int) (t10 : Int) (b0_0 : Int) (b0_1 : Int) (b0_2 : Int) (b0_3 : Int) (r1 : List Int) : OptLe (F3 J3 J9 t1 t2 t3 t10 b0_0 b0_1 b0_2 b0_3 r1) (F3 J3' J9' t1 t2 t3 t10 b0_0 b0_1 b0_2 b0_3 r1) := by unfold F3; exact .cond (.cond (.cond (.of h3 _) (.refl _)) (.cond (.of h3 _) (.refl _))) (.of h9 _)
theorem L12_mono (J9 : C9) : OMono fun J12 (x : P12) => F12 J9 J12 spec_l1Truth.impl spec_l20Next.impl x.1 x.2.1 x.2.2.1 x.2.2.2.1 x.2.2.2.2.1 x.2.2.2.2.2.1 x.2.2.2.2.2.2.1 x.2.2.2.2.2.2.2.1 x.2.2.2.2.2.2.2.2.1 x.2.2.2.2.2.2.2.2.2.1 := fun J J' h12 x => F12_le (fun _ _ h => h) h12 x.1 x.2.1 x.2.2.1 x.2.2.2.1 x.2.2.2.2.1 x.2.2.2.2.2.1 x.2.2.2.2.2.2.1 x.2.2.2.2.2.2.2.1 x.2.2.2.2.2.2.2.2.1 x.2.2.2.2.2.2.2.2.2.1
theorem L12_eq (J9 : C9) (t1 : List (List Int)) (t2 : Int) (t3 : Int) (t11 : Int) (t12 : Int) (b0_0 : Int) (b0_1 : Int) (b0_2 : Int) (b0_3 : Int) (r1 : List Int) : L12 J9 (t1, t2, t3, t11, t12, b0_0, b0_1, b0_2, b0_3, r1, ()) = F12 J9 (L12 J9) spec_l1Truth.impl spec_l20Next.impl t1 t2 t3 t11 t12 b0_0 b0_1 b0_2 b0_3 r1 := congrFun (lfp_eq (L12_mono J9)) _
theorem L12_le {J9 J9' : C9} (h9 : OLe J9 J9') : OLe (L12 J9) (L12 J9') := lfp_le (L12_mono J9') fun J x => F12_le h9 (fun _ _ h => h) x.1 x.2.1 x.2.2.1 x.2.2.2.1 x.2.2.2.2.1 x.2.2.2.2.2.1 x.2.2.2.2.2.2.1 x.2.2.2.2.2.2.2.1 x.2.2.2.2.2.2.2.2.1 x.2.2.2.2.2.2.2.2.2.1
theorem L9_mono : OMono fun J9 (x : P9) => F9 (L12 J9) x.1 x.2.1 x.2.2.1 x.2.2.2.1 x.2.2.2.2.1 x.2.2.2.2.2.1 x.2.2.2.2.2.2.1 x.2.2.2.2.2.2.2.1 x.2.2.2.2.2.2.2.2.1 := fun J J' h9 x => F9_le (L12_le h9) x.1 x.2.1 x.2.2.1 x.2.2.2.1 x.2.2.2.2.1 x.2.2.2.2.2.1 x.2.2.2.2.2.2.1 x.2.2.2.2.2.2.2.1 x.2.2.2.2.2.2.2.2.1
theorem L9_eq (t1 : List (List Int)) (t2 : Int) (t3 : Int) (t11 : Int) (b0_0 : Int) (b0_1 : Int) (b0_2 : Int) (b0_3 : Int) (r1 : List Int) : L9 (t1, t2, t3, t11, b0_0, b0_1, b0_2, b0_3, r1, ()) = F9 (L12 (L9)) t1 t2 t3 t11 b0_0 b0_1 b0_2 b0_3 r1 := congrFun (lfp_eq (L9_mono)) _
theorem L3_mono : OMono fun J3 (x : P3) => F3 J3 L9 x.1 x.2.1 x.2.2.1 x.2.2.2.1 x.2.2.2.2.1 x.2.2.2.2.2.1 x.2.2.2.2.2.2.1 x.2.2.2.2.2.2.2.1 x.2.2.2.2.2.2.2.2.1 := fun J J' h3 x => F3_le h3 (fun _ _ h => h) x.1 x.2.1 x.2.2.1 x.2.2.2.1 x.2.2.2.2.1 x.2.2.2.2.2.1 x.2.2.2.2.2.2.1 x.2.2.2.2.2.2.2.1 x.2.2.2.2.2.2.2.2.1
theorem L3_eq (t1 : List (List Int)) (t2 : Int) (t3 : Int) (t10 : Int) (b0_0 : Int) (b0_1 : Int) (b0_2 : Int) (b0_3 : Int) (r1 : List Int) : L3 (t1, t2, t3, t10, b0_0, b0_1, b0_2, b0_3, r1, ()) = F3 (L3) (L9) t1 t2 t3 t10 b0_0 b0_1 b0_2 b0_3 r1 := congrFun (lfp_eq (L3_mono)) _
theorem impl_eq (x0 : Int × Int × Int × Int) (x1 : List (List Int)) (x2 : Int) (x3 : Int) : impl (x0, x1, x2, x3, ()) = F0 L3 x0 x1 x2 x3 := rfl
theorem con : Con Try.prog 139 4 rs.length 4 pin pout impl := by
  refine con_of_run3 (nt := 97) (c := c0) tabGood Try.func139 (by kernel_rfl) (by kernel_rfl) (by kernel_rfl) (by kernel_rfl) (by kernel_rfl) (by kernel_rfl) (by kernel_rfl) ?_
  intro w0 O y Post hnp fin
  have hp : ∀ (J3 : List Item → C3), ∀ (J9 : List Item → C9), ∀ (J12 : List Item → C12), Parts Try.prog 139 (pg spec_l1Truth.impl spec_l20Next.impl J3 J9 J12) [(3, cut p3 J3), (9, cut p9 J9), (12, cut p12 J12)] := fun J3 J9 J12 => ⟨tab_ok tabGood rfl, (handAt_ok spec_l20Next.con (handAt_ok spec_l1Truth.con handNil_ok)), rfl⟩
  have g12 : ∀ (J9 : C9), Good Try.prog 97 w0 O Post y T9 p9 J9 → Good Try.prog 97 w0 O Post y T12 p12 (L12 J9) := fun J9 h9 => good_lfp fun J12 h12 => good_part (hp (atT T3 (fun _ => none)) (atT T9 J9) (atT T12 J12)) (runOK_of (hp (atT T3 (fun _ => none)) (atT T9 J9) (atT T12 J12)) hnp ⟨cutOK_at (p := p3) (T := T3) (J := fun _ => none) good_none, cutOK_at h9, cutOK_at h12, trivial⟩ fin) (fun x => (seg12 spec_l1Truth.impl spec_l20Next.impl (atT T3 (fun _ => none)) (atT T9 J9) (atT T12 J12) x.1 x.2.1 x.2.2.1 x.2.2.2.1 x.2.2.2.2.1 x.2.2.2.2.2.1 x.2.2.2.2.2.2.1 x.2.2.2.2.2.2.2.1 x.2.2.2.2.2.2.2.2.1 x.2.2.2.2.2.2.2.2.2.1).trans (by simp only [atT_self] <;> rfl))
  have g9 : Good Try.prog 97 w0 O Post y T9 p9 L9 := good_lfp fun J9 h9 => good_part (hp (atT T3 (fun _ => none)) (atT T9 (fun _ => none)) (atT T12 (L12 J9))) (runOK_of (hp (atT T3 (fun _ => none)) (atT T9 (fun _ => none)) (atT T12 (L12 J9))) hnp ⟨cutOK_at (p := p3) (T := T3) (J := fun _ => none) good_none, cutOK_at (p := p9) (T := T9) (J := fun _ => none) good_none, cutOK_at (g12 J9 h9), trivial⟩ fin) (fun x => (seg9 spec_l1Truth.impl spec_l20Next.impl (atT T3 (fun _ => none)) (atT T9 (fun _ => none)) (atT T12 (L12 J9)) x.1 x.2.1 x.2.2.1 x.2.2.2.1 x.2.2.2.2.1 x.2.2.2.2.2.1 x.2.2.2.2.2.2.1 x.2.2.2.2.2.2.2.1 x.2.2.2.2.2.2.2.2.1).trans (by simp only [atT_self] <;> rfl))
  have g3 : Good Try.prog 97 w0 O Post y T3 p3 L3 := good_lfp fun J3 h3 => good_part (hp (atT T3 J3) (atT T9 L9) (atT T12 (fun _ => none))) (runOK_of (hp (atT T3 J3) (atT T9 L9) (atT T12 (fun _ => none))) hnp ⟨cutOK_at h3, cutOK_at g9, cutOK_at (p := p12) (T := T12) (J := fun _ => none) good_none, trivial⟩ fin) (fun x => (seg3 spec_l1Truth.impl spec_l20Next.impl (atT T3 J3) (atT T9 L9) (atT T12 (fun _ => none)) x.1 x.2.1 x.2.2.1 x.2.2.2.1 x.2.2.2.2.1 x.2.2.2.2.2.1 x.2.2.2.2.2.2.1 x.2.2.2.2.2.2.2.1 x.2.2.2.2.2.2.2.2.1).trans (by simp only [atT_self] <;> rfl))
  exact good_first (hp (atT T3 L3) (atT T9 (fun _ => none)) (atT T12 (fun _ => none))) (runOK_of (hp (atT T3 L3) (atT T9 (fun _ => none)) (atT T12 (fun _ => none))) hnp ⟨cutOK_at g3, cutOK_at (p := p9) (T := T9) (J := fun _ => none) good_none, cutOK_at (p := p12) (T := T12) (J := fun _ => none) good_none, trivial⟩ fin) (fun x => (seg0 spec_l1Truth.impl spec_l20Next.impl (atT T3 L3) (atT T9 (fun _ => none)) (atT T12 (fun _ => none)) x.1 x.2.1 x.2.2.1 x.2.2.2.1).trans (by simp only [atT_self] <;> rfl))
end spec_l20Later

/-! ### loop.example/wholecheck/spec.l3At -/
namespace spec_l3At
noncomputable abbrev c0 : Code := (Try.f140.body).getD .skip
noncomputable abbrev pin : Tpl := ⟨[⟨0, false, [.d (.sl (.sl i64))]⟩, ⟨1, false, [.d (.sl (.sl i64))]⟩, ⟨2, false, [.d i64]⟩], []⟩
noncomputable abbrev pout : Tpl := ⟨[⟨0, false, [.d (.sl i64)]⟩], []⟩
noncomputable abbrev PI := (List (List Int)) × (List (List Int)) × Int × Unit
noncomputable abbrev PO := (List Int) × Unit
noncomputable abbrev G := PI → Option PO
noncomputable abbrev rs : List ResultVar := [.tmp 6]
noncomputable def F0 (x0 : List (List Int)) (x1 : List (List Int)) (x2 : Int) : Option PO :=
  bif decide (x2 < (x0.length : Int)) then
    bif inb x2 x0.length then
      some (x0.getD x2.toNat [], ())
    else
      none
  else
    bif decide ((x1.length : Int) = 0) then
      none
    else
      bif inb (Int.tmod (wI (x2 - (x0.length : Int))) (x1.length : Int)) x1.length then
        some (x1.getD (Int.tmod (wI (x2 - (x0.length : Int))) (x1.length : Int)).toNat [], ())
      else
        none
noncomputable def hd {R : Type} : Hand R := handNil
noncomputable def pg : Prog PO := { nt := 25, np := 3, tb := tabOf tab, hd := hd, cuts := cutsOf [], fin := endOf (tabOf tab) rs 3 pout }
noncomputable def q : FuncId → Bool := fun f => hasId [] f
theorem seg0 (x0 : List (List Int)) (x1 : List (List Int)) (x2 : Int) : arun (pg) 5000 [.code c0] (mk pin (x0, x1, x2, ())) = F0 x0 x1 x2 := by kernel_rfl
noncomputable def impl : G := fun x => F0 x.1 x.2.1 x.2.2.1
theorem impl_eq (x0 : List (List Int)) (x1 : List (List Int)) (x2 : Int) : impl (x0, x1, x2, ()) = F0 x0 x1 x2 := rfl
theorem con : Con Try.prog 140 3 rs.length 3 pin pout impl := by
  refine con_of_run3 (nt := 25) (c := c0) tabGood Try.func140 (by kernel_rfl) (by kernel_rfl) (by kernel_rfl) (by kernel_rfl) (by kernel_rfl) (by kernel_rfl) (by kernel_rfl) ?_
  intro w0 O y Post hnp fin
  have hp : Parts Try.prog 140 (pg) [] := ⟨tab_ok tabGood rfl, handNil_ok, rfl⟩
  exact good_first (hp) (runOK_of (hp) hnp trivial fin) (fun x => (seg0 x.1 x.2.1 x.2.2.1))
end spec_l3At

/-! ### loop.example/wholecheck/spec.l20Row -/
namespace spec_l20Row
noncomputable abbrev c0 : Code := (Try.f90.body).getD .skip
noncomputable abbrev pin : Tpl := ⟨[⟨0, true, [.d q4]⟩, ⟨1, false, [.d (.sl (.sl i64))]⟩, ⟨2, false, [.d (.sl (.sl i64))]⟩, ⟨3, false, [.d (.sl (.sl i64))]⟩], []⟩
noncomputable abbrev pout : Tpl := ⟨[⟨0, false, [.row 600001]⟩], [(600001, .row 3 false i64)]⟩
noncomputable abbrev p6 : Tpl := ⟨[⟨1, false, [.d (.sl (.sl i64))]⟩, ⟨2, false, [.d (.sl (.sl i64))]⟩, ⟨3, false, [.d (.sl (.sl i64))]⟩, ⟨4, false, [.ptr 3000000 0]⟩, ⟨9, false, [.d i64]⟩, ⟨10, false, [.row 3000001]⟩, ⟨11, false, [.d i64]⟩], [(3000000, .box [.d i64, .d i64, .d i64, .d i64]), (3000001, .row 3 false i64)]⟩
noncomputable def T6 : List Item := (find 6 c0 []).getD []
noncomputable abbrev p10 : Tpl := ⟨[⟨1, false, [.d (.sl (.sl i64))]⟩, ⟨2, false, [.d (.sl (.sl i64))]⟩, ⟨3, false, [.d (.sl (.sl i64))]⟩, ⟨4, false, [.ptr 3000000 0]⟩, ⟨9, false, [.d i64]⟩, ⟨10, false, [.row 3000001]⟩, ⟨11, false, [.d i64]⟩], [(3000000, .box [.d i64, .d i64, .d i64, .d i64]), (3000001, .row 3 false i64)]⟩
noncomputable def T10 : List Item := (find 10 c0 []).getD []
noncomputable abbrev p14 : Tpl := ⟨[⟨1, false, [.d (.sl (.sl i64))]⟩, ⟨2, false, [.d (.sl (.sl i64))]⟩, ⟨3, false, [.d (.sl (.sl i64))]⟩, ⟨4, false, [.ptr 3000000 0]⟩, ⟨9, false, [.d i64]⟩, ⟨10, false, [.row 3000001]⟩, ⟨11, false, [.d i64]⟩], [(3000000, .box [.d i64, .d i64, .d i64, .d i64]), (3000001, .row 3 false i64)]⟩
noncomputable def T14 : List Item := (find 14 c0 []).getD []
noncomputable abbrev p16 : Tpl := ⟨[⟨1, false, [.d (.sl (.sl i64))]⟩, ⟨2, false, [.d (.sl (.sl i64))]⟩, ⟨3, false, [.d (.sl (.sl i64))]⟩, ⟨4, false, [.ptr 3000000 0]⟩, ⟨9, false, [.d i64]⟩, ⟨10, false, [.row 3000001]⟩, ⟨11, false, [.d i64]⟩], [(3000000, .box [.d i64, .d i64, .d i64, .d i64]), (3000001, .row 3 false i64)]⟩
noncomputable def T16 : List Item := (find 16 c0 []).getD []
noncomputable abbrev p18 : Tpl := ⟨[⟨1, false, [.d (.sl (.sl i64))]⟩, ⟨2, false, [.d (.sl (.sl i64))]⟩, ⟨3, false, [.d (.sl (.sl i64))]⟩, ⟨4, false, [.ptr 3000000 0]⟩, ⟨9, false, [.d i64]⟩, ⟨10, false, [.row 3000001]⟩, ⟨11, false, [.d i64]⟩], [(3000000, .box [.d i64, .d i64, .d i64, .d i64]), (3000001, .row 3 false i64)]⟩
noncomputable def T18 : List Item := (find 18 c0 []).getD []
noncomputable abbrev PI := Q4 × (List (List Int)) × (List (List Int)) × (List (List Int)) × Unit
noncomputable abbrev PO := (List Int) × Unit
noncomputable abbrev G := PI → Option PO
noncomputable abbrev P6 := (List (List Int)) × (List (List Int)) × (List (List Int)) × Int × Int × Int × Int × Int × Int × (List Int) × Unit
noncomputable abbrev C6 := P6 → Option PO
noncomputable abbrev P10 := (List (List Int)) × (List (List Int)) × (List (List Int)) × Int × Int × Int × Int × Int × Int × (List Int) × Unit
noncomputable abbrev C10 := P10 → Option PO
noncomputable abbrev P14 := (List (List Int)) × (List (List Int)) × (List (List Int)) × Int × Int × Int × Int × Int × Int × (List Int) × Unit
noncomputable abbrev C14 := P14 → Option PO
noncomputable abbrev P16 := (List (List Int)) × (List (List Int)) × (List (List Int)) × Int × Int × Int × Int × Int × Int × (List Int) × Unit
noncomputable abbrev C16 := P16 → Option PO
noncomputable abbrev P18 := (List (List Int)) × (List (List Int)) × (List (List Int)) × Int × Int × Int × Int × Int × Int × (List Int) × Unit
noncomputable abbrev C18 := P18 → Option PO
noncomputable abbrev rs : List ResultVar := [.tmp 8]
noncomputable def F0 (J6 : C6) (Gspec_l20Later : spec_l20Later.G) (x0 : Int × Int × Int × Int) (x1 : List (List Int)) (x2 : List (List Int)) (x3 : List (List Int)) : Option PO :=
  bif decide (x0.1 ≥ 6) then
    Option.bind (Gspec_l20Later (x0, x1, (x2.length : Int), wI ((x2.length : Int) + (x3.length : Int)), ())) fun y0 =>
    some (y0.1, ())
  else
    J6 (x1, x2, x3, wI ((x2.length : Int) + (x3.length : Int)), 0, x0.1, x0.2.1, x0.2.2.1, x0.2.2.2, ([] : List Int), ())
noncomputable def F6 (J6 : C6) (J10 : C10) (J14 : C14) (J16 : C16) (J18 : C18) (t1 : List (List Int)) (t2 : List (List Int)) (t3 : List (List Int)) (t9 : Int) (t11 : Int) (b0_0 : Int) (b0_1 : Int) (b0_2 : Int) (b0_3 : Int) (r1 : List Int) : Option PO :=
  bif decide (t11 < t9) then
    bif b0_0 == 1 then
      J10 (t1, t2, t3, t9, t11, b0_0, b0_1, b0_2, b0_3, r1, ())
    else
      bif b0_0 == 2 then
        bif inb b0_2 t1.length then
          bif inb t11 (t1.getD b0_2.toNat []).length then
            bif decide ((r1.length + ([wI (1 - ((t1.getD b0_2.toNat []).getD t11.toNat 0))] : List Int).length) * 8 ≤ 140737488355328) then
              J6 (t1, t2, t3, t9, wI (t11 + 1), b0_0, b0_1, b0_2, b0_3, r1 ++ ([wI (1 - ((t1.getD b0_2.toNat []).getD t11.toNat 0))] : List Int), ())
            else
              none
          else
            none
        else
          none
      else
        bif b0_0 == 3 then
          J14 (t1, t2, t3, t9, t11, b0_0, b0_1, b0_2, b0_3, r1, ())
        else
          bif b0_0 == 4 then
            J16 (t1, t2, t3, t9, t11, b0_0, b0_1, b0_2, b0_3, r1, ())
          else
            bif b0_0 == 5 then
              J18 (t1, t2, t3, t9, t11, b0_0, b0_1, b0_2, b0_3, r1, ())
            else
              bif decide ((r1.length + ([1] : List Int).length) * 8 ≤ 140737488355328) then
                J6 (t1, t2, t3, t9, wI (t11 + 1), b0_0, b0_1, b0_2, b0_3, r1 ++ ([1] : List Int), ())
              else
                none
  else
    some (r1, ())
noncomputable def F10 (J6 : C6) (Gspec_l3At : spec_l3At.G) (t1 : List (List Int)) (t2 : List (List Int)) (t3 : List (List Int)) (t9 : Int) (t11 : Int) (b0_0 : Int) (b0_1 : Int) (b0_2 : Int) (b0_3 : Int) (r1 : List Int) : Option PO :=
  Option.bind (Gspec_l3At (t2, t3, t11, ())) fun y1 =>
  bif inb b0_1 y1.1.length then
    bif decide ((r1.length + ([y1.1.getD b0_1.toNat 0] : List Int).length) * 8 ≤ 140737488355328) then
      J6 (t1, t2, t3, t9, wI (t11 + 1), b0_0, b0_1, b0_2, b0_3, r1 ++ ([y1.1.getD b0_1.toNat 0] : List Int), ())
    else
      none
  else
    none
noncomputable def F14 (J6 : C6) (t1 : List (List Int)) (t2 : List (List Int)) (t3 : List (List Int)) (t9 : Int) (t11 : Int) (b0_0 : Int) (b0_1 : Int) (b0_2 : Int) (b0_3 : Int) (r1 : List Int) : Option PO :=
  bif inb b0_2 t1.length then
    bif inb t11 (t1.getD b0_2.toNat []).length then
      bif inb b0_3 t1.length then
        bif inb t11 (t1.getD b0_3.toNat []).length then
          bif decide ((r1.length + ([wI (((t1.getD b0_2.toNat []).getD t11.toNat 0) * ((t1.getD b0_3.toNat []).getD t11.toNat 0))] : List Int).length) * 8 ≤ 140737488355328) then
            J6 (t1, t2, t3, t9, wI (t11 + 1), b0_0, b0_1, b0_2, b0_3, r1 ++ ([wI (((t1.getD b0_2.toNat []).getD t11.toNat 0) * ((t1.getD b0_3.toNat []).getD t11.toNat 0))] : List Int), ())
          else
            none
        else
          none
      else
        none
    else
      none
  else
    none
noncomputable def F16 (J6 : C6) (Gspec_l1Truth : spec_l1Truth.G) (t1 : List (List Int)) (t2 : List (List Int)) (t3 : List (List Int)) (t9 : Int) (t11 : Int) (b0_0 : Int) (b0_1 : Int) (b0_2 : Int) (b0_3 : Int) (r1 : List Int) : Option PO :=
  bif inb b0_2 t1.length then
    bif inb t11 (t1.getD b0_2.toNat []).length then
      bif inb b0_3 t1.length then
        bif inb t11 (t1.getD b0_3.toNat []).length then
          Option.bind (Gspec_l1Truth (decide (wI (((t1.getD b0_2.toNat []).getD t11.toNat 0) + ((t1.getD b0_3.toNat []).getD t11.toNat 0)) > 0), ())) fun y2 =>
          bif decide ((r1.length + ([y2.1] : List Int).length) * 8 ≤ 140737488355328) then
            J6 (t1, t2, t3, t9, wI (t11 + 1), b0_0, b0_1, b0_2, b0_3, r1 ++ ([y2.1] : List Int), ())
          else
            none
        else
          none
      else
        none
    else
      none
  else
    none
noncomputable def F18 (J6 : C6) (Gspec_l20Next : spec_l20Next.G) (t1 : List (List Int)) (t2 : List (List Int)) (t3 : List (List Int)) (t9 : Int) (t11 : Int) (b0_0 : Int) (b0_1 : Int) (b0_2 : Int) (b0_3 : Int) (r1 : List Int) : Option PO :=
  bif inb b0_2 t1.length then
    Option.bind (Gspec_l20Next (t11, (t2.length : Int), t9, ())) fun y3 =>
    bif inb y3.1 (t1.getD b0_2.toNat []).length then
      bif decide ((r1.length + ([(t1.getD b0_2.toNat []).getD y3.1.toNat 0] : List Int).length) * 8 ≤ 140737488355328) then
        J6 (t1, t2, t3, t9, wI (t11 + 1), b0_0, b0_1, b0_2, b0_3, r1 ++ ([(t1.getD b0_2.toNat []).getD y3.1.toNat 0] : List Int), ())
      else
        none
    else
      none
  else
    none
noncomputable def hd {R : Type} (Gspec_l1Truth : spec_l1Truth.G) (Gspec_l20Later : spec_l20Later.G) (Gspec_l20Next : spec_l20Next.G) (Gspec_l3At : spec_l3At.G) : Hand R := (handAt 142 [110] true ⟨3, 1, 3, spec_l20Next.pin, spec_l20Next.pout, Gspec_l20Next⟩ (handAt 141 [97] true ⟨1, 1, 1, spec_l1Truth.pin, spec_l1Truth.pout, Gspec_l1Truth⟩ (handAt 140 [39] false ⟨3, 1, 3, spec_l3At.pin, spec_l3At.pout, Gspec_l3At⟩ (handAt 139 [26] true ⟨4, 1, 4, spec_l20Later.pin, spec_l20Later.pout, Gspec_l20Later⟩ handNil))))
noncomputable def pg (Gspec_l1Truth : spec_l1Truth.G) (Gspec_l20Later : spec_l20Later.G) (Gspec_l20Next : spec_l20Next.G) (Gspec_l3At : spec_l3At.G) (J6 : List Item → C6) (J10 : List Item → C10) (J14 : List Item → C14) (J16 : List Item → C16) (J18 : List Item → C18) : Prog PO := { nt := 118, np := 4, tb := tabOf tab, hd := hd Gspec_l1Truth Gspec_l20Later Gspec_l20Next Gspec_l3At, cuts := cutsOf [(6, cut p6 J6), (10, cut p10 J10), (14, cut p14 J14), (16, cut p16 J16), (18, cut p18 J18)], fin := endOf (tabOf tab) rs 4 pout }
noncomputable def q : FuncId → Bool := fun f => hasId [141, 142] f
theorem seg0 (Gspec_l1Truth : spec_l1Truth.G) (Gspec_l20Later : spec_l20Later.G) (Gspec_l20Next : spec_l20Next.G) (Gspec_l3At : spec_l3At.G) (J6 : List Item → C6) (J10 : List Item → C10) (J14 : List Item → C14) (J16 : List Item → C16) (J18 : List Item → C18) (x0 : Int × Int × Int × Int) (x1 : List (List Int)) (x2 : List (List Int)) (x3 : List (List Int)) : arun (pg Gspec_l1Truth Gspec_l20Later Gspec_l20Next Gspec_l3At J6 J10 J14 J16 J18) 5000 [.code c0] (mk pin (x0, x1, x2, x3, ())) = F0 (J6 T6) Gspec_l20Later x0 x1 x2 x3 := by kernel_rfl
theorem seg6 (Gspec_l1Truth : spec_l1Truth.G) (Gspec_l20Later : spec_l20Later.G) (Gspec_l20Next : spec_l20Next.G) (Gspec_l3At : spec_l3At.G) (J6 : List Item → C6) (J10 : List Item → C10) (J14 : List Item → C14) (J16 : List Item → C16) (J18 : List Item → C18) (t1 : List (List Int)) (t2 : List (List Int)) (t3 : List (List Int)) (t9 : Int) (t11 : Int) (b0_0 : Int) (b0_1 : Int) (b0_2 : Int) (b0_3 : Int) (r1 : List Int) : arun1 (pg Gspec_l1Truth Gspec_l20Later Gspec_l20Next Gspec_l3At J6 J10 J14 J16 J18) 5000 T6 (mk p6 (t1, t2, t3, t9, t11, b0_0, b0_1, b0_2, b0_3, r1, ())) = F6 (J6 T6) (J10 T10) (J14 T14) (J16 T16) (J18 T18) t1 t2 t3 t9 t11 b0_0 b0_1 b0_2 b0_3 r1 := by kernel_rfl
theorem seg10 (Gspec_l1Truth : spec_l1Truth.G) (Gspec_l20Later : spec_l20Later.G) (Gspec_l20Next : spec_l20Next.G) (Gspec_l3At : spec_l3At.G) (J6 : List Item → C6) (J10 : List Item → C10) (J14 : List Item → C14) (J16 : List Item → C16) (J18 : List Item → C18) (t1 : List (List Int)) (t2 : List (List Int)) (t3 : List (List Int)) (t9 : Int) (t11 : Int) (b0_0 : Int) (b0_1 : Int) (b0_2 : Int) (b0_3 : Int) (r1 : List Int) : arunE (pg Gspec_l1Truth Gspec_l20Later Gspec_l20Next Gspec_l3At J6 J10 J14 J16 J18) 5000 T10 (mk p10 (t1, t2, t3, t9, t11, b0_0, b0_1, b0_2, b0_3, r1, ())) = List.replicate (arunE (pg Gspec_l1Truth Gspec_l20Later Gspec_l20Next Gspec_l3At J6 J10 J14 J16 J18) 5000 T10 (mk p10 (t1, t2, t3, t9, t11, b0_0, b0_1, b0_2, b0_3, r1, ()))).length (F10 (J6 T6) Gspec_l3At t1 t2 t3 t9 t11 b0_0 b0_1 b0_2 b0_3 r1) := by kernel_rfl
theorem seg14 (Gspec_l1Truth : spec_l1Truth.G) (Gspec_l20Later : spec_l20Later.G) (Gspec_l20Next : spec_l20Next.G) (Gspec_l3At : spec_l3At.G) (J6 : List Item → C6) (J10 : List Item → C10) (J14 : List Item → C14) (J16 : List Item → C16) (J18 : List Item → C18) (t1 : List (List Int)) (t2 : List (List Int)) (t3 : List (List Int)) (t9 : Int) (t11 : Int) (b0_0 : Int) (b0_1 : Int) (b0_2 : Int) (b0_3 : Int) (r1 : List Int) : arunQ (pg Gspec_l1Truth Gspec_l20Later Gspec_l20Next Gspec_l3At J6 J10 J14 J16 J18) q [] [] 5000 T14 (mk p14 (t1, t2, t3, t9, t11, b0_0, b0_1, b0_2, b0_3, r1, ())) = List.replicate (arunQ (pg Gspec_l1Truth Gspec_l20Later Gspec_l20Next Gspec_l3At J6 J10 J14 J16 J18) q [] [] 5000 T14 (mk p14 (t1, t2, t3, t9, t11, b0_0, b0_1, b0_2, b0_3, r1, ()))).length (F14 (J6 T6) t1 t2 t3 t9 t11 b0_0 b0_1 b0_2 b0_3 r1) := by kernel_rfl
theorem seg16 (Gspec_l1Truth : spec_l1Truth.G) (Gspec_l20Later : spec_l20Later.G) (Gspec_l20Next : spec_l20Next.G) (Gspec_l3At : spec_l3At.G) (J6 : List Item → C6) (J10 : List Item → C10) (J14 : List Item → C14) (J16 : List Item → C16) (J18 : List Item → C18) (t1 : List (List Int)) (t2 : List (List Int)) (t3 : List (List Int)) (t9 : Int) (t11 : Int) (b0_0 : Int) (b0_1 : Int) (b0_2 : Int) (b0_3 : Int) (r1 : List Int) : arunQ (pg Gspec_l1Truth Gspec_l20Later Gspec_l20Next Gspec_l3At J6 J10 J14 J16 J18) q [] [] 5000 T16 (mk p16 (t1, t2, t3, t9, t11, b0_0, b0_1, b0_2, b0_3, r1, ())) = List.replicate (arunQ (pg Gspec_l1Truth Gspec_l20Later Gspec_l20Next Gspec_l3At J6 J10 J14 J16 J18) q [] [] 5000 T16 (mk p16 (t1, t2, t3, t9, t11, b0_0, b0_1, b0_2, b0_3, r1, ()))).length (F16 (J6 T6) Gspec_l1Truth t1 t2 t3 t9 t11 b0_0 b0_1 b0_2 b0_3 r1) := by kernel_rfl
theorem seg18 (Gspec_l1Truth : spec_l1Truth.G) (Gspec_l20Later : spec_l20Later.G) (Gspec_l20Next : spec_l20Next.G) (Gspec_l3At : spec_l3At.G) (J6 : List Item → C6) (J10 : List Item → C10) (J14 : List Item → C14) (J16 : List Item → C16) (J18 : List Item → C18) (t1 : List (List Int)) (t2 : List (List Int)) (t3 : List (List Int)) (t9 : Int) (t11 : Int) (b0_0 : Int) (b0_1 : Int) (b0_2 : Int) (b0_3 : Int) (r1 : List Int) : arunQ (pg Gspec_l1Truth Gspec_l20Later Gspec_l20Next Gspec_l3At J6 J10 J14 J16 J18) q [] [] 5000 T18 (mk p18 (t1, t2, t3, t9, t11, b0_0, b0_1, b0_2, b0_3, r1, ())) = List.replicate (arunQ (pg Gspec_l1Truth Gspec_l20Later Gspec_l20Next Gspec_l3At J6 J10 J14 J16 J18) q [] [] 5000 T18 (mk p18 (t1, t2, t3, t9, t11, b0_0, b0_1, b0_2, b0_3, r1, ()))).length (F18 (J6 T6) Gspec_l20Next t1 t2 t3 t9 t11 b0_0 b0_1 b0_2 b0_3 r1) := by kernel_rfl
noncomputable def L10 (J6 : C6) : C10 := fun x => F10 J6 spec_l3At.impl x.1 x.2.1 x.2.2.1 x.2.2.2.1 x.2.2.2.2.1 x.2.2.2.2.2.1 x.2.2.2.2.2.2.1 x.2.2.2.2.2.2.2.1 x.2.2.2.2.2.2.2.2.1 x.2.2.2.2.2.2.2.2.2.1
noncomputable def L14 (J6 : C6) : C14 := fun x => F14 J6 x.1 x.2.1 x.2.2.1 x.2.2.2.1 x.2.2.2.2.1 x.2.2.2.2.2.1 x.2.2.2.2.2.2.1 x.2.2.2.2.2.2.2.1 x.2.2.2.2.2.2.2.2.1 x.2.2.2.2.2.2.2.2.2.1
noncomputable def L16 (J6 : C6) : C16 := fun x => F16 J6 spec_l1Truth.impl x.1 x.2.1 x.2.2.1 x.2.2.2.1 x.2.2.2.2.1 x.2.2.2.2.2.1 x.2.2.2.2.2.2.1 x.2.2.2.2.2.2.2.1 x.2.2.2.2.2.2.2.2.1 x.2.2.2.2.2.2.2.2.2.1
noncomputable def L18 (J6 : C6) : C18 := fun x => F18 J6 spec_l20Next.impl x.1 x.2.1 x.2.2.1 x.2.2.2.1 x.2.2.2.2.1 x.2.2.2.2.2.1 x.2.2.2.2.2.2.1 x.2.2.2.2.2.2.2.1 x.2.2.2.2.2.2.2.2.1 x.2.2.2.2.2.2.2.2.2.1
noncomputable def L6 : C6 := lfp fun J6 x => F6 J6 (L10 J6) (L14 J6) (L16 J6) (L18 J6) x.1 x.2.1 x.2.2.1 x.2.2.2.1 x.2.2.2.2.1 x.2.2.2.2.2.1 x.2.2.2.2.2.2.1 x.2.2.2.2.2.2.2.1 x.2.2.2.2.2.2.2.2.1 x.2.2.2.2.2.2.2.2.2.1
noncomputable def impl : G := fun x => F0 L6 spec_l20Later.impl x.1 x.2.1 x.2.2.1 x.2.2.2.1
theorem F10_le {J6 J6' : C6} (h6 : OLe J6 J6') {Gspec_l3At : spec_l3At.G} (t1 : List (List Int)) (t2 : List (List Int)) (t3 : List (List Int)) (t9 : Int) (t11 : Int) (b0_0 : Int) (b0_1 : Int) (b0_2 : Int) (b0_3 : Int) (r1 : List Int) : OptLe (F10 J6 Gspec_l3At t1 t2 t3 t9 t11 b0_0 b0_1 b0_2 b0_3 r1) (F10 J6' Gspec_l3At t1 t2 t3 t9 t11 b0_0 b0_1 b0_2 b0_3 r1) := by unfold F10; exact .bind (.refl _) fun _ => .cond (.cond (.of h6 _) (.refl _)) (.refl _)
theorem F14_le {J6 J6' : C6} (h6 : OLe J6 J6') (t1 : List (List Int)) (t2 : List (List Int)) (t3 : List (List Int)) (t9 : Int) (t11 : Int) (b0_0 : Int) (b0_1 : Int) (b0_2 : Int) (b0_3 : Int) (r1 : List Int) : OptLe (F14 J6 t1 t2 t3 t9 t11 b0_0 b0_1 b0_2 b0_3 r1) (F14 J6' t1 t2 t3 t9 t11 b0_0 b0_1 b0_2 b0_3 r1) := by unfold F14; exact .cond (.cond (.cond (.cond (.cond (.of h6 _) (.refl _)) (.refl _)) (.refl _)) (.refl _)) (.refl _)
theorem F16_le {J6 J6' : C6} (h6 : OLe J6 J6') {Gspec_l1Truth : spec_l1Truth.G} (t1 : List (List Int)) (t2 : List (List Int)) (t3 : List (List Int)) (t9 : Int) (t11 : Int) (b0_0 : Int) (b0_1 : Int) (b0_2 : Int) (b0_3 : Int) (r1 : List Int) : OptLe (F16 J6 Gspec_l1Truth t1 t2 t3 t9 t11 b0_0 b0_1 b0_2 b0_3 r1) (F16 J6' Gspec_l1Truth t1 t2 t3 t9 t11 b0_0 b0_1 b0_2 b0_3 r1) := by unfold F16; exact .cond (.cond (.cond (.cond (.bind (.refl _) fun _ => .cond (.of h6 _) (.refl _)) (.refl _)) (.refl _)) (.refl _)) (.refl _)
theorem F18_le {J6 J6' : C6} (h6 : OLe J6 J6') {Gspec_l20Next : spec_l20Next.G} (t1 : List (List Int)) (t2 : List (List Int)) (t3 : List (List Int)) (t9 : Int) (t11 : Int) (b0_0 : Int) (b0_1 : Int) (b0_2 : Int) (b0_3 : Int) (r1 : List Int) : OptLe (F18 J6 Gspec_l20Next t1 t2 t3 t9 t11 b0_0 b0_1 b0_2 b0_3 r1) (F18 J6' Gspec_l20Next t1 t2 t3 t9 t11 b0_0 b0_1 b0_2 b0_3 r1) := by unfold F18; exact .cond (.bind (.refl _) fun _ => .cond (.cond (.of h6 _) (.refl _)) (.refl _)) (.refl _)
theorem F6_le {J6 J6' : C6} (h6 : OLe J6 J6') {J10 J10' : C10} (h10 : OLe J10 J10') {J14 J14' : C14} (h14 : OLe J14 J14') {J16 J16' : C16} (h16 : OLe J16 J16') {J18 J18' : C18} (h18 : OLe J18 J18') (t1 : List (List Int)) (t2 : List (List Int)) (t3 : List (List Int)) (t9 : Int) (t11 : Int) (b0_0 : Int) (b0_1 : Int) (b0_2 : Int) (b0_3 : Int) (r1 : List Int) : OptLe (F6 J6 J10 J14 J16 J18 t1 t2 t3 t9 t11 b0_0 b0_1 b0_2 b0_3 r1) (F6 J6' J10' J14' J16' J18' t1 t2 t3 t9 t11 b0_0 b0_1 b0_2 b0_3 r1) := by unfold F6; exact .cond (.cond (.of h10 _) (.cond (.cond (.cond (.cond (.of h6 _) (.refl _)) (.refl _)) (.refl _)) (.cond (.of h14 _) (.cond (.of h16 _) (.cond (.of h18 _) (.cond (.of h6 _) (.refl _))))))) (.refl _)
theorem L10_eq (J6 : C6) (t1 : List (List Int)) (t2 : List (List Int)) (t3 : List (List Int)) (t9 : Int) (t11 : Int) (b0_0 : Int) (b0_1 : Int) (b0_2 : Int) (b0_3 : Int) (r1 : List Int) : L10 J6 (t1, t2, t3, t9, t11, b0_0, b0_1, b0_2, b0_3, r1, ()) = F10 J6 spec_l3At.impl t1 t2 t3 t9 t11 b0_0 b0_1 b0_2 b0_3 r1 := rfl
theorem L10_le {J6 J6' : C6} (h6 : OLe J6 J6') : OLe (L10 J6) (L10 J6') := fun x => F10_le h6 x.1 x.2.1 x.2.2.1 x.2.2.2.1 x.2.2.2.2.1 x.2.2.2.2.2.1 x.2.2.2.2.2.2.1 x.2.2.2.2.2.2.2.1 x.2.2.2.2.2.2.2.2.1 x.2.2.2.2.2.2.2.2.2.1
theorem L14_eq (J6 : C6) (t1 : List (List Int)) (t2 : List (List Int)) (t3 : List (List Int)) (t9 : Int) (t11 : Int) (b0_0 : Int) (b0_1 : Int) (b0_2 : Int) (b0_3 : Int) (r1 : List Int) : L14 J6 (t1, t2, t3, t9, t11, b0_0, b0_1, b0_2, b0_3, r1, ()) = F14 J6 t1 t2 t3 t9 t11 b0_0 b0_1 b0_2 b0_3 r1 := rfl
theorem L14_le {J6 J6' : C6} (h6 : OLe J6 J6') : OLe (L14 J6) (L14 J6') := fun x => F14_le h6 x.1 x.2.1 x.2.2.1 x.2.2.2.1 x.2.2.2.2.1 x.2.2.2.2.2.1 x.2.2.2.2.2.2.1 x.2.2.2.2.2.2.2.1 x.2.2.2.2.2.2.2.2.1 x.2.2.2.2.2.2.2.2.2.1
theorem L16_eq (J6 : C6) (t1 : List (List Int)) (t2 : List (List Int)) (t3 : List (List Int)) (t9 : Int) (t11 : Int) (b0_0 : Int) (b0_1 : Int) (b0_2 : Int) (b0_3 : Int) (r1 : List Int) : L16 J6 (t1, t2, t3, t9, t11, b0_0, b0_1, b0_2, b0_3, r1, ()) = F16 J6 spec_l1Truth.impl t1 t2 t3 t9 t11 b0_0 b0_1 b0_2 b0_3 r1 := rfl
theorem L16_le {J6 J6' : C6} (h6 : OLe J6 J6') : OLe (L16 J6) (L16 J6') := fun x => F16_le h6 x.1 x.2.1 x.2.2.1 x.2.2.2.1 x.2.2.2.2.1 x.2.2.2.2.2.1 x.2.2.2.2.2.2.1 x.2.2.2.2.2.2.2.1 x.2.2.2.2.2.2.2.2.1 x.2.2.2.2.2.2.2.2.2.1
theorem L18_eq (J6 : C6) (t1 : List (List Int)) (t2 : List (List Int)) (t3 : List (List Int)) (t9 : Int) (t11 : Int) (b0_0 : Int) (b0_1 : Int) (b0_2 : Int) (b0_3 : Int) (r1 : List Int) : L18 J6 (t1, t2, t3, t9, t11, b0_0, b0_1, b0_2, b0_3, r1, ()) = F18 J6 spec_l20Next.impl t1 t2 t3 t9 t11 b0_0 b0_1 b0_2 b0_3 r1 := rfl
theorem L18_le {J6 J6' : C6} (h6 : OLe J6 J6') : OLe (L18 J6) (L18 J6') := fun x => F18_le h6 x.1 x.2.1 x.2.2.1 x.2.2.2.1 x.2.2.2.2.1 x.2.2.2.2.2.1 x.2.2.2.2.2.2.1 x.2.2.2.2.2.2.2.1 x.2.2.2.2.2.2.2.2.1 x.2.2.2.2.2.2.2.2.2.1
theorem L6_mono : OMono fun J6 (x : P6) => F6 J6 (L10 J6) (L14 J6) (L16 J6) (L18 J6) x.1 x.2.1 x.2.2.1 x.2.2.2.1 x.2.2.2.2.1 x.2.2.2.2.2.1 x.2.2.2.2.2.2.1 x.2.2.2.2.2.2.2.1 x.2.2.2.2.2.2.2.2.1 x.2.2.2.2.2.2.2.2.2.1 := fun J J' h6 x => F6_le h6 (L10_le h6) (L14_le h6) (L16_le h6) (L18_le h6) x.1 x.2.1 x.2.2.1 x.2.2.2.1 x.2.2.2.2.1 x.2.2.2.2.2.1 x.2.2.2.2.2.2.1 x.2.2.2.2.2.2.2.1 x.2.2.2.2.2.2.2.2.1 x.2.2.2.2.2.2.2.2.2.1
theorem L6_eq (t1 : List (List Int)) (t2 : List (List Int)) (t3 : List (List Int)) (t9 : Int) (t11 : Int) (b0_0 : Int) (b0_1 : Int) (b0_2 : Int) (b0_3 : Int) (r1 : List Int) : L6 (t1, t2, t3, t9, t11, b0_0, b0_1, b0_2, b0_3, r1, ()) = F6 (L6) (L10 (L6)) (L14 (L6)) (L16 (L6)) (L18 (L6)) t1 t2 t3 t9 t11 b0_0 b0_1 b0_2 b0_3 r1 := congrFun (lfp_eq (L6_mono)) _
theorem impl_eq (x0 : Int × Int × Int × Int) (x1 : List (List Int)) (x2 : List (List Int)) (x3 : List (List Int)) : impl (x0, x1, x2, x3, ()) = F0 L6 spec_l20Later.impl x0 x1 x2 x3 := rfl
theorem con : Con Try.prog 90 4 rs.length 4 pin pout impl := by
  refine con_of_run3 (nt := 118) (c := c0) tabGood Try.func90 (by kernel_rfl) (by kernel_rfl) (by kernel_rfl) (by kernel_rfl) (by kernel_rfl) (by kernel_rfl) (by kernel_rfl) ?_
  intro w0 O y Post hnp fin
  have hp : ∀ (J6 : List Item → C6), ∀ (J10 : List Item → C10), ∀ (J14 : List Item → C14), ∀ (J16 : List Item → C16), ∀ (J18 : List Item → C18), Parts Try.prog 90 (pg spec_l1Truth.impl spec_l20Later.impl spec_l20Next.impl spec_l3At.impl J6 J10 J14 J16 J18) [(6, cut p6 J6), (10, cut p10 J10), (14, cut p14 J14), (16, cut p16 J16), (18, cut p18 J18)] := fun J6 J10 J14 J16 J18 => ⟨tab_ok tabGood rfl, (handAt_ok spec_l20Next.con (handAt_ok spec_l1Truth.con (handAt_ok spec_l3At.con (handAt_ok spec_l20Later.con handNil_ok)))), rfl⟩
  have g10 : ∀ (J6 : C6), Good Try.prog 118 w0 O Post y T6 p6 J6 → Good Try.prog 118 w0 O Post y T10 p10 (L10 J6) := fun J6 h6 => good_orders (hs := hd spec_l1Truth.impl spec_l20Later.impl spec_l20Next.impl spec_l3At.impl) (cv' := hd spec_l1Truth.impl spec_l20Later.impl spec_l20Next.impl spec_l3At.impl) (Checked.mixed Try.checked) (hp (atT T6 J6) (atT T10 (fun _ => none)) (atT T14 (fun _ => none)) (atT T16 (fun _ => none)) (atT T18 (fun _ => none))) (handAt_ok spec_l20Next.con (handAt_ok spec_l1Truth.con (handAt_ok spec_l3At.con (handAt_ok spec_l20Later.con handNil_ok)))) (handAt_nat (handAt_nat (handAt_nat (handAt_nat handNil_nat)))) (handAt_nat (handAt_nat (handAt_nat (handAt_nat handNil_nat)))) (runOK_of (hp (atT T6 J6) (atT T10 (fun _ => none)) (atT T14 (fun _ => none)) (atT T16 (fun _ => none)) (atT T18 (fun _ => none))) hnp ⟨cutOK_at h6, cutOK_at (p := p10) (T := T10) (J := fun _ => none) good_none, cutOK_at (p := p14) (T := T14) (J := fun _ => none) good_none, cutOK_at (p := p16) (T := T16) (J := fun _ => none) good_none, cutOK_at (p := p18) (T := T18) (J := fun _ => none) good_none, trivial⟩ fin) (fun x => all_same ⟨_, (seg10 spec_l1Truth.impl spec_l20Later.impl spec_l20Next.impl spec_l3At.impl (atT T6 J6) (atT T10 (fun _ => none)) (atT T14 (fun _ => none)) (atT T16 (fun _ => none)) (atT T18 (fun _ => none)) x.1 x.2.1 x.2.2.1 x.2.2.2.1 x.2.2.2.2.1 x.2.2.2.2.2.1 x.2.2.2.2.2.2.1 x.2.2.2.2.2.2.2.1 x.2.2.2.2.2.2.2.2.1 x.2.2.2.2.2.2.2.2.2.1).trans (by simp only [atT_self] <;> rfl)⟩)
  have g14 : ∀ (J6 : C6), Good Try.prog 118 w0 O Post y T6 p6 J6 → Good Try.prog 118 w0 O Post y T14 p14 (L14 J6) := fun J6 h6 => good_quiet (hs := hd spec_l1Truth.impl spec_l20Later.impl spec_l20Next.impl spec_l3At.impl) (cv' := hd spec_l1Truth.impl spec_l20Later.impl spec_l20Next.impl spec_l3At.impl) (Checked.mixed Try.checked) (hp (atT T6 J6) (atT T10 (fun _ => none)) (atT T14 (fun _ => none)) (atT T16 (fun _ => none)) (atT T18 (fun _ => none))) (handAt_D spec_l20Next.con (by rfl) rfl (handAt_D spec_l1Truth.con (by rfl) rfl (handAt_D' rfl (handAt_D' rfl handNil_D)))) (handAt_nat (handAt_nat (handAt_nat (handAt_nat handNil_nat)))) (handAt_nat (handAt_nat (handAt_nat (handAt_nat handNil_nat)))) (runOK_of (hp (atT T6 J6) (atT T10 (fun _ => none)) (atT T14 (fun _ => none)) (atT T16 (fun _ => none)) (atT T18 (fun _ => none))) hnp ⟨cutOK_at h6, cutOK_at (p := p10) (T := T10) (J := fun _ => none) good_none, cutOK_at (p := p14) (T := T14) (J := fun _ => none) good_none, cutOK_at (p := p16) (T := T16) (J := fun _ => none) good_none, cutOK_at (p := p18) (T := T18) (J := fun _ => none) good_none, trivial⟩ fin) (fun x => all_same ⟨_, (seg14 spec_l1Truth.impl spec_l20Later.impl spec_l20Next.impl spec_l3At.impl (atT T6 J6) (atT T10 (fun _ => none)) (atT T14 (fun _ => none)) (atT T16 (fun _ => none)) (atT T18 (fun _ => none)) x.1 x.2.1 x.2.2.1 x.2.2.2.1 x.2.2.2.2.1 x.2.2.2.2.2.1 x.2.2.2.2.2.2.1 x.2.2.2.2.2.2.2.1 x.2.2.2.2.2.2.2.2.1 x.2.2.2.2.2.2.2.2.2.1).trans (by simp only [atT_self] <;> rfl)⟩)
  have g16 : ∀ (J6 : C6), Good Try.prog 118 w0 O Post y T6 p6 J6 → Good Try.prog 118 w0 O Post y T16 p16 (L16 J6) := fun J6 h6 => good_quiet (hs := hd spec_l1Truth.impl spec_l20Later.impl spec_l20Next.impl spec_l3At.impl) (cv' := hd spec_l1Truth.impl spec_l20Later.impl spec_l20Next.impl spec_l3At.impl) (Checked.mixed Try.checked) (hp (atT T6 J6) (atT T10 (fun _ => none)) (atT T14 (fun _ => none)) (atT T16 (fun _ => none)) (atT T18 (fun _ => none))) (handAt_D spec_l20Next.con (by rfl) rfl (handAt_D spec_l1Truth.con (by rfl) rfl (handAt_D' rfl (handAt_D' rfl handNil_D)))) (handAt_nat (handAt_nat (handAt_nat (handAt_nat handNil_nat)))) (handAt_nat (handAt_nat (handAt_nat (handAt_nat handNil_nat)))) (runOK_of (hp (atT T6 J6) (atT T10 (fun _ => none)) (atT T14 (fun _ => none)) (atT T16 (fun _ => none)) (atT T18 (fun _ => none))) hnp ⟨cutOK_at h6, cutOK_at (p := p10) (T := T10) (J := fun _ => none) good_none, cutOK_at (p := p14) (T := T14) (J := fun _ => none) good_none, cutOK_at (p := p16) (T := T16) (J := fun _ => none) good_none, cutOK_at (p := p18) (T := T18) (J := fun _ => none) good_none, trivial⟩ fin) (fun x => all_same ⟨_, (seg16 spec_l1Truth.impl spec_l20Later.impl spec_l20Next.impl spec_l3At.impl (atT T6 J6) (atT T10 (fun _ => none)) (atT T14 (fun _ => none)) (atT T16 (fun _ => none)) (atT T18 (fun _ => none)) x.1 x.2.1 x.2.2.1 x.2.2.2.1 x.2.2.2.2.1 x.2.2.2.2.2.1 x.2.2.2.2.2.2.1 x.2.2.2.2.2.2.2.1 x.2.2.2.2.2.2.2.2.1 x.2.2.2.2.2.2.2.2.2.1).trans (by simp only [atT_self] <;> rfl)⟩)
  have g18 : ∀ (J6 : C6), Good Try.prog 118 w0 O Post y T6 p6 J6 → Good Try.prog 118 w0 O Post y T18 p18 (L18 J6) := fun J6 h6 => good_quiet (hs := hd spec_l1Truth.impl spec_l20Later.impl spec_l20Next.impl spec_l3At.impl) (cv' := hd spec_l1Truth.impl spec_l20Later.impl spec_l20Next.impl spec_l3At.impl) (Checked.mixed Try.checked) (hp (atT T6 J6) (atT T10 (fun _ => none)) (atT T14 (fun _ => none)) (atT T16 (fun _ => none)) (atT T18 (fun _ => none))) (handAt_D spec_l20Next.con (by rfl) rfl (handAt_D spec_l1Truth.con (by rfl) rfl (handAt_D' rfl (handAt_D' rfl handNil_D)))) (handAt_nat (handAt_nat (handAt_nat (handAt_nat handNil_nat)))) (handAt_nat (handAt_nat (handAt_nat (handAt_nat handNil_nat)))) (runOK_of (hp (atT T6 J6) (atT T10 (fun _ => none)) (atT T14 (fun _ => none)) (atT T16 (fun _ => none)) (atT T18 (fun _ => none))) hnp ⟨cutOK_at h6, cutOK_at (p := p10) (T := T10) (J := fun _ => none) good_none, cutOK_at (p := p14) (T := T14) (J := fun _ => none) good_none, cutOK_at (p := p16) (T := T16) (J := fun _ => none) good_none, cutOK_at (p := p18) (T := T18) (J := fun _ => none) good_none, trivial⟩ fin) (fun x => all_same ⟨_, (seg18 spec_l1Truth.impl spec_l20Later.impl spec_l20Next.impl spec_l3At.impl (atT T6 J6) (atT T10 (fun _ => none)) (atT T14 (fun _ => none)) (atT T16 (fun _ => none)) (atT T18 (fun _ => none)) x.1 x.2.1 x.2.2.1 x.2.2.2.1 x.2.2.2.2.1 x.2.2.2.2.2.1 x.2.2.2.2.2.2.1 x.2.2.2.2.2.2.2.1 x.2.2.2.2.2.2.2.2.1 x.2.2.2.2.2.2.2.2.2.1).trans (by simp only [atT_self] <;> rfl)⟩)
  have g6 : Good Try.prog 118 w0 O Post y T6 p6 L6 := good_lfp fun J6 h6 => good_part (hp (atT T6 J6) (atT T10 (L10 J6)) (atT T14 (L14 J6)) (atT T16 (L16 J6)) (atT T18 (L18 J6))) (runOK_of (hp (atT T6 J6) (atT T10 (L10 J6)) (atT T14 (L14 J6)) (atT T16 (L16 J6)) (atT T18 (L18 J6))) hnp ⟨cutOK_at h6, cutOK_at (g10 J6 h6), cutOK_at (g14 J6 h6), cutOK_at (g16 J6 h6), cutOK_at (g18 J6 h6), trivial⟩ fin) (fun x => (seg6 spec_l1Truth.impl spec_l20Later.impl spec_l20Next.impl spec_l3At.impl (atT T6 J6) (atT T10 (L10 J6)) (atT T14 (L14 J6)) (atT T16 (L16 J6)) (atT T18 (L18 J6)) x.1 x.2.1 x.2.2.1 x.2.2.2.1 x.2.2.2.2.1 x.2.2.2.2.2.1 x.2.2.2.2.2.2.1 x.2.2.2.2.2.2.2.1 x.2.2.2.2.2.2.2.2.1 x.2.2.2.2.2.2.2.2.2.1).trans (by simp only [atT_self] <;> rfl))
  exact good_first (hp (atT T6 L6) (atT T10 (fun _ => none)) (atT T14 (fun _ => none)) (atT T16 (fun _ => none)) (atT T18 (fun _ => none))) (runOK_of (hp (atT T6 L6) (atT T10 (fun _ => none)) (atT T14 (fun _ => none)) (atT T16 (fun _ => none)) (atT T18 (fun _ => none))) hnp ⟨cutOK_at g6, cutOK_at (p := p10) (T := T10) (J := fun _ => none) good_none, cutOK_at (p := p14) (T := T14) (J := fun _ => none) good_none, cutOK_at (p := p16) (T := T16) (J := fun _ => none) good_none, cutOK_at (p := p18) (T := T18) (J := fun _ => none) good_none, trivial⟩ fin) (fun x => (seg0 spec_l1Truth.impl spec_l20Later.impl spec_l20Next.impl spec_l3At.impl (atT T6 L6) (atT T10 (fun _ => none)) (atT T14 (fun _ => none)) (atT T16 (fun _ => none)) (atT T18 (fun _ => none)) x.1 x.2.1 x.2.2.1 x.2.2.2.1).trans (by simp only [atT_self] <;> rfl))
end spec_l20Row

/-! ### loop.example/wholecheck/spec.TimesOn -/
namespace spec_TimesOn
noncomputable abbrev c0 : Code := (Try.f41.body).getD .skip
noncomputable abbrev pin : Tpl := ⟨[⟨0, false, [.d (.sl q4)]⟩, ⟨1, false, [.d (.sl (.sl i64))]⟩, ⟨2, false, [.d (.sl (.sl i64))]⟩, ⟨3, false, [.d i64]⟩], []⟩
noncomputable abbrev pout : Tpl := ⟨[⟨0, false, [.row 600001]⟩], [(600001, .row 60 false (.sl i64))]⟩
noncomputable abbrev p3 : Tpl := ⟨[⟨0, false, [.d (.sl q4)]⟩, ⟨1, false, [.d (.sl (.sl i64))]⟩, ⟨2, false, [.d (.sl (.sl i64))]⟩], []⟩
noncomputable def T3 : List Item := (find 3 c0 []).getD []
noncomputable abbrev p5 : Tpl := ⟨[⟨0, false, [.d (.sl q4)]⟩, ⟨1, false, [.d (.sl (.sl i64))]⟩, ⟨2, false, [.d (.sl (.sl i64))]⟩, ⟨9, false, [.row 3000000]⟩, ⟨10, false, [.d i64]⟩], [(3000000, .row 60 false (.sl i64))]⟩
noncomputable def T5 : List Item := (find 5 c0 []).getD []
noncomputable abbrev PI := (List Q4) × (List (List Int)) × (List (List Int)) × Int × Unit
noncomputable abbrev PO := (List (List Int)) × Unit
noncomputable abbrev G := PI → Option PO
noncomputable abbrev P3 := (List Q4) × (List (List Int)) × (List (List Int)) × Unit
noncomputable abbrev C3 := P3 → Option PO
noncomputable abbrev P5 := (List Q4) × (List (List Int)) × (List (List Int)) × Int × (List (List Int)) × Unit
noncomputable abbrev C5 := P5 → Option PO
noncomputable abbrev rs : List ResultVar := [.tmp 8]
noncomputable def F0 (J3 : C3) (Gspec_TimesValid : spec_TimesValid.G) (Gspec_WordValid : spec_WordValid.G) (x0 : List Q4) (x1 : List (List Int)) (x2 : List (List Int)) (x3 : Int) : Option PO :=
  Option.bind (Gspec_TimesValid (x0, x3, ())) fun y0 =>
  bif !y0.1 then
    some ([], ())
  else
    Option.bind (Gspec_WordValid (x1, x2, x3, ())) fun y1 =>
    bif !y1.1 then
      some ([], ())
    else
      J3 (x0, x1, x2, ())
noncomputable def F3 (J5 : C5) (t0 : List Q4) (t1 : List (List Int)) (t2 : List (List Int)) : Option PO :=
  J5 (t0, t1, t2, 0, ([] : List (List Int)), ())
noncomputable def F5 (J5 : C5) (Gspec_l20Row : spec_l20Row.G) (t0 : List Q4) (t1 : List (List Int)) (t2 : List (List Int)) (t10 : Int) (r0 : List (List Int)) : Option PO :=
  bif decide (t10 < (t0.length : Int)) then
    bif inb t10 t0.length then
      Option.bind (Gspec_l20Row (t0.getD t10.toNat (0, 0, 0, 0), r0, t1, t2, ())) fun y2 =>
      bif decide ((r0.length + ([y2.1] : List (List Int)).length) * 24 ≤ 140737488355328) then
        J5 (t0, t1, t2, wI (t10 + 1), r0 ++ ([y2.1] : List (List Int)), ())
      else
        none
    else
      none
  else
    some (r0, ())
noncomputable def hd {R : Type} (Gspec_TimesValid : spec_TimesValid.G) (Gspec_WordValid : spec_WordValid.G) (Gspec_l20Row : spec_l20Row.G) : Hand R := (handAt 90 [37] true ⟨4, 1, 4, spec_l20Row.pin, spec_l20Row.pout, Gspec_l20Row⟩ (handAt 12 [13] true ⟨2, 1, 2, spec_TimesValid.pin, spec_TimesValid.pout, Gspec_TimesValid⟩ (handAt 11 [19] true ⟨3, 1, 3, spec_WordValid.pin, spec_WordValid.pout, Gspec_WordValid⟩ handNil)))
noncomputable def pg (Gspec_TimesValid : spec_TimesValid.G) (Gspec_WordValid : spec_WordValid.G) (Gspec_l20Row : spec_l20Row.G) (J3 : List Item → C3) (J5 : List Item → C5) : Prog PO := { nt := 41, np := 4, tb := tabOf tab, hd := hd Gspec_TimesValid Gspec_WordValid Gspec_l20Row, cuts := cutsOf [(3, cut p3 J3), (5, cut p5 J5)], fin := endOf (tabOf tab) rs 4 pout }
noncomputable def q : FuncId → Bool := fun f => hasId [11, 12] f
theorem seg0 (Gspec_TimesValid : spec_TimesValid.G) (Gspec_WordValid : spec_WordValid.G) (Gspec_l20Row : spec_l20Row.G) (J3 : List Item → C3) (J5 : List Item → C5) (x0 : List Q4) (x1 : List (List Int)) (x2 : List (List Int)) (x3 : Int) : arun (pg Gspec_TimesValid Gspec_WordValid Gspec_l20Row J3 J5) 5000 [.code c0] (mk pin (x0, x1, x2, x3, ())) = F0 (J3 T3) Gspec_TimesValid Gspec_WordValid x0 x1 x2 x3 := by kernel_rfl
theorem seg3 (Gspec_TimesValid : spec_TimesValid.G) (Gspec_WordValid : spec_WordValid.G) (Gspec_l20Row : spec_l20Row.G) (J3 : List Item → C3) (J5 : List Item → C5) (t0 : List Q4) (t1 : List (List Int)) (t2 : List (List Int)) : arun1 (pg Gspec_TimesValid Gspec_WordValid Gspec_l20Row J3 J5) 5000 T3 (mk p3 (t0, t1, t2, ())) = F3 (J5 T5) t0 t1 t2 := by kernel_rfl
theorem seg5 (Gspec_TimesValid : spec_TimesValid.G) (Gspec_WordValid : spec_WordValid.G) (Gspec_l20Row : spec_l20Row.G) (J3 : List Item → C3) (J5 : List Item → C5) (t0 : List Q4) (t1 : List (List Int)) (t2 : List (List Int)) (t10 : Int) (r0 : List (List Int)) : arun1 (pg Gspec_TimesValid Gspec_WordValid Gspec_l20Row J3 J5) 5000 T5 (mk p5 (t0, t1, t2, t10, r0, ())) = F5 (J5 T5) Gspec_l20Row t0 t1 t2 t10 r0 := by kernel_rfl
noncomputable def L5 : C5 := lfp fun J5 x => F5 J5 spec_l20Row.impl x.1 x.2.1 x.2.2.1 x.2.2.2.1 x.2.2.2.2.1
noncomputable def L3 : C3 := fun x => F3 L5 x.1 x.2.1 x.2.2.1
noncomputable def impl : G := fun x => F0 L3 spec_TimesValid.impl spec_WordValid.impl x.1 x.2.1 x.2.2.1 x.2.2.2.1
theorem F5_le {J5 J5' : C5} (h5 : OLe J5 J5') {Gspec_l20Row : spec_l20Row.G} (t0 : List Q4) (t1 : List (List Int)) (t2 : List (List Int)) (t10 : Int) (r0 : List (List Int)) : OptLe (F5 J5 Gspec_l20Row t0 t1 t2 t10 r0) (F5 J5' Gspec_l20Row t0 t1 t2 t10 r0) := by unfold F5; exact .cond (.cond (.bind (.refl _) fun _ => .cond (.of h5 _) (.refl _)) (.refl _)) (.refl _)
theorem L5_mono : OMono fun J5 (x : P5) => F5 J5 spec_l20Row.impl x.1 x.2.1 x.2.2.1 x.2.2.2.1 x.2.2.2.2.1 := fun J J' h5 x => F5_le h5 x.1 x.2.1 x.2.2.1 x.2.2.2.1 x.2.2.2.2.1
theorem L5_eq (t0 : List Q4) (t1 : List (List Int)) (t2 : List (List Int)) (t10 : Int) (r0 : List (List Int)) : L5 (t0, t1, t2, t10, r0, ()) = F5 (L5) spec_l20Row.impl t0 t1 t2 t10 r0 := congrFun (lfp_eq (L5_mono)) _
theorem L3_eq (t0 : List Q4) (t1 : List (List Int)) (t2 : List (List Int)) : L3 (t0, t1, t2, ()) = F3 (L5) t0 t1 t2 := rfl
theorem impl_eq (x0 : List Q4) (x1 : List (List Int)) (x2 : List (List Int)) (x3 : Int) : impl (x0, x1, x2, x3, ()) = F0 L3 spec_TimesValid.impl spec_WordValid.impl x0 x1 x2 x3 := rfl
theorem con : Con Try.prog 41 4 rs.length 4 pin pout impl := by
  refine con_of_run3 (nt := 41) (c := c0) tabGood Try.func41 (by kernel_rfl) (by kernel_rfl) (by kernel_rfl) (by kernel_rfl) (by kernel_rfl) (by kernel_rfl) (by kernel_rfl) ?_
  intro w0 O y Post hnp fin
  have hp : ∀ (J3 : List Item → C3), ∀ (J5 : List Item → C5), Parts Try.prog 41 (pg spec_TimesValid.impl spec_WordValid.impl spec_l20Row.impl J3 J5) [(3, cut p3 J3), (5, cut p5 J5)] := fun J3 J5 => ⟨tab_ok tabGood rfl, (handAt_ok spec_l20Row.con (handAt_ok spec_TimesValid.con (handAt_ok spec_WordValid.con handNil_ok))), rfl⟩
  have g5 : Good Try.prog 41 w0 O Post y T5 p5 L5 := good_lfp fun J5 h5 => good_part (hp (atT T3 (fun _ => none)) (atT T5 J5)) (runOK_of (hp (atT T3 (fun _ => none)) (atT T5 J5)) hnp ⟨cutOK_at (p := p3) (T := T3) (J := fun _ => none) good_none, cutOK_at h5, trivial⟩ fin) (fun x => (seg5 spec_TimesValid.impl spec_WordValid.impl spec_l20Row.impl (atT T3 (fun _ => none)) (atT T5 J5) x.1 x.2.1 x.2.2.1 x.2.2.2.1 x.2.2.2.2.1).trans (by simp only [atT_self] <;> rfl))
  have g3 : Good Try.prog 41 w0 O Post y T3 p3 L3 := good_part (hp (atT T3 (fun _ => none)) (atT T5 L5)) (runOK_of (hp (atT T3 (fun _ => none)) (atT T5 L5)) hnp ⟨cutOK_at (p := p3) (T := T3) (J := fun _ => none) good_none, cutOK_at g5, trivial⟩ fin) (fun x => (seg3 spec_TimesValid.impl spec_WordValid.impl spec_l20Row.impl (atT T3 (fun _ => none)) (atT T5 L5) x.1 x.2.1 x.2.2.1).trans (by simp only [atT_self] <;> rfl))
  exact good_first (hp (atT T3 L3) (atT T5 (fun _ => none))) (runOK_of (hp (atT T3 L3) (atT T5 (fun _ => none))) hnp ⟨cutOK_at g3, cutOK_at (p := p5) (T := T5) (J := fun _ => none) good_none, trivial⟩ fin) (fun x => (seg0 spec_TimesValid.impl spec_WordValid.impl spec_l20Row.impl (atT T3 L3) (atT T5 (fun _ => none)) x.1 x.2.1 x.2.2.1 x.2.2.2.1).trans (by simp only [atT_self] <;> rfl))
end spec_TimesOn

/-! ### loop.example/wholecheck/spec.HoldsOn -/
namespace spec_HoldsOn
noncomputable abbrev c0 : Code := (Try.f9.body).getD .skip
noncomputable abbrev pin : Tpl := ⟨[⟨0, false, [.d (.sl q4)]⟩, ⟨1, false, [.d (.sl (.sl i64))]⟩, ⟨2, false, [.d (.sl (.sl i64))]⟩, ⟨3, false, [.d i64]⟩], []⟩
noncomputable abbrev pout : Tpl := ⟨[⟨0, false, [.d .bool]⟩], []⟩
noncomputable abbrev PI := (List Q4) × (List (List Int)) × (List (List Int)) × Int × Unit
noncomputable abbrev PO := Bool × Unit
noncomputable abbrev G := PI → Option PO
noncomputable abbrev rs : List ResultVar := [.tmp 8]
noncomputable def F0 (Gspec_TimesOn : spec_TimesOn.G) (x0 : List Q4) (x1 : List (List Int)) (x2 : List (List Int)) (x3 : Int) : Option PO :=
  Option.bind (Gspec_TimesOn (x0, x1, x2, x3, ())) fun y0 =>
  bif decide ((y0.1.length : Int) > 0) then
    bif inb (wI ((y0.1.length : Int) - 1)) y0.1.length then
      bif inb 0 (y0.1.getD (wI ((y0.1.length : Int) - 1)).toNat []).length then
        some ((y0.1.getD (wI ((y0.1.length : Int) - 1)).toNat []).getD 0 0 == 1, ())
      else
        none
    else
      none
  else
    some (false, ())
noncomputable def hd {R : Type} (Gspec_TimesOn : spec_TimesOn.G) : Hand R := (handAt 41 [14] false ⟨4, 1, 4, spec_TimesOn.pin, spec_TimesOn.pout, Gspec_TimesOn⟩ handNil)
noncomputable def pg (Gspec_TimesOn : spec_TimesOn.G) : Prog PO := { nt := 29, np := 4, tb := tabOf tab, hd := hd Gspec_TimesOn, cuts := cutsOf [], fin := endOf (tabOf tab) rs 4 pout }
noncomputable def q : FuncId → Bool := fun f => hasId [] f
theorem seg0 (Gspec_TimesOn : spec_TimesOn.G) (x0 : List Q4) (x1 : List (List Int)) (x2 : List (List Int)) (x3 : Int) : arun (pg Gspec_TimesOn) 5000 [.code c0] (mk pin (x0, x1, x2, x3, ())) = F0 Gspec_TimesOn x0 x1 x2 x3 := by kernel_rfl
noncomputable def impl : G := fun x => F0 spec_TimesOn.impl x.1 x.2.1 x.2.2.1 x.2.2.2.1
theorem impl_eq (x0 : List Q4) (x1 : List (List Int)) (x2 : List (List Int)) (x3 : Int) : impl (x0, x1, x2, x3, ()) = F0 spec_TimesOn.impl x0 x1 x2 x3 := rfl
theorem con : Con Try.prog 9 4 rs.length 4 pin pout impl := by
  refine con_of_run3 (nt := 29) (c := c0) tabGood Try.func9 (by kernel_rfl) (by kernel_rfl) (by kernel_rfl) (by kernel_rfl) (by kernel_rfl) (by kernel_rfl) (by kernel_rfl) ?_
  intro w0 O y Post hnp fin
  have hp : Parts Try.prog 9 (pg spec_TimesOn.impl) [] := ⟨tab_ok tabGood rfl, (handAt_ok spec_TimesOn.con handNil_ok), rfl⟩
  exact good_first (hp) (runOK_of (hp) hnp trivial fin) (fun x => (seg0 spec_TimesOn.impl x.1 x.2.1 x.2.2.1 x.2.2.2.1))
end spec_HoldsOn

/-! ### slices.Clone[[]loop.example/wholecheck/impl.Time,loop.example/wholecheck/impl.Time] -/
namespace slices_Clone_of
noncomputable abbrev c0 : Code := (Try.f52.body).getD .skip
noncomputable abbrev pin : Tpl := ⟨[⟨0, false, [.d (.sl q4)]⟩], []⟩
noncomputable abbrev pout : Tpl := ⟨[⟨0, false, [.row 600001]⟩], [(600001, .row 73 false q4)]⟩
noncomputable abbrev PI := (List Q4) × Unit
noncomputable abbrev PO := (List Q4) × Unit
noncomputable abbrev G := PI → Option PO
noncomputable abbrev rs : List ResultVar := [.tmp 2]
noncomputable def F0 (x0 : List Q4) : Option PO :=
  bif !x0.isEmpty then
    bif decide ((([] : List Q4).length + x0.length) * 32 ≤ 140737488355328) then
      some (([] : List Q4) ++ x0, ())
    else
      none
  else
    none
noncomputable def hd {R : Type} : Hand R := handNil
noncomputable def pg : Prog PO := { nt := 8, np := 1, tb := tabOf tab, hd := hd, cuts := cutsOf [], fin := endOf (tabOf tab) rs 1 pout }
noncomputable def q : FuncId → Bool := fun f => hasId [] f
theorem seg0 (x0 : List Q4) : arun (pg) 5000 [.code c0] (mk pin (x0, ())) = F0 x0 := by kernel_rfl
noncomputable def impl : G := fun x => F0 x.1
theorem impl_eq (x0 : List Q4) : impl (x0, ()) = F0 x0 := rfl
theorem con : Con Try.prog 52 1 rs.length 1 pin pout impl := by
  refine con_of_run3 (nt := 8) (c := c0) tabGood Try.func52 (by kernel_rfl) (by kernel_rfl) (by kernel_rfl) (by kernel_rfl) (by kernel_rfl) (by kernel_rfl) (by kernel_rfl) ?_
  intro w0 O y Post hnp fin
  have hp : Parts Try.prog 52 (pg) [] := ⟨tab_ok tabGood rfl, handNil_ok, rfl⟩
  exact good_first (hp) (runOK_of (hp) hnp trivial fin) (fun x => (seg0 x.1))
end slices_Clone_of

/-! ### slices.Clip[[]loop.example/wholecheck/impl.Time,loop.example/wholecheck/impl.Time] -/
namespace slices_Clip_of
noncomputable abbrev c0 : Code := (Try.f51.body).getD .skip
noncomputable abbrev pin : Tpl := ⟨[⟨0, false, [.d (.sl q4)]⟩], []⟩
noncomputable abbrev pout : Tpl := ⟨[⟨0, false, [.clip q4]⟩], []⟩
noncomputable abbrev PI := (List Q4) × Unit
noncomputable abbrev PO := (List Q4) × Unit
noncomputable abbrev G := PI → Option PO
noncomputable abbrev rs : List ResultVar := [.tmp 2]
noncomputable def F0 (x0 : List Q4) : Option PO :=
  bif decide (0 ≤ (x0.length : Int)) && decide ((x0.length : Int) ≤ (x0.length : Int)) then
    bif decide ((x0.length : Int) = (x0.length : Int)) then
      some ((x0.take (x0.length : Int).toNat).drop 0, ())
    else
      none
  else
    none
noncomputable def hd {R : Type} : Hand R := handNil
noncomputable def pg : Prog PO := { nt := 9, np := 1, tb := tabOf tab, hd := hd, cuts := cutsOf [], fin := endOf (tabOf tab) rs 1 pout }
noncomputable def q : FuncId → Bool := fun f => hasId [] f
theorem seg0 (x0 : List Q4) : arun (pg) 5000 [.code c0] (mk pin (x0, ())) = F0 x0 := by kernel_rfl
noncomputable def impl : G := fun x => F0 x.1
theorem impl_eq (x0 : List Q4) : impl (x0, ()) = F0 x0 := rfl
theorem con : Con Try.prog 51 1 rs.length 1 pin pout impl := by
  refine con_of_run3 (nt := 9) (c := c0) tabGood Try.func51 (by kernel_rfl) (by kernel_rfl) (by kernel_rfl) (by kernel_rfl) (by kernel_rfl) (by kernel_rfl) (by kernel_rfl) ?_
  intro w0 O y Post hnp fin
  have hp : Parts Try.prog 51 (pg) [] := ⟨tab_ok tabGood rfl, handNil_ok, rfl⟩
  exact good_first (hp) (runOK_of (hp) hnp trivial fin) (fun x => (seg0 x.1))
end slices_Clip_of

/-! ### loop.example/wholecheck/impl.clone[loop.example/wholecheck/impl.Time] -/
namespace impl_clone_of
noncomputable abbrev c0 : Code := (Try.f50.body).getD .skip
noncomputable abbrev pin : Tpl := ⟨[⟨0, false, [.d (.sl q4)]⟩], []⟩
noncomputable abbrev pout : Tpl := ⟨[⟨0, false, [.row 600001]⟩], [(600001, .row 73 false q4)]⟩
noncomputable abbrev PI := (List Q4) × Unit
noncomputable abbrev PO := (List Q4) × Unit
noncomputable abbrev G := PI → Option PO
noncomputable abbrev rs : List ResultVar := [.tmp 2]
noncomputable def F0 (x0 : List Q4) : Option PO :=
  bif (x0.length : Int) == 0 then
    some ([], ())
  else
    bif decide (0 ≤ (x0.length : Int)) && decide ((x0.length : Int) ≤ (x0.length : Int)) && decide ((x0.length : Int) * 32 ≤ 140737488355328) then
      some (x0.take (List.replicate (x0.length : Int).toNat (0, 0, 0, 0) : List Q4).length ++ (List.replicate (x0.length : Int).toNat (0, 0, 0, 0) : List Q4).drop x0.length, ())
    else
      none
noncomputable def hd {R : Type} : Hand R := handNil
noncomputable def pg : Prog PO := { nt := 14, np := 1, tb := tabOf tab, hd := hd, cuts := cutsOf [], fin := endOf (tabOf tab) rs 1 pout }
noncomputable def q : FuncId → Bool := fun f => hasId [] f
theorem seg0 (x0 : List Q4) : arun (pg) 5000 [.code c0] (mk pin (x0, ())) = F0 x0 := by kernel_rfl
noncomputable def impl : G := fun x => F0 x.1
theorem impl_eq (x0 : List Q4) : impl (x0, ()) = F0 x0 := rfl
theorem con : Con Try.prog 50 1 rs.length 1 pin pout impl := by
  refine con_of_run3 (nt := 14) (c := c0) tabGood Try.func50 (by kernel_rfl) (by kernel_rfl) (by kernel_rfl) (by kernel_rfl) (by kernel_rfl) (by kernel_rfl) (by kernel_rfl) ?_
  intro w0 O y Post hnp fin
  have hp : Parts Try.prog 50 (pg) [] := ⟨tab_ok tabGood rfl, handNil_ok, rfl⟩
  exact good_first (hp) (runOK_of (hp) hnp trivial fin) (fun x => (seg0 x.1))
end impl_clone_of
end Go.Proofs.YtjjepjfjikefiaaB
