/- PRINTED BY A PROGRAM OF THIS CLAIM'S AUTHOR (wip/gen): functions of the given program, their parts, their contracts. -/
import Derived.Test.YtfjnckjkpkhbdaaGreatDoorKFnEveryExpra
set_option linter.unusedVariables false
set_option linter.unusedSimpArgs false
set_option maxRecDepth 100000
namespace Go.Proofs.YtfjnckjkpkhbdaaGreatDoorB
open Go

/-! ### loop.example/wholecheck/spec.l30Put -/
namespace spec_l30Put
noncomputable abbrev c0 : Code := (Tryz.f116.body).getD .skip
noncomputable abbrev pin : Tpl := ⟨[⟨0, true, [.d .str, .d i64, .row 500001, .row 500002, .d .bool]⟩, ⟨1, true, [.d q4]⟩], [(500001, .row 9 false .str), (500002, .row 52 true q4)]⟩
noncomputable abbrev pout : Tpl := ⟨[⟨0, true, [.d .str, .d i64, .row 500001, .row 500002, .d .bool]⟩, ⟨1, false, [.d i64]⟩, ⟨2, true, [.any, .any, .row 500001, .any, .any]⟩], [(500001, .row 9 false .str), (500002, .row 52 true q4)]⟩
noncomputable abbrev p2 : Tpl := ⟨[⟨0, true, [.d .str, .d i64, .row 500001, .row 500002, .d .bool]⟩, ⟨2, false, [.ptr 3000000 0]⟩, ⟨3, false, [.ptr 3000001 0]⟩, ⟨4, false, [.ptr 3000002 0]⟩, ⟨6, false, [.d i64]⟩], [(500001, .row 9 false .str), (500002, .row 52 true q4), (3000000, .box [.d .str, .d i64, .row 500001, .row 500002, .d .bool]), (3000001, .box [.d i64, .d i64, .d i64, .d i64]), (3000002, .box [.d .str, .d i64, .row 3000003, .row 3000004, .d .bool]), (3000003, .row 9 true .str), (3000004, .row 52 true q4)]⟩
noncomputable def T2 : List Item := (find 2 c0 []).getD []
noncomputable abbrev p4 : Tpl := ⟨[⟨0, true, [.d .str, .d i64, .row 500001, .row 500002, .d .bool]⟩, ⟨2, false, [.ptr 3000000 0]⟩, ⟨3, false, [.ptr 3000001 0]⟩, ⟨4, false, [.ptr 3000002 0]⟩, ⟨6, false, [.d i64]⟩], [(500001, .row 9 false .str), (500002, .row 52 true q4), (3000000, .box [.d .str, .d i64, .row 500001, .row 500002, .d .bool]), (3000001, .box [.d i64, .d i64, .d i64, .d i64]), (3000002, .box [.d .str, .d i64, .row 3000003, .row 3000004, .d .bool]), (3000003, .row 9 true .str), (3000004, .row 52 true q4)]⟩
noncomputable def T4 : List Item := (find 4 c0 []).getD []
noncomputable abbrev p8 : Tpl := ⟨[⟨0, true, [.d .str, .d i64, .row 500001, .any, .d .bool]⟩, ⟨2, false, [.ptr 3000000 0]⟩, ⟨4, false, [.ptr 3000001 0]⟩], [(500001, .row 9 false .str), (3000000, .box [.d .str, .d i64, .row 500001, .row 500002, .d .bool]), (3000001, .box [.d .str, .d i64, .row 3000002, .row 3000003, .d .bool]), (500002, .row 52 true q4), (3000002, .row 9 true .str), (3000003, .row 52 true q4)]⟩
noncomputable def T8 : List Item := (find 8 c0 []).getD []
noncomputable abbrev PI := Bs × Int × Bool × Q4 × (List Bs) × (List Q4) × Unit
noncomputable abbrev PO := Bs × Int × Bool × Int × (List Bs) × (List Q4) × Unit
noncomputable abbrev G := PI → Option PO
noncomputable abbrev P2 := Bs × Int × Bool × Int × (List Bs) × (List Q4) × Bs × Int × Bool × Int × Int × Int × Int × Bs × Int × Bool × (List Bs) × (List Q4) × Unit
noncomputable abbrev C2 := P2 → Option PO
noncomputable abbrev P4 := Bs × Int × Bool × Int × (List Bs) × (List Q4) × Bs × Int × Bool × Int × Int × Int × Int × Bs × Int × Bool × (List Bs) × (List Q4) × Unit
noncomputable abbrev C4 := P4 → Option PO
noncomputable abbrev P8 := Bs × Int × Bool × (List Bs) × Bs × Int × Bool × Bs × Int × Bool × (List Q4) × (List Bs) × (List Q4) × Unit
noncomputable abbrev C8 := P8 → Option PO
noncomputable abbrev rs : List ResultVar := [.cell 4 114, .tmp 5]
noncomputable def F0 (J2 : C2) (x0_0 : Bs) (x0_1 : Int) (x0_2 : Bool) (x1 : Int × Int × Int × Int) (s1 : List Bs) (s2 : List Q4) : Option PO :=
  J2 (x0_0, x0_1, x0_2, 0, s1, s2, x0_0, x0_1, x0_2, x1.1, x1.2.1, x1.2.2.1, x1.2.2.2, [], 0, false, [], [], ())
noncomputable def F2 (J4 : C4) (J8 : C8) (t0_0 : Bs) (t0_1 : Int) (t0_2 : Bool) (t6 : Int) (s1 : List Bs) (s2 : List Q4) (b0_0 : Bs) (b0_1 : Int) (b0_2 : Bool) (b1_0 : Int) (b1_1 : Int) (b1_2 : Int) (b1_3 : Int) (b2_0 : Bs) (b2_1 : Int) (b2_2 : Bool) (r3 : List Bs) (r4 : List Q4) : Option PO :=
  bif decide (t6 < (s2.length : Int)) then
    J4 (t0_0, t0_1, t0_2, t6, s1, s2, b0_0, b0_1, b0_2, b1_0, b1_1, b1_2, b1_3, b2_0, b2_1, b2_2, r3, r4, ())
  else
    bif decide ((s2.length + ([(b1_0, b1_1, b1_2, b1_3)] : List Q4).length) * 32 ≤ 140737488355328) then
      bif b0_2 then
        J8 (t0_0, t0_1, t0_2, s1, b0_0, b0_1, decide (((s2 ++ ([(b1_0, b1_1, b1_2, b1_3)] : List Q4)).length : Int) ≤ 40), b2_0, b2_1, b2_2, s2 ++ ([(b1_0, b1_1, b1_2, b1_3)] : List Q4), r3, r4, ())
      else
        J8 (t0_0, t0_1, t0_2, s1, b0_0, b0_1, false, b2_0, b2_1, b2_2, s2 ++ ([(b1_0, b1_1, b1_2, b1_3)] : List Q4), r3, r4, ())
    else
      none
noncomputable def F4 (J2 : C2) (t0_0 : Bs) (t0_1 : Int) (t0_2 : Bool) (t6 : Int) (s1 : List Bs) (s2 : List Q4) (b0_0 : Bs) (b0_1 : Int) (b0_2 : Bool) (b1_0 : Int) (b1_1 : Int) (b1_2 : Int) (b1_3 : Int) (b2_0 : Bs) (b2_1 : Int) (b2_2 : Bool) (r3 : List Bs) (r4 : List Q4) : Option PO :=
  bif inb t6 s2.length then
    bif (((s2.getD t6.toNat (0, 0, 0, 0)).1 == b1_0) && (((s2.getD t6.toNat (0, 0, 0, 0)).2.1 == b1_1) && (((s2.getD t6.toNat (0, 0, 0, 0)).2.2.1 == b1_2) && ((s2.getD t6.toNat (0, 0, 0, 0)).2.2.2 == b1_3)))) then
      some (b0_0, b0_1, b0_2, t6, s1, s2, ())
    else
      J2 (t0_0, t0_1, t0_2, wI (t6 + 1), s1, s2, b0_0, b0_1, b0_2, b1_0, b1_1, b1_2, b1_3, b2_0, b2_1, b2_2, r3, r4, ())
  else
    none
noncomputable def F8 (t0_0 : Bs) (t0_1 : Int) (t0_2 : Bool) (s1 : List Bs) (b0_0 : Bs) (b0_1 : Int) (b0_2 : Bool) (b1_0 : Bs) (b1_1 : Int) (b1_2 : Bool) (s2 : List Q4) (r2 : List Bs) (r3 : List Q4) : Option PO :=
  some (b0_0, b0_1, b0_2, wI ((s2.length : Int) - 1), s1, s2, ())
noncomputable def hd {R : Type} : Hand R := handNil
noncomputable def pg (J2 : List Item → C2) (J4 : List Item → C4) (J8 : List Item → C8) : Prog PO := { nt := 43, np := 2, tb := tabOf tab, hd := hd, cuts := cutsOf [(2, cut p2 J2), (4, cut p4 J4), (8, cut p8 J8)], fin := endOf (tabOf tab) rs 2 pout }
noncomputable def q : FuncId → Bool := fun f => hasId [] f
theorem seg0 (J2 : List Item → C2) (J4 : List Item → C4) (J8 : List Item → C8) (x0_0 : Bs) (x0_1 : Int) (x0_2 : Bool) (x1 : Int × Int × Int × Int) (s1 : List Bs) (s2 : List Q4) : arun (pg J2 J4 J8) 5000 [.code c0] (mk pin (x0_0, x0_1, x0_2, x1, s1, s2, ())) = F0 (J2 T2) x0_0 x0_1 x0_2 x1 s1 s2 := by kernel_rfl
theorem seg2 (J2 : List Item → C2) (J4 : List Item → C4) (J8 : List Item → C8) (t0_0 : Bs) (t0_1 : Int) (t0_2 : Bool) (t6 : Int) (s1 : List Bs) (s2 : List Q4) (b0_0 : Bs) (b0_1 : Int) (b0_2 : Bool) (b1_0 : Int) (b1_1 : Int) (b1_2 : Int) (b1_3 : Int) (b2_0 : Bs) (b2_1 : Int) (b2_2 : Bool) (r3 : List Bs) (r4 : List Q4) : arun1 (pg J2 J4 J8) 5000 T2 (mk p2 (t0_0, t0_1, t0_2, t6, s1, s2, b0_0, b0_1, b0_2, b1_0, b1_1, b1_2, b1_3, b2_0, b2_1, b2_2, r3, r4, ())) = F2 (J4 T4) (J8 T8) t0_0 t0_1 t0_2 t6 s1 s2 b0_0 b0_1 b0_2 b1_0 b1_1 b1_2 b1_3 b2_0 b2_1 b2_2 r3 r4 := by kernel_rfl
theorem seg4 (J2 : List Item → C2) (J4 : List Item → C4) (J8 : List Item → C8) (t0_0 : Bs) (t0_1 : Int) (t0_2 : Bool) (t6 : Int) (s1 : List Bs) (s2 : List Q4) (b0_0 : Bs) (b0_1 : Int) (b0_2 : Bool) (b1_0 : Int) (b1_1 : Int) (b1_2 : Int) (b1_3 : Int) (b2_0 : Bs) (b2_1 : Int) (b2_2 : Bool) (r3 : List Bs) (r4 : List Q4) : arunQ (pg J2 J4 J8) q [] [] 5000 T4 (mk p4 (t0_0, t0_1, t0_2, t6, s1, s2, b0_0, b0_1, b0_2, b1_0, b1_1, b1_2, b1_3, b2_0, b2_1, b2_2, r3, r4, ())) = List.replicate (arunQ (pg J2 J4 J8) q [] [] 5000 T4 (mk p4 (t0_0, t0_1, t0_2, t6, s1, s2, b0_0, b0_1, b0_2, b1_0, b1_1, b1_2, b1_3, b2_0, b2_1, b2_2, r3, r4, ()))).length (F4 (J2 T2) t0_0 t0_1 t0_2 t6 s1 s2 b0_0 b0_1 b0_2 b1_0 b1_1 b1_2 b1_3 b2_0 b2_1 b2_2 r3 r4) := by kernel_rfl
theorem seg8 (J2 : List Item → C2) (J4 : List Item → C4) (J8 : List Item → C8) (t0_0 : Bs) (t0_1 : Int) (t0_2 : Bool) (s1 : List Bs) (b0_0 : Bs) (b0_1 : Int) (b0_2 : Bool) (b1_0 : Bs) (b1_1 : Int) (b1_2 : Bool) (s2 : List Q4) (r2 : List Bs) (r3 : List Q4) : arunQ (pg J2 J4 J8) q [3000001] [] 5000 T8 (mk p8 (t0_0, t0_1, t0_2, s1, b0_0, b0_1, b0_2, b1_0, b1_1, b1_2, s2, r2, r3, ())) = List.replicate (arunQ (pg J2 J4 J8) q [3000001] [] 5000 T8 (mk p8 (t0_0, t0_1, t0_2, s1, b0_0, b0_1, b0_2, b1_0, b1_1, b1_2, s2, r2, r3, ()))).length (F8 t0_0 t0_1 t0_2 s1 b0_0 b0_1 b0_2 b1_0 b1_1 b1_2 s2 r2 r3) := by kernel_rfl
noncomputable def L8 : C8 := fun x => F8 x.1 x.2.1 x.2.2.1 x.2.2.2.1 x.2.2.2.2.1 x.2.2.2.2.2.1 x.2.2.2.2.2.2.1 x.2.2.2.2.2.2.2.1 x.2.2.2.2.2.2.2.2.1 x.2.2.2.2.2.2.2.2.2.1 x.2.2.2.2.2.2.2.2.2.2.1 x.2.2.2.2.2.2.2.2.2.2.2.1 x.2.2.2.2.2.2.2.2.2.2.2.2.1
noncomputable def L4 (J2 : C2) : C4 := fun x => F4 J2 x.1 x.2.1 x.2.2.1 x.2.2.2.1 x.2.2.2.2.1 x.2.2.2.2.2.1 x.2.2.2.2.2.2.1 x.2.2.2.2.2.2.2.1 x.2.2.2.2.2.2.2.2.1 x.2.2.2.2.2.2.2.2.2.1 x.2.2.2.2.2.2.2.2.2.2.1 x.2.2.2.2.2.2.2.2.2.2.2.1 x.2.2.2.2.2.2.2.2.2.2.2.2.1 x.2.2.2.2.2.2.2.2.2.2.2.2.2.1 x.2.2.2.2.2.2.2.2.2.2.2.2.2.2.1 x.2.2.2.2.2.2.2.2.2.2.2.2.2.2.2.1 x.2.2.2.2.2.2.2.2.2.2.2.2.2.2.2.2.1 x.2.2.2.2.2.2.2.2.2.2.2.2.2.2.2.2.2.1
noncomputable def L2 : C2 := lfp fun J2 x => F2 (L4 J2) L8 x.1 x.2.1 x.2.2.1 x.2.2.2.1 x.2.2.2.2.1 x.2.2.2.2.2.1 x.2.2.2.2.2.2.1 x.2.2.2.2.2.2.2.1 x.2.2.2.2.2.2.2.2.1 x.2.2.2.2.2.2.2.2.2.1 x.2.2.2.2.2.2.2.2.2.2.1 x.2.2.2.2.2.2.2.2.2.2.2.1 x.2.2.2.2.2.2.2.2.2.2.2.2.1 x.2.2.2.2.2.2.2.2.2.2.2.2.2.1 x.2.2.2.2.2.2.2.2.2.2.2.2.2.2.1 x.2.2.2.2.2.2.2.2.2.2.2.2.2.2.2.1 x.2.2.2.2.2.2.2.2.2.2.2.2.2.2.2.2.1 x.2.2.2.2.2.2.2.2.2.2.2.2.2.2.2.2.2.1
noncomputable def impl : G := fun x => F0 L2 x.1 x.2.1 x.2.2.1 x.2.2.2.1 x.2.2.2.2.1 x.2.2.2.2.2.1
theorem F4_le {J2 J2' : C2} (h2 : OLe J2 J2') (t0_0 : Bs) (t0_1 : Int) (t0_2 : Bool) (t6 : Int) (s1 : List Bs) (s2 : List Q4) (b0_0 : Bs) (b0_1 : Int) (b0_2 : Bool) (b1_0 : Int) (b1_1 : Int) (b1_2 : Int) (b1_3 : Int) (b2_0 : Bs) (b2_1 : Int) (b2_2 : Bool) (r3 : List Bs) (r4 : List Q4) : OptLe (F4 J2 t0_0 t0_1 t0_2 t6 s1 s2 b0_0 b0_1 b0_2 b1_0 b1_1 b1_2 b1_3 b2_0 b2_1 b2_2 r3 r4) (F4 J2' t0_0 t0_1 t0_2 t6 s1 s2 b0_0 b0_1 b0_2 b1_0 b1_1 b1_2 b1_3 b2_0 b2_1 b2_2 r3 r4) := by unfold F4; exact .cond (.cond (.refl _) (.of h2 _)) (.refl _)
theorem F2_le {J4 J4' : C4} (h4 : OLe J4 J4') {J8 J8' : C8} (h8 : OLe J8 J8') (t0_0 : Bs) (t0_1 : Int) (t0_2 : Bool) (t6 : Int) (s1 : List Bs) (s2 : List Q4) (b0_0 : Bs) (b0_1 : Int) (b0_2 : Bool) (b1_0 : Int) (b1_1 : Int) (b1_2 : Int) (b1_3 : Int) (b2_0 : Bs) (b2_1 : Int) (b2_2 : Bool) (r3 : List Bs) (r4 : List Q4) : OptLe (F2 J4 J8 t0_0 t0_1 t0_2 t6 s1 s2 b0_0 b0_1 b0_2 b1_0 b1_1 b1_2 b1_3 b2_0 b2_1 b2_2 r3 r4) (F2 J4' J8' t0_0 t0_1 t0_2 t6 s1 s2 b0_0 b0_1 b0_2 b1_0 b1_1 b1_2 b1_3 b2_0 b2_1 b2_2 r3 r4) := by unfold F2; exact .cond (.of h4 _) (.cond (.cond (.of h8 _) (.of h8 _)) (.refl _))
theorem L8_eq (t0_0 : Bs) (t0_1 : Int) (t0_2 : Bool) (s1 : List Bs) (b0_0 : Bs) (b0_1 : Int) (b0_2 : Bool) (b1_0 : Bs) (b1_1 : Int) (b1_2 : Bool) (s2 : List Q4) (r2 : List Bs) (r3 : List Q4) : L8 (t0_0, t0_1, t0_2, s1, b0_0, b0_1, b0_2, b1_0, b1_1, b1_2, s2, r2, r3, ()) = F8 t0_0 t0_1 t0_2 s1 b0_0 b0_1 b0_2 b1_0 b1_1 b1_2 s2 r2 r3 := rfl
theorem L4_eq (J2 : C2) (t0_0 : Bs) (t0_1 : Int) (t0_2 : Bool) (t6 : Int) (s1 : List Bs) (s2 : List Q4) (b0_0 : Bs) (b0_1 : Int) (b0_2 : Bool) (b1_0 : Int) (b1_1 : Int) (b1_2 : Int) (b1_3 : Int) (b2_0 : Bs) (b2_1 : Int) (b2_2 : Bool) (r3 : List Bs) (r4 : List Q4) : L4 J2 (t0_0, t0_1, t0_2, t6, s1, s2, b0_0, b0_1, b0_2, b1_0, b1_1, b1_2, b1_3, b2_0, b2_1, b2_2, r3, r4, ()) = F4 J2 t0_0 t0_1 t0_2 t6 s1 s2 b0_0 b0_1 b0_2 b1_0 b1_1 b1_2 b1_3 b2_0 b2_1 b2_2 r3 r4 := rfl
theorem L4_le {J2 J2' : C2} (h2 : OLe J2 J2') : OLe (L4 J2) (L4 J2') := fun x => F4_le h2 x.1 x.2.1 x.2.2.1 x.2.2.2.1 x.2.2.2.2.1 x.2.2.2.2.2.1 x.2.2.2.2.2.2.1 x.2.2.2.2.2.2.2.1 x.2.2.2.2.2.2.2.2.1 x.2.2.2.2.2.2.2.2.2.1 x.2.2.2.2.2.2.2.2.2.2.1 x.2.2.2.2.2.2.2.2.2.2.2.1 x.2.2.2.2.2.2.2.2.2.2.2.2.1 x.2.2.2.2.2.2.2.2.2.2.2.2.2.1 x.2.2.2.2.2.2.2.2.2.2.2.2.2.2.1 x.2.2.2.2.2.2.2.2.2.2.2.2.2.2.2.1 x.2.2.2.2.2.2.2.2.2.2.2.2.2.2.2.2.1 x.2.2.2.2.2.2.2.2.2.2.2.2.2.2.2.2.2.1
theorem L2_mono : OMono fun J2 (x : P2) => F2 (L4 J2) L8 x.1 x.2.1 x.2.2.1 x.2.2.2.1 x.2.2.2.2.1 x.2.2.2.2.2.1 x.2.2.2.2.2.2.1 x.2.2.2.2.2.2.2.1 x.2.2.2.2.2.2.2.2.1 x.2.2.2.2.2.2.2.2.2.1 x.2.2.2.2.2.2.2.2.2.2.1 x.2.2.2.2.2.2.2.2.2.2.2.1 x.2.2.2.2.2.2.2.2.2.2.2.2.1 x.2.2.2.2.2.2.2.2.2.2.2.2.2.1 x.2.2.2.2.2.2.2.2.2.2.2.2.2.2.1 x.2.2.2.2.2.2.2.2.2.2.2.2.2.2.2.1 x.2.2.2.2.2.2.2.2.2.2.2.2.2.2.2.2.1 x.2.2.2.2.2.2.2.2.2.2.2.2.2.2.2.2.2.1 := fun J J' h2 x => F2_le (L4_le h2) (fun _ _ h => h) x.1 x.2.1 x.2.2.1 x.2.2.2.1 x.2.2.2.2.1 x.2.2.2.2.2.1 x.2.2.2.2.2.2.1 x.2.2.2.2.2.2.2.1 x.2.2.2.2.2.2.2.2.1 x.2.2.2.2.2.2.2.2.2.1 x.2.2.2.2.2.2.2.2.2.2.1 x.2.2.2.2.2.2.2.2.2.2.2.1 x.2.2.2.2.2.2.2.2.2.2.2.2.1 x.2.2.2.2.2.2.2.2.2.2.2.2.2.1 x.2.2.2.2.2.2.2.2.2.2.2.2.2.2.1 x.2.2.2.2.2.2.2.2.2.2.2.2.2.2.2.1 x.2.2.2.2.2.2.2.2.2.2.2.2.2.2.2.2.1 x.2.2.2.2.2.2.2.2.2.2.2.2.2.2.2.2.2.1
theorem L2_eq (t0_0 : Bs) (t0_1 : Int) (t0_2 : Bool) (t6 : Int) (s1 : List Bs) (s2 : List Q4) (b0_0 : Bs) (b0_1 : Int) (b0_2 : Bool) (b1_0 : Int) (b1_1 : Int) (b1_2 : Int) (b1_3 : Int) (b2_0 : Bs) (b2_1 : Int) (b2_2 : Bool) (r3 : List Bs) (r4 : List Q4) : L2 (t0_0, t0_1, t0_2, t6, s1, s2, b0_0, b0_1, b0_2, b1_0, b1_1, b1_2, b1_3, b2_0, b2_1, b2_2, r3, r4, ()) = F2 (L4 (L2)) (L8) t0_0 t0_1 t0_2 t6 s1 s2 b0_0 b0_1 b0_2 b1_0 b1_1 b1_2 b1_3 b2_0 b2_1 b2_2 r3 r4 := congrFun (lfp_eq (L2_mono)) _
theorem impl_eq (x0_0 : Bs) (x0_1 : Int) (x0_2 : Bool) (x1 : Int × Int × Int × Int) (s1 : List Bs) (s2 : List Q4) : impl (x0_0, x0_1, x0_2, x1, s1, s2, ()) = F0 L2 x0_0 x0_1 x0_2 x1 s1 s2 := rfl
theorem con : Con Tryz.prog 116 2 rs.length 2 pin pout impl := by
  refine con_of_run3 (nt := 43) (c := c0) tabGood Tryz.func116 (by kernel_rfl) (by kernel_rfl) (by kernel_rfl) (by kernel_rfl) (by kernel_rfl) (by kernel_rfl) (by kernel_rfl) ?_
  intro w0 O y Post hnp fin
  have hp : ∀ (J2 : List Item → C2), ∀ (J4 : List Item → C4), ∀ (J8 : List Item → C8), Parts Tryz.prog 116 (pg J2 J4 J8) [(2, cut p2 J2), (4, cut p4 J4), (8, cut p8 J8)] := fun J2 J4 J8 => ⟨tab_ok tabGood rfl, handNil_ok, rfl⟩
  have g8 : Good Tryz.prog 43 w0 O Post y T8 p8 L8 := good_quiet (hs := hd) (cv' := hd) (Checked.mixed Tryz.checked) (hp (atT T2 (fun _ => none)) (atT T4 (fun _ => none)) (atT T8 (fun _ => none))) handNil_D handNil_nat handNil_nat (runOK_of (hp (atT T2 (fun _ => none)) (atT T4 (fun _ => none)) (atT T8 (fun _ => none))) hnp ⟨cutOK_at (p := p2) (T := T2) (J := fun _ => none) good_none, cutOK_at (p := p4) (T := T4) (J := fun _ => none) good_none, cutOK_at (p := p8) (T := T8) (J := fun _ => none) good_none, trivial⟩ fin) (fun x => all_same ⟨_, (seg8 (atT T2 (fun _ => none)) (atT T4 (fun _ => none)) (atT T8 (fun _ => none)) x.1 x.2.1 x.2.2.1 x.2.2.2.1 x.2.2.2.2.1 x.2.2.2.2.2.1 x.2.2.2.2.2.2.1 x.2.2.2.2.2.2.2.1 x.2.2.2.2.2.2.2.2.1 x.2.2.2.2.2.2.2.2.2.1 x.2.2.2.2.2.2.2.2.2.2.1 x.2.2.2.2.2.2.2.2.2.2.2.1 x.2.2.2.2.2.2.2.2.2.2.2.2.1)⟩)
  have g4 : ∀ (J2 : C2), Good Tryz.prog 43 w0 O Post y T2 p2 J2 → Good Tryz.prog 43 w0 O Post y T4 p4 (L4 J2) := fun J2 h2 => good_quiet (hs := hd) (cv' := hd) (Checked.mixed Tryz.checked) (hp (atT T2 J2) (atT T4 (fun _ => none)) (atT T8 (fun _ => none))) handNil_D handNil_nat handNil_nat (runOK_of (hp (atT T2 J2) (atT T4 (fun _ => none)) (atT T8 (fun _ => none))) hnp ⟨cutOK_at h2, cutOK_at (p := p4) (T := T4) (J := fun _ => none) good_none, cutOK_at (p := p8) (T := T8) (J := fun _ => none) good_none, trivial⟩ fin) (fun x => all_same ⟨_, (seg4 (atT T2 J2) (atT T4 (fun _ => none)) (atT T8 (fun _ => none)) x.1 x.2.1 x.2.2.1 x.2.2.2.1 x.2.2.2.2.1 x.2.2.2.2.2.1 x.2.2.2.2.2.2.1 x.2.2.2.2.2.2.2.1 x.2.2.2.2.2.2.2.2.1 x.2.2.2.2.2.2.2.2.2.1 x.2.2.2.2.2.2.2.2.2.2.1 x.2.2.2.2.2.2.2.2.2.2.2.1 x.2.2.2.2.2.2.2.2.2.2.2.2.1 x.2.2.2.2.2.2.2.2.2.2.2.2.2.1 x.2.2.2.2.2.2.2.2.2.2.2.2.2.2.1 x.2.2.2.2.2.2.2.2.2.2.2.2.2.2.2.1 x.2.2.2.2.2.2.2.2.2.2.2.2.2.2.2.2.1 x.2.2.2.2.2.2.2.2.2.2.2.2.2.2.2.2.2.1).trans (by simp only [atT_self] <;> rfl)⟩)
  have g2 : Good Tryz.prog 43 w0 O Post y T2 p2 L2 := good_lfp fun J2 h2 => good_part (hp (atT T2 (fun _ => none)) (atT T4 (L4 J2)) (atT T8 L8)) (runOK_of (hp (atT T2 (fun _ => none)) (atT T4 (L4 J2)) (atT T8 L8)) hnp ⟨cutOK_at (p := p2) (T := T2) (J := fun _ => none) good_none, cutOK_at (g4 J2 h2), cutOK_at g8, trivial⟩ fin) (fun x => (seg2 (atT T2 (fun _ => none)) (atT T4 (L4 J2)) (atT T8 L8) x.1 x.2.1 x.2.2.1 x.2.2.2.1 x.2.2.2.2.1 x.2.2.2.2.2.1 x.2.2.2.2.2.2.1 x.2.2.2.2.2.2.2.1 x.2.2.2.2.2.2.2.2.1 x.2.2.2.2.2.2.2.2.2.1 x.2.2.2.2.2.2.2.2.2.2.1 x.2.2.2.2.2.2.2.2.2.2.2.1 x.2.2.2.2.2.2.2.2.2.2.2.2.1 x.2.2.2.2.2.2.2.2.2.2.2.2.2.1 x.2.2.2.2.2.2.2.2.2.2.2.2.2.2.1 x.2.2.2.2.2.2.2.2.2.2.2.2.2.2.2.1 x.2.2.2.2.2.2.2.2.2.2.2.2.2.2.2.2.1 x.2.2.2.2.2.2.2.2.2.2.2.2.2.2.2.2.2.1).trans (by simp only [atT_self] <;> rfl))
  exact good_first (hp (atT T2 L2) (atT T4 (fun _ => none)) (atT T8 (fun _ => none))) (runOK_of (hp (atT T2 L2) (atT T4 (fun _ => none)) (atT T8 (fun _ => none))) hnp ⟨cutOK_at g2, cutOK_at (p := p4) (T := T4) (J := fun _ => none) good_none, cutOK_at (p := p8) (T := T8) (J := fun _ => none) good_none, trivial⟩ fin) (fun x => (seg0 (atT T2 L2) (atT T4 (fun _ => none)) (atT T8 (fun _ => none)) x.1 x.2.1 x.2.2.1 x.2.2.2.1 x.2.2.2.2.1 x.2.2.2.2.2.1).trans (by simp only [atT_self] <;> rfl))
end spec_l30Put

/-! ### loop.example/wholecheck/spec.l40Num -/
namespace spec_l40Num
noncomputable abbrev c0 : Code := (Tryz.f124.body).getD .skip
noncomputable abbrev pin : Tpl := ⟨[⟨0, false, [.d .str]⟩], []⟩
noncomputable abbrev pout : Tpl := ⟨[⟨0, false, [.d i64]⟩, ⟨1, false, [.d .bool]⟩], []⟩
noncomputable abbrev p2 : Tpl := ⟨[⟨0, false, [.d .str]⟩, ⟨4, false, [.d .bool]⟩], []⟩
noncomputable def T2 : List Item := (find 2 c0 []).getD []
noncomputable abbrev p4 : Tpl := ⟨[⟨0, false, [.d .str]⟩, ⟨4, false, [.d .bool]⟩], []⟩
noncomputable def T4 : List Item := (find 4 c0 []).getD []
noncomputable abbrev p6 : Tpl := ⟨[⟨0, false, [.d .str]⟩, ⟨4, false, [.d .bool]⟩], []⟩
noncomputable def T6 : List Item := (find 6 c0 []).getD []
noncomputable abbrev p8 : Tpl := ⟨[⟨0, false, [.d .str]⟩, ⟨4, false, [.d .bool]⟩, ⟨5, false, [.d i64]⟩, ⟨6, false, [.d i64]⟩], []⟩
noncomputable def T8 : List Item := (find 8 c0 []).getD []
noncomputable abbrev p12 : Tpl := ⟨[⟨0, false, [.d .str]⟩, ⟨4, false, [.d .bool]⟩, ⟨5, false, [.d i64]⟩, ⟨6, false, [.d i64]⟩], []⟩
noncomputable def T12 : List Item := (find 12 c0 []).getD []
noncomputable abbrev PI := Bs × Unit
noncomputable abbrev PO := Int × Bool × Unit
noncomputable abbrev G := PI → Option PO
noncomputable abbrev P2 := Bs × Bool × Unit
noncomputable abbrev C2 := P2 → Option PO
noncomputable abbrev P4 := Bs × Bool × Unit
noncomputable abbrev C4 := P4 → Option PO
noncomputable abbrev P6 := Bs × Bool × Unit
noncomputable abbrev C6 := P6 → Option PO
noncomputable abbrev P8 := Bs × Bool × Int × Int × Unit
noncomputable abbrev C8 := P8 → Option PO
noncomputable abbrev P12 := Bs × Bool × Int × Int × Unit
noncomputable abbrev C12 := P12 → Option PO
noncomputable abbrev rs : List ResultVar := [.tmp 2, .tmp 3]
noncomputable def F0 (J2 : C2) (x0 : Bs) : Option PO :=
  bif decide ((x0.length : Int) > 0) then
    bif inb 0 x0.length then
      J2 (x0, ((x0.getD 0 0).toNat : Int) == 45, ())
    else
      none
  else
    J2 (x0, false, ())
noncomputable def F2 (J4 : C4) (t0 : Bs) (t4 : Bool) : Option PO :=
  bif t4 then
    bif decide (1 ≤ (t0.length : Int)) && decide ((t0.length : Int) ≤ (t0.length : Int)) then
      J4 ((t0.take (t0.length : Int).toNat).drop 1, t4, ())
    else
      none
  else
    J4 (t0, t4, ())
noncomputable def F4 (J6 : C6) (t0 : Bs) (t4 : Bool) : Option PO :=
  bif (t0.length : Int) == 0 then
    some (0, false, ())
  else
    bif decide ((t0.length : Int) > 17) then
      some (0, false, ())
    else
      bif inb 0 t0.length then
        bif ((t0.getD 0 0).toNat : Int) == 48 then
          bif decide ((t0.length : Int) > 1) then
            some (0, false, ())
          else
            bif t4 then
              some (0, false, ())
            else
              J6 (t0, t4, ())
        else
          J6 (t0, t4, ())
      else
        none
noncomputable def F6 (J8 : C8) (t0 : Bs) (t4 : Bool) : Option PO :=
  J8 (t0, t4, 0, 0, ())
noncomputable def F8 (J12 : C12) (t0 : Bs) (t4 : Bool) (t5 : Int) (t6 : Int) : Option PO :=
  bif decide (t6 < (t0.length : Int)) then
    bif inb t6 t0.length then
      bif decide (((t0.getD t6.toNat 0).toNat : Int) < 48) then
        some (0, false, ())
      else
        bif inb t6 t0.length then
          bif decide (((t0.getD t6.toNat 0).toNat : Int) > 57) then
            some (0, false, ())
          else
            J12 (t0, t4, t5, t6, ())
        else
          none
    else
      none
  else
    bif t4 then
      some (wI (0 - t5), true, ())
    else
      some (t5, true, ())
noncomputable def F12 (J8 : C8) (t0 : Bs) (t4 : Bool) (t5 : Int) (t6 : Int) : Option PO :=
  bif inb t6 t0.length then
    J8 (t0, t4, wI ((wI (t5 * 10)) + (wI (IntKind.u8.wrap (((t0.getD t6.toNat 0).toNat : Int) - 48)))), wI (t6 + 1), ())
  else
    none
noncomputable def hd {R : Type} : Hand R := handNil
noncomputable def pg (J2 : List Item → C2) (J4 : List Item → C4) (J6 : List Item → C6) (J8 : List Item → C8) (J12 : List Item → C12) : Prog PO := { nt := 67, np := 0, tb := tabOf tab, hd := hd, cuts := cutsOf [(2, cut p2 J2), (4, cut p4 J4), (6, cut p6 J6), (8, cut p8 J8), (12, cut p12 J12)], fin := endOf (tabOf tab) rs 0 pout }
noncomputable def q : FuncId → Bool := fun f => hasId [] f
theorem seg0 (J2 : List Item → C2) (J4 : List Item → C4) (J6 : List Item → C6) (J8 : List Item → C8) (J12 : List Item → C12) (x0 : Bs) : arun (pg J2 J4 J6 J8 J12) 5000 [.code c0] (mk pin (x0, ())) = F0 (J2 T2) x0 := by kernel_rfl
theorem seg2 (J2 : List Item → C2) (J4 : List Item → C4) (J6 : List Item → C6) (J8 : List Item → C8) (J12 : List Item → C12) (t0 : Bs) (t4 : Bool) : arun1 (pg J2 J4 J6 J8 J12) 5000 T2 (mk p2 (t0, t4, ())) = F2 (J4 T4) t0 t4 := by kernel_rfl
theorem seg4 (J2 : List Item → C2) (J4 : List Item → C4) (J6 : List Item → C6) (J8 : List Item → C8) (J12 : List Item → C12) (t0 : Bs) (t4 : Bool) : arun1 (pg J2 J4 J6 J8 J12) 5000 T4 (mk p4 (t0, t4, ())) = F4 (J6 T6) t0 t4 := by kernel_rfl
theorem seg6 (J2 : List Item → C2) (J4 : List Item → C4) (J6 : List Item → C6) (J8 : List Item → C8) (J12 : List Item → C12) (t0 : Bs) (t4 : Bool) : arun1 (pg J2 J4 J6 J8 J12) 5000 T6 (mk p6 (t0, t4, ())) = F6 (J8 T8) t0 t4 := by kernel_rfl
theorem seg8 (J2 : List Item → C2) (J4 : List Item → C4) (J6 : List Item → C6) (J8 : List Item → C8) (J12 : List Item → C12) (t0 : Bs) (t4 : Bool) (t5 : Int) (t6 : Int) : arun1 (pg J2 J4 J6 J8 J12) 5000 T8 (mk p8 (t0, t4, t5, t6, ())) = F8 (J12 T12) t0 t4 t5 t6 := by kernel_rfl
theorem seg12 (J2 : List Item → C2) (J4 : List Item → C4) (J6 : List Item → C6) (J8 : List Item → C8) (J12 : List Item → C12) (t0 : Bs) (t4 : Bool) (t5 : Int) (t6 : Int) : arun1 (pg J2 J4 J6 J8 J12) 5000 T12 (mk p12 (t0, t4, t5, t6, ())) = F12 (J8 T8) t0 t4 t5 t6 := by kernel_rfl
noncomputable def L12 (J8 : C8) : C12 := fun x => F12 J8 x.1 x.2.1 x.2.2.1 x.2.2.2.1
noncomputable def L8 : C8 := lfp fun J8 x => F8 (L12 J8) x.1 x.2.1 x.2.2.1 x.2.2.2.1
noncomputable def L6 : C6 := fun x => F6 L8 x.1 x.2.1
noncomputable def L4 : C4 := fun x => F4 L6 x.1 x.2.1
noncomputable def L2 : C2 := fun x => F2 L4 x.1 x.2.1
noncomputable def impl : G := fun x => F0 L2 x.1
theorem F12_le {J8 J8' : C8} (h8 : OLe J8 J8') (t0 : Bs) (t4 : Bool) (t5 : Int) (t6 : Int) : OptLe (F12 J8 t0 t4 t5 t6) (F12 J8' t0 t4 t5 t6) := by unfold F12; exact .cond (.of h8 _) (.refl _)
theorem F8_le {J12 J12' : C12} (h12 : OLe J12 J12') (t0 : Bs) (t4 : Bool) (t5 : Int) (t6 : Int) : OptLe (F8 J12 t0 t4 t5 t6) (F8 J12' t0 t4 t5 t6) := by unfold F8; exact .cond (.cond (.cond (.refl _) (.cond (.cond (.refl _) (.of h12 _)) (.refl _))) (.refl _)) (.refl _)
theorem L12_eq (J8 : C8) (t0 : Bs) (t4 : Bool) (t5 : Int) (t6 : Int) : L12 J8 (t0, t4, t5, t6, ()) = F12 J8 t0 t4 t5 t6 := rfl
theorem L12_le {J8 J8' : C8} (h8 : OLe J8 J8') : OLe (L12 J8) (L12 J8') := fun x => F12_le h8 x.1 x.2.1 x.2.2.1 x.2.2.2.1
theorem L8_mono : OMono fun J8 (x : P8) => F8 (L12 J8) x.1 x.2.1 x.2.2.1 x.2.2.2.1 := fun J J' h8 x => F8_le (L12_le h8) x.1 x.2.1 x.2.2.1 x.2.2.2.1
theorem L8_eq (t0 : Bs) (t4 : Bool) (t5 : Int) (t6 : Int) : L8 (t0, t4, t5, t6, ()) = F8 (L12 (L8)) t0 t4 t5 t6 := congrFun (lfp_eq (L8_mono)) _
theorem L6_eq (t0 : Bs) (t4 : Bool) : L6 (t0, t4, ()) = F6 (L8) t0 t4 := rfl
theorem L4_eq (t0 : Bs) (t4 : Bool) : L4 (t0, t4, ()) = F4 (L6) t0 t4 := rfl
theorem L2_eq (t0 : Bs) (t4 : Bool) : L2 (t0, t4, ()) = F2 (L4) t0 t4 := rfl
theorem impl_eq (x0 : Bs) : impl (x0, ()) = F0 L2 x0 := rfl
theorem con : Con Tryz.prog 124 1 rs.length 0 pin pout impl := by
  refine con_of_run3 (nt := 67) (c := c0) tabGood Tryz.func124 (by kernel_rfl) (by kernel_rfl) (by kernel_rfl) (by kernel_rfl) (by kernel_rfl) (by kernel_rfl) (by kernel_rfl) ?_
  intro w0 O y Post hnp fin
  have hp : ∀ (J2 : List Item → C2), ∀ (J4 : List Item → C4), ∀ (J6 : List Item → C6), ∀ (J8 : List Item → C8), ∀ (J12 : List Item → C12), Parts Tryz.prog 124 (pg J2 J4 J6 J8 J12) [(2, cut p2 J2), (4, cut p4 J4), (6, cut p6 J6), (8, cut p8 J8), (12, cut p12 J12)] := fun J2 J4 J6 J8 J12 => ⟨tab_ok tabGood rfl, handNil_ok, rfl⟩
  have g12 : ∀ (J8 : C8), Good Tryz.prog 67 w0 O Post y T8 p8 J8 → Good Tryz.prog 67 w0 O Post y T12 p12 (L12 J8) := fun J8 h8 => good_part (hp (atT T2 (fun _ => none)) (atT T4 (fun _ => none)) (atT T6 (fun _ => none)) (atT T8 J8) (atT T12 (fun _ => none))) (runOK_of (hp (atT T2 (fun _ => none)) (atT T4 (fun _ => none)) (atT T6 (fun _ => none)) (atT T8 J8) (atT T12 (fun _ => none))) hnp ⟨cutOK_at (p := p2) (T := T2) (J := fun _ => none) good_none, cutOK_at (p := p4) (T := T4) (J := fun _ => none) good_none, cutOK_at (p := p6) (T := T6) (J := fun _ => none) good_none, cutOK_at h8, cutOK_at (p := p12) (T := T12) (J := fun _ => none) good_none, trivial⟩ fin) (fun x => (seg12 (atT T2 (fun _ => none)) (atT T4 (fun _ => none)) (atT T6 (fun _ => none)) (atT T8 J8) (atT T12 (fun _ => none)) x.1 x.2.1 x.2.2.1 x.2.2.2.1).trans (by simp only [atT_self] <;> rfl))
  have g8 : Good Tryz.prog 67 w0 O Post y T8 p8 L8 := good_lfp fun J8 h8 => good_part (hp (atT T2 (fun _ => none)) (atT T4 (fun _ => none)) (atT T6 (fun _ => none)) (atT T8 (fun _ => none)) (atT T12 (L12 J8))) (runOK_of (hp (atT T2 (fun _ => none)) (atT T4 (fun _ => none)) (atT T6 (fun _ => none)) (atT T8 (fun _ => none)) (atT T12 (L12 J8))) hnp ⟨cutOK_at (p := p2) (T := T2) (J := fun _ => none) good_none, cutOK_at (p := p4) (T := T4) (J := fun _ => none) good_none, cutOK_at (p := p6) (T := T6) (J := fun _ => none) good_none, cutOK_at (p := p8) (T := T8) (J := fun _ => none) good_none, cutOK_at (g12 J8 h8), trivial⟩ fin) (fun x => (seg8 (atT T2 (fun _ => none)) (atT T4 (fun _ => none)) (atT T6 (fun _ => none)) (atT T8 (fun _ => none)) (atT T12 (L12 J8)) x.1 x.2.1 x.2.2.1 x.2.2.2.1).trans (by simp only [atT_self] <;> rfl))
  have g6 : Good Tryz.prog 67 w0 O Post y T6 p6 L6 := good_part (hp (atT T2 (fun _ => none)) (atT T4 (fun _ => none)) (atT T6 (fun _ => none)) (atT T8 L8) (atT T12 (fun _ => none))) (runOK_of (hp (atT T2 (fun _ => none)) (atT T4 (fun _ => none)) (atT T6 (fun _ => none)) (atT T8 L8) (atT T12 (fun _ => none))) hnp ⟨cutOK_at (p := p2) (T := T2) (J := fun _ => none) good_none, cutOK_at (p := p4) (T := T4) (J := fun _ => none) good_none, cutOK_at (p := p6) (T := T6) (J := fun _ => none) good_none, cutOK_at g8, cutOK_at (p := p12) (T := T12) (J := fun _ => none) good_none, trivial⟩ fin) (fun x => (seg6 (atT T2 (fun _ => none)) (atT T4 (fun _ => none)) (atT T6 (fun _ => none)) (atT T8 L8) (atT T12 (fun _ => none)) x.1 x.2.1).trans (by simp only [atT_self] <;> rfl))
  have g4 : Good Tryz.prog 67 w0 O Post y T4 p4 L4 := good_part (hp (atT T2 (fun _ => none)) (atT T4 (fun _ => none)) (atT T6 L6) (atT T8 (fun _ => none)) (atT T12 (fun _ => none))) (runOK_of (hp (atT T2 (fun _ => none)) (atT T4 (fun _ => none)) (atT T6 L6) (atT T8 (fun _ => none)) (atT T12 (fun _ => none))) hnp ⟨cutOK_at (p := p2) (T := T2) (J := fun _ => none) good_none, cutOK_at (p := p4) (T := T4) (J := fun _ => none) good_none, cutOK_at g6, cutOK_at (p := p8) (T := T8) (J := fun _ => none) good_none, cutOK_at (p := p12) (T := T12) (J := fun _ => none) good_none, trivial⟩ fin) (fun x => (seg4 (atT T2 (fun _ => none)) (atT T4 (fun _ => none)) (atT T6 L6) (atT T8 (fun _ => none)) (atT T12 (fun _ => none)) x.1 x.2.1).trans (by simp only [atT_self] <;> rfl))
  have g2 : Good Tryz.prog 67 w0 O Post y T2 p2 L2 := good_part (hp (atT T2 (fun _ => none)) (atT T4 L4) (atT T6 (fun _ => none)) (atT T8 (fun _ => none)) (atT T12 (fun _ => none))) (runOK_of (hp (atT T2 (fun _ => none)) (atT T4 L4) (atT T6 (fun _ => none)) (atT T8 (fun _ => none)) (atT T12 (fun _ => none))) hnp ⟨cutOK_at (p := p2) (T := T2) (J := fun _ => none) good_none, cutOK_at g4, cutOK_at (p := p6) (T := T6) (J := fun _ => none) good_none, cutOK_at (p := p8) (T := T8) (J := fun _ => none) good_none, cutOK_at (p := p12) (T := T12) (J := fun _ => none) good_none, trivial⟩ fin) (fun x => (seg2 (atT T2 (fun _ => none)) (atT T4 L4) (atT T6 (fun _ => none)) (atT T8 (fun _ => none)) (atT T12 (fun _ => none)) x.1 x.2.1).trans (by simp only [atT_self] <;> rfl))
  exact good_first (hp (atT T2 L2) (atT T4 (fun _ => none)) (atT T6 (fun _ => none)) (atT T8 (fun _ => none)) (atT T12 (fun _ => none))) (runOK_of (hp (atT T2 L2) (atT T4 (fun _ => none)) (atT T6 (fun _ => none)) (atT T8 (fun _ => none)) (atT T12 (fun _ => none))) hnp ⟨cutOK_at g2, cutOK_at (p := p4) (T := T4) (J := fun _ => none) good_none, cutOK_at (p := p6) (T := T6) (J := fun _ => none) good_none, cutOK_at (p := p8) (T := T8) (J := fun _ => none) good_none, cutOK_at (p := p12) (T := T12) (J := fun _ => none) good_none, trivial⟩ fin) (fun x => (seg0 (atT T2 L2) (atT T4 (fun _ => none)) (atT T6 (fun _ => none)) (atT T8 (fun _ => none)) (atT T12 (fun _ => none)) x.1).trans (by simp only [atT_self] <;> rfl))
end spec_l40Num

/-! ### loop.example/wholecheck/spec.l30Leaf -/
namespace spec_l30Leaf
noncomputable abbrev c0 : Code := (Tryz.f117.body).getD .skip
noncomputable abbrev pin : Tpl := ⟨[⟨0, true, [.d .str, .d i64, .row 500001, .row 500002, .d .bool]⟩], [(500001, .row 9 false .str), (500002, .row 52 true q4)]⟩
noncomputable abbrev pout : Tpl := ⟨[⟨0, true, [.d .str, .d i64, .row 500001, .row 500002, .d .bool]⟩, ⟨1, false, [.d i64]⟩, ⟨2, true, [.any, .any, .row 500001, .any, .any]⟩], [(500001, .row 9 false .str), (500002, .row 52 true q4)]⟩
noncomputable abbrev PI := Bs × Int × Bool × (List Bs) × (List Q4) × Unit
noncomputable abbrev PO := Bs × Int × Bool × Int × (List Bs) × (List Q4) × Unit
noncomputable abbrev G := PI → Option PO
noncomputable abbrev rs : List ResultVar := [.cell 2 114, .tmp 3]
noncomputable def F0 (Gspec_l1In : spec_l1In.G) (Gspec_l30At : spec_l30At.G) (Gspec_l30Put : spec_l30Put.G) (Gspec_l30Word : spec_l30Word.G) (Gspec_l40Num : spec_l40Num.G) (x0_0 : Bs) (x0_1 : Int) (x0_2 : Bool) (s1 : List Bs) (s2 : List Q4) : Option PO :=
  Option.bind (Gspec_l30Word (x0_0, x0_1, x0_2, s1, s2, ())) fun y0 =>
  Option.bind (Gspec_l30At (y0.2.1, y0.1, ())) fun y1 =>
  bif decide (y1.1 ≥ 0) then
    Option.bind (Gspec_l30Put (x0_0, wI (x0_1 + (y0.1.length : Int)), x0_2, (1, y1.1, 0, 0), y0.2.1, y0.2.2.1, ())) fun y2 =>
    some (y2.1, y2.2.1, y2.2.2.1, y2.2.2.2.1, y2.2.2.2.2.1, y2.2.2.2.2.2.1, ())
  else
    Option.bind (Gspec_l40Num (y0.1, ())) fun y3 =>
    bif !y3.2.1 then
      some (x0_0, wI (x0_1 + (y0.1.length : Int)), false, 0, y0.2.1, y0.2.2.1, ())
    else
      Option.bind (Gspec_l1In (y3.1, (-9999), 9999, ())) fun y4 =>
      bif !y4.1 then
        some (x0_0, wI (x0_1 + (y0.1.length : Int)), false, 0, y0.2.1, y0.2.2.1, ())
      else
        Option.bind (Gspec_l30Put (x0_0, wI (x0_1 + (y0.1.length : Int)), x0_2, (0, y3.1, 0, 0), y0.2.1, y0.2.2.1, ())) fun y5 =>
        some (y5.1, y5.2.1, y5.2.2.1, y5.2.2.2.1, y5.2.2.2.2.1, y5.2.2.2.2.2.1, ())
noncomputable def hd {R : Type} (Gspec_l1In : spec_l1In.G) (Gspec_l30At : spec_l30At.G) (Gspec_l30Put : spec_l30Put.G) (Gspec_l30Word : spec_l30Word.G) (Gspec_l40Num : spec_l40Num.G) : Hand R := (handAt 157 [9] true ⟨1, 1, 1, spec_l30Word.pin, spec_l30Word.pout, Gspec_l30Word⟩ (handAt 124 [30] true ⟨1, 2, 0, spec_l40Num.pin, spec_l40Num.pout, Gspec_l40Num⟩ (handAt 116 [25, 45] true ⟨2, 2, 2, spec_l30Put.pin, spec_l30Put.pout, Gspec_l30Put⟩ (handAt 107 [37] true ⟨3, 1, 3, spec_l1In.pin, spec_l1In.pout, Gspec_l1In⟩ (handAt 61 [19] true ⟨2, 1, 2, spec_l30At.pin, spec_l30At.pout, Gspec_l30At⟩ handNil)))))
noncomputable def pg (Gspec_l1In : spec_l1In.G) (Gspec_l30At : spec_l30At.G) (Gspec_l30Put : spec_l30Put.G) (Gspec_l30Word : spec_l30Word.G) (Gspec_l40Num : spec_l40Num.G) : Prog PO := { nt := 48, np := 1, tb := tabOf tab, hd := hd Gspec_l1In Gspec_l30At Gspec_l30Put Gspec_l30Word Gspec_l40Num, cuts := cutsOf [], fin := endOf (tabOf tab) rs 1 pout }
noncomputable def q : FuncId → Bool := fun f => hasId [61, 107, 124] f
theorem seg0 (Gspec_l1In : spec_l1In.G) (Gspec_l30At : spec_l30At.G) (Gspec_l30Put : spec_l30Put.G) (Gspec_l30Word : spec_l30Word.G) (Gspec_l40Num : spec_l40Num.G) (x0_0 : Bs) (x0_1 : Int) (x0_2 : Bool) (s1 : List Bs) (s2 : List Q4) : arun (pg Gspec_l1In Gspec_l30At Gspec_l30Put Gspec_l30Word Gspec_l40Num) 5000 [.code c0] (mk pin (x0_0, x0_1, x0_2, s1, s2, ())) = F0 Gspec_l1In Gspec_l30At Gspec_l30Put Gspec_l30Word Gspec_l40Num x0_0 x0_1 x0_2 s1 s2 := by kernel_rfl
noncomputable def impl : G := fun x => F0 spec_l1In.impl spec_l30At.impl spec_l30Put.impl spec_l30Word.impl spec_l40Num.impl x.1 x.2.1 x.2.2.1 x.2.2.2.1 x.2.2.2.2.1
theorem impl_eq (x0_0 : Bs) (x0_1 : Int) (x0_2 : Bool) (s1 : List Bs) (s2 : List Q4) : impl (x0_0, x0_1, x0_2, s1, s2, ()) = F0 spec_l1In.impl spec_l30At.impl spec_l30Put.impl spec_l30Word.impl spec_l40Num.impl x0_0 x0_1 x0_2 s1 s2 := rfl
theorem con : Con Tryz.prog 117 1 rs.length 1 pin pout impl := by
  refine con_of_run3 (nt := 48) (c := c0) tabGood Tryz.func117 (by kernel_rfl) (by kernel_rfl) (by kernel_rfl) (by kernel_rfl) (by kernel_rfl) (by kernel_rfl) (by kernel_rfl) ?_
  intro w0 O y Post hnp fin
  have hp : Parts Tryz.prog 117 (pg spec_l1In.impl spec_l30At.impl spec_l30Put.impl spec_l30Word.impl spec_l40Num.impl) [] := ⟨tab_ok tabGood rfl, (handAt_ok spec_l30Word.con (handAt_ok spec_l40Num.con (handAt_ok spec_l30Put.con (handAt_ok spec_l1In.con (handAt_ok spec_l30At.con handNil_ok))))), rfl⟩
  exact good_first (hp) (runOK_of (hp) hnp trivial fin) (fun x => (seg0 spec_l1In.impl spec_l30At.impl spec_l30Put.impl spec_l30Word.impl spec_l40Num.impl x.1 x.2.1 x.2.2.1 x.2.2.2.1 x.2.2.2.2.1))
end spec_l30Leaf

/-! ### loop.example/wholecheck/spec.l30Take -/
namespace spec_l30Take
noncomputable abbrev c0 : Code := (Tryz.f118.body).getD .skip
noncomputable abbrev pin : Tpl := ⟨[⟨0, true, [.d .str, .d i64, .row 500001, .row 500002, .d .bool]⟩, ⟨1, false, [.d .str]⟩], [(500001, .row 9 false .str), (500002, .row 52 true q4)]⟩
noncomputable abbrev pout : Tpl := ⟨[⟨0, true, [.d .str, .d i64, .row 500001, .row 500002, .d .bool]⟩, ⟨1, true, [.any, .any, .row 500001, .row 500002, .any]⟩], [(500001, .row 9 false .str), (500002, .row 52 true q4)]⟩
noncomputable abbrev p4 : Tpl := ⟨[⟨0, true, [.d .str, .d i64, .row 500001, .row 500002, .d .bool]⟩, ⟨1, false, [.d .str]⟩, ⟨2, false, [.ptr 3000000 0]⟩, ⟨4, false, [.ptr 3000001 0]⟩], [(500001, .row 9 false .str), (500002, .row 52 true q4), (3000000, .box [.d .str, .d i64, .row 500001, .row 500002, .d .bool]), (3000001, .box [.d .str, .d i64, .row 3000002, .row 3000003, .d .bool]), (3000002, .row 9 true .str), (3000003, .row 52 true q4)]⟩
noncomputable def T4 : List Item := (find 4 c0 []).getD []
noncomputable abbrev PI := Bs × Int × Bool × Bs × (List Bs) × (List Q4) × Unit
noncomputable abbrev PO := Bs × Int × Bool × (List Bs) × (List Q4) × Unit
noncomputable abbrev G := PI → Option PO
noncomputable abbrev P4 := Bs × Int × Bool × Bs × (List Bs) × (List Q4) × Bs × Int × Bool × Bs × Int × Bool × (List Bs) × (List Q4) × Unit
noncomputable abbrev C4 := P4 → Option PO
noncomputable abbrev rs : List ResultVar := [.cell 4 114]
noncomputable def F0 (J4 : C4) (x0_0 : Bs) (x0_1 : Int) (x0_2 : Bool) (x1 : Bs) (s1 : List Bs) (s2 : List Q4) : Option PO :=
  bif !x0_2 then
    some (x0_0, x0_1, false, s1, s2, ())
  else
    bif decide (wI (x0_1 + (x1.length : Int)) > (x0_0.length : Int)) then
      some (x0_0, x0_1, false, s1, s2, ())
    else
      bif decide (0 ≤ x0_1) && decide (x0_1 ≤ wI (x0_1 + (x1.length : Int))) && decide (wI (x0_1 + (x1.length : Int)) ≤ (x0_0.length : Int)) then
        bif !(((x0_0.take (wI (x0_1 + (x1.length : Int))).toNat).drop x0_1.toNat) == x1) then
          some (x0_0, x0_1, false, s1, s2, ())
        else
          J4 (x0_0, x0_1, x0_2, x1, s1, s2, x0_0, x0_1, x0_2, [], 0, false, [], [], ())
      else
        none
noncomputable def F4 (t0_0 : Bs) (t0_1 : Int) (t0_2 : Bool) (t1 : Bs) (s1 : List Bs) (s2 : List Q4) (b0_0 : Bs) (b0_1 : Int) (b0_2 : Bool) (b1_0 : Bs) (b1_1 : Int) (b1_2 : Bool) (r2 : List Bs) (r3 : List Q4) : Option PO :=
  some (b0_0, wI (b0_1 + (t1.length : Int)), b0_2, s1, s2, ())
noncomputable def hd {R : Type} : Hand R := handNil
noncomputable def pg (J4 : List Item → C4) : Prog PO := { nt := 42, np := 2, tb := tabOf tab, hd := hd, cuts := cutsOf [(4, cut p4 J4)], fin := endOf (tabOf tab) rs 2 pout }
noncomputable def q : FuncId → Bool := fun f => hasId [] f
theorem seg0 (J4 : List Item → C4) (x0_0 : Bs) (x0_1 : Int) (x0_2 : Bool) (x1 : Bs) (s1 : List Bs) (s2 : List Q4) : arun (pg J4) 5000 [.code c0] (mk pin (x0_0, x0_1, x0_2, x1, s1, s2, ())) = F0 (J4 T4) x0_0 x0_1 x0_2 x1 s1 s2 := by kernel_rfl
theorem seg4 (J4 : List Item → C4) (t0_0 : Bs) (t0_1 : Int) (t0_2 : Bool) (t1 : Bs) (s1 : List Bs) (s2 : List Q4) (b0_0 : Bs) (b0_1 : Int) (b0_2 : Bool) (b1_0 : Bs) (b1_1 : Int) (b1_2 : Bool) (r2 : List Bs) (r3 : List Q4) : arun1 (pg J4) 5000 T4 (mk p4 (t0_0, t0_1, t0_2, t1, s1, s2, b0_0, b0_1, b0_2, b1_0, b1_1, b1_2, r2, r3, ())) = F4 t0_0 t0_1 t0_2 t1 s1 s2 b0_0 b0_1 b0_2 b1_0 b1_1 b1_2 r2 r3 := by kernel_rfl
noncomputable def L4 : C4 := fun x => F4 x.1 x.2.1 x.2.2.1 x.2.2.2.1 x.2.2.2.2.1 x.2.2.2.2.2.1 x.2.2.2.2.2.2.1 x.2.2.2.2.2.2.2.1 x.2.2.2.2.2.2.2.2.1 x.2.2.2.2.2.2.2.2.2.1 x.2.2.2.2.2.2.2.2.2.2.1 x.2.2.2.2.2.2.2.2.2.2.2.1 x.2.2.2.2.2.2.2.2.2.2.2.2.1 x.2.2.2.2.2.2.2.2.2.2.2.2.2.1
noncomputable def impl : G := fun x => F0 L4 x.1 x.2.1 x.2.2.1 x.2.2.2.1 x.2.2.2.2.1 x.2.2.2.2.2.1
theorem L4_eq (t0_0 : Bs) (t0_1 : Int) (t0_2 : Bool) (t1 : Bs) (s1 : List Bs) (s2 : List Q4) (b0_0 : Bs) (b0_1 : Int) (b0_2 : Bool) (b1_0 : Bs) (b1_1 : Int) (b1_2 : Bool) (r2 : List Bs) (r3 : List Q4) : L4 (t0_0, t0_1, t0_2, t1, s1, s2, b0_0, b0_1, b0_2, b1_0, b1_1, b1_2, r2, r3, ()) = F4 t0_0 t0_1 t0_2 t1 s1 s2 b0_0 b0_1 b0_2 b1_0 b1_1 b1_2 r2 r3 := rfl
theorem impl_eq (x0_0 : Bs) (x0_1 : Int) (x0_2 : Bool) (x1 : Bs) (s1 : List Bs) (s2 : List Q4) : impl (x0_0, x0_1, x0_2, x1, s1, s2, ()) = F0 L4 x0_0 x0_1 x0_2 x1 s1 s2 := rfl
theorem con : Con Tryz.prog 118 2 rs.length 2 pin pout impl := by
  refine con_of_run3 (nt := 42) (c := c0) tabGood Tryz.func118 (by kernel_rfl) (by kernel_rfl) (by kernel_rfl) (by kernel_rfl) (by kernel_rfl) (by kernel_rfl) (by kernel_rfl) ?_
  intro w0 O y Post hnp fin
  have hp : ∀ (J4 : List Item → C4), Parts Tryz.prog 118 (pg J4) [(4, cut p4 J4)] := fun J4 => ⟨tab_ok tabGood rfl, handNil_ok, rfl⟩
  have g4 : Good Tryz.prog 42 w0 O Post y T4 p4 L4 := good_part (hp (atT T4 (fun _ => none))) (runOK_of (hp (atT T4 (fun _ => none))) hnp ⟨cutOK_at (p := p4) (T := T4) (J := fun _ => none) good_none, trivial⟩ fin) (fun x => (seg4 (atT T4 (fun _ => none)) x.1 x.2.1 x.2.2.1 x.2.2.2.1 x.2.2.2.2.1 x.2.2.2.2.2.1 x.2.2.2.2.2.2.1 x.2.2.2.2.2.2.2.1 x.2.2.2.2.2.2.2.2.1 x.2.2.2.2.2.2.2.2.2.1 x.2.2.2.2.2.2.2.2.2.2.1 x.2.2.2.2.2.2.2.2.2.2.2.1 x.2.2.2.2.2.2.2.2.2.2.2.2.1 x.2.2.2.2.2.2.2.2.2.2.2.2.2.1))
  exact good_first (hp (atT T4 L4)) (runOK_of (hp (atT T4 L4)) hnp ⟨cutOK_at g4, trivial⟩ fin) (fun x => (seg0 (atT T4 L4) x.1 x.2.1 x.2.2.1 x.2.2.2.1 x.2.2.2.2.1 x.2.2.2.2.2.1).trans (by simp only [atT_self] <;> rfl))
end spec_l30Take

/-! ### loop.example/wholecheck/spec.l30Op -/
namespace spec_l30Op
noncomputable abbrev c0 : Code := (Tryz.f119.body).getD .skip
noncomputable abbrev pin : Tpl := ⟨[⟨0, false, [.d (.int .u8)]⟩], []⟩
noncomputable abbrev pout : Tpl := ⟨[⟨0, false, [.d i64]⟩], []⟩
noncomputable abbrev p2 : Tpl := ⟨[⟨0, false, [.d (.int .u8)]⟩, ⟨3, false, [.d i64]⟩], []⟩
noncomputable def T2 : List Item := (find 2 c0 []).getD []
noncomputable abbrev PI := Int × Unit
noncomputable abbrev PO := Int × Unit
noncomputable abbrev G := PI → Option PO
noncomputable abbrev P2 := Int × Int × Unit
noncomputable abbrev C2 := P2 → Option PO
noncomputable abbrev rs : List ResultVar := [.tmp 2]
noncomputable def F0 (J2 : C2) (x0 : Int) : Option PO :=
  J2 (x0, 2, ())
noncomputable def F2 (J2 : C2) (Gspec_l1Sign : spec_l1Sign.G) (t0 : Int) (t3 : Int) : Option PO :=
  bif decide (t3 ≤ 9) then
    Option.bind (Gspec_l1Sign (t3, ())) fun y0 =>
    bif inb 0 y0.1.length then
      bif ((y0.1.getD 0 0).toNat : Int) == t0 then
        bif t3 != 7 then
          some (t3, ())
        else
          J2 (t0, wI (t3 + 1), ())
      else
        J2 (t0, wI (t3 + 1), ())
    else
      none
  else
    some ((-1), ())
noncomputable def hd {R : Type} (Gspec_l1Sign : spec_l1Sign.G) : Hand R := (handAt 57 [9] true ⟨1, 1, 1, spec_l1Sign.pin, spec_l1Sign.pout, Gspec_l1Sign⟩ handNil)
noncomputable def pg (Gspec_l1Sign : spec_l1Sign.G) (J2 : List Item → C2) : Prog PO := { nt := 18, np := 1, tb := tabOf tab, hd := hd Gspec_l1Sign, cuts := cutsOf [(2, cut p2 J2)], fin := endOf (tabOf tab) rs 1 pout }
noncomputable def q : FuncId → Bool := fun f => hasId [57] f
theorem seg0 (Gspec_l1Sign : spec_l1Sign.G) (J2 : List Item → C2) (x0 : Int) : arun (pg Gspec_l1Sign J2) 5000 [.code c0] (mk pin (x0, ())) = F0 (J2 T2) x0 := by kernel_rfl
theorem seg2 (Gspec_l1Sign : spec_l1Sign.G) (J2 : List Item → C2) (t0 : Int) (t3 : Int) : arun1 (pg Gspec_l1Sign J2) 5000 T2 (mk p2 (t0, t3, ())) = F2 (J2 T2) Gspec_l1Sign t0 t3 := by kernel_rfl
noncomputable def L2 : C2 := lfp fun J2 x => F2 J2 spec_l1Sign.impl x.1 x.2.1
noncomputable def impl : G := fun x => F0 L2 x.1
theorem F2_le {J2 J2' : C2} (h2 : OLe J2 J2') {Gspec_l1Sign : spec_l1Sign.G} (t0 : Int) (t3 : Int) : OptLe (F2 J2 Gspec_l1Sign t0 t3) (F2 J2' Gspec_l1Sign t0 t3) := by unfold F2; exact .cond (.bind (.refl _) fun _ => .cond (.cond (.cond (.refl _) (.of h2 _)) (.of h2 _)) (.refl _)) (.refl _)
theorem L2_mono : OMono fun J2 (x : P2) => F2 J2 spec_l1Sign.impl x.1 x.2.1 := fun J J' h2 x => F2_le h2 x.1 x.2.1
theorem L2_eq (t0 : Int) (t3 : Int) : L2 (t0, t3, ()) = F2 (L2) spec_l1Sign.impl t0 t3 := congrFun (lfp_eq (L2_mono)) _
theorem impl_eq (x0 : Int) : impl (x0, ()) = F0 L2 x0 := rfl
theorem con : Con Tryz.prog 119 1 rs.length 1 pin pout impl := by
  refine con_of_run3 (nt := 18) (c := c0) tabGood Tryz.func119 (by kernel_rfl) (by kernel_rfl) (by kernel_rfl) (by kernel_rfl) (by kernel_rfl) (by kernel_rfl) (by kernel_rfl) ?_
  intro w0 O y Post hnp fin
  have hp : ∀ (J2 : List Item → C2), Parts Tryz.prog 119 (pg spec_l1Sign.impl J2) [(2, cut p2 J2)] := fun J2 => ⟨tab_ok tabGood rfl, (handAt_ok spec_l1Sign.con handNil_ok), rfl⟩
  have g2 : Good Tryz.prog 18 w0 O Post y T2 p2 L2 := good_lfp fun J2 h2 => good_part (hp (atT T2 J2)) (runOK_of (hp (atT T2 J2)) hnp ⟨cutOK_at h2, trivial⟩ fin) (fun x => (seg2 spec_l1Sign.impl (atT T2 J2) x.1 x.2.1).trans (by simp only [atT_self] <;> rfl))
  exact good_first (hp (atT T2 L2)) (runOK_of (hp (atT T2 L2)) hnp ⟨cutOK_at g2, trivial⟩ fin) (fun x => (seg0 spec_l1Sign.impl (atT T2 L2) x.1).trans (by simp only [atT_self] <;> rfl))
end spec_l30Op

/-! ### loop.example/wholecheck/spec.l30Expr -/
namespace spec_l30Expr
noncomputable abbrev c0 : Code := (Tryz.f71.body).getD .skip
noncomputable abbrev pin : Tpl := ⟨[⟨0, true, [.d .str, .d i64, .row 500001, .row 500002, .d .bool]⟩, ⟨1, false, [.d i64]⟩], [(500001, .row 9 false .str), (500002, .row 52 true q4)]⟩
noncomputable abbrev pout : Tpl := ⟨[⟨0, true, [.d .str, .d i64, .row 500001, .row 500002, .d .bool]⟩, ⟨1, false, [.d i64]⟩, ⟨2, true, [.any, .any, .row 500001, .any, .any]⟩], [(500001, .row 9 false .str), (500002, .row 52 true q4)]⟩
noncomputable abbrev p4 : Tpl := ⟨[⟨0, true, [.d .str, .d i64, .row 500001, .row 500002, .d .bool]⟩, ⟨1, false, [.d i64]⟩, ⟨2, false, [.ptr 3000000 0]⟩, ⟨4, false, [.ptr 3000001 0]⟩], [(500001, .row 9 false .str), (500002, .row 52 true q4), (3000000, .box [.d .str, .d i64, .row 500001, .row 500002, .d .bool]), (3000001, .box [.d .str, .d i64, .row 3000002, .row 3000003, .d .bool]), (3000002, .row 9 true .str), (3000003, .row 52 true q4)]⟩
noncomputable def T4 : List Item := (find 4 c0 []).getD []
noncomputable abbrev p18 : Tpl := ⟨[⟨0, true, [.d .str, .d i64, .row 500001, .any, .d .bool]⟩, ⟨1, false, [.d i64]⟩, ⟨4, false, [.ptr 3000000 0]⟩, ⟨8, false, [.ptr 3000001 0]⟩, ⟨9, false, [.d i64]⟩], [(500001, .row 9 false .str), (3000000, .box [.d .str, .d i64, .row 3000002, .row 3000003, .d .bool]), (3000001, .box [.d .str, .d i64, .row 500001, .row 500002, .d .bool]), (3000002, .row 9 true .str), (3000003, .row 52 true q4), (500002, .row 52 true q4)]⟩
noncomputable def T18 : List Item := (find 18 c0 []).getD []
noncomputable abbrev p25 : Tpl := ⟨[⟨0, true, [.d .str, .d i64, .row 500001, .any, .d .bool]⟩, ⟨4, false, [.ptr 3000000 0]⟩, ⟨9, false, [.d i64]⟩, ⟨10, false, [.d i64]⟩, ⟨11, false, [.ptr 3000001 0]⟩, ⟨12, false, [.d i64]⟩], [(500001, .row 9 false .str), (3000000, .box [.d .str, .d i64, .row 3000002, .row 3000003, .d .bool]), (3000001, .box [.d .str, .d i64, .row 500001, .row 500002, .d .bool]), (3000002, .row 9 true .str), (3000003, .row 52 true q4), (500002, .row 52 true q4)]⟩
noncomputable def T25 : List Item := (find 25 c0 []).getD []
noncomputable abbrev PI := Bs × Int × Bool × Int × (List Bs) × (List Q4) × Unit
noncomputable abbrev PO := Bs × Int × Bool × Int × (List Bs) × (List Q4) × Unit
noncomputable abbrev G := PI → Option PO
noncomputable abbrev P4 := Bs × Int × Bool × Int × (List Bs) × (List Q4) × Bs × Int × Bool × Bs × Int × Bool × (List Bs) × (List Q4) × Unit
noncomputable abbrev C4 := P4 → Option PO
noncomputable abbrev P18 := Bs × Int × Bool × Int × Int × (List Bs) × Bs × Int × Bool × Bs × Int × Bool × (List Bs) × (List Q4) × (List Q4) × Unit
noncomputable abbrev C18 := P18 → Option PO
noncomputable abbrev P25 := Bs × Int × Bool × Int × Int × Int × (List Bs) × Bs × Int × Bool × Bs × Int × Bool × (List Bs) × (List Q4) × (List Q4) × Unit
noncomputable abbrev C25 := P25 → Option PO
noncomputable abbrev rs : List ResultVar := [.cell 4 114, .tmp 5]
noncomputable def F0 (J4 : C4) (x0_0 : Bs) (x0_1 : Int) (x0_2 : Bool) (x1 : Int) (s1 : List Bs) (s2 : List Q4) : Option PO :=
  bif !x0_2 then
    some (x0_0, x0_1, false, 0, s1, s2, ())
  else
    bif x1 == 0 then
      some (x0_0, x0_1, false, 0, s1, s2, ())
    else
      bif decide (x0_1 ≥ (x0_0.length : Int)) then
        some (x0_0, x0_1, false, 0, s1, s2, ())
      else
        J4 (x0_0, x0_1, x0_2, x1, s1, s2, x0_0, x0_1, x0_2, [], 0, false, [], [], ())
noncomputable def F4 (J18 : C18) (Gspec_l30Expr : G) (Gspec_l30Leaf : spec_l30Leaf.G) (Gspec_l30Put : spec_l30Put.G) (Gspec_l30Take : spec_l30Take.G) (t0_0 : Bs) (t0_1 : Int) (t0_2 : Bool) (t1 : Int) (s1 : List Bs) (s2 : List Q4) (b0_0 : Bs) (b0_1 : Int) (b0_2 : Bool) (b1_0 : Bs) (b1_1 : Int) (b1_2 : Bool) (r2 : List Bs) (r3 : List Q4) : Option PO :=
  bif inb b0_1 b0_0.length then
    bif ((b0_0.getD b0_1.toNat 0).toNat : Int) == 33 then
      Option.bind (Gspec_l30Expr (b0_0, wI (b0_1 + 1), b0_2, wI (t1 - 1), s1, s2, ())) fun y0 =>
      bif !y0.2.2.1 then
        some (y0.1, y0.2.1, y0.2.2.1, 0, y0.2.2.2.2.1, y0.2.2.2.2.2.1, ())
      else
        Option.bind (Gspec_l30Put (y0.1, y0.2.1, y0.2.2.1, (7, 0, y0.2.2.2.1, y0.2.2.2.1), y0.2.2.2.2.1, y0.2.2.2.2.2.1, ())) fun y1 =>
        some (y1.1, y1.2.1, y1.2.2.1, y1.2.2.2.1, y1.2.2.2.2.1, y1.2.2.2.2.2.1, ())
    else
      bif inb b0_1 b0_0.length then
        bif ((b0_0.getD b0_1.toNat 0).toNat : Int) != 40 then
          Option.bind (Gspec_l30Leaf (b0_0, b0_1, b0_2, s1, s2, ())) fun y2 =>
          some (y2.1, y2.2.1, y2.2.2.1, y2.2.2.2.1, y2.2.2.2.2.1, y2.2.2.2.2.2.1, ())
        else
          Option.bind (Gspec_l30Expr (b0_0, wI (b0_1 + 1), b0_2, wI (t1 - 1), s1, s2, ())) fun y3 =>
          Option.bind (Gspec_l30Take (y3.1, y3.2.1, y3.2.2.1, ([32] : Bs), y3.2.2.2.2.1, y3.2.2.2.2.2.1, ())) fun y4 =>
          bif !y4.2.2.1 then
            some (y4.1, y4.2.1, false, 0, y4.2.2.2.1, y4.2.2.2.2.1, ())
          else
            bif decide (y4.2.1 ≥ (y4.1.length : Int)) then
              some (y4.1, y4.2.1, false, 0, y4.2.2.2.1, y4.2.2.2.2.1, ())
            else
              J18 (t0_0, t0_1, t0_2, t1, y3.2.2.2.1, y4.2.2.2.1, b1_0, b1_1, b1_2, y4.1, y4.2.1, y4.2.2.1, r2, r3, y4.2.2.2.2.1, ())
      else
        none
  else
    none
noncomputable def F18 (J25 : C25) (Gspec_l30Expr : G) (Gspec_l30Op : spec_l30Op.G) (Gspec_l30Take : spec_l30Take.G) (t0_0 : Bs) (t0_1 : Int) (t0_2 : Bool) (t1 : Int) (t9 : Int) (s1 : List Bs) (b0_0 : Bs) (b0_1 : Int) (b0_2 : Bool) (b1_0 : Bs) (b1_1 : Int) (b1_2 : Bool) (r2 : List Bs) (r3 : List Q4) (s2 : List Q4) : Option PO :=
  bif inb b1_1 b1_0.length then
    Option.bind (Gspec_l30Op (((b1_0.getD b1_1.toNat 0).toNat : Int), ())) fun y5 =>
    Option.bind (Gspec_l30Take (b1_0, wI (b1_1 + 1), b1_2, ([32] : Bs), s1, s2, ())) fun y6 =>
    Option.bind (Gspec_l30Expr (y6.1, y6.2.1, y6.2.2.1, wI (t1 - 1), y6.2.2.2.1, y6.2.2.2.2.1, ())) fun y7 =>
    Option.bind (Gspec_l30Take (y7.1, y7.2.1, y7.2.2.1, ([41] : Bs), y7.2.2.2.2.1, y7.2.2.2.2.2.1, ())) fun y8 =>
    bif !y8.2.2.1 then
      some (y8.1, y8.2.1, false, 0, y8.2.2.2.1, y8.2.2.2.2.1, ())
    else
      bif decide (y5.1 < 0) then
        some (y8.1, y8.2.1, false, 0, y8.2.2.2.1, y8.2.2.2.2.1, ())
      else
        J25 (t0_0, t0_1, t0_2, t9, y5.1, y7.2.2.2.1, y8.2.2.2.1, b0_0, b0_1, b0_2, y8.1, y8.2.1, y8.2.2.1, r2, r3, y8.2.2.2.2.1, ())
  else
    none
noncomputable def F25 (Gspec_l30Put : spec_l30Put.G) (t0_0 : Bs) (t0_1 : Int) (t0_2 : Bool) (t9 : Int) (t10 : Int) (t12 : Int) (s1 : List Bs) (b0_0 : Bs) (b0_1 : Int) (b0_2 : Bool) (b1_0 : Bs) (b1_1 : Int) (b1_2 : Bool) (r2 : List Bs) (r3 : List Q4) (s2 : List Q4) : Option PO :=
  Option.bind (Gspec_l30Put (b1_0, b1_1, b1_2, (t10, 0, t9, t12), s1, s2, ())) fun y9 =>
  some (y9.1, y9.2.1, y9.2.2.1, y9.2.2.2.1, y9.2.2.2.2.1, y9.2.2.2.2.2.1, ())
noncomputable def hd {R : Type} (Gspec_l30Expr : G) (Gspec_l30Leaf : spec_l30Leaf.G) (Gspec_l30Op : spec_l30Op.G) (Gspec_l30Put : spec_l30Put.G) (Gspec_l30Take : spec_l30Take.G) : Hand R := (handAt 119 [99] true ⟨1, 1, 1, spec_l30Op.pin, spec_l30Op.pout, Gspec_l30Op⟩ (handAt 118 [80, 106, 113] true ⟨2, 1, 2, spec_l30Take.pin, spec_l30Take.pout, Gspec_l30Take⟩ (handAt 117 [65] true ⟨1, 2, 1, spec_l30Leaf.pin, spec_l30Leaf.pout, Gspec_l30Leaf⟩ (handAt 116 [55, 128] true ⟨2, 2, 2, spec_l30Put.pin, spec_l30Put.pout, Gspec_l30Put⟩ (handAt 71 [44, 76, 109] true ⟨2, 2, 2, pin, pout, Gspec_l30Expr⟩ handNil)))))
noncomputable def pg (Gspec_l30Expr : G) (Gspec_l30Leaf : spec_l30Leaf.G) (Gspec_l30Op : spec_l30Op.G) (Gspec_l30Put : spec_l30Put.G) (Gspec_l30Take : spec_l30Take.G) (J4 : List Item → C4) (J18 : List Item → C18) (J25 : List Item → C25) : Prog PO := { nt := 131, np := 2, tb := tabOf tab, hd := hd Gspec_l30Expr Gspec_l30Leaf Gspec_l30Op Gspec_l30Put Gspec_l30Take, cuts := cutsOf [(4, cut p4 J4), (18, cut p18 J18), (25, cut p25 J25)], fin := endOf (tabOf tab) rs 2 pout }
noncomputable def q : FuncId → Bool := fun f => hasId [119] f
theorem seg0 (Gspec_l30Expr : G) (Gspec_l30Leaf : spec_l30Leaf.G) (Gspec_l30Op : spec_l30Op.G) (Gspec_l30Put : spec_l30Put.G) (Gspec_l30Take : spec_l30Take.G) (J4 : List Item → C4) (J18 : List Item → C18) (J25 : List Item → C25) (x0_0 : Bs) (x0_1 : Int) (x0_2 : Bool) (x1 : Int) (s1 : List Bs) (s2 : List Q4) : arun (pg Gspec_l30Expr Gspec_l30Leaf Gspec_l30Op Gspec_l30Put Gspec_l30Take J4 J18 J25) 5000 [.code c0] (mk pin (x0_0, x0_1, x0_2, x1, s1, s2, ())) = F0 (J4 T4) x0_0 x0_1 x0_2 x1 s1 s2 := by kernel_rfl
theorem seg4 (Gspec_l30Expr : G) (Gspec_l30Leaf : spec_l30Leaf.G) (Gspec_l30Op : spec_l30Op.G) (Gspec_l30Put : spec_l30Put.G) (Gspec_l30Take : spec_l30Take.G) (J4 : List Item → C4) (J18 : List Item → C18) (J25 : List Item → C25) (t0_0 : Bs) (t0_1 : Int) (t0_2 : Bool) (t1 : Int) (s1 : List Bs) (s2 : List Q4) (b0_0 : Bs) (b0_1 : Int) (b0_2 : Bool) (b1_0 : Bs) (b1_1 : Int) (b1_2 : Bool) (r2 : List Bs) (r3 : List Q4) : arun1 (pg Gspec_l30Expr Gspec_l30Leaf Gspec_l30Op Gspec_l30Put Gspec_l30Take J4 J18 J25) 5000 T4 (mk p4 (t0_0, t0_1, t0_2, t1, s1, s2, b0_0, b0_1, b0_2, b1_0, b1_1, b1_2, r2, r3, ())) = F4 (J18 T18) Gspec_l30Expr Gspec_l30Leaf Gspec_l30Put Gspec_l30Take t0_0 t0_1 t0_2 t1 s1 s2 b0_0 b0_1 b0_2 b1_0 b1_1 b1_2 r2 r3 := by kernel_rfl
theorem seg18 (Gspec_l30Expr : G) (Gspec_l30Leaf : spec_l30Leaf.G) (Gspec_l30Op : spec_l30Op.G) (Gspec_l30Put : spec_l30Put.G) (Gspec_l30Take : spec_l30Take.G) (J4 : List Item → C4) (J18 : List Item → C18) (J25 : List Item → C25) (t0_0 : Bs) (t0_1 : Int) (t0_2 : Bool) (t1 : Int) (t9 : Int) (s1 : List Bs) (b0_0 : Bs) (b0_1 : Int) (b0_2 : Bool) (b1_0 : Bs) (b1_1 : Int) (b1_2 : Bool) (r2 : List Bs) (r3 : List Q4) (s2 : List Q4) : arun1 (pg Gspec_l30Expr Gspec_l30Leaf Gspec_l30Op Gspec_l30Put Gspec_l30Take J4 J18 J25) 5000 T18 (mk p18 (t0_0, t0_1, t0_2, t1, t9, s1, b0_0, b0_1, b0_2, b1_0, b1_1, b1_2, r2, r3, s2, ())) = F18 (J25 T25) Gspec_l30Expr Gspec_l30Op Gspec_l30Take t0_0 t0_1 t0_2 t1 t9 s1 b0_0 b0_1 b0_2 b1_0 b1_1 b1_2 r2 r3 s2 := by kernel_rfl
theorem seg25 (Gspec_l30Expr : G) (Gspec_l30Leaf : spec_l30Leaf.G) (Gspec_l30Op : spec_l30Op.G) (Gspec_l30Put : spec_l30Put.G) (Gspec_l30Take : spec_l30Take.G) (J4 : List Item → C4) (J18 : List Item → C18) (J25 : List Item → C25) (t0_0 : Bs) (t0_1 : Int) (t0_2 : Bool) (t9 : Int) (t10 : Int) (t12 : Int) (s1 : List Bs) (b0_0 : Bs) (b0_1 : Int) (b0_2 : Bool) (b1_0 : Bs) (b1_1 : Int) (b1_2 : Bool) (r2 : List Bs) (r3 : List Q4) (s2 : List Q4) : arun1 (pg Gspec_l30Expr Gspec_l30Leaf Gspec_l30Op Gspec_l30Put Gspec_l30Take J4 J18 J25) 5000 T25 (mk p25 (t0_0, t0_1, t0_2, t9, t10, t12, s1, b0_0, b0_1, b0_2, b1_0, b1_1, b1_2, r2, r3, s2, ())) = F25 Gspec_l30Put t0_0 t0_1 t0_2 t9 t10 t12 s1 b0_0 b0_1 b0_2 b1_0 b1_1 b1_2 r2 r3 s2 := by kernel_rfl
noncomputable def L25 (Gself : G) : C25 := fun x => F25 spec_l30Put.impl x.1 x.2.1 x.2.2.1 x.2.2.2.1 x.2.2.2.2.1 x.2.2.2.2.2.1 x.2.2.2.2.2.2.1 x.2.2.2.2.2.2.2.1 x.2.2.2.2.2.2.2.2.1 x.2.2.2.2.2.2.2.2.2.1 x.2.2.2.2.2.2.2.2.2.2.1 x.2.2.2.2.2.2.2.2.2.2.2.1 x.2.2.2.2.2.2.2.2.2.2.2.2.1 x.2.2.2.2.2.2.2.2.2.2.2.2.2.1 x.2.2.2.2.2.2.2.2.2.2.2.2.2.2.1 x.2.2.2.2.2.2.2.2.2.2.2.2.2.2.2.1
noncomputable def L18 (Gself : G) : C18 := fun x => F18 (L25 Gself) Gself spec_l30Op.impl spec_l30Take.impl x.1 x.2.1 x.2.2.1 x.2.2.2.1 x.2.2.2.2.1 x.2.2.2.2.2.1 x.2.2.2.2.2.2.1 x.2.2.2.2.2.2.2.1 x.2.2.2.2.2.2.2.2.1 x.2.2.2.2.2.2.2.2.2.1 x.2.2.2.2.2.2.2.2.2.2.1 x.2.2.2.2.2.2.2.2.2.2.2.1 x.2.2.2.2.2.2.2.2.2.2.2.2.1 x.2.2.2.2.2.2.2.2.2.2.2.2.2.1 x.2.2.2.2.2.2.2.2.2.2.2.2.2.2.1
noncomputable def L4 (Gself : G) : C4 := fun x => F4 (L18 Gself) Gself spec_l30Leaf.impl spec_l30Put.impl spec_l30Take.impl x.1 x.2.1 x.2.2.1 x.2.2.2.1 x.2.2.2.2.1 x.2.2.2.2.2.1 x.2.2.2.2.2.2.1 x.2.2.2.2.2.2.2.1 x.2.2.2.2.2.2.2.2.1 x.2.2.2.2.2.2.2.2.2.1 x.2.2.2.2.2.2.2.2.2.2.1 x.2.2.2.2.2.2.2.2.2.2.2.1 x.2.2.2.2.2.2.2.2.2.2.2.2.1 x.2.2.2.2.2.2.2.2.2.2.2.2.2.1
noncomputable def step (Gself : G) : G := fun x => F0 (L4 Gself) x.1 x.2.1 x.2.2.1 x.2.2.2.1 x.2.2.2.2.1 x.2.2.2.2.2.1
noncomputable def impl : G := lfp step
theorem F25_le {Gspec_l30Put : spec_l30Put.G} (t0_0 : Bs) (t0_1 : Int) (t0_2 : Bool) (t9 : Int) (t10 : Int) (t12 : Int) (s1 : List Bs) (b0_0 : Bs) (b0_1 : Int) (b0_2 : Bool) (b1_0 : Bs) (b1_1 : Int) (b1_2 : Bool) (r2 : List Bs) (r3 : List Q4) (s2 : List Q4) : OptLe (F25 Gspec_l30Put t0_0 t0_1 t0_2 t9 t10 t12 s1 b0_0 b0_1 b0_2 b1_0 b1_1 b1_2 r2 r3 s2) (F25 Gspec_l30Put t0_0 t0_1 t0_2 t9 t10 t12 s1 b0_0 b0_1 b0_2 b1_0 b1_1 b1_2 r2 r3 s2) := by unfold F25; exact .refl _
theorem F18_le {J25 J25' : C25} (h25 : OLe J25 J25') {Gself Gself' : G} (hG : OLe Gself Gself') {Gspec_l30Op : spec_l30Op.G} {Gspec_l30Take : spec_l30Take.G} (t0_0 : Bs) (t0_1 : Int) (t0_2 : Bool) (t1 : Int) (t9 : Int) (s1 : List Bs) (b0_0 : Bs) (b0_1 : Int) (b0_2 : Bool) (b1_0 : Bs) (b1_1 : Int) (b1_2 : Bool) (r2 : List Bs) (r3 : List Q4) (s2 : List Q4) : OptLe (F18 J25 Gself Gspec_l30Op Gspec_l30Take t0_0 t0_1 t0_2 t1 t9 s1 b0_0 b0_1 b0_2 b1_0 b1_1 b1_2 r2 r3 s2) (F18 J25' Gself' Gspec_l30Op Gspec_l30Take t0_0 t0_1 t0_2 t1 t9 s1 b0_0 b0_1 b0_2 b1_0 b1_1 b1_2 r2 r3 s2) := by unfold F18; exact .cond (.bind (.refl _) fun _ => .bind (.refl _) fun _ => .bind (.of hG _) fun _ => .bind (.refl _) fun _ => .cond (.refl _) (.cond (.refl _) (.of h25 _))) (.refl _)
theorem F4_le {J18 J18' : C18} (h18 : OLe J18 J18') {Gself Gself' : G} (hG : OLe Gself Gself') {Gspec_l30Leaf : spec_l30Leaf.G} {Gspec_l30Put : spec_l30Put.G} {Gspec_l30Take : spec_l30Take.G} (t0_0 : Bs) (t0_1 : Int) (t0_2 : Bool) (t1 : Int) (s1 : List Bs) (s2 : List Q4) (b0_0 : Bs) (b0_1 : Int) (b0_2 : Bool) (b1_0 : Bs) (b1_1 : Int) (b1_2 : Bool) (r2 : List Bs) (r3 : List Q4) : OptLe (F4 J18 Gself Gspec_l30Leaf Gspec_l30Put Gspec_l30Take t0_0 t0_1 t0_2 t1 s1 s2 b0_0 b0_1 b0_2 b1_0 b1_1 b1_2 r2 r3) (F4 J18' Gself' Gspec_l30Leaf Gspec_l30Put Gspec_l30Take t0_0 t0_1 t0_2 t1 s1 s2 b0_0 b0_1 b0_2 b1_0 b1_1 b1_2 r2 r3) := by unfold F4; exact .cond (.cond (.bind (.of hG _) fun _ => .refl _) (.cond (.cond (.refl _) (.bind (.of hG _) fun _ => .bind (.refl _) fun _ => .cond (.refl _) (.cond (.refl _) (.of h18 _)))) (.refl _))) (.refl _)
theorem F0_le {J4 J4' : C4} (h4 : OLe J4 J4') (x0_0 : Bs) (x0_1 : Int) (x0_2 : Bool) (x1 : Int) (s1 : List Bs) (s2 : List Q4) : OptLe (F0 J4 x0_0 x0_1 x0_2 x1 s1 s2) (F0 J4' x0_0 x0_1 x0_2 x1 s1 s2) := by unfold F0; exact .cond (.refl _) (.cond (.refl _) (.cond (.refl _) (.of h4 _)))
theorem L25_eq (Gself : G) (t0_0 : Bs) (t0_1 : Int) (t0_2 : Bool) (t9 : Int) (t10 : Int) (t12 : Int) (s1 : List Bs) (b0_0 : Bs) (b0_1 : Int) (b0_2 : Bool) (b1_0 : Bs) (b1_1 : Int) (b1_2 : Bool) (r2 : List Bs) (r3 : List Q4) (s2 : List Q4) : L25 Gself (t0_0, t0_1, t0_2, t9, t10, t12, s1, b0_0, b0_1, b0_2, b1_0, b1_1, b1_2, r2, r3, s2, ()) = F25 spec_l30Put.impl t0_0 t0_1 t0_2 t9 t10 t12 s1 b0_0 b0_1 b0_2 b1_0 b1_1 b1_2 r2 r3 s2 := rfl
theorem L25_le {Gself Gself' : G} (hG : OLe Gself Gself') : OLe (L25 Gself) (L25 Gself') := fun x => F25_le x.1 x.2.1 x.2.2.1 x.2.2.2.1 x.2.2.2.2.1 x.2.2.2.2.2.1 x.2.2.2.2.2.2.1 x.2.2.2.2.2.2.2.1 x.2.2.2.2.2.2.2.2.1 x.2.2.2.2.2.2.2.2.2.1 x.2.2.2.2.2.2.2.2.2.2.1 x.2.2.2.2.2.2.2.2.2.2.2.1 x.2.2.2.2.2.2.2.2.2.2.2.2.1 x.2.2.2.2.2.2.2.2.2.2.2.2.2.1 x.2.2.2.2.2.2.2.2.2.2.2.2.2.2.1 x.2.2.2.2.2.2.2.2.2.2.2.2.2.2.2.1
theorem L18_eq (Gself : G) (t0_0 : Bs) (t0_1 : Int) (t0_2 : Bool) (t1 : Int) (t9 : Int) (s1 : List Bs) (b0_0 : Bs) (b0_1 : Int) (b0_2 : Bool) (b1_0 : Bs) (b1_1 : Int) (b1_2 : Bool) (r2 : List Bs) (r3 : List Q4) (s2 : List Q4) : L18 Gself (t0_0, t0_1, t0_2, t1, t9, s1, b0_0, b0_1, b0_2, b1_0, b1_1, b1_2, r2, r3, s2, ()) = F18 (L25 Gself) Gself spec_l30Op.impl spec_l30Take.impl t0_0 t0_1 t0_2 t1 t9 s1 b0_0 b0_1 b0_2 b1_0 b1_1 b1_2 r2 r3 s2 := rfl
theorem L18_le {Gself Gself' : G} (hG : OLe Gself Gself') : OLe (L18 Gself) (L18 Gself') := fun x => F18_le (L25_le hG) hG x.1 x.2.1 x.2.2.1 x.2.2.2.1 x.2.2.2.2.1 x.2.2.2.2.2.1 x.2.2.2.2.2.2.1 x.2.2.2.2.2.2.2.1 x.2.2.2.2.2.2.2.2.1 x.2.2.2.2.2.2.2.2.2.1 x.2.2.2.2.2.2.2.2.2.2.1 x.2.2.2.2.2.2.2.2.2.2.2.1 x.2.2.2.2.2.2.2.2.2.2.2.2.1 x.2.2.2.2.2.2.2.2.2.2.2.2.2.1 x.2.2.2.2.2.2.2.2.2.2.2.2.2.2.1
theorem L4_eq (Gself : G) (t0_0 : Bs) (t0_1 : Int) (t0_2 : Bool) (t1 : Int) (s1 : List Bs) (s2 : List Q4) (b0_0 : Bs) (b0_1 : Int) (b0_2 : Bool) (b1_0 : Bs) (b1_1 : Int) (b1_2 : Bool) (r2 : List Bs) (r3 : List Q4) : L4 Gself (t0_0, t0_1, t0_2, t1, s1, s2, b0_0, b0_1, b0_2, b1_0, b1_1, b1_2, r2, r3, ()) = F4 (L18 Gself) Gself spec_l30Leaf.impl spec_l30Put.impl spec_l30Take.impl t0_0 t0_1 t0_2 t1 s1 s2 b0_0 b0_1 b0_2 b1_0 b1_1 b1_2 r2 r3 := rfl
theorem L4_le {Gself Gself' : G} (hG : OLe Gself Gself') : OLe (L4 Gself) (L4 Gself') := fun x => F4_le (L18_le hG) hG x.1 x.2.1 x.2.2.1 x.2.2.2.1 x.2.2.2.2.1 x.2.2.2.2.2.1 x.2.2.2.2.2.2.1 x.2.2.2.2.2.2.2.1 x.2.2.2.2.2.2.2.2.1 x.2.2.2.2.2.2.2.2.2.1 x.2.2.2.2.2.2.2.2.2.2.1 x.2.2.2.2.2.2.2.2.2.2.2.1 x.2.2.2.2.2.2.2.2.2.2.2.2.1 x.2.2.2.2.2.2.2.2.2.2.2.2.2.1
theorem step_mono : OMono step := fun G G' hG x => F0_le (L4_le hG) x.1 x.2.1 x.2.2.1 x.2.2.2.1 x.2.2.2.2.1 x.2.2.2.2.2.1
theorem impl_eq (x0_0 : Bs) (x0_1 : Int) (x0_2 : Bool) (x1 : Int) (s1 : List Bs) (s2 : List Q4) : impl (x0_0, x0_1, x0_2, x1, s1, s2, ()) = F0 (L4 impl) x0_0 x0_1 x0_2 x1 s1 s2 := congrFun (lfp_eq step_mono) _
theorem con_step (Gself : G) (hself : Con Tryz.prog 71 2 rs.length 2 pin pout Gself) : Con Tryz.prog 71 2 rs.length 2 pin pout (step Gself) := by
  refine con_of_run3 (nt := 131) (c := c0) tabGood Tryz.func71 (by kernel_rfl) (by kernel_rfl) (by kernel_rfl) (by kernel_rfl) (by kernel_rfl) (by kernel_rfl) (by kernel_rfl) ?_
  intro w0 O y Post hnp fin
  have hp : ∀ (J4 : List Item → C4), ∀ (J18 : List Item → C18), ∀ (J25 : List Item → C25), Parts Tryz.prog 71 (pg Gself spec_l30Leaf.impl spec_l30Op.impl spec_l30Put.impl spec_l30Take.impl J4 J18 J25) [(4, cut p4 J4), (18, cut p18 J18), (25, cut p25 J25)] := fun J4 J18 J25 => ⟨tab_ok tabGood rfl, (handAt_ok spec_l30Op.con (handAt_ok spec_l30Take.con (handAt_ok spec_l30Leaf.con (handAt_ok spec_l30Put.con (handAt_ok hself handNil_ok))))), rfl⟩
  have g25 : Good Tryz.prog 131 w0 O Post y T25 p25 (L25 Gself) := good_part (hp (atT T4 (fun _ => none)) (atT T18 (fun _ => none)) (atT T25 (fun _ => none))) (runOK_of (hp (atT T4 (fun _ => none)) (atT T18 (fun _ => none)) (atT T25 (fun _ => none))) hnp ⟨cutOK_at (p := p4) (T := T4) (J := fun _ => none) good_none, cutOK_at (p := p18) (T := T18) (J := fun _ => none) good_none, cutOK_at (p := p25) (T := T25) (J := fun _ => none) good_none, trivial⟩ fin) (fun x => (seg25 Gself spec_l30Leaf.impl spec_l30Op.impl spec_l30Put.impl spec_l30Take.impl (atT T4 (fun _ => none)) (atT T18 (fun _ => none)) (atT T25 (fun _ => none)) x.1 x.2.1 x.2.2.1 x.2.2.2.1 x.2.2.2.2.1 x.2.2.2.2.2.1 x.2.2.2.2.2.2.1 x.2.2.2.2.2.2.2.1 x.2.2.2.2.2.2.2.2.1 x.2.2.2.2.2.2.2.2.2.1 x.2.2.2.2.2.2.2.2.2.2.1 x.2.2.2.2.2.2.2.2.2.2.2.1 x.2.2.2.2.2.2.2.2.2.2.2.2.1 x.2.2.2.2.2.2.2.2.2.2.2.2.2.1 x.2.2.2.2.2.2.2.2.2.2.2.2.2.2.1 x.2.2.2.2.2.2.2.2.2.2.2.2.2.2.2.1))
  have g18 : Good Tryz.prog 131 w0 O Post y T18 p18 (L18 Gself) := good_part (hp (atT T4 (fun _ => none)) (atT T18 (fun _ => none)) (atT T25 (L25 Gself))) (runOK_of (hp (atT T4 (fun _ => none)) (atT T18 (fun _ => none)) (atT T25 (L25 Gself))) hnp ⟨cutOK_at (p := p4) (T := T4) (J := fun _ => none) good_none, cutOK_at (p := p18) (T := T18) (J := fun _ => none) good_none, cutOK_at g25, trivial⟩ fin) (fun x => (seg18 Gself spec_l30Leaf.impl spec_l30Op.impl spec_l30Put.impl spec_l30Take.impl (atT T4 (fun _ => none)) (atT T18 (fun _ => none)) (atT T25 (L25 Gself)) x.1 x.2.1 x.2.2.1 x.2.2.2.1 x.2.2.2.2.1 x.2.2.2.2.2.1 x.2.2.2.2.2.2.1 x.2.2.2.2.2.2.2.1 x.2.2.2.2.2.2.2.2.1 x.2.2.2.2.2.2.2.2.2.1 x.2.2.2.2.2.2.2.2.2.2.1 x.2.2.2.2.2.2.2.2.2.2.2.1 x.2.2.2.2.2.2.2.2.2.2.2.2.1 x.2.2.2.2.2.2.2.2.2.2.2.2.2.1 x.2.2.2.2.2.2.2.2.2.2.2.2.2.2.1).trans (by simp only [atT_self] <;> rfl))
  have g4 : Good Tryz.prog 131 w0 O Post y T4 p4 (L4 Gself) := good_part (hp (atT T4 (fun _ => none)) (atT T18 (L18 Gself)) (atT T25 (fun _ => none))) (runOK_of (hp (atT T4 (fun _ => none)) (atT T18 (L18 Gself)) (atT T25 (fun _ => none))) hnp ⟨cutOK_at (p := p4) (T := T4) (J := fun _ => none) good_none, cutOK_at g18, cutOK_at (p := p25) (T := T25) (J := fun _ => none) good_none, trivial⟩ fin) (fun x => (seg4 Gself spec_l30Leaf.impl spec_l30Op.impl spec_l30Put.impl spec_l30Take.impl (atT T4 (fun _ => none)) (atT T18 (L18 Gself)) (atT T25 (fun _ => none)) x.1 x.2.1 x.2.2.1 x.2.2.2.1 x.2.2.2.2.1 x.2.2.2.2.2.1 x.2.2.2.2.2.2.1 x.2.2.2.2.2.2.2.1 x.2.2.2.2.2.2.2.2.1 x.2.2.2.2.2.2.2.2.2.1 x.2.2.2.2.2.2.2.2.2.2.1 x.2.2.2.2.2.2.2.2.2.2.2.1 x.2.2.2.2.2.2.2.2.2.2.2.2.1 x.2.2.2.2.2.2.2.2.2.2.2.2.2.1).trans (by simp only [atT_self] <;> rfl))
  exact good_first (hp (atT T4 (L4 Gself)) (atT T18 (fun _ => none)) (atT T25 (fun _ => none))) (runOK_of (hp (atT T4 (L4 Gself)) (atT T18 (fun _ => none)) (atT T25 (fun _ => none))) hnp ⟨cutOK_at g4, cutOK_at (p := p18) (T := T18) (J := fun _ => none) good_none, cutOK_at (p := p25) (T := T25) (J := fun _ => none) good_none, trivial⟩ fin) (fun x => (seg0 Gself spec_l30Leaf.impl spec_l30Op.impl spec_l30Put.impl spec_l30Take.impl (atT T4 (L4 Gself)) (atT T18 (fun _ => none)) (atT T25 (fun _ => none)) x.1 x.2.1 x.2.2.1 x.2.2.2.1 x.2.2.2.2.1 x.2.2.2.2.2.1).trans (by simp only [atT_self] <;> rfl))
theorem con : Con Tryz.prog 71 2 rs.length 2 pin pout impl := con_lfp (c := c0) Tryz.func71 (by kernel_rfl) (by kernel_rfl) (by kernel_rfl) con_step
end spec_l30Expr

/-! ### loop.example/wholecheck/spec.ReadExpr -/
namespace spec_ReadExpr
noncomputable abbrev c0 : Code := (Tryz.f22.body).getD .skip
noncomputable abbrev pin : Tpl := ⟨[⟨0, false, [.row 500001]⟩, ⟨1, false, [.d .str]⟩], [(500001, .row 9 false .str)]⟩
noncomputable abbrev pout : Tpl := ⟨[⟨0, false, [.row 600001]⟩, ⟨1, false, [.d .bool]⟩, ⟨2, false, [.row 500001]⟩], [(600001, .row 52 true q4), (500001, .row 9 false .str)]⟩
noncomputable abbrev p3 : Tpl := ⟨[⟨0, false, [.row 500001]⟩, ⟨1, false, [.d .str]⟩], [(500001, .row 9 false .str)]⟩
noncomputable def T3 : List Item := (find 3 c0 []).getD []
noncomputable abbrev PI := Bs × (List Bs) × Unit
noncomputable abbrev PO := Bool × (List Q4) × (List Bs) × Unit
noncomputable abbrev G := PI → Option PO
noncomputable abbrev P3 := Bs × (List Bs) × Unit
noncomputable abbrev C3 := P3 → Option PO
noncomputable abbrev rs : List ResultVar := [.tmp 4, .tmp 5]
noncomputable def F0 (J3 : C3) (Gspec_NamesValid : spec_NamesValid.G) (x1 : Bs) (s1 : List Bs) : Option PO :=
  Option.bind (Gspec_NamesValid (s1, ())) fun y0 =>
  bif !y0.1 then
    some (false, [], s1, ())
  else
    bif decide ((x1.length : Int) > 4000) then
      some (false, [], s1, ())
    else
      J3 (x1, s1, ())
noncomputable def F3 (Gspec_TermsValid : spec_TermsValid.G) (Gspec_l30Expr : spec_l30Expr.G) (t1 : Bs) (s1 : List Bs) : Option PO :=
  Option.bind (Gspec_l30Expr (t1, 0, true, 40, s1, [], ())) fun y1 =>
  bif !y1.2.2.1 then
    some (false, [], y1.2.2.2.2.1, ())
  else
    bif y1.2.1 != (t1.length : Int) then
      some (false, [], y1.2.2.2.2.1, ())
    else
      bif y1.2.2.2.1 != wI ((y1.2.2.2.2.2.1.length : Int) - 1) then
        some (false, [], y1.2.2.2.2.1, ())
      else
        Option.bind (Gspec_TermsValid (y1.2.2.2.2.2.1, (y1.2.2.2.2.1.length : Int), ())) fun y2 =>
        bif !y2.1 then
          some (false, [], y1.2.2.2.2.1, ())
        else
          some (true, y1.2.2.2.2.2.1, y1.2.2.2.2.1, ())
noncomputable def hd {R : Type} (Gspec_NamesValid : spec_NamesValid.G) (Gspec_TermsValid : spec_TermsValid.G) (Gspec_l30Expr : spec_l30Expr.G) : Hand R := (handAt 71 [20] false ⟨2, 2, 2, spec_l30Expr.pin, spec_l30Expr.pout, Gspec_l30Expr⟩ (handAt 55 [46] true ⟨2, 1, 2, spec_TermsValid.pin, spec_TermsValid.pout, Gspec_TermsValid⟩ (handAt 17 [9] true ⟨1, 1, 1, spec_NamesValid.pin, spec_NamesValid.pout, Gspec_NamesValid⟩ handNil)))
noncomputable def pg (Gspec_NamesValid : spec_NamesValid.G) (Gspec_TermsValid : spec_TermsValid.G) (Gspec_l30Expr : spec_l30Expr.G) (J3 : List Item → C3) : Prog PO := { nt := 51, np := 2, tb := tabOf tab, hd := hd Gspec_NamesValid Gspec_TermsValid Gspec_l30Expr, cuts := cutsOf [(3, cut p3 J3)], fin := endOf (tabOf tab) rs 2 pout }
noncomputable def q : FuncId → Bool := fun f => hasId [17, 55] f
theorem seg0 (Gspec_NamesValid : spec_NamesValid.G) (Gspec_TermsValid : spec_TermsValid.G) (Gspec_l30Expr : spec_l30Expr.G) (J3 : List Item → C3) (x1 : Bs) (s1 : List Bs) : arun (pg Gspec_NamesValid Gspec_TermsValid Gspec_l30Expr J3) 5000 [.code c0] (mk pin (x1, s1, ())) = F0 (J3 T3) Gspec_NamesValid x1 s1 := by kernel_rfl
theorem seg3 (Gspec_NamesValid : spec_NamesValid.G) (Gspec_TermsValid : spec_TermsValid.G) (Gspec_l30Expr : spec_l30Expr.G) (J3 : List Item → C3) (t1 : Bs) (s1 : List Bs) : arun1 (pg Gspec_NamesValid Gspec_TermsValid Gspec_l30Expr J3) 5000 T3 (mk p3 (t1, s1, ())) = F3 Gspec_TermsValid Gspec_l30Expr t1 s1 := by kernel_rfl
noncomputable def L3 : C3 := fun x => F3 spec_TermsValid.impl spec_l30Expr.impl x.1 x.2.1
noncomputable def impl : G := fun x => F0 L3 spec_NamesValid.impl x.1 x.2.1
theorem L3_eq (t1 : Bs) (s1 : List Bs) : L3 (t1, s1, ()) = F3 spec_TermsValid.impl spec_l30Expr.impl t1 s1 := rfl
theorem impl_eq (x1 : Bs) (s1 : List Bs) : impl (x1, s1, ()) = F0 L3 spec_NamesValid.impl x1 s1 := rfl
theorem con : Con Tryz.prog 22 2 rs.length 2 pin pout impl := by
  refine con_of_run3 (nt := 51) (c := c0) tabGood Tryz.func22 (by kernel_rfl) (by kernel_rfl) (by kernel_rfl) (by kernel_rfl) (by kernel_rfl) (by kernel_rfl) (by kernel_rfl) ?_
  intro w0 O y Post hnp fin
  have hp : ∀ (J3 : List Item → C3), Parts Tryz.prog 22 (pg spec_NamesValid.impl spec_TermsValid.impl spec_l30Expr.impl J3) [(3, cut p3 J3)] := fun J3 => ⟨tab_ok tabGood rfl, (handAt_ok spec_l30Expr.con (handAt_ok spec_TermsValid.con (handAt_ok spec_NamesValid.con handNil_ok))), rfl⟩
  have g3 : Good Tryz.prog 51 w0 O Post y T3 p3 L3 := good_part (hp (atT T3 (fun _ => none))) (runOK_of (hp (atT T3 (fun _ => none))) hnp ⟨cutOK_at (p := p3) (T := T3) (J := fun _ => none) good_none, trivial⟩ fin) (fun x => (seg3 spec_NamesValid.impl spec_TermsValid.impl spec_l30Expr.impl (atT T3 (fun _ => none)) x.1 x.2.1))
  exact good_first (hp (atT T3 L3)) (runOK_of (hp (atT T3 L3)) hnp ⟨cutOK_at g3, trivial⟩ fin) (fun x => (seg0 spec_NamesValid.impl spec_TermsValid.impl spec_l30Expr.impl (atT T3 L3) x.1 x.2.1).trans (by simp only [atT_self] <;> rfl))
end spec_ReadExpr

/-! ### loop.example/wholecheck/impl.stateOk$1 -/
namespace impl_stateOk_1
noncomputable abbrev c0 : Code := (Tryz.f111.body).getD .skip
noncomputable abbrev pin : Tpl := ⟨[⟨0, false, [.d i64]⟩], []⟩
noncomputable abbrev pout : Tpl := ⟨[⟨0, false, [.d .bool]⟩], []⟩
noncomputable abbrev PI := Int × Unit
noncomputable abbrev PO := Bool × Unit
noncomputable abbrev G := PI → Option PO
noncomputable abbrev rs : List ResultVar := [.tmp 2]
noncomputable def F0 (Gimpl_in : impl_in.G) (x0 : Int) : Option PO :=
  Option.bind (Gimpl_in (x0, (-9999), 9999, ())) fun y0 =>
  some (!y0.1, ())
noncomputable def hd {R : Type} (Gimpl_in : impl_in.G) : Hand R := (handAt 74 [4] true ⟨3, 1, 3, impl_in.pin, impl_in.pout, Gimpl_in⟩ handNil)
noncomputable def pg (Gimpl_in : impl_in.G) : Prog PO := { nt := 6, np := 1, tb := tabOf tab, hd := hd Gimpl_in, cuts := cutsOf [], fin := endOf (tabOf tab) rs 1 pout }
noncomputable def q : FuncId → Bool := fun f => hasId [74] f
theorem seg0 (Gimpl_in : impl_in.G) (x0 : Int) : arun (pg Gimpl_in) 5000 [.code c0] (mk pin (x0, ())) = F0 Gimpl_in x0 := by kernel_rfl
noncomputable def impl : G := fun x => F0 impl_in.impl x.1
theorem impl_eq (x0 : Int) : impl (x0, ()) = F0 impl_in.impl x0 := rfl
theorem con : Con Tryz.prog 111 1 rs.length 1 pin pout impl := by
  refine con_of_run3 (nt := 6) (c := c0) tabGood Tryz.func111 (by kernel_rfl) (by kernel_rfl) (by kernel_rfl) (by kernel_rfl) (by kernel_rfl) (by kernel_rfl) (by kernel_rfl) ?_
  intro w0 O y Post hnp fin
  have hp : Parts Tryz.prog 111 (pg impl_in.impl) [] := ⟨tab_ok tabGood rfl, (handAt_ok impl_in.con handNil_ok), rfl⟩
  exact good_first (hp) (runOK_of (hp) hnp trivial fin) (fun x => (seg0 impl_in.impl x.1))
end impl_stateOk_1

/-! ### slices.IndexFunc[[]int,int] -/
namespace slices_IndexFunc_of
noncomputable abbrev c0 : Code := (Tryz.f154.body).getD .skip
noncomputable abbrev pin : Tpl := ⟨[⟨0, false, [.d (.sl i64)]⟩, ⟨1, false, [.fn 111 []]⟩], []⟩
noncomputable abbrev pout : Tpl := ⟨[⟨0, false, [.d i64]⟩, ⟨2, false, [.fn 111 []]⟩], []⟩
noncomputable abbrev p2 : Tpl := ⟨[⟨0, false, [.d (.sl i64)]⟩, ⟨1, false, [.fn 111 []]⟩, ⟨7, false, [.d i64]⟩, ⟨8, false, [.d i64]⟩], []⟩
noncomputable def T2 : List Item := (find 2 c0 []).getD []
noncomputable abbrev PI := (List Int) × Unit
noncomputable abbrev PO := Int × Unit
noncomputable abbrev G := PI → Option PO
noncomputable abbrev P2 := (List Int) × Int × Int × Unit
noncomputable abbrev C2 := P2 → Option PO
noncomputable abbrev rs : List ResultVar := [.tmp 4]
noncomputable def F0 (J2 : C2) (x0 : List Int) : Option PO :=
  J2 (x0, (x0.length : Int), 0, ())
noncomputable def F2 (J2 : C2) (Gimpl_stateOk_1 : impl_stateOk_1.G) (t0 : List Int) (t7 : Int) (t8 : Int) : Option PO :=
  bif decide (t8 < t7) then
    bif inb t8 t0.length then
      Option.bind (Gimpl_stateOk_1 (t0.getD t8.toNat 0, ())) fun y0 =>
      bif y0.1 then
        some (t8, ())
      else
        J2 (t0, t7, wI (t8 + 1), ())
    else
      none
  else
    some ((-1), ())
noncomputable def hd {R : Type} (Gimpl_stateOk_1 : impl_stateOk_1.G) : Hand R := (handAt 111 [16] true ⟨1, 1, 1, impl_stateOk_1.pin, impl_stateOk_1.pout, Gimpl_stateOk_1⟩ handNil)
noncomputable def pg (Gimpl_stateOk_1 : impl_stateOk_1.G) (J2 : List Item → C2) : Prog PO := { nt := 19, np := 2, tb := tabOf tab, hd := hd Gimpl_stateOk_1, cuts := cutsOf [(2, cut p2 J2)], fin := endOf (tabOf tab) rs 2 pout }
noncomputable def q : FuncId → Bool := fun f => hasId [111] f
theorem seg0 (Gimpl_stateOk_1 : impl_stateOk_1.G) (J2 : List Item → C2) (x0 : List Int) : arun (pg Gimpl_stateOk_1 J2) 5000 [.code c0] (mk pin (x0, ())) = F0 (J2 T2) x0 := by kernel_rfl
theorem seg2 (Gimpl_stateOk_1 : impl_stateOk_1.G) (J2 : List Item → C2) (t0 : List Int) (t7 : Int) (t8 : Int) : arun1 (pg Gimpl_stateOk_1 J2) 5000 T2 (mk p2 (t0, t7, t8, ())) = F2 (J2 T2) Gimpl_stateOk_1 t0 t7 t8 := by kernel_rfl
noncomputable def L2 : C2 := lfp fun J2 x => F2 J2 impl_stateOk_1.impl x.1 x.2.1 x.2.2.1
noncomputable def impl : G := fun x => F0 L2 x.1
theorem F2_le {J2 J2' : C2} (h2 : OLe J2 J2') {Gimpl_stateOk_1 : impl_stateOk_1.G} (t0 : List Int) (t7 : Int) (t8 : Int) : OptLe (F2 J2 Gimpl_stateOk_1 t0 t7 t8) (F2 J2' Gimpl_stateOk_1 t0 t7 t8) := by unfold F2; exact .cond (.cond (.bind (.refl _) fun _ => .cond (.refl _) (.of h2 _)) (.refl _)) (.refl _)
theorem L2_mono : OMono fun J2 (x : P2) => F2 J2 impl_stateOk_1.impl x.1 x.2.1 x.2.2.1 := fun J J' h2 x => F2_le h2 x.1 x.2.1 x.2.2.1
theorem L2_eq (t0 : List Int) (t7 : Int) (t8 : Int) : L2 (t0, t7, t8, ()) = F2 (L2) impl_stateOk_1.impl t0 t7 t8 := congrFun (lfp_eq (L2_mono)) _
theorem impl_eq (x0 : List Int) : impl (x0, ()) = F0 L2 x0 := rfl
theorem con : Con Tryz.prog 154 2 rs.length 2 pin pout impl := by
  refine con_of_run3 (nt := 19) (c := c0) tabGood Tryz.func154 (by kernel_rfl) (by kernel_rfl) (by kernel_rfl) (by kernel_rfl) (by kernel_rfl) (by kernel_rfl) (by kernel_rfl) ?_
  intro w0 O y Post hnp fin
  have hp : ∀ (J2 : List Item → C2), Parts Tryz.prog 154 (pg impl_stateOk_1.impl J2) [(2, cut p2 J2)] := fun J2 => ⟨tab_ok tabGood rfl, (handAt_ok impl_stateOk_1.con handNil_ok), rfl⟩
  have g2 : Good Tryz.prog 19 w0 O Post y T2 p2 L2 := good_lfp fun J2 h2 => good_part (hp (atT T2 J2)) (runOK_of (hp (atT T2 J2)) hnp ⟨cutOK_at h2, trivial⟩ fin) (fun x => (seg2 impl_stateOk_1.impl (atT T2 J2) x.1 x.2.1 x.2.2.1).trans (by simp only [atT_self] <;> rfl))
  exact good_first (hp (atT T2 L2)) (runOK_of (hp (atT T2 L2)) hnp ⟨cutOK_at g2, trivial⟩ fin) (fun x => (seg0 impl_stateOk_1.impl (atT T2 L2) x.1).trans (by simp only [atT_self] <;> rfl))
end slices_IndexFunc_of

/-! ### slices.ContainsFunc[[]int,int] -/
namespace slices_ContainsFunc_of
noncomputable abbrev c0 : Code := (Tryz.f110.body).getD .skip
noncomputable abbrev pin : Tpl := ⟨[⟨0, false, [.d (.sl i64)]⟩, ⟨1, false, [.fn 111 []]⟩], []⟩
noncomputable abbrev pout : Tpl := ⟨[⟨0, false, [.d .bool]⟩, ⟨2, false, [.fn 111 []]⟩], []⟩
noncomputable abbrev PI := (List Int) × Unit
noncomputable abbrev PO := Bool × Unit
noncomputable abbrev G := PI → Option PO
noncomputable abbrev rs : List ResultVar := [.tmp 4]
noncomputable def F0 (Gslices_IndexFunc_of : slices_IndexFunc_of.G) (x0 : List Int) : Option PO :=
  Option.bind (Gslices_IndexFunc_of (x0, ())) fun y0 =>
  some (decide (y0.1 ≥ 0), ())
noncomputable def hd {R : Type} (Gslices_IndexFunc_of : slices_IndexFunc_of.G) : Hand R := (handAt 154 [7] true ⟨2, 1, 2, slices_IndexFunc_of.pin, slices_IndexFunc_of.pout, Gslices_IndexFunc_of⟩ handNil)
noncomputable def pg (Gslices_IndexFunc_of : slices_IndexFunc_of.G) : Prog PO := { nt := 9, np := 2, tb := tabOf tab, hd := hd Gslices_IndexFunc_of, cuts := cutsOf [], fin := endOf (tabOf tab) rs 2 pout }
noncomputable def q : FuncId → Bool := fun f => hasId [] f
theorem seg0 (Gslices_IndexFunc_of : slices_IndexFunc_of.G) (x0 : List Int) : arun (pg Gslices_IndexFunc_of) 5000 [.code c0] (mk pin (x0, ())) = F0 Gslices_IndexFunc_of x0 := by kernel_rfl
noncomputable def impl : G := fun x => F0 slices_IndexFunc_of.impl x.1
theorem impl_eq (x0 : List Int) : impl (x0, ()) = F0 slices_IndexFunc_of.impl x0 := rfl
theorem con : Con Tryz.prog 110 2 rs.length 2 pin pout impl := by
  refine con_of_run3 (nt := 9) (c := c0) tabGood Tryz.func110 (by kernel_rfl) (by kernel_rfl) (by kernel_rfl) (by kernel_rfl) (by kernel_rfl) (by kernel_rfl) (by kernel_rfl) ?_
  intro w0 O y Post hnp fin
  have hp : Parts Tryz.prog 110 (pg slices_IndexFunc_of.impl) [] := ⟨tab_ok tabGood rfl, (handAt_ok slices_IndexFunc_of.con handNil_ok), rfl⟩
  exact good_first (hp) (runOK_of (hp) hnp trivial fin) (fun x => (seg0 slices_IndexFunc_of.impl x.1))
end slices_ContainsFunc_of

/-! ### loop.example/wholecheck/impl.stateOk -/
namespace impl_stateOk
noncomputable abbrev c0 : Code := (Tryz.f66.body).getD .skip
noncomputable abbrev pin : Tpl := ⟨[⟨0, false, [.d (.sl i64)]⟩], []⟩
noncomputable abbrev pout : Tpl := ⟨[⟨0, false, [.d .bool]⟩], []⟩
noncomputable abbrev PI := (List Int) × Unit
noncomputable abbrev PO := Bool × Unit
noncomputable abbrev G := PI → Option PO
noncomputable abbrev rs : List ResultVar := [.tmp 2]
noncomputable def F0 (Gslices_ContainsFunc_of : slices_ContainsFunc_of.G) (x0 : List Int) : Option PO :=
  bif decide ((x0.length : Int) ≤ 5) then
    Option.bind (Gslices_ContainsFunc_of (x0, ())) fun y0 =>
    some (!y0.1, ())
  else
    some (false, ())
noncomputable def hd {R : Type} (Gslices_ContainsFunc_of : slices_ContainsFunc_of.G) : Hand R := (handAt 110 [8] true ⟨2, 1, 2, slices_ContainsFunc_of.pin, slices_ContainsFunc_of.pout, Gslices_ContainsFunc_of⟩ handNil)
noncomputable def pg (Gslices_ContainsFunc_of : slices_ContainsFunc_of.G) : Prog PO := { nt := 11, np := 1, tb := tabOf tab, hd := hd Gslices_ContainsFunc_of, cuts := cutsOf [], fin := endOf (tabOf tab) rs 1 pout }
noncomputable def q : FuncId → Bool := fun f => hasId [] f
theorem seg0 (Gslices_ContainsFunc_of : slices_ContainsFunc_of.G) (x0 : List Int) : arun (pg Gslices_ContainsFunc_of) 5000 [.code c0] (mk pin (x0, ())) = F0 Gslices_ContainsFunc_of x0 := by kernel_rfl
noncomputable def impl : G := fun x => F0 slices_ContainsFunc_of.impl x.1
theorem impl_eq (x0 : List Int) : impl (x0, ()) = F0 slices_ContainsFunc_of.impl x0 := rfl
theorem con : Con Tryz.prog 66 1 rs.length 1 pin pout impl := by
  refine con_of_run3 (nt := 11) (c := c0) tabGood Tryz.func66 (by kernel_rfl) (by kernel_rfl) (by kernel_rfl) (by kernel_rfl) (by kernel_rfl) (by kernel_rfl) (by kernel_rfl) ?_
  intro w0 O y Post hnp fin
  have hp : Parts Tryz.prog 66 (pg slices_ContainsFunc_of.impl) [] := ⟨tab_ok tabGood rfl, (handAt_ok slices_ContainsFunc_of.con handNil_ok), rfl⟩
  exact good_first (hp) (runOK_of (hp) hnp trivial fin) (fun x => (seg0 slices_ContainsFunc_of.impl x.1))
end impl_stateOk

/-! ### loop.example/wholecheck/impl.held -/
namespace impl_held
noncomputable abbrev c0 : Code := (Tryz.f155.body).getD .skip
noncomputable abbrev pin : Tpl := ⟨[⟨0, false, [.d i64]⟩], []⟩
noncomputable abbrev pout : Tpl := ⟨[⟨0, false, [.d i64]⟩], []⟩
noncomputable abbrev PI := Int × Unit
noncomputable abbrev PO := Int × Unit
noncomputable abbrev G := PI → Option PO
noncomputable abbrev rs : List ResultVar := [.tmp 2]
noncomputable def F0 (x0 : Int) : Option PO :=
  some (bif decide (((-9999) : Int) < bif decide (x0 < 9999) then x0 else 9999) then bif decide (x0 < 9999) then x0 else 9999 else (-9999), ())
noncomputable def hd {R : Type} : Hand R := handNil
noncomputable def pg : Prog PO := { nt := 6, np := 1, tb := tabOf tab, hd := hd, cuts := cutsOf [], fin := endOf (tabOf tab) rs 1 pout }
noncomputable def q : FuncId → Bool := fun f => hasId [] f
theorem seg0 (x0 : Int) : arun (pg) 5000 [.code c0] (mk pin (x0, ())) = F0 x0 := by kernel_rfl
noncomputable def impl : G := fun x => F0 x.1
theorem impl_eq (x0 : Int) : impl (x0, ()) = F0 x0 := rfl
theorem con : Con Tryz.prog 155 1 rs.length 1 pin pout impl := by
  refine con_of_run3 (nt := 6) (c := c0) tabGood Tryz.func155 (by kernel_rfl) (by kernel_rfl) (by kernel_rfl) (by kernel_rfl) (by kernel_rfl) (by kernel_rfl) (by kernel_rfl) ?_
  intro w0 O y Post hnp fin
  have hp : Parts Tryz.prog 155 (pg) [] := ⟨tab_ok tabGood rfl, handNil_ok, rfl⟩
  exact good_first (hp) (runOK_of (hp) hnp trivial fin) (fun x => (seg0 x.1))
end impl_held

/-! ### loop.example/wholecheck/impl.bit -/
namespace impl_bit
noncomputable abbrev c0 : Code := (Tryz.f156.body).getD .skip
noncomputable abbrev pin : Tpl := ⟨[⟨0, false, [.d .bool]⟩], []⟩
noncomputable abbrev pout : Tpl := ⟨[⟨0, false, [.d i64]⟩], []⟩
noncomputable abbrev PI := Bool × Unit
noncomputable abbrev PO := Int × Unit
noncomputable abbrev G := PI → Option PO
noncomputable abbrev rs : List ResultVar := [.tmp 2]
noncomputable def F0 (x0 : Bool) : Option PO :=
  bif x0 then
    some (1, ())
  else
    some (0, ())
noncomputable def hd {R : Type} : Hand R := handNil
noncomputable def pg : Prog PO := { nt := 4, np := 1, tb := tabOf tab, hd := hd, cuts := cutsOf [], fin := endOf (tabOf tab) rs 1 pout }
noncomputable def q : FuncId → Bool := fun f => hasId [] f
theorem seg0 (x0 : Bool) : arun (pg) 5000 [.code c0] (mk pin (x0, ())) = F0 x0 := by kernel_rfl
noncomputable def impl : G := fun x => F0 x.1
theorem impl_eq (x0 : Bool) : impl (x0, ()) = F0 x0 := rfl
theorem con : Con Tryz.prog 156 1 rs.length 1 pin pout impl := by
  refine con_of_run3 (nt := 4) (c := c0) tabGood Tryz.func156 (by kernel_rfl) (by kernel_rfl) (by kernel_rfl) (by kernel_rfl) (by kernel_rfl) (by kernel_rfl) (by kernel_rfl) ?_
  intro w0 O y Post hnp fin
  have hp : Parts Tryz.prog 156 (pg) [] := ⟨tab_ok tabGood rfl, handNil_ok, rfl⟩
  exact good_first (hp) (runOK_of (hp) hnp trivial fin) (fun x => (seg0 x.1))
end impl_bit

/-! ### loop.example/wholecheck/impl.do -/
namespace impl_do
noncomputable abbrev c0 : Code := (Tryz.f112.body).getD .skip
noncomputable abbrev pin : Tpl := ⟨[⟨0, false, [.d i64]⟩, ⟨1, false, [.d i64]⟩, ⟨2, false, [.d i64]⟩], []⟩
noncomputable abbrev pout : Tpl := ⟨[⟨0, false, [.d i64]⟩], []⟩
noncomputable abbrev PI := Int × Int × Int × Unit
noncomputable abbrev PO := Int × Unit
noncomputable abbrev G := PI → Option PO
noncomputable abbrev rs : List ResultVar := [.tmp 6]
noncomputable def F0 (Gimpl_bit : impl_bit.G) (Gimpl_held : impl_held.G) (x0 : Int) (x1 : Int) (x2 : Int) : Option PO :=
  bif x0 == 2 then
    Option.bind (Gimpl_held (wI (x1 + x2), ())) fun y0 =>
    some (y0.1, ())
  else
    bif x0 == 3 then
      Option.bind (Gimpl_held (wI (x1 - x2), ())) fun y1 =>
      some (y1.1, ())
    else
      bif x0 == 4 then
        Option.bind (Gimpl_held (wI (x1 * x2), ())) fun y2 =>
        some (y2.1, ())
      else
        bif x0 == 5 then
          Option.bind (Gimpl_bit (decide (x1 < x2), ())) fun y3 =>
          some (y3.1, ())
        else
          bif x0 == 6 then
            Option.bind (Gimpl_bit (x1 == x2, ())) fun y4 =>
            some (y4.1, ())
          else
            bif x0 == 7 then
              some (wI (1 - x1), ())
            else
              bif x0 == 8 then
                some (bif decide (x2 < x1) then x2 else x1, ())
              else
                some (bif decide (x1 < x2) then x2 else x1, ())
noncomputable def hd {R : Type} (Gimpl_bit : impl_bit.G) (Gimpl_held : impl_held.G) : Hand R := (handAt 156 [31, 37] true ⟨1, 1, 1, impl_bit.pin, impl_bit.pout, Gimpl_bit⟩ (handAt 155 [13, 19, 25] true ⟨1, 1, 1, impl_held.pin, impl_held.pout, Gimpl_held⟩ handNil))
noncomputable def pg (Gimpl_bit : impl_bit.G) (Gimpl_held : impl_held.G) : Prog PO := { nt := 50, np := 3, tb := tabOf tab, hd := hd Gimpl_bit Gimpl_held, cuts := cutsOf [], fin := endOf (tabOf tab) rs 3 pout }
noncomputable def q : FuncId → Bool := fun f => hasId [155, 156] f
theorem seg0 (Gimpl_bit : impl_bit.G) (Gimpl_held : impl_held.G) (x0 : Int) (x1 : Int) (x2 : Int) : arun (pg Gimpl_bit Gimpl_held) 5000 [.code c0] (mk pin (x0, x1, x2, ())) = F0 Gimpl_bit Gimpl_held x0 x1 x2 := by kernel_rfl
noncomputable def impl : G := fun x => F0 impl_bit.impl impl_held.impl x.1 x.2.1 x.2.2.1
theorem impl_eq (x0 : Int) (x1 : Int) (x2 : Int) : impl (x0, x1, x2, ()) = F0 impl_bit.impl impl_held.impl x0 x1 x2 := rfl
theorem con : Con Tryz.prog 112 3 rs.length 3 pin pout impl := by
  refine con_of_run3 (nt := 50) (c := c0) tabGood Tryz.func112 (by kernel_rfl) (by kernel_rfl) (by kernel_rfl) (by kernel_rfl) (by kernel_rfl) (by kernel_rfl) (by kernel_rfl) ?_
  intro w0 O y Post hnp fin
  have hp : Parts Tryz.prog 112 (pg impl_bit.impl impl_held.impl) [] := ⟨tab_ok tabGood rfl, (handAt_ok impl_bit.con (handAt_ok impl_held.con handNil_ok)), rfl⟩
  exact good_first (hp) (runOK_of (hp) hnp trivial fin) (fun x => (seg0 impl_bit.impl impl_held.impl x.1 x.2.1 x.2.2.1))
end impl_do

/-! ### loop.example/wholecheck/impl.eval -/
namespace impl_eval
noncomputable abbrev c0 : Code := (Tryz.f67.body).getD .skip
noncomputable abbrev pin : Tpl := ⟨[⟨0, false, [.d (.sl q4)]⟩, ⟨1, false, [.d (.sl i64)]⟩], []⟩
noncomputable abbrev pout : Tpl := ⟨[⟨0, false, [.d i64]⟩], []⟩
noncomputable abbrev p3 : Tpl := ⟨[⟨1, false, [.d (.sl i64)]⟩, ⟨5, false, [.row 3000000]⟩, ⟨11, false, [.d (.sl q4)]⟩, ⟨12, false, [.d i64]⟩, ⟨13, false, [.d i64]⟩], [(3000000, .row 3 false i64)]⟩
noncomputable def T3 : List Item := (find 3 c0 []).getD []
noncomputable abbrev p6 : Tpl := ⟨[⟨1, false, [.d (.sl i64)]⟩, ⟨5, false, [.row 3000000]⟩, ⟨6, false, [.d i64]⟩, ⟨7, false, [.ptr 3000001 0]⟩, ⟨11, false, [.d (.sl q4)]⟩, ⟨12, false, [.d i64]⟩, ⟨13, false, [.d i64]⟩], [(3000000, .row 3 false i64), (3000001, .box [.d i64, .d i64, .d i64, .d i64])]⟩
noncomputable def T6 : List Item := (find 6 c0 []).getD []
noncomputable abbrev PI := (List Q4) × (List Int) × Unit
noncomputable abbrev PO := Int × Unit
noncomputable abbrev G := PI → Option PO
noncomputable abbrev P3 := (List Int) × (List Q4) × Int × Int × (List Int) × Unit
noncomputable abbrev C3 := P3 → Option PO
noncomputable abbrev P6 := (List Int) × Int × (List Q4) × Int × Int × (List Int) × Int × Int × Int × Int × Unit
noncomputable abbrev C6 := P6 → Option PO
noncomputable abbrev rs : List ResultVar := [.tmp 4]
noncomputable def F0 (J3 : C3) (x0 : List Q4) (x1 : List Int) : Option PO :=
  bif decide (0 ≤ (x0.length : Int)) && decide ((x0.length : Int) ≤ (x0.length : Int)) && decide ((x0.length : Int) * 8 ≤ 140737488355328) then
    J3 (x1, x0, (x0.length : Int), 0, (List.replicate (x0.length : Int).toNat 0 : List Int), ())
  else
    none
noncomputable def F3 (J3 : C3) (J6 : C6) (t1 : List Int) (t11 : List Q4) (t12 : Int) (t13 : Int) (r0 : List Int) : Option PO :=
  bif decide (t13 < t12) then
    bif inb t13 t11.length then
      bif (t11.getD t13.toNat (0, 0, 0, 0)).1 == 0 then
        bif inb t13 r0.length then
          J3 (t1, t11, t12, wI (t13 + 1), r0.set t13.toNat (t11.getD t13.toNat (0, 0, 0, 0)).2.1, ())
        else
          none
      else
        bif (t11.getD t13.toNat (0, 0, 0, 0)).1 == 1 then
          bif inb (t11.getD t13.toNat (0, 0, 0, 0)).2.1 t1.length then
            bif inb t13 r0.length then
              J3 (t1, t11, t12, wI (t13 + 1), r0.set t13.toNat (t1.getD (t11.getD t13.toNat (0, 0, 0, 0)).2.1.toNat 0), ())
            else
              none
          else
            none
        else
          J6 (t1, t13, t11, t12, t13, r0, (t11.getD t13.toNat (0, 0, 0, 0)).1, (t11.getD t13.toNat (0, 0, 0, 0)).2.1, (t11.getD t13.toNat (0, 0, 0, 0)).2.2.1, (t11.getD t13.toNat (0, 0, 0, 0)).2.2.2, ())
    else
      none
  else
    bif inb (wI ((r0.length : Int) - 1)) r0.length then
      some (r0.getD (wI ((r0.length : Int) - 1)).toNat 0, ())
    else
      none
noncomputable def F6 (J3 : C3) (Gimpl_do : impl_do.G) (t1 : List Int) (t6 : Int) (t11 : List Q4) (t12 : Int) (t13 : Int) (r0 : List Int) (b1_0 : Int) (b1_1 : Int) (b1_2 : Int) (b1_3 : Int) : Option PO :=
  bif inb b1_2 r0.length then
    bif inb b1_3 r0.length then
      Option.bind (Gimpl_do (b1_0, r0.getD b1_2.toNat 0, r0.getD b1_3.toNat 0, ())) fun y0 =>
      bif inb t6 r0.length then
        J3 (t1, t11, t12, wI (t13 + 1), r0.set t6.toNat y0.1, ())
      else
        none
    else
      none
  else
    none
noncomputable def hd {R : Type} (Gimpl_do : impl_do.G) : Hand R := (handAt 112 [34] true ⟨3, 1, 3, impl_do.pin, impl_do.pout, Gimpl_do⟩ handNil)
noncomputable def pg (Gimpl_do : impl_do.G) (J3 : List Item → C3) (J6 : List Item → C6) : Prog PO := { nt := 60, np := 2, tb := tabOf tab, hd := hd Gimpl_do, cuts := cutsOf [(3, cut p3 J3), (6, cut p6 J6)], fin := endOf (tabOf tab) rs 2 pout }
noncomputable def q : FuncId → Bool := fun f => hasId [112] f
theorem seg0 (Gimpl_do : impl_do.G) (J3 : List Item → C3) (J6 : List Item → C6) (x0 : List Q4) (x1 : List Int) : arun (pg Gimpl_do J3 J6) 5000 [.code c0] (mk pin (x0, x1, ())) = F0 (J3 T3) x0 x1 := by kernel_rfl
theorem seg3 (Gimpl_do : impl_do.G) (J3 : List Item → C3) (J6 : List Item → C6) (t1 : List Int) (t11 : List Q4) (t12 : Int) (t13 : Int) (r0 : List Int) : arun1 (pg Gimpl_do J3 J6) 5000 T3 (mk p3 (t1, t11, t12, t13, r0, ())) = F3 (J3 T3) (J6 T6) t1 t11 t12 t13 r0 := by kernel_rfl
theorem seg6 (Gimpl_do : impl_do.G) (J3 : List Item → C3) (J6 : List Item → C6) (t1 : List Int) (t6 : Int) (t11 : List Q4) (t12 : Int) (t13 : Int) (r0 : List Int) (b1_0 : Int) (b1_1 : Int) (b1_2 : Int) (b1_3 : Int) : arunQ (pg Gimpl_do J3 J6) q [3000000] [8, 13] 5000 T6 (mk p6 (t1, t6, t11, t12, t13, r0, b1_0, b1_1, b1_2, b1_3, ())) = List.replicate (arunQ (pg Gimpl_do J3 J6) q [3000000] [8, 13] 5000 T6 (mk p6 (t1, t6, t11, t12, t13, r0, b1_0, b1_1, b1_2, b1_3, ()))).length (F6 (J3 T3) Gimpl_do t1 t6 t11 t12 t13 r0 b1_0 b1_1 b1_2 b1_3) := by kernel_rfl
noncomputable def L6 (J3 : C3) : C6 := fun x => F6 J3 impl_do.impl x.1 x.2.1 x.2.2.1 x.2.2.2.1 x.2.2.2.2.1 x.2.2.2.2.2.1 x.2.2.2.2.2.2.1 x.2.2.2.2.2.2.2.1 x.2.2.2.2.2.2.2.2.1 x.2.2.2.2.2.2.2.2.2.1
noncomputable def L3 : C3 := lfp fun J3 x => F3 J3 (L6 J3) x.1 x.2.1 x.2.2.1 x.2.2.2.1 x.2.2.2.2.1
noncomputable def impl : G := fun x => F0 L3 x.1 x.2.1
theorem F6_le {J3 J3' : C3} (h3 : OLe J3 J3') {Gimpl_do : impl_do.G} (t1 : List Int) (t6 : Int) (t11 : List Q4) (t12 : Int) (t13 : Int) (r0 : List Int) (b1_0 : Int) (b1_1 : Int) (b1_2 : Int) (b1_3 : Int) : OptLe (F6 J3 Gimpl_do t1 t6 t11 t12 t13 r0 b1_0 b1_1 b1_2 b1_3) (F6 J3' Gimpl_do t1 t6 t11 t12 t13 r0 b1_0 b1_1 b1_2 b1_3) := by unfold F6; exact .cond (.cond (.bind (.refl _) fun _ => .cond (.of h3 _) (.refl _)) (.refl _)) (.refl _)
theorem F3_le {J3 J3' : C3} (h3 : OLe J3 J3') {J6 J6' : C6} (h6 : OLe J6 J6') (t1 : List Int) (t11 : List Q4) (t12 : Int) (t13 : Int) (r0 : List Int) : OptLe (F3 J3 J6 t1 t11 t12 t13 r0) (F3 J3' J6' t1 t11 t12 t13 r0) := by unfold F3; exact .cond (.cond (.cond (.cond (.of h3 _) (.refl _)) (.cond (.cond (.cond (.of h3 _) (.refl _)) (.refl _)) (.of h6 _))) (.refl _)) (.refl _)
theorem L6_eq (J3 : C3) (t1 : List Int) (t6 : Int) (t11 : List Q4) (t12 : Int) (t13 : Int) (r0 : List Int) (b1_0 : Int) (b1_1 : Int) (b1_2 : Int) (b1_3 : Int) : L6 J3 (t1, t6, t11, t12, t13, r0, b1_0, b1_1, b1_2, b1_3, ()) = F6 J3 impl_do.impl t1 t6 t11 t12 t13 r0 b1_0 b1_1 b1_2 b1_3 := rfl
theorem L6_le {J3 J3' : C3} (h3 : OLe J3 J3') : OLe (L6 J3) (L6 J3') := fun x => F6_le h3 x.1 x.2.1 x.2.2.1 x.2.2.2.1 x.2.2.2.2.1 x.2.2.2.2.2.1 x.2.2.2.2.2.2.1 x.2.2.2.2.2.2.2.1 x.2.2.2.2.2.2.2.2.1 x.2.2.2.2.2.2.2.2.2.1
theorem L3_mono : OMono fun J3 (x : P3) => F3 J3 (L6 J3) x.1 x.2.1 x.2.2.1 x.2.2.2.1 x.2.2.2.2.1 := fun J J' h3 x => F3_le h3 (L6_le h3) x.1 x.2.1 x.2.2.1 x.2.2.2.1 x.2.2.2.2.1
theorem L3_eq (t1 : List Int) (t11 : List Q4) (t12 : Int) (t13 : Int) (r0 : List Int) : L3 (t1, t11, t12, t13, r0, ()) = F3 (L3) (L6 (L3)) t1 t11 t12 t13 r0 := congrFun (lfp_eq (L3_mono)) _
theorem impl_eq (x0 : List Q4) (x1 : List Int) : impl (x0, x1, ()) = F0 L3 x0 x1 := rfl
theorem con : Con Tryz.prog 67 2 rs.length 2 pin pout impl := by
  refine con_of_run3 (nt := 60) (c := c0) tabGood Tryz.func67 (by kernel_rfl) (by kernel_rfl) (by kernel_rfl) (by kernel_rfl) (by kernel_rfl) (by kernel_rfl) (by kernel_rfl) ?_
  intro w0 O y Post hnp fin
  have hp : ∀ (J3 : List Item → C3), ∀ (J6 : List Item → C6), Parts Tryz.prog 67 (pg impl_do.impl J3 J6) [(3, cut p3 J3), (6, cut p6 J6)] := fun J3 J6 => ⟨tab_ok tabGood rfl, (handAt_ok impl_do.con handNil_ok), rfl⟩
  have g6 : ∀ (J3 : C3), Good Tryz.prog 60 w0 O Post y T3 p3 J3 → Good Tryz.prog 60 w0 O Post y T6 p6 (L6 J3) := fun J3 h3 => good_quiet (hs := hd impl_do.impl) (cv' := hd impl_do.impl) (Checked.mixed Tryz.checked) (hp (atT T3 J3) (atT T6 (fun _ => none))) (handAt_D impl_do.con (by rfl) rfl handNil_D) (handAt_nat handNil_nat) (handAt_nat handNil_nat) (runOK_of (hp (atT T3 J3) (atT T6 (fun _ => none))) hnp ⟨cutOK_at h3, cutOK_at (p := p6) (T := T6) (J := fun _ => none) good_none, trivial⟩ fin) (fun x => all_same ⟨_, (seg6 impl_do.impl (atT T3 J3) (atT T6 (fun _ => none)) x.1 x.2.1 x.2.2.1 x.2.2.2.1 x.2.2.2.2.1 x.2.2.2.2.2.1 x.2.2.2.2.2.2.1 x.2.2.2.2.2.2.2.1 x.2.2.2.2.2.2.2.2.1 x.2.2.2.2.2.2.2.2.2.1).trans (by simp only [atT_self] <;> rfl)⟩)
  have g3 : Good Tryz.prog 60 w0 O Post y T3 p3 L3 := good_lfp fun J3 h3 => good_part (hp (atT T3 J3) (atT T6 (L6 J3))) (runOK_of (hp (atT T3 J3) (atT T6 (L6 J3))) hnp ⟨cutOK_at h3, cutOK_at (g6 J3 h3), trivial⟩ fin) (fun x => (seg3 impl_do.impl (atT T3 J3) (atT T6 (L6 J3)) x.1 x.2.1 x.2.2.1 x.2.2.2.1 x.2.2.2.2.1).trans (by simp only [atT_self] <;> rfl))
  exact good_first (hp (atT T3 L3) (atT T6 (fun _ => none))) (runOK_of (hp (atT T3 L3) (atT T6 (fun _ => none))) hnp ⟨cutOK_at g3, cutOK_at (p := p6) (T := T6) (J := fun _ => none) good_none, trivial⟩ fin) (fun x => (seg0 impl_do.impl (atT T3 L3) (atT T6 (fun _ => none)) x.1 x.2.1).trans (by simp only [atT_self] <;> rfl))
end impl_eval

/-! ### loop.example/wholecheck/impl.Eval -/
namespace impl_Eval
noncomputable abbrev c0 : Code := (Tryz.f20.body).getD .skip
noncomputable abbrev pin : Tpl := ⟨[⟨0, false, [.d (.sl q4)]⟩, ⟨1, false, [.d (.sl i64)]⟩], []⟩
noncomputable abbrev pout : Tpl := ⟨[⟨0, false, [.d i64]⟩, ⟨1, false, [.d .bool]⟩], []⟩
noncomputable abbrev PI := (List Q4) × (List Int) × Unit
noncomputable abbrev PO := Int × Bool × Unit
noncomputable abbrev G := PI → Option PO
noncomputable abbrev rs : List ResultVar := [.tmp 4, .tmp 5]
noncomputable def F0 (Gimpl_TermsValid : impl_TermsValid.G) (Gimpl_eval : impl_eval.G) (Gimpl_stateOk : impl_stateOk.G) (x0 : List Q4) (x1 : List Int) : Option PO :=
  Option.bind (Gimpl_stateOk (x1, ())) fun y0 =>
  bif !y0.1 then
    some (0, false, ())
  else
    Option.bind (Gimpl_TermsValid (x0, (x1.length : Int), ())) fun y1 =>
    bif !y1.1 then
      some (0, false, ())
    else
      Option.bind (Gimpl_eval (x0, x1, ())) fun y2 =>
      some (y2.1, true, ())
noncomputable def hd {R : Type} (Gimpl_TermsValid : impl_TermsValid.G) (Gimpl_eval : impl_eval.G) (Gimpl_stateOk : impl_stateOk.G) : Hand R := (handAt 67 [18] true ⟨2, 1, 2, impl_eval.pin, impl_eval.pout, Gimpl_eval⟩ (handAt 66 [7] true ⟨1, 1, 1, impl_stateOk.pin, impl_stateOk.pout, Gimpl_stateOk⟩ (handAt 23 [13] true ⟨2, 1, 2, impl_TermsValid.pin, impl_TermsValid.pout, Gimpl_TermsValid⟩ handNil)))
noncomputable def pg (Gimpl_TermsValid : impl_TermsValid.G) (Gimpl_eval : impl_eval.G) (Gimpl_stateOk : impl_stateOk.G) : Prog PO := { nt := 19, np := 2, tb := tabOf tab, hd := hd Gimpl_TermsValid Gimpl_eval Gimpl_stateOk, cuts := cutsOf [], fin := endOf (tabOf tab) rs 2 pout }
noncomputable def q : FuncId → Bool := fun f => hasId [23, 66, 67] f
theorem seg0 (Gimpl_TermsValid : impl_TermsValid.G) (Gimpl_eval : impl_eval.G) (Gimpl_stateOk : impl_stateOk.G) (x0 : List Q4) (x1 : List Int) : arun (pg Gimpl_TermsValid Gimpl_eval Gimpl_stateOk) 5000 [.code c0] (mk pin (x0, x1, ())) = F0 Gimpl_TermsValid Gimpl_eval Gimpl_stateOk x0 x1 := by kernel_rfl
noncomputable def impl : G := fun x => F0 impl_TermsValid.impl impl_eval.impl impl_stateOk.impl x.1 x.2.1
theorem impl_eq (x0 : List Q4) (x1 : List Int) : impl (x0, x1, ()) = F0 impl_TermsValid.impl impl_eval.impl impl_stateOk.impl x0 x1 := rfl
theorem con : Con Tryz.prog 20 2 rs.length 2 pin pout impl := by
  refine con_of_run3 (nt := 19) (c := c0) tabGood Tryz.func20 (by kernel_rfl) (by kernel_rfl) (by kernel_rfl) (by kernel_rfl) (by kernel_rfl) (by kernel_rfl) (by kernel_rfl) ?_
  intro w0 O y Post hnp fin
  have hp : Parts Tryz.prog 20 (pg impl_TermsValid.impl impl_eval.impl impl_stateOk.impl) [] := ⟨tab_ok tabGood rfl, (handAt_ok impl_eval.con (handAt_ok impl_stateOk.con (handAt_ok impl_TermsValid.con handNil_ok))), rfl⟩
  exact good_first (hp) (runOK_of (hp) hnp trivial fin) (fun x => (seg0 impl_TermsValid.impl impl_eval.impl impl_stateOk.impl x.1 x.2.1))
end impl_Eval

/-! ### loop.example/wholecheck/spec.l1State -/
namespace spec_l1State
noncomputable abbrev c0 : Code := (Tryz.f84.body).getD .skip
noncomputable abbrev pin : Tpl := ⟨[⟨0, false, [.d (.sl i64)]⟩], []⟩
noncomputable abbrev pout : Tpl := ⟨[⟨0, false, [.d .bool]⟩], []⟩
noncomputable abbrev p2 : Tpl := ⟨[⟨0, false, [.d (.sl i64)]⟩, ⟨3, false, [.d i64]⟩], []⟩
noncomputable def T2 : List Item := (find 2 c0 []).getD []
noncomputable abbrev PI := (List Int) × Unit
noncomputable abbrev PO := Bool × Unit
noncomputable abbrev G := PI → Option PO
noncomputable abbrev P2 := (List Int) × Int × Unit
noncomputable abbrev C2 := P2 → Option PO
noncomputable abbrev rs : List ResultVar := [.tmp 2]
noncomputable def F0 (J2 : C2) (x0 : List Int) : Option PO :=
  J2 (x0, 0, ())
noncomputable def F2 (J2 : C2) (Gspec_l1In : spec_l1In.G) (t0 : List Int) (t3 : Int) : Option PO :=
  bif decide (t3 < (t0.length : Int)) then
    bif inb t3 t0.length then
      Option.bind (Gspec_l1In (t0.getD t3.toNat 0, (-9999), 9999, ())) fun y0 =>
      bif !y0.1 then
        some (false, ())
      else
        J2 (t0, wI (t3 + 1), ())
    else
      none
  else
    some (true, ())
noncomputable def hd {R : Type} (Gspec_l1In : spec_l1In.G) : Hand R := (handAt 107 [14] true ⟨3, 1, 3, spec_l1In.pin, spec_l1In.pout, Gspec_l1In⟩ handNil)
noncomputable def pg (Gspec_l1In : spec_l1In.G) (J2 : List Item → C2) : Prog PO := { nt := 16, np := 1, tb := tabOf tab, hd := hd Gspec_l1In, cuts := cutsOf [(2, cut p2 J2)], fin := endOf (tabOf tab) rs 1 pout }
noncomputable def q : FuncId → Bool := fun f => hasId [107] f
theorem seg0 (Gspec_l1In : spec_l1In.G) (J2 : List Item → C2) (x0 : List Int) : arun (pg Gspec_l1In J2) 5000 [.code c0] (mk pin (x0, ())) = F0 (J2 T2) x0 := by kernel_rfl
theorem seg2 (Gspec_l1In : spec_l1In.G) (J2 : List Item → C2) (t0 : List Int) (t3 : Int) : arun1 (pg Gspec_l1In J2) 5000 T2 (mk p2 (t0, t3, ())) = F2 (J2 T2) Gspec_l1In t0 t3 := by kernel_rfl
noncomputable def L2 : C2 := lfp fun J2 x => F2 J2 spec_l1In.impl x.1 x.2.1
noncomputable def impl : G := fun x => F0 L2 x.1
theorem F2_le {J2 J2' : C2} (h2 : OLe J2 J2') {Gspec_l1In : spec_l1In.G} (t0 : List Int) (t3 : Int) : OptLe (F2 J2 Gspec_l1In t0 t3) (F2 J2' Gspec_l1In t0 t3) := by unfold F2; exact .cond (.cond (.bind (.refl _) fun _ => .cond (.refl _) (.of h2 _)) (.refl _)) (.refl _)
theorem L2_mono : OMono fun J2 (x : P2) => F2 J2 spec_l1In.impl x.1 x.2.1 := fun J J' h2 x => F2_le h2 x.1 x.2.1
theorem L2_eq (t0 : List Int) (t3 : Int) : L2 (t0, t3, ()) = F2 (L2) spec_l1In.impl t0 t3 := congrFun (lfp_eq (L2_mono)) _
theorem impl_eq (x0 : List Int) : impl (x0, ()) = F0 L2 x0 := rfl
theorem con : Con Tryz.prog 84 1 rs.length 1 pin pout impl := by
  refine con_of_run3 (nt := 16) (c := c0) tabGood Tryz.func84 (by kernel_rfl) (by kernel_rfl) (by kernel_rfl) (by kernel_rfl) (by kernel_rfl) (by kernel_rfl) (by kernel_rfl) ?_
  intro w0 O y Post hnp fin
  have hp : ∀ (J2 : List Item → C2), Parts Tryz.prog 84 (pg spec_l1In.impl J2) [(2, cut p2 J2)] := fun J2 => ⟨tab_ok tabGood rfl, (handAt_ok spec_l1In.con handNil_ok), rfl⟩
  have g2 : Good Tryz.prog 16 w0 O Post y T2 p2 L2 := good_lfp fun J2 h2 => good_part (hp (atT T2 J2)) (runOK_of (hp (atT T2 J2)) hnp ⟨cutOK_at h2, trivial⟩ fin) (fun x => (seg2 spec_l1In.impl (atT T2 J2) x.1 x.2.1).trans (by simp only [atT_self] <;> rfl))
  exact good_first (hp (atT T2 L2)) (runOK_of (hp (atT T2 L2)) hnp ⟨cutOK_at g2, trivial⟩ fin) (fun x => (seg0 spec_l1In.impl (atT T2 L2) x.1).trans (by simp only [atT_self] <;> rfl))
end spec_l1State

/-! ### loop.example/wholecheck/spec.l1Held -/
namespace spec_l1Held
noncomputable abbrev c0 : Code := (Tryz.f164.body).getD .skip
noncomputable abbrev pin : Tpl := ⟨[⟨0, false, [.d i64]⟩], []⟩
noncomputable abbrev pout : Tpl := ⟨[⟨0, false, [.d i64]⟩], []⟩
noncomputable abbrev PI := Int × Unit
noncomputable abbrev PO := Int × Unit
noncomputable abbrev G := PI → Option PO
noncomputable abbrev rs : List ResultVar := [.tmp 2]
noncomputable def F0 (x0 : Int) : Option PO :=
  bif decide (x0 > 9999) then
    some (9999, ())
  else
    bif decide (x0 < (-9999)) then
      some ((-9999), ())
    else
      some (x0, ())
noncomputable def hd {R : Type} : Hand R := handNil
noncomputable def pg : Prog PO := { nt := 8, np := 1, tb := tabOf tab, hd := hd, cuts := cutsOf [], fin := endOf (tabOf tab) rs 1 pout }
noncomputable def q : FuncId → Bool := fun f => hasId [] f
theorem seg0 (x0 : Int) : arun (pg) 5000 [.code c0] (mk pin (x0, ())) = F0 x0 := by kernel_rfl
noncomputable def impl : G := fun x => F0 x.1
theorem impl_eq (x0 : Int) : impl (x0, ()) = F0 x0 := rfl
theorem con : Con Tryz.prog 164 1 rs.length 1 pin pout impl := by
  refine con_of_run3 (nt := 8) (c := c0) tabGood Tryz.func164 (by kernel_rfl) (by kernel_rfl) (by kernel_rfl) (by kernel_rfl) (by kernel_rfl) (by kernel_rfl) (by kernel_rfl) ?_
  intro w0 O y Post hnp fin
  have hp : Parts Tryz.prog 164 (pg) [] := ⟨tab_ok tabGood rfl, handNil_ok, rfl⟩
  exact good_first (hp) (runOK_of (hp) hnp trivial fin) (fun x => (seg0 x.1))
end spec_l1Held

/-! ### loop.example/wholecheck/spec.l1Truth -/
namespace spec_l1Truth
noncomputable abbrev c0 : Code := (Tryz.f165.body).getD .skip
noncomputable abbrev pin : Tpl := ⟨[⟨0, false, [.d .bool]⟩], []⟩
noncomputable abbrev pout : Tpl := ⟨[⟨0, false, [.d i64]⟩], []⟩
noncomputable abbrev PI := Bool × Unit
noncomputable abbrev PO := Int × Unit
noncomputable abbrev G := PI → Option PO
noncomputable abbrev rs : List ResultVar := [.tmp 2]
noncomputable def F0 (x0 : Bool) : Option PO :=
  bif x0 then
    some (1, ())
  else
    some (0, ())
noncomputable def hd {R : Type} : Hand R := handNil
noncomputable def pg : Prog PO := { nt := 4, np := 1, tb := tabOf tab, hd := hd, cuts := cutsOf [], fin := endOf (tabOf tab) rs 1 pout }
noncomputable def q : FuncId → Bool := fun f => hasId [] f
theorem seg0 (x0 : Bool) : arun (pg) 5000 [.code c0] (mk pin (x0, ())) = F0 x0 := by kernel_rfl
noncomputable def impl : G := fun x => F0 x.1
theorem impl_eq (x0 : Bool) : impl (x0, ()) = F0 x0 := rfl
theorem con : Con Tryz.prog 165 1 rs.length 1 pin pout impl := by
  refine con_of_run3 (nt := 4) (c := c0) tabGood Tryz.func165 (by kernel_rfl) (by kernel_rfl) (by kernel_rfl) (by kernel_rfl) (by kernel_rfl) (by kernel_rfl) (by kernel_rfl) ?_
  intro w0 O y Post hnp fin
  have hp : Parts Tryz.prog 165 (pg) [] := ⟨tab_ok tabGood rfl, handNil_ok, rfl⟩
  exact good_first (hp) (runOK_of (hp) hnp trivial fin) (fun x => (seg0 x.1))
end spec_l1Truth

/-! ### loop.example/wholecheck/spec.l1Do -/
namespace spec_l1Do
noncomputable abbrev c0 : Code := (Tryz.f125.body).getD .skip
noncomputable abbrev pin : Tpl := ⟨[⟨0, false, [.d i64]⟩, ⟨1, false, [.d i64]⟩, ⟨2, false, [.d i64]⟩], []⟩
noncomputable abbrev pout : Tpl := ⟨[⟨0, false, [.d i64]⟩], []⟩
noncomputable abbrev PI := Int × Int × Int × Unit
noncomputable abbrev PO := Int × Unit
noncomputable abbrev G := PI → Option PO
noncomputable abbrev rs : List ResultVar := [.tmp 6]
noncomputable def F0 (Gspec_l1Held : spec_l1Held.G) (Gspec_l1Truth : spec_l1Truth.G) (x0 : Int) (x1 : Int) (x2 : Int) : Option PO :=
  bif x0 == 2 then
    Option.bind (Gspec_l1Held (wI (x1 + x2), ())) fun y0 =>
    some (y0.1, ())
  else
    bif x0 == 3 then
      Option.bind (Gspec_l1Held (wI (x1 - x2), ())) fun y1 =>
      some (y1.1, ())
    else
      bif x0 == 4 then
        Option.bind (Gspec_l1Held (wI (x1 * x2), ())) fun y2 =>
        some (y2.1, ())
      else
        bif x0 == 5 then
          Option.bind (Gspec_l1Truth (decide (x1 < x2), ())) fun y3 =>
          some (y3.1, ())
        else
          bif x0 == 6 then
            Option.bind (Gspec_l1Truth (x1 == x2, ())) fun y4 =>
            some (y4.1, ())
          else
            bif x0 == 7 then
              some (wI (1 - x1), ())
            else
              bif x0 == 8 then
                some (wI (x1 * x2), ())
              else
                Option.bind (Gspec_l1Truth (decide (wI (x1 + x2) > 0), ())) fun y5 =>
                some (y5.1, ())
noncomputable def hd {R : Type} (Gspec_l1Held : spec_l1Held.G) (Gspec_l1Truth : spec_l1Truth.G) : Hand R := (handAt 165 [30, 36, 50] true ⟨1, 1, 1, spec_l1Truth.pin, spec_l1Truth.pout, Gspec_l1Truth⟩ (handAt 164 [12, 18, 24] true ⟨1, 1, 1, spec_l1Held.pin, spec_l1Held.pout, Gspec_l1Held⟩ handNil))
noncomputable def pg (Gspec_l1Held : spec_l1Held.G) (Gspec_l1Truth : spec_l1Truth.G) : Prog PO := { nt := 51, np := 3, tb := tabOf tab, hd := hd Gspec_l1Held Gspec_l1Truth, cuts := cutsOf [], fin := endOf (tabOf tab) rs 3 pout }
noncomputable def q : FuncId → Bool := fun f => hasId [164, 165] f
theorem seg0 (Gspec_l1Held : spec_l1Held.G) (Gspec_l1Truth : spec_l1Truth.G) (x0 : Int) (x1 : Int) (x2 : Int) : arun (pg Gspec_l1Held Gspec_l1Truth) 5000 [.code c0] (mk pin (x0, x1, x2, ())) = F0 Gspec_l1Held Gspec_l1Truth x0 x1 x2 := by kernel_rfl
noncomputable def impl : G := fun x => F0 spec_l1Held.impl spec_l1Truth.impl x.1 x.2.1 x.2.2.1
theorem impl_eq (x0 : Int) (x1 : Int) (x2 : Int) : impl (x0, x1, x2, ()) = F0 spec_l1Held.impl spec_l1Truth.impl x0 x1 x2 := rfl
theorem con : Con Tryz.prog 125 3 rs.length 3 pin pout impl := by
  refine con_of_run3 (nt := 51) (c := c0) tabGood Tryz.func125 (by kernel_rfl) (by kernel_rfl) (by kernel_rfl) (by kernel_rfl) (by kernel_rfl) (by kernel_rfl) (by kernel_rfl) ?_
  intro w0 O y Post hnp fin
  have hp : Parts Tryz.prog 125 (pg spec_l1Held.impl spec_l1Truth.impl) [] := ⟨tab_ok tabGood rfl, (handAt_ok spec_l1Truth.con (handAt_ok spec_l1Held.con handNil_ok)), rfl⟩
  exact good_first (hp) (runOK_of (hp) hnp trivial fin) (fun x => (seg0 spec_l1Held.impl spec_l1Truth.impl x.1 x.2.1 x.2.2.1))
end spec_l1Do

/-! ### loop.example/wholecheck/spec.l1Values -/
namespace spec_l1Values
noncomputable abbrev c0 : Code := (Tryz.f85.body).getD .skip
noncomputable abbrev pin : Tpl := ⟨[⟨0, false, [.d (.sl q4)]⟩, ⟨1, false, [.d (.sl i64)]⟩], []⟩
noncomputable abbrev pout : Tpl := ⟨[⟨0, false, [.row 600001]⟩], [(600001, .row 3 false i64)]⟩
noncomputable abbrev p3 : Tpl := ⟨[⟨0, false, [.d (.sl q4)]⟩, ⟨1, false, [.d (.sl i64)]⟩, ⟨5, false, [.row 3000000]⟩, ⟨6, false, [.d i64]⟩], [(3000000, .row 3 false i64)]⟩
noncomputable def T3 : List Item := (find 3 c0 []).getD []
noncomputable abbrev p10 : Tpl := ⟨[⟨0, false, [.d (.sl q4)]⟩, ⟨1, false, [.d (.sl i64)]⟩, ⟨5, false, [.row 3000000]⟩, ⟨6, false, [.d i64]⟩, ⟨7, false, [.ptr 3000001 0]⟩], [(3000000, .row 3 false i64), (3000001, .box [.d i64, .d i64, .d i64, .d i64])]⟩
noncomputable def T10 : List Item := (find 10 c0 []).getD []
noncomputable abbrev PI := (List Q4) × (List Int) × Unit
noncomputable abbrev PO := (List Int) × Unit
noncomputable abbrev G := PI → Option PO
noncomputable abbrev P3 := (List Q4) × (List Int) × Int × (List Int) × Unit
noncomputable abbrev C3 := P3 → Option PO
noncomputable abbrev P10 := (List Q4) × (List Int) × Int × (List Int) × Int × Int × Int × Int × Unit
noncomputable abbrev C10 := P10 → Option PO
noncomputable abbrev rs : List ResultVar := [.tmp 4]
noncomputable def F0 (J3 : C3) (x0 : List Q4) (x1 : List Int) : Option PO :=
  J3 (x0, x1, 0, ([] : List Int), ())
noncomputable def F3 (J3 : C3) (J10 : C10) (t0 : List Q4) (t1 : List Int) (t6 : Int) (r0 : List Int) : Option PO :=
  bif decide (t6 < (t0.length : Int)) then
    bif inb t6 t0.length then
      bif (t0.getD t6.toNat (0, 0, 0, 0)).1 == 0 then
        bif decide ((r0.length + ([(t0.getD t6.toNat (0, 0, 0, 0)).2.1] : List Int).length) * 8 ≤ 140737488355328) then
          J3 (t0, t1, wI (t6 + 1), r0 ++ ([(t0.getD t6.toNat (0, 0, 0, 0)).2.1] : List Int), ())
        else
          none
      else
        bif (t0.getD t6.toNat (0, 0, 0, 0)).1 == 1 then
          bif inb (t0.getD t6.toNat (0, 0, 0, 0)).2.1 t1.length then
            bif decide ((r0.length + ([t1.getD (t0.getD t6.toNat (0, 0, 0, 0)).2.1.toNat 0] : List Int).length) * 8 ≤ 140737488355328) then
              J3 (t0, t1, wI (t6 + 1), r0 ++ ([t1.getD (t0.getD t6.toNat (0, 0, 0, 0)).2.1.toNat 0] : List Int), ())
            else
              none
          else
            none
        else
          J10 (t0, t1, t6, r0, (t0.getD t6.toNat (0, 0, 0, 0)).1, (t0.getD t6.toNat (0, 0, 0, 0)).2.1, (t0.getD t6.toNat (0, 0, 0, 0)).2.2.1, (t0.getD t6.toNat (0, 0, 0, 0)).2.2.2, ())
    else
      none
  else
    some (r0, ())
noncomputable def F10 (J3 : C3) (Gspec_l1Do : spec_l1Do.G) (t0 : List Q4) (t1 : List Int) (t6 : Int) (r0 : List Int) (b1_0 : Int) (b1_1 : Int) (b1_2 : Int) (b1_3 : Int) : Option PO :=
  bif inb b1_2 r0.length then
    bif inb b1_3 r0.length then
      Option.bind (Gspec_l1Do (b1_0, r0.getD b1_2.toNat 0, r0.getD b1_3.toNat 0, ())) fun y0 =>
      bif decide ((r0.length + ([y0.1] : List Int).length) * 8 ≤ 140737488355328) then
        J3 (t0, t1, wI (t6 + 1), r0 ++ ([y0.1] : List Int), ())
      else
        none
    else
      none
  else
    none
noncomputable def F10o1 (J3 : C3) (Gspec_l1Do : spec_l1Do.G) (t0 : List Q4) (t1 : List Int) (t6 : Int) (r0 : List Int) (b1_0 : Int) (b1_1 : Int) (b1_2 : Int) (b1_3 : Int) : Option PO :=
  bif inb b1_3 r0.length then
    bif inb b1_2 r0.length then
      Option.bind (Gspec_l1Do (b1_0, r0.getD b1_2.toNat 0, r0.getD b1_3.toNat 0, ())) fun y0 =>
      bif decide ((r0.length + ([y0.1] : List Int).length) * 8 ≤ 140737488355328) then
        J3 (t0, t1, wI (t6 + 1), r0 ++ ([y0.1] : List Int), ())
      else
        none
    else
      none
  else
    none
theorem F10o1_le (J3 : C3) (Gspec_l1Do : spec_l1Do.G) (t0 : List Q4) (t1 : List Int) (t6 : Int) (r0 : List Int) (b1_0 : Int) (b1_1 : Int) (b1_2 : Int) (b1_3 : Int) : OptLe (F10 J3 Gspec_l1Do t0 t1 t6 r0 b1_0 b1_1 b1_2 b1_3) (F10o1 J3 Gspec_l1Do t0 t1 t6 r0 b1_0 b1_1 b1_2 b1_3) := by
  intro y h; unfold F10 at h; unfold F10o1
  have e0 := (cond_some h).1; replace h := (cond_some h).2
  have e1 := (cond_some h).1; replace h := (cond_some h).2
  obtain ⟨y0, e2, h⟩ := Option.bind_eq_some_iff.1 h
  have e3 := (cond_some h).1; replace h := (cond_some h).2
  simp only [e0, e1, e2, e3, cond_true, cond_false, Option.bind_some]; exact h
noncomputable def hd {R : Type} (Gspec_l1Do : spec_l1Do.G) : Hand R := (handAt 125 [51] true ⟨3, 1, 3, spec_l1Do.pin, spec_l1Do.pout, Gspec_l1Do⟩ handNil)
noncomputable def pg (Gspec_l1Do : spec_l1Do.G) (J3 : List Item → C3) (J10 : List Item → C10) : Prog PO := { nt := 55, np := 2, tb := tabOf tab, hd := hd Gspec_l1Do, cuts := cutsOf [(3, cut p3 J3), (10, cut p10 J10)], fin := endOf (tabOf tab) rs 2 pout }
noncomputable def q : FuncId → Bool := fun f => hasId [125] f
theorem seg0 (Gspec_l1Do : spec_l1Do.G) (J3 : List Item → C3) (J10 : List Item → C10) (x0 : List Q4) (x1 : List Int) : arun (pg Gspec_l1Do J3 J10) 5000 [.code c0] (mk pin (x0, x1, ())) = F0 (J3 T3) x0 x1 := by kernel_rfl
theorem seg3 (Gspec_l1Do : spec_l1Do.G) (J3 : List Item → C3) (J10 : List Item → C10) (t0 : List Q4) (t1 : List Int) (t6 : Int) (r0 : List Int) : arun1 (pg Gspec_l1Do J3 J10) 5000 T3 (mk p3 (t0, t1, t6, r0, ())) = F3 (J3 T3) (J10 T10) t0 t1 t6 r0 := by kernel_rfl
theorem seg10 (Gspec_l1Do : spec_l1Do.G) (J3 : List Item → C3) (J10 : List Item → C10) (t0 : List Q4) (t1 : List Int) (t6 : Int) (r0 : List Int) (b1_0 : Int) (b1_1 : Int) (b1_2 : Int) (b1_3 : Int) : arunE (pg Gspec_l1Do J3 J10) 5000 T10 (mk p10 (t0, t1, t6, r0, b1_0, b1_1, b1_2, b1_3, ())) = [F10 (J3 T3) Gspec_l1Do t0 t1 t6 r0 b1_0 b1_1 b1_2 b1_3, F10 (J3 T3) Gspec_l1Do t0 t1 t6 r0 b1_0 b1_1 b1_2 b1_3, F10 (J3 T3) Gspec_l1Do t0 t1 t6 r0 b1_0 b1_1 b1_2 b1_3, F10o1 (J3 T3) Gspec_l1Do t0 t1 t6 r0 b1_0 b1_1 b1_2 b1_3, F10o1 (J3 T3) Gspec_l1Do t0 t1 t6 r0 b1_0 b1_1 b1_2 b1_3, F10o1 (J3 T3) Gspec_l1Do t0 t1 t6 r0 b1_0 b1_1 b1_2 b1_3, F10 (J3 T3) Gspec_l1Do t0 t1 t6 r0 b1_0 b1_1 b1_2 b1_3, F10 (J3 T3) Gspec_l1Do t0 t1 t6 r0 b1_0 b1_1 b1_2 b1_3, F10 (J3 T3) Gspec_l1Do t0 t1 t6 r0 b1_0 b1_1 b1_2 b1_3, F10 (J3 T3) Gspec_l1Do t0 t1 t6 r0 b1_0 b1_1 b1_2 b1_3, F10 (J3 T3) Gspec_l1Do t0 t1 t6 r0 b1_0 b1_1 b1_2 b1_3, F10 (J3 T3) Gspec_l1Do t0 t1 t6 r0 b1_0 b1_1 b1_2 b1_3, F10 (J3 T3) Gspec_l1Do t0 t1 t6 r0 b1_0 b1_1 b1_2 b1_3, F10 (J3 T3) Gspec_l1Do t0 t1 t6 r0 b1_0 b1_1 b1_2 b1_3, F10 (J3 T3) Gspec_l1Do t0 t1 t6 r0 b1_0 b1_1 b1_2 b1_3, F10 (J3 T3) Gspec_l1Do t0 t1 t6 r0 b1_0 b1_1 b1_2 b1_3, F10 (J3 T3) Gspec_l1Do t0 t1 t6 r0 b1_0 b1_1 b1_2 b1_3, F10 (J3 T3) Gspec_l1Do t0 t1 t6 r0 b1_0 b1_1 b1_2 b1_3, F10o1 (J3 T3) Gspec_l1Do t0 t1 t6 r0 b1_0 b1_1 b1_2 b1_3, F10o1 (J3 T3) Gspec_l1Do t0 t1 t6 r0 b1_0 b1_1 b1_2 b1_3, F10o1 (J3 T3) Gspec_l1Do t0 t1 t6 r0 b1_0 b1_1 b1_2 b1_3, F10o1 (J3 T3) Gspec_l1Do t0 t1 t6 r0 b1_0 b1_1 b1_2 b1_3, F10o1 (J3 T3) Gspec_l1Do t0 t1 t6 r0 b1_0 b1_1 b1_2 b1_3, F10o1 (J3 T3) Gspec_l1Do t0 t1 t6 r0 b1_0 b1_1 b1_2 b1_3, F10o1 (J3 T3) Gspec_l1Do t0 t1 t6 r0 b1_0 b1_1 b1_2 b1_3, F10o1 (J3 T3) Gspec_l1Do t0 t1 t6 r0 b1_0 b1_1 b1_2 b1_3, F10o1 (J3 T3) Gspec_l1Do t0 t1 t6 r0 b1_0 b1_1 b1_2 b1_3, F10o1 (J3 T3) Gspec_l1Do t0 t1 t6 r0 b1_0 b1_1 b1_2 b1_3, F10o1 (J3 T3) Gspec_l1Do t0 t1 t6 r0 b1_0 b1_1 b1_2 b1_3, F10o1 (J3 T3) Gspec_l1Do t0 t1 t6 r0 b1_0 b1_1 b1_2 b1_3] := by kernel_rfl
noncomputable def L10 (J3 : C3) : C10 := fun x => F10 J3 spec_l1Do.impl x.1 x.2.1 x.2.2.1 x.2.2.2.1 x.2.2.2.2.1 x.2.2.2.2.2.1 x.2.2.2.2.2.2.1 x.2.2.2.2.2.2.2.1
noncomputable def L3 : C3 := lfp fun J3 x => F3 J3 (L10 J3) x.1 x.2.1 x.2.2.1 x.2.2.2.1
noncomputable def impl : G := fun x => F0 L3 x.1 x.2.1
theorem F10_le {J3 J3' : C3} (h3 : OLe J3 J3') {Gspec_l1Do : spec_l1Do.G} (t0 : List Q4) (t1 : List Int) (t6 : Int) (r0 : List Int) (b1_0 : Int) (b1_1 : Int) (b1_2 : Int) (b1_3 : Int) : OptLe (F10 J3 Gspec_l1Do t0 t1 t6 r0 b1_0 b1_1 b1_2 b1_3) (F10 J3' Gspec_l1Do t0 t1 t6 r0 b1_0 b1_1 b1_2 b1_3) := by unfold F10; exact .cond (.cond (.bind (.refl _) fun _ => .cond (.of h3 _) (.refl _)) (.refl _)) (.refl _)
theorem F3_le {J3 J3' : C3} (h3 : OLe J3 J3') {J10 J10' : C10} (h10 : OLe J10 J10') (t0 : List Q4) (t1 : List Int) (t6 : Int) (r0 : List Int) : OptLe (F3 J3 J10 t0 t1 t6 r0) (F3 J3' J10' t0 t1 t6 r0) := by unfold F3; exact .cond (.cond (.cond (.cond (.of h3 _) (.refl _)) (.cond (.cond (.cond (.of h3 _) (.refl _)) (.refl _)) (.of h10 _))) (.refl _)) (.refl _)
theorem L10_eq (J3 : C3) (t0 : List Q4) (t1 : List Int) (t6 : Int) (r0 : List Int) (b1_0 : Int) (b1_1 : Int) (b1_2 : Int) (b1_3 : Int) : L10 J3 (t0, t1, t6, r0, b1_0, b1_1, b1_2, b1_3, ()) = F10 J3 spec_l1Do.impl t0 t1 t6 r0 b1_0 b1_1 b1_2 b1_3 := rfl
theorem L10_le {J3 J3' : C3} (h3 : OLe J3 J3') : OLe (L10 J3) (L10 J3') := fun x => F10_le h3 x.1 x.2.1 x.2.2.1 x.2.2.2.1 x.2.2.2.2.1 x.2.2.2.2.2.1 x.2.2.2.2.2.2.1 x.2.2.2.2.2.2.2.1
theorem L3_mono : OMono fun J3 (x : P3) => F3 J3 (L10 J3) x.1 x.2.1 x.2.2.1 x.2.2.2.1 := fun J J' h3 x => F3_le h3 (L10_le h3) x.1 x.2.1 x.2.2.1 x.2.2.2.1
theorem L3_eq (t0 : List Q4) (t1 : List Int) (t6 : Int) (r0 : List Int) : L3 (t0, t1, t6, r0, ()) = F3 (L3) (L10 (L3)) t0 t1 t6 r0 := congrFun (lfp_eq (L3_mono)) _
theorem impl_eq (x0 : List Q4) (x1 : List Int) : impl (x0, x1, ()) = F0 L3 x0 x1 := rfl
theorem con : Con Tryz.prog 85 2 rs.length 2 pin pout impl := by
  refine con_of_run3 (nt := 55) (c := c0) tabGood Tryz.func85 (by kernel_rfl) (by kernel_rfl) (by kernel_rfl) (by kernel_rfl) (by kernel_rfl) (by kernel_rfl) (by kernel_rfl) ?_
  intro w0 O y Post hnp fin
  have hp : ∀ (J3 : List Item → C3), ∀ (J10 : List Item → C10), Parts Tryz.prog 85 (pg spec_l1Do.impl J3 J10) [(3, cut p3 J3), (10, cut p10 J10)] := fun J3 J10 => ⟨tab_ok tabGood rfl, (handAt_ok spec_l1Do.con handNil_ok), rfl⟩
  have g10 : ∀ (J3 : C3), Good Tryz.prog 55 w0 O Post y T3 p3 J3 → Good Tryz.prog 55 w0 O Post y T10 p10 (L10 J3) := fun J3 h3 => good_orders (hs := hd spec_l1Do.impl) (cv' := hd spec_l1Do.impl) (Checked.mixed Tryz.checked) (hp (atT T3 J3) (atT T10 (fun _ => none))) (handAt_ok spec_l1Do.con handNil_ok) (handAt_nat handNil_nat) (handAt_nat handNil_nat) (runOK_of (hp (atT T3 J3) (atT T10 (fun _ => none))) hnp ⟨cutOK_at h3, cutOK_at (p := p10) (T := T10) (J := fun _ => none) good_none, trivial⟩ fin) (fun x => all_of (L := [F10 J3 spec_l1Do.impl x.1 x.2.1 x.2.2.1 x.2.2.2.1 x.2.2.2.2.1 x.2.2.2.2.2.1 x.2.2.2.2.2.2.1 x.2.2.2.2.2.2.2.1, F10 J3 spec_l1Do.impl x.1 x.2.1 x.2.2.1 x.2.2.2.1 x.2.2.2.2.1 x.2.2.2.2.2.1 x.2.2.2.2.2.2.1 x.2.2.2.2.2.2.2.1, F10 J3 spec_l1Do.impl x.1 x.2.1 x.2.2.1 x.2.2.2.1 x.2.2.2.2.1 x.2.2.2.2.2.1 x.2.2.2.2.2.2.1 x.2.2.2.2.2.2.2.1, F10o1 J3 spec_l1Do.impl x.1 x.2.1 x.2.2.1 x.2.2.2.1 x.2.2.2.2.1 x.2.2.2.2.2.1 x.2.2.2.2.2.2.1 x.2.2.2.2.2.2.2.1, F10o1 J3 spec_l1Do.impl x.1 x.2.1 x.2.2.1 x.2.2.2.1 x.2.2.2.2.1 x.2.2.2.2.2.1 x.2.2.2.2.2.2.1 x.2.2.2.2.2.2.2.1, F10o1 J3 spec_l1Do.impl x.1 x.2.1 x.2.2.1 x.2.2.2.1 x.2.2.2.2.1 x.2.2.2.2.2.1 x.2.2.2.2.2.2.1 x.2.2.2.2.2.2.2.1, F10 J3 spec_l1Do.impl x.1 x.2.1 x.2.2.1 x.2.2.2.1 x.2.2.2.2.1 x.2.2.2.2.2.1 x.2.2.2.2.2.2.1 x.2.2.2.2.2.2.2.1, F10 J3 spec_l1Do.impl x.1 x.2.1 x.2.2.1 x.2.2.2.1 x.2.2.2.2.1 x.2.2.2.2.2.1 x.2.2.2.2.2.2.1 x.2.2.2.2.2.2.2.1, F10 J3 spec_l1Do.impl x.1 x.2.1 x.2.2.1 x.2.2.2.1 x.2.2.2.2.1 x.2.2.2.2.2.1 x.2.2.2.2.2.2.1 x.2.2.2.2.2.2.2.1, F10 J3 spec_l1Do.impl x.1 x.2.1 x.2.2.1 x.2.2.2.1 x.2.2.2.2.1 x.2.2.2.2.2.1 x.2.2.2.2.2.2.1 x.2.2.2.2.2.2.2.1, F10 J3 spec_l1Do.impl x.1 x.2.1 x.2.2.1 x.2.2.2.1 x.2.2.2.2.1 x.2.2.2.2.2.1 x.2.2.2.2.2.2.1 x.2.2.2.2.2.2.2.1, F10 J3 spec_l1Do.impl x.1 x.2.1 x.2.2.1 x.2.2.2.1 x.2.2.2.2.1 x.2.2.2.2.2.1 x.2.2.2.2.2.2.1 x.2.2.2.2.2.2.2.1, F10 J3 spec_l1Do.impl x.1 x.2.1 x.2.2.1 x.2.2.2.1 x.2.2.2.2.1 x.2.2.2.2.2.1 x.2.2.2.2.2.2.1 x.2.2.2.2.2.2.2.1, F10 J3 spec_l1Do.impl x.1 x.2.1 x.2.2.1 x.2.2.2.1 x.2.2.2.2.1 x.2.2.2.2.2.1 x.2.2.2.2.2.2.1 x.2.2.2.2.2.2.2.1, F10 J3 spec_l1Do.impl x.1 x.2.1 x.2.2.1 x.2.2.2.1 x.2.2.2.2.1 x.2.2.2.2.2.1 x.2.2.2.2.2.2.1 x.2.2.2.2.2.2.2.1, F10 J3 spec_l1Do.impl x.1 x.2.1 x.2.2.1 x.2.2.2.1 x.2.2.2.2.1 x.2.2.2.2.2.1 x.2.2.2.2.2.2.1 x.2.2.2.2.2.2.2.1, F10 J3 spec_l1Do.impl x.1 x.2.1 x.2.2.1 x.2.2.2.1 x.2.2.2.2.1 x.2.2.2.2.2.1 x.2.2.2.2.2.2.1 x.2.2.2.2.2.2.2.1, F10 J3 spec_l1Do.impl x.1 x.2.1 x.2.2.1 x.2.2.2.1 x.2.2.2.2.1 x.2.2.2.2.2.1 x.2.2.2.2.2.2.1 x.2.2.2.2.2.2.2.1, F10o1 J3 spec_l1Do.impl x.1 x.2.1 x.2.2.1 x.2.2.2.1 x.2.2.2.2.1 x.2.2.2.2.2.1 x.2.2.2.2.2.2.1 x.2.2.2.2.2.2.2.1, F10o1 J3 spec_l1Do.impl x.1 x.2.1 x.2.2.1 x.2.2.2.1 x.2.2.2.2.1 x.2.2.2.2.2.1 x.2.2.2.2.2.2.1 x.2.2.2.2.2.2.2.1, F10o1 J3 spec_l1Do.impl x.1 x.2.1 x.2.2.1 x.2.2.2.1 x.2.2.2.2.1 x.2.2.2.2.2.1 x.2.2.2.2.2.2.1 x.2.2.2.2.2.2.2.1, F10o1 J3 spec_l1Do.impl x.1 x.2.1 x.2.2.1 x.2.2.2.1 x.2.2.2.2.1 x.2.2.2.2.2.1 x.2.2.2.2.2.2.1 x.2.2.2.2.2.2.2.1, F10o1 J3 spec_l1Do.impl x.1 x.2.1 x.2.2.1 x.2.2.2.1 x.2.2.2.2.1 x.2.2.2.2.2.1 x.2.2.2.2.2.2.1 x.2.2.2.2.2.2.2.1, F10o1 J3 spec_l1Do.impl x.1 x.2.1 x.2.2.1 x.2.2.2.1 x.2.2.2.2.1 x.2.2.2.2.2.1 x.2.2.2.2.2.2.1 x.2.2.2.2.2.2.2.1, F10o1 J3 spec_l1Do.impl x.1 x.2.1 x.2.2.1 x.2.2.2.1 x.2.2.2.2.1 x.2.2.2.2.2.1 x.2.2.2.2.2.2.1 x.2.2.2.2.2.2.2.1, F10o1 J3 spec_l1Do.impl x.1 x.2.1 x.2.2.1 x.2.2.2.1 x.2.2.2.2.1 x.2.2.2.2.2.1 x.2.2.2.2.2.2.1 x.2.2.2.2.2.2.2.1, F10o1 J3 spec_l1Do.impl x.1 x.2.1 x.2.2.1 x.2.2.2.1 x.2.2.2.2.1 x.2.2.2.2.2.1 x.2.2.2.2.2.2.1 x.2.2.2.2.2.2.2.1, F10o1 J3 spec_l1Do.impl x.1 x.2.1 x.2.2.1 x.2.2.2.1 x.2.2.2.2.1 x.2.2.2.2.2.1 x.2.2.2.2.2.2.1 x.2.2.2.2.2.2.2.1, F10o1 J3 spec_l1Do.impl x.1 x.2.1 x.2.2.1 x.2.2.2.1 x.2.2.2.2.1 x.2.2.2.2.2.1 x.2.2.2.2.2.2.1 x.2.2.2.2.2.2.2.1, F10o1 J3 spec_l1Do.impl x.1 x.2.1 x.2.2.1 x.2.2.2.1 x.2.2.2.2.1 x.2.2.2.2.2.1 x.2.2.2.2.2.2.1 x.2.2.2.2.2.2.2.1]) ((seg10 spec_l1Do.impl (atT T3 J3) (atT T10 (fun _ => none)) x.1 x.2.1 x.2.2.1 x.2.2.2.1 x.2.2.2.2.1 x.2.2.2.2.2.1 x.2.2.2.2.2.2.1 x.2.2.2.2.2.2.2.1).trans (by simp only [atT_self] <;> rfl)) (all_cons (fun _ h => h) (all_cons (fun _ h => h) (all_cons (fun _ h => h) (all_cons (F10o1_le J3 spec_l1Do.impl x.1 x.2.1 x.2.2.1 x.2.2.2.1 x.2.2.2.2.1 x.2.2.2.2.2.1 x.2.2.2.2.2.2.1 x.2.2.2.2.2.2.2.1) (all_cons (F10o1_le J3 spec_l1Do.impl x.1 x.2.1 x.2.2.1 x.2.2.2.1 x.2.2.2.2.1 x.2.2.2.2.2.1 x.2.2.2.2.2.2.1 x.2.2.2.2.2.2.2.1) (all_cons (F10o1_le J3 spec_l1Do.impl x.1 x.2.1 x.2.2.1 x.2.2.2.1 x.2.2.2.2.1 x.2.2.2.2.2.1 x.2.2.2.2.2.2.1 x.2.2.2.2.2.2.2.1) (all_cons (fun _ h => h) (all_cons (fun _ h => h) (all_cons (fun _ h => h) (all_cons (fun _ h => h) (all_cons (fun _ h => h) (all_cons (fun _ h => h) (all_cons (fun _ h => h) (all_cons (fun _ h => h) (all_cons (fun _ h => h) (all_cons (fun _ h => h) (all_cons (fun _ h => h) (all_cons (fun _ h => h) (all_cons (F10o1_le J3 spec_l1Do.impl x.1 x.2.1 x.2.2.1 x.2.2.2.1 x.2.2.2.2.1 x.2.2.2.2.2.1 x.2.2.2.2.2.2.1 x.2.2.2.2.2.2.2.1) (all_cons (F10o1_le J3 spec_l1Do.impl x.1 x.2.1 x.2.2.1 x.2.2.2.1 x.2.2.2.2.1 x.2.2.2.2.2.1 x.2.2.2.2.2.2.1 x.2.2.2.2.2.2.2.1) (all_cons (F10o1_le J3 spec_l1Do.impl x.1 x.2.1 x.2.2.1 x.2.2.2.1 x.2.2.2.2.1 x.2.2.2.2.2.1 x.2.2.2.2.2.2.1 x.2.2.2.2.2.2.2.1) (all_cons (F10o1_le J3 spec_l1Do.impl x.1 x.2.1 x.2.2.1 x.2.2.2.1 x.2.2.2.2.1 x.2.2.2.2.2.1 x.2.2.2.2.2.2.1 x.2.2.2.2.2.2.2.1) (all_cons (F10o1_le J3 spec_l1Do.impl x.1 x.2.1 x.2.2.1 x.2.2.2.1 x.2.2.2.2.1 x.2.2.2.2.2.1 x.2.2.2.2.2.2.1 x.2.2.2.2.2.2.2.1) (all_cons (F10o1_le J3 spec_l1Do.impl x.1 x.2.1 x.2.2.1 x.2.2.2.1 x.2.2.2.2.1 x.2.2.2.2.2.1 x.2.2.2.2.2.2.1 x.2.2.2.2.2.2.2.1) (all_cons (F10o1_le J3 spec_l1Do.impl x.1 x.2.1 x.2.2.1 x.2.2.2.1 x.2.2.2.2.1 x.2.2.2.2.2.1 x.2.2.2.2.2.2.1 x.2.2.2.2.2.2.2.1) (all_cons (F10o1_le J3 spec_l1Do.impl x.1 x.2.1 x.2.2.1 x.2.2.2.1 x.2.2.2.2.1 x.2.2.2.2.2.1 x.2.2.2.2.2.2.1 x.2.2.2.2.2.2.2.1) (all_cons (F10o1_le J3 spec_l1Do.impl x.1 x.2.1 x.2.2.1 x.2.2.2.1 x.2.2.2.2.1 x.2.2.2.2.2.1 x.2.2.2.2.2.2.1 x.2.2.2.2.2.2.2.1) (all_cons (F10o1_le J3 spec_l1Do.impl x.1 x.2.1 x.2.2.1 x.2.2.2.1 x.2.2.2.2.1 x.2.2.2.2.2.1 x.2.2.2.2.2.2.1 x.2.2.2.2.2.2.2.1) (all_cons (F10o1_le J3 spec_l1Do.impl x.1 x.2.1 x.2.2.1 x.2.2.2.1 x.2.2.2.2.1 x.2.2.2.2.2.1 x.2.2.2.2.2.2.1 x.2.2.2.2.2.2.2.1) (all_cons (F10o1_le J3 spec_l1Do.impl x.1 x.2.1 x.2.2.1 x.2.2.2.1 x.2.2.2.2.1 x.2.2.2.2.2.1 x.2.2.2.2.2.2.1 x.2.2.2.2.2.2.2.1) all_nil)))))))))))))))))))))))))))))))
  have g3 : Good Tryz.prog 55 w0 O Post y T3 p3 L3 := good_lfp fun J3 h3 => good_part (hp (atT T3 J3) (atT T10 (L10 J3))) (runOK_of (hp (atT T3 J3) (atT T10 (L10 J3))) hnp ⟨cutOK_at h3, cutOK_at (g10 J3 h3), trivial⟩ fin) (fun x => (seg3 spec_l1Do.impl (atT T3 J3) (atT T10 (L10 J3)) x.1 x.2.1 x.2.2.1 x.2.2.2.1).trans (by simp only [atT_self] <;> rfl))
  exact good_first (hp (atT T3 L3) (atT T10 (fun _ => none))) (runOK_of (hp (atT T3 L3) (atT T10 (fun _ => none))) hnp ⟨cutOK_at g3, cutOK_at (p := p10) (T := T10) (J := fun _ => none) good_none, trivial⟩ fin) (fun x => (seg0 spec_l1Do.impl (atT T3 L3) (atT T10 (fun _ => none)) x.1 x.2.1).trans (by simp only [atT_self] <;> rfl))
end spec_l1Values

/-! ### loop.example/wholecheck/spec.Eval -/
namespace spec_Eval
noncomputable abbrev c0 : Code := (Tryz.f34.body).getD .skip
noncomputable abbrev pin : Tpl := ⟨[⟨0, false, [.d (.sl q4)]⟩, ⟨1, false, [.d (.sl i64)]⟩], []⟩
noncomputable abbrev pout : Tpl := ⟨[⟨0, false, [.d i64]⟩, ⟨1, false, [.d .bool]⟩], []⟩
noncomputable abbrev p3 : Tpl := ⟨[⟨0, false, [.d (.sl q4)]⟩, ⟨1, false, [.d (.sl i64)]⟩], []⟩
noncomputable def T3 : List Item := (find 3 c0 []).getD []
noncomputable abbrev PI := (List Q4) × (List Int) × Unit
noncomputable abbrev PO := Int × Bool × Unit
noncomputable abbrev G := PI → Option PO
noncomputable abbrev P3 := (List Q4) × (List Int) × Unit
noncomputable abbrev C3 := P3 → Option PO
noncomputable abbrev rs : List ResultVar := [.tmp 4, .tmp 5]
noncomputable def F0 (J3 : C3) (Gspec_TermsValid : spec_TermsValid.G) (Gspec_l1State : spec_l1State.G) (x0 : List Q4) (x1 : List Int) : Option PO :=
  Option.bind (Gspec_TermsValid (x0, (x1.length : Int), ())) fun y0 =>
  bif !y0.1 then
    some (0, false, ())
  else
    Option.bind (Gspec_l1State (x1, ())) fun y1 =>
    bif !y1.1 then
      some (0, false, ())
    else
      J3 (x0, x1, ())
noncomputable def F3 (Gspec_l1Values : spec_l1Values.G) (t0 : List Q4) (t1 : List Int) : Option PO :=
  Option.bind (Gspec_l1Values (t0, t1, ())) fun y2 =>
  bif inb (wI ((t0.length : Int) - 1)) y2.1.length then
    some (y2.1.getD (wI ((t0.length : Int) - 1)).toNat 0, true, ())
  else
    none
noncomputable def hd {R : Type} (Gspec_TermsValid : spec_TermsValid.G) (Gspec_l1State : spec_l1State.G) (Gspec_l1Values : spec_l1Values.G) : Hand R := (handAt 85 [18] true ⟨2, 1, 2, spec_l1Values.pin, spec_l1Values.pout, Gspec_l1Values⟩ (handAt 84 [13] true ⟨1, 1, 1, spec_l1State.pin, spec_l1State.pout, Gspec_l1State⟩ (handAt 55 [9] true ⟨2, 1, 2, spec_TermsValid.pin, spec_TermsValid.pout, Gspec_TermsValid⟩ handNil)))
noncomputable def pg (Gspec_TermsValid : spec_TermsValid.G) (Gspec_l1State : spec_l1State.G) (Gspec_l1Values : spec_l1Values.G) (J3 : List Item → C3) : Prog PO := { nt := 24, np := 2, tb := tabOf tab, hd := hd Gspec_TermsValid Gspec_l1State Gspec_l1Values, cuts := cutsOf [(3, cut p3 J3)], fin := endOf (tabOf tab) rs 2 pout }
noncomputable def q : FuncId → Bool := fun f => hasId [55, 84] f
theorem seg0 (Gspec_TermsValid : spec_TermsValid.G) (Gspec_l1State : spec_l1State.G) (Gspec_l1Values : spec_l1Values.G) (J3 : List Item → C3) (x0 : List Q4) (x1 : List Int) : arun (pg Gspec_TermsValid Gspec_l1State Gspec_l1Values J3) 5000 [.code c0] (mk pin (x0, x1, ())) = F0 (J3 T3) Gspec_TermsValid Gspec_l1State x0 x1 := by kernel_rfl
theorem seg3 (Gspec_TermsValid : spec_TermsValid.G) (Gspec_l1State : spec_l1State.G) (Gspec_l1Values : spec_l1Values.G) (J3 : List Item → C3) (t0 : List Q4) (t1 : List Int) : arun1 (pg Gspec_TermsValid Gspec_l1State Gspec_l1Values J3) 5000 T3 (mk p3 (t0, t1, ())) = F3 Gspec_l1Values t0 t1 := by kernel_rfl
noncomputable def L3 : C3 := fun x => F3 spec_l1Values.impl x.1 x.2.1
noncomputable def impl : G := fun x => F0 L3 spec_TermsValid.impl spec_l1State.impl x.1 x.2.1
theorem L3_eq (t0 : List Q4) (t1 : List Int) : L3 (t0, t1, ()) = F3 spec_l1Values.impl t0 t1 := rfl
theorem impl_eq (x0 : List Q4) (x1 : List Int) : impl (x0, x1, ()) = F0 L3 spec_TermsValid.impl spec_l1State.impl x0 x1 := rfl
theorem con : Con Tryz.prog 34 2 rs.length 2 pin pout impl := by
  refine con_of_run3 (nt := 24) (c := c0) tabGood Tryz.func34 (by kernel_rfl) (by kernel_rfl) (by kernel_rfl) (by kernel_rfl) (by kernel_rfl) (by kernel_rfl) (by kernel_rfl) ?_
  intro w0 O y Post hnp fin
  have hp : ∀ (J3 : List Item → C3), Parts Tryz.prog 34 (pg spec_TermsValid.impl spec_l1State.impl spec_l1Values.impl J3) [(3, cut p3 J3)] := fun J3 => ⟨tab_ok tabGood rfl, (handAt_ok spec_l1Values.con (handAt_ok spec_l1State.con (handAt_ok spec_TermsValid.con handNil_ok))), rfl⟩
  have g3 : Good Tryz.prog 24 w0 O Post y T3 p3 L3 := good_part (hp (atT T3 (fun _ => none))) (runOK_of (hp (atT T3 (fun _ => none))) hnp ⟨cutOK_at (p := p3) (T := T3) (J := fun _ => none) good_none, trivial⟩ fin) (fun x => (seg3 spec_TermsValid.impl spec_l1State.impl spec_l1Values.impl (atT T3 (fun _ => none)) x.1 x.2.1))
  exact good_first (hp (atT T3 L3)) (runOK_of (hp (atT T3 L3)) hnp ⟨cutOK_at g3, trivial⟩ fin) (fun x => (seg0 spec_TermsValid.impl spec_l1State.impl spec_l1Values.impl (atT T3 L3) x.1 x.2.1).trans (by simp only [atT_self] <;> rfl))
end spec_Eval

/-! ### loop.example/wholecheck/impl.WriteExpr -/
namespace impl_WriteExpr
noncomputable abbrev c0 : Code := (Tryz.f14.body).getD .skip
noncomputable abbrev pin : Tpl := ⟨[⟨0, false, [.d (.sl .str)]⟩, ⟨1, false, [.d (.sl q4)]⟩], []⟩
noncomputable abbrev pout : Tpl := ⟨[⟨0, false, [.d .str]⟩], []⟩
noncomputable abbrev p3 : Tpl := ⟨[⟨0, false, [.d (.sl .str)]⟩, ⟨1, false, [.d (.sl q4)]⟩], []⟩
noncomputable def T3 : List Item := (find 3 c0 []).getD []
noncomputable abbrev p5 : Tpl := ⟨[⟨0, false, [.d (.sl .str)]⟩, ⟨5, false, [.row 3000000]⟩, ⟨21, false, [.d (.sl q4)]⟩, ⟨22, false, [.d i64]⟩, ⟨23, false, [.d i64]⟩], [(3000000, .row 9 false .str)]⟩
noncomputable def T5 : List Item := (find 5 c0 []).getD []
noncomputable abbrev p8 : Tpl := ⟨[⟨0, false, [.d (.sl .str)]⟩, ⟨5, false, [.row 3000000]⟩, ⟨6, false, [.d i64]⟩, ⟨7, false, [.ptr 3000001 0]⟩, ⟨21, false, [.d (.sl q4)]⟩, ⟨22, false, [.d i64]⟩, ⟨23, false, [.d i64]⟩], [(3000000, .row 9 false .str), (3000001, .box [.d i64, .d i64, .d i64, .d i64])]⟩
noncomputable def T8 : List Item := (find 8 c0 []).getD []
noncomputable abbrev PI := (List Bs) × (List Q4) × Unit
noncomputable abbrev PO := Bs × Unit
noncomputable abbrev G := PI → Option PO
noncomputable abbrev P3 := (List Bs) × (List Q4) × Unit
noncomputable abbrev C3 := P3 → Option PO
noncomputable abbrev P5 := (List Bs) × (List Q4) × Int × Int × (List Bs) × Unit
noncomputable abbrev C5 := P5 → Option PO
noncomputable abbrev P8 := (List Bs) × Int × (List Q4) × Int × Int × (List Bs) × Int × Int × Int × Int × Unit
noncomputable abbrev C8 := P8 → Option PO
noncomputable abbrev rs : List ResultVar := [.tmp 4]
noncomputable def F0 (J3 : C3) (Gimpl_NamesValid : impl_NamesValid.G) (Gimpl_TermsValid : impl_TermsValid.G) (x0 : List Bs) (x1 : List Q4) : Option PO :=
  Option.bind (Gimpl_NamesValid (x0, ())) fun y0 =>
  bif !y0.1 then
    some ([], ())
  else
    Option.bind (Gimpl_TermsValid (x1, (x0.length : Int), ())) fun y1 =>
    bif !y1.1 then
      some ([], ())
    else
      J3 (x0, x1, ())
noncomputable def F3 (J5 : C5) (t0 : List Bs) (t1 : List Q4) : Option PO :=
  bif decide (0 ≤ (t1.length : Int)) && decide ((t1.length : Int) ≤ (t1.length : Int)) && decide ((t1.length : Int) * 16 ≤ 140737488355328) then
    J5 (t0, t1, (t1.length : Int), 0, (List.replicate (t1.length : Int).toNat [] : List Bs), ())
  else
    none
noncomputable def F5 (J5 : C5) (J8 : C8) (Glib_Itoa : lib_Itoa.G) (t0 : List Bs) (t21 : List Q4) (t22 : Int) (t23 : Int) (r0 : List Bs) : Option PO :=
  bif decide (t23 < t22) then
    bif inb t23 t21.length then
      bif (t21.getD t23.toNat (0, 0, 0, 0)).1 == 0 then
        Option.bind (Glib_Itoa ((t21.getD t23.toNat (0, 0, 0, 0)).2.1, ())) fun y2 =>
        bif inb t23 r0.length then
          bif inb t23 (r0.set t23.toNat y2.1).length then
            bif decide ((((r0.set t23.toNat y2.1).getD t23.toNat []).length : Int) > 4000) then
              some ([], ())
            else
              J5 (t0, t21, t22, wI (t23 + 1), r0.set t23.toNat y2.1, ())
          else
            none
        else
          none
      else
        bif (t21.getD t23.toNat (0, 0, 0, 0)).1 == 1 then
          bif inb (t21.getD t23.toNat (0, 0, 0, 0)).2.1 t0.length then
            bif inb t23 r0.length then
              bif inb t23 (r0.set t23.toNat (t0.getD (t21.getD t23.toNat (0, 0, 0, 0)).2.1.toNat [])).length then
                bif decide ((((r0.set t23.toNat (t0.getD (t21.getD t23.toNat (0, 0, 0, 0)).2.1.toNat [])).getD t23.toNat []).length : Int) > 4000) then
                  some ([], ())
                else
                  J5 (t0, t21, t22, wI (t23 + 1), r0.set t23.toNat (t0.getD (t21.getD t23.toNat (0, 0, 0, 0)).2.1.toNat []), ())
              else
                none
            else
              none
          else
            none
        else
          bif (t21.getD t23.toNat (0, 0, 0, 0)).1 == 7 then
            bif inb (t21.getD t23.toNat (0, 0, 0, 0)).2.2.1 r0.length then
              bif decide (([33] : Bs).length + (r0.getD (t21.getD t23.toNat (0, 0, 0, 0)).2.2.1.toNat []).length ≤ 140737488355328) then
                bif inb t23 r0.length then
                  bif inb t23 (r0.set t23.toNat (([33] : Bs) ++ (r0.getD (t21.getD t23.toNat (0, 0, 0, 0)).2.2.1.toNat []))).length then
                    bif decide ((((r0.set t23.toNat (([33] : Bs) ++ (r0.getD (t21.getD t23.toNat (0, 0, 0, 0)).2.2.1.toNat []))).getD t23.toNat []).length : Int) > 4000) then
                      some ([], ())
                    else
                      J5 (t0, t21, t22, wI (t23 + 1), r0.set t23.toNat (([33] : Bs) ++ (r0.getD (t21.getD t23.toNat (0, 0, 0, 0)).2.2.1.toNat [])), ())
                  else
                    none
                else
                  none
              else
                none
            else
              none
          else
            J8 (t0, t23, t21, t22, t23, r0, (t21.getD t23.toNat (0, 0, 0, 0)).1, (t21.getD t23.toNat (0, 0, 0, 0)).2.1, (t21.getD t23.toNat (0, 0, 0, 0)).2.2.1, (t21.getD t23.toNat (0, 0, 0, 0)).2.2.2, ())
    else
      none
  else
    bif inb (wI ((r0.length : Int) - 1)) r0.length then
      some (r0.getD (wI ((r0.length : Int) - 1)).toNat [], ())
    else
      none
noncomputable def F8 (J5 : C5) (t0 : List Bs) (t6 : Int) (t21 : List Q4) (t22 : Int) (t23 : Int) (r0 : List Bs) (b1_0 : Int) (b1_1 : Int) (b1_2 : Int) (b1_3 : Int) : Option PO :=
  bif inb b1_2 r0.length then
    bif decide (0 ≤ b1_0) && decide (b1_0 ≤ wI (b1_0 + 1)) && decide (wI (b1_0 + 1) ≤ (([32, 32, 43, 45, 42, 60, 61, 33, 38, 124] : Bs).length : Int)) then
      bif inb b1_3 r0.length then
        bif decide (([40] : Bs).length + (r0.getD b1_2.toNat []).length ≤ 140737488355328) then
          bif decide ((([40] : Bs) ++ (r0.getD b1_2.toNat [])).length + ([32] : Bs).length ≤ 140737488355328) then
            bif decide (((([40] : Bs) ++ (r0.getD b1_2.toNat [])) ++ ([32] : Bs)).length + ((([32, 32, 43, 45, 42, 60, 61, 33, 38, 124] : Bs).take (wI (b1_0 + 1)).toNat).drop b1_0.toNat).length ≤ 140737488355328) then
              bif decide ((((([40] : Bs) ++ (r0.getD b1_2.toNat [])) ++ ([32] : Bs)) ++ ((([32, 32, 43, 45, 42, 60, 61, 33, 38, 124] : Bs).take (wI (b1_0 + 1)).toNat).drop b1_0.toNat)).length + ([32] : Bs).length ≤ 140737488355328) then
                bif decide (((((([40] : Bs) ++ (r0.getD b1_2.toNat [])) ++ ([32] : Bs)) ++ ((([32, 32, 43, 45, 42, 60, 61, 33, 38, 124] : Bs).take (wI (b1_0 + 1)).toNat).drop b1_0.toNat)) ++ ([32] : Bs)).length + (r0.getD b1_3.toNat []).length ≤ 140737488355328) then
                  bif decide ((((((([40] : Bs) ++ (r0.getD b1_2.toNat [])) ++ ([32] : Bs)) ++ ((([32, 32, 43, 45, 42, 60, 61, 33, 38, 124] : Bs).take (wI (b1_0 + 1)).toNat).drop b1_0.toNat)) ++ ([32] : Bs)) ++ (r0.getD b1_3.toNat [])).length + ([41] : Bs).length ≤ 140737488355328) then
                    bif inb t6 r0.length then
                      bif inb t6 (r0.set t6.toNat ((((((([40] : Bs) ++ (r0.getD b1_2.toNat [])) ++ ([32] : Bs)) ++ ((([32, 32, 43, 45, 42, 60, 61, 33, 38, 124] : Bs).take (wI (b1_0 + 1)).toNat).drop b1_0.toNat)) ++ ([32] : Bs)) ++ (r0.getD b1_3.toNat [])) ++ ([41] : Bs))).length then
                        bif decide ((((r0.set t6.toNat ((((((([40] : Bs) ++ (r0.getD b1_2.toNat [])) ++ ([32] : Bs)) ++ ((([32, 32, 43, 45, 42, 60, 61, 33, 38, 124] : Bs).take (wI (b1_0 + 1)).toNat).drop b1_0.toNat)) ++ ([32] : Bs)) ++ (r0.getD b1_3.toNat [])) ++ ([41] : Bs))).getD t6.toNat []).length : Int) > 4000) then
                          some ([], ())
                        else
                          J5 (t0, t21, t22, wI (t23 + 1), r0.set t6.toNat ((((((([40] : Bs) ++ (r0.getD b1_2.toNat [])) ++ ([32] : Bs)) ++ ((([32, 32, 43, 45, 42, 60, 61, 33, 38, 124] : Bs).take (wI (b1_0 + 1)).toNat).drop b1_0.toNat)) ++ ([32] : Bs)) ++ (r0.getD b1_3.toNat [])) ++ ([41] : Bs)), ())
                      else
                        none
                    else
                      none
                  else
                    none
                else
                  none
              else
                none
            else
              none
          else
            none
        else
          none
      else
        none
    else
      none
  else
    none
noncomputable def hd {R : Type} (Gimpl_NamesValid : impl_NamesValid.G) (Gimpl_TermsValid : impl_TermsValid.G) (Glib_Itoa : lib_Itoa.G) : Hand R := (handAt 45 [61] true ⟨1, 1, 0, lib_Itoa.pin, lib_Itoa.pout, Glib_Itoa⟩ (handAt 23 [15] true ⟨2, 1, 2, impl_TermsValid.pin, impl_TermsValid.pout, Gimpl_TermsValid⟩ (handAt 16 [9] true ⟨1, 1, 1, impl_NamesValid.pin, impl_NamesValid.pout, Gimpl_NamesValid⟩ handNil)))
noncomputable def pg (Gimpl_NamesValid : impl_NamesValid.G) (Gimpl_TermsValid : impl_TermsValid.G) (Glib_Itoa : lib_Itoa.G) (J3 : List Item → C3) (J5 : List Item → C5) (J8 : List Item → C8) : Prog PO := { nt := 97, np := 2, tb := tabOf tab, hd := hd Gimpl_NamesValid Gimpl_TermsValid Glib_Itoa, cuts := cutsOf [(3, cut p3 J3), (5, cut p5 J5), (8, cut p8 J8)], fin := endOf (tabOf tab) rs 2 pout }
noncomputable def q : FuncId → Bool := fun f => hasId [16, 23, 45] f
theorem seg0 (Gimpl_NamesValid : impl_NamesValid.G) (Gimpl_TermsValid : impl_TermsValid.G) (Glib_Itoa : lib_Itoa.G) (J3 : List Item → C3) (J5 : List Item → C5) (J8 : List Item → C8) (x0 : List Bs) (x1 : List Q4) : arun (pg Gimpl_NamesValid Gimpl_TermsValid Glib_Itoa J3 J5 J8) 5000 [.code c0] (mk pin (x0, x1, ())) = F0 (J3 T3) Gimpl_NamesValid Gimpl_TermsValid x0 x1 := by kernel_rfl
theorem seg3 (Gimpl_NamesValid : impl_NamesValid.G) (Gimpl_TermsValid : impl_TermsValid.G) (Glib_Itoa : lib_Itoa.G) (J3 : List Item → C3) (J5 : List Item → C5) (J8 : List Item → C8) (t0 : List Bs) (t1 : List Q4) : arun1 (pg Gimpl_NamesValid Gimpl_TermsValid Glib_Itoa J3 J5 J8) 5000 T3 (mk p3 (t0, t1, ())) = F3 (J5 T5) t0 t1 := by kernel_rfl
theorem seg5 (Gimpl_NamesValid : impl_NamesValid.G) (Gimpl_TermsValid : impl_TermsValid.G) (Glib_Itoa : lib_Itoa.G) (J3 : List Item → C3) (J5 : List Item → C5) (J8 : List Item → C8) (t0 : List Bs) (t21 : List Q4) (t22 : Int) (t23 : Int) (r0 : List Bs) : arun1 (pg Gimpl_NamesValid Gimpl_TermsValid Glib_Itoa J3 J5 J8) 5000 T5 (mk p5 (t0, t21, t22, t23, r0, ())) = F5 (J5 T5) (J8 T8) Glib_Itoa t0 t21 t22 t23 r0 := by kernel_rfl
theorem seg8 (Gimpl_NamesValid : impl_NamesValid.G) (Gimpl_TermsValid : impl_TermsValid.G) (Glib_Itoa : lib_Itoa.G) (J3 : List Item → C3) (J5 : List Item → C5) (J8 : List Item → C8) (t0 : List Bs) (t6 : Int) (t21 : List Q4) (t22 : Int) (t23 : Int) (r0 : List Bs) (b1_0 : Int) (b1_1 : Int) (b1_2 : Int) (b1_3 : Int) : arunQ (pg Gimpl_NamesValid Gimpl_TermsValid Glib_Itoa J3 J5 J8) q [3000000] [6, 21] 5000 T8 (mk p8 (t0, t6, t21, t22, t23, r0, b1_0, b1_1, b1_2, b1_3, ())) = List.replicate (arunQ (pg Gimpl_NamesValid Gimpl_TermsValid Glib_Itoa J3 J5 J8) q [3000000] [6, 21] 5000 T8 (mk p8 (t0, t6, t21, t22, t23, r0, b1_0, b1_1, b1_2, b1_3, ()))).length (F8 (J5 T5) t0 t6 t21 t22 t23 r0 b1_0 b1_1 b1_2 b1_3) := by kernel_rfl
noncomputable def L8 (J5 : C5) : C8 := fun x => F8 J5 x.1 x.2.1 x.2.2.1 x.2.2.2.1 x.2.2.2.2.1 x.2.2.2.2.2.1 x.2.2.2.2.2.2.1 x.2.2.2.2.2.2.2.1 x.2.2.2.2.2.2.2.2.1 x.2.2.2.2.2.2.2.2.2.1
noncomputable def L5 : C5 := lfp fun J5 x => F5 J5 (L8 J5) lib_Itoa.impl x.1 x.2.1 x.2.2.1 x.2.2.2.1 x.2.2.2.2.1
noncomputable def L3 : C3 := fun x => F3 L5 x.1 x.2.1
noncomputable def impl : G := fun x => F0 L3 impl_NamesValid.impl impl_TermsValid.impl x.1 x.2.1
theorem F8_le {J5 J5' : C5} (h5 : OLe J5 J5') (t0 : List Bs) (t6 : Int) (t21 : List Q4) (t22 : Int) (t23 : Int) (r0 : List Bs) (b1_0 : Int) (b1_1 : Int) (b1_2 : Int) (b1_3 : Int) : OptLe (F8 J5 t0 t6 t21 t22 t23 r0 b1_0 b1_1 b1_2 b1_3) (F8 J5' t0 t6 t21 t22 t23 r0 b1_0 b1_1 b1_2 b1_3) := by unfold F8; exact .cond (.cond (.cond (.cond (.cond (.cond (.cond (.cond (.cond (.cond (.cond (.cond (.refl _) (.of h5 _)) (.refl _)) (.refl _)) (.refl _)) (.refl _)) (.refl _)) (.refl _)) (.refl _)) (.refl _)) (.refl _)) (.refl _)) (.refl _)
theorem F5_le {J5 J5' : C5} (h5 : OLe J5 J5') {J8 J8' : C8} (h8 : OLe J8 J8') {Glib_Itoa : lib_Itoa.G} (t0 : List Bs) (t21 : List Q4) (t22 : Int) (t23 : Int) (r0 : List Bs) : OptLe (F5 J5 J8 Glib_Itoa t0 t21 t22 t23 r0) (F5 J5' J8' Glib_Itoa t0 t21 t22 t23 r0) := by unfold F5; exact .cond (.cond (.cond (.bind (.refl _) fun _ => .cond (.cond (.cond (.refl _) (.of h5 _)) (.refl _)) (.refl _)) (.cond (.cond (.cond (.cond (.cond (.refl _) (.of h5 _)) (.refl _)) (.refl _)) (.refl _)) (.cond (.cond (.cond (.cond (.cond (.cond (.refl _) (.of h5 _)) (.refl _)) (.refl _)) (.refl _)) (.refl _)) (.of h8 _)))) (.refl _)) (.refl _)
theorem L8_eq (J5 : C5) (t0 : List Bs) (t6 : Int) (t21 : List Q4) (t22 : Int) (t23 : Int) (r0 : List Bs) (b1_0 : Int) (b1_1 : Int) (b1_2 : Int) (b1_3 : Int) : L8 J5 (t0, t6, t21, t22, t23, r0, b1_0, b1_1, b1_2, b1_3, ()) = F8 J5 t0 t6 t21 t22 t23 r0 b1_0 b1_1 b1_2 b1_3 := rfl
theorem L8_le {J5 J5' : C5} (h5 : OLe J5 J5') : OLe (L8 J5) (L8 J5') := fun x => F8_le h5 x.1 x.2.1 x.2.2.1 x.2.2.2.1 x.2.2.2.2.1 x.2.2.2.2.2.1 x.2.2.2.2.2.2.1 x.2.2.2.2.2.2.2.1 x.2.2.2.2.2.2.2.2.1 x.2.2.2.2.2.2.2.2.2.1
theorem L5_mono : OMono fun J5 (x : P5) => F5 J5 (L8 J5) lib_Itoa.impl x.1 x.2.1 x.2.2.1 x.2.2.2.1 x.2.2.2.2.1 := fun J J' h5 x => F5_le h5 (L8_le h5) x.1 x.2.1 x.2.2.1 x.2.2.2.1 x.2.2.2.2.1
theorem L5_eq (t0 : List Bs) (t21 : List Q4) (t22 : Int) (t23 : Int) (r0 : List Bs) : L5 (t0, t21, t22, t23, r0, ()) = F5 (L5) (L8 (L5)) lib_Itoa.impl t0 t21 t22 t23 r0 := congrFun (lfp_eq (L5_mono)) _
theorem L3_eq (t0 : List Bs) (t1 : List Q4) : L3 (t0, t1, ()) = F3 (L5) t0 t1 := rfl
theorem impl_eq (x0 : List Bs) (x1 : List Q4) : impl (x0, x1, ()) = F0 L3 impl_NamesValid.impl impl_TermsValid.impl x0 x1 := rfl
theorem con : Con Tryz.prog 14 2 rs.length 2 pin pout impl := by
  refine con_of_run3 (nt := 97) (c := c0) tabGood Tryz.func14 (by kernel_rfl) (by kernel_rfl) (by kernel_rfl) (by kernel_rfl) (by kernel_rfl) (by kernel_rfl) (by kernel_rfl) ?_
  intro w0 O y Post hnp fin
  have hp : ∀ (J3 : List Item → C3), ∀ (J5 : List Item → C5), ∀ (J8 : List Item → C8), Parts Tryz.prog 14 (pg impl_NamesValid.impl impl_TermsValid.impl lib_Itoa.impl J3 J5 J8) [(3, cut p3 J3), (5, cut p5 J5), (8, cut p8 J8)] := fun J3 J5 J8 => ⟨tab_ok tabGood rfl, (handAt_ok lib_Itoa.con (handAt_ok impl_TermsValid.con (handAt_ok impl_NamesValid.con handNil_ok))), rfl⟩
  have g8 : ∀ (J5 : C5), Good Tryz.prog 97 w0 O Post y T5 p5 J5 → Good Tryz.prog 97 w0 O Post y T8 p8 (L8 J5) := fun J5 h5 => good_quiet (hs := hd impl_NamesValid.impl impl_TermsValid.impl lib_Itoa.impl) (cv' := hd impl_NamesValid.impl impl_TermsValid.impl lib_Itoa.impl) (Checked.mixed Tryz.checked) (hp (atT T3 (fun _ => none)) (atT T5 J5) (atT T8 (fun _ => none))) (handAt_D lib_Itoa.con (by rfl) rfl (handAt_D impl_TermsValid.con (by rfl) rfl (handAt_D impl_NamesValid.con (by rfl) rfl handNil_D))) (handAt_nat (handAt_nat (handAt_nat handNil_nat))) (handAt_nat (handAt_nat (handAt_nat handNil_nat))) (runOK_of (hp (atT T3 (fun _ => none)) (atT T5 J5) (atT T8 (fun _ => none))) hnp ⟨cutOK_at (p := p3) (T := T3) (J := fun _ => none) good_none, cutOK_at h5, cutOK_at (p := p8) (T := T8) (J := fun _ => none) good_none, trivial⟩ fin) (fun x => all_same ⟨_, (seg8 impl_NamesValid.impl impl_TermsValid.impl lib_Itoa.impl (atT T3 (fun _ => none)) (atT T5 J5) (atT T8 (fun _ => none)) x.1 x.2.1 x.2.2.1 x.2.2.2.1 x.2.2.2.2.1 x.2.2.2.2.2.1 x.2.2.2.2.2.2.1 x.2.2.2.2.2.2.2.1 x.2.2.2.2.2.2.2.2.1 x.2.2.2.2.2.2.2.2.2.1).trans (by simp only [atT_self] <;> rfl)⟩)
  have g5 : Good Tryz.prog 97 w0 O Post y T5 p5 L5 := good_lfp fun J5 h5 => good_part (hp (atT T3 (fun _ => none)) (atT T5 J5) (atT T8 (L8 J5))) (runOK_of (hp (atT T3 (fun _ => none)) (atT T5 J5) (atT T8 (L8 J5))) hnp ⟨cutOK_at (p := p3) (T := T3) (J := fun _ => none) good_none, cutOK_at h5, cutOK_at (g8 J5 h5), trivial⟩ fin) (fun x => (seg5 impl_NamesValid.impl impl_TermsValid.impl lib_Itoa.impl (atT T3 (fun _ => none)) (atT T5 J5) (atT T8 (L8 J5)) x.1 x.2.1 x.2.2.1 x.2.2.2.1 x.2.2.2.2.1).trans (by simp only [atT_self] <;> rfl))
  have g3 : Good Tryz.prog 97 w0 O Post y T3 p3 L3 := good_part (hp (atT T3 (fun _ => none)) (atT T5 L5) (atT T8 (fun _ => none))) (runOK_of (hp (atT T3 (fun _ => none)) (atT T5 L5) (atT T8 (fun _ => none))) hnp ⟨cutOK_at (p := p3) (T := T3) (J := fun _ => none) good_none, cutOK_at g5, cutOK_at (p := p8) (T := T8) (J := fun _ => none) good_none, trivial⟩ fin) (fun x => (seg3 impl_NamesValid.impl impl_TermsValid.impl lib_Itoa.impl (atT T3 (fun _ => none)) (atT T5 L5) (atT T8 (fun _ => none)) x.1 x.2.1).trans (by simp only [atT_self] <;> rfl))
  exact good_first (hp (atT T3 L3) (atT T5 (fun _ => none)) (atT T8 (fun _ => none))) (runOK_of (hp (atT T3 L3) (atT T5 (fun _ => none)) (atT T8 (fun _ => none))) hnp ⟨cutOK_at g3, cutOK_at (p := p5) (T := T5) (J := fun _ => none) good_none, cutOK_at (p := p8) (T := T8) (J := fun _ => none) good_none, trivial⟩ fin) (fun x => (seg0 impl_NamesValid.impl impl_TermsValid.impl lib_Itoa.impl (atT T3 L3) (atT T5 (fun _ => none)) (atT T8 (fun _ => none)) x.1 x.2.1).trans (by simp only [atT_self] <;> rfl))
end impl_WriteExpr

/-! ### (*loop.example/wholecheck/impl.scan).put -/
namespace impl_scan_put_1
noncomputable abbrev c0 : Code := (Tryz.f64.body).getD .skip
noncomputable abbrev pin : Tpl := ⟨[⟨0, false, [.ptr 500001 0]⟩, ⟨1, true, [.d q4]⟩], [(500001, .box [.row 500002, .d .str, .d i64, .row 500003]), (500002, .row 9 true .str), (500003, .row 52 true q4)]⟩
noncomputable abbrev pout : Tpl := ⟨[⟨0, false, [.d i64]⟩, ⟨1, false, [.ptr 500001 0]⟩], [(500001, .box [.row 500002, .d .str, .d i64, .row 500003]), (500002, .row 9 true .str), (500003, .row 52 true q4)]⟩
noncomputable abbrev p1 : Tpl := ⟨[⟨0, false, [.ptr 500001 0]⟩, ⟨3, false, [.ptr 3000000 0]⟩], [(500001, .box [.row 500002, .d .str, .d i64, .row 500003]), (3000000, .box [.d i64, .d i64, .d i64, .d i64]), (500002, .row 9 true .str), (500003, .row 52 true q4)]⟩
noncomputable def T1 : List Item := (find 1 c0 []).getD []
noncomputable abbrev p4 : Tpl := ⟨[⟨0, false, [.ptr 500001 0]⟩, ⟨3, false, [.ptr 3000000 0]⟩], [(500001, .box [.row 500002, .d .str, .d i64, .row 500003]), (3000000, .box [.d i64, .d i64, .d i64, .d i64]), (500002, .row 9 true .str), (500003, .row 52 true q4)]⟩
noncomputable def T4 : List Item := (find 4 c0 []).getD []
noncomputable abbrev PI := Q4 × Bs × Int × (List Bs) × (List Q4) × Unit
noncomputable abbrev PO := Int × Bs × Int × (List Bs) × (List Q4) × Unit
noncomputable abbrev G := PI → Option PO
noncomputable abbrev P1 := Bs × Int × Int × Int × Int × Int × (List Bs) × (List Q4) × Unit
noncomputable abbrev C1 := P1 → Option PO
noncomputable abbrev P4 := Bs × Int × Int × Int × Int × Int × (List Bs) × (List Q4) × Unit
noncomputable abbrev C4 := P4 → Option PO
noncomputable abbrev rs : List ResultVar := [.tmp 4]
noncomputable def F0 (J1 : C1) (x1 : Int × Int × Int × Int) (c1_0 : Bs) (c1_1 : Int) (s2 : List Bs) (s3 : List Q4) : Option PO :=
  J1 (c1_0, c1_1, x1.1, x1.2.1, x1.2.2.1, x1.2.2.2, s2, s3, ())
noncomputable def F1 (J4 : C4) (Gslices_Index_of_1 : slices_Index_of_1.G) (c1_0 : Bs) (c1_1 : Int) (b0_0 : Int) (b0_1 : Int) (b0_2 : Int) (b0_3 : Int) (s2 : List Bs) (s3 : List Q4) : Option PO :=
  Option.bind (Gslices_Index_of_1 (s3, (b0_0, b0_1, b0_2, b0_3), ())) fun y0 =>
  bif decide (y0.1 ≥ 0) then
    some (y0.1, c1_0, c1_1, s2, s3, ())
  else
    J4 (c1_0, c1_1, b0_0, b0_1, b0_2, b0_3, s2, s3, ())
noncomputable def F4 (c1_0 : Bs) (c1_1 : Int) (b0_0 : Int) (b0_1 : Int) (b0_2 : Int) (b0_3 : Int) (s2 : List Bs) (s3 : List Q4) : Option PO :=
  bif decide ((s3.length + ([(b0_0, b0_1, b0_2, b0_3)] : List Q4).length) * 32 ≤ 140737488355328) then
    some (wI (((s3 ++ ([(b0_0, b0_1, b0_2, b0_3)] : List Q4)).length : Int) - 1), c1_0, c1_1, s2, s3 ++ ([(b0_0, b0_1, b0_2, b0_3)] : List Q4), ())
  else
    none
noncomputable def hd {R : Type} (Gslices_Index_of_1 : slices_Index_of_1.G) : Hand R := (handAt 109 [11] true ⟨2, 1, 2, slices_Index_of_1.pin, slices_Index_of_1.pout, Gslices_Index_of_1⟩ handNil)
noncomputable def pg (Gslices_Index_of_1 : slices_Index_of_1.G) (J1 : List Item → C1) (J4 : List Item → C4) : Prog PO := { nt := 31, np := 2, tb := tabOf tab, hd := hd Gslices_Index_of_1, cuts := cutsOf [(1, cut p1 J1), (4, cut p4 J4)], fin := endOf (tabOf tab) rs 2 pout }
noncomputable def q : FuncId → Bool := fun f => hasId [109] f
theorem seg0 (Gslices_Index_of_1 : slices_Index_of_1.G) (J1 : List Item → C1) (J4 : List Item → C4) (x1 : Int × Int × Int × Int) (c1_0 : Bs) (c1_1 : Int) (s2 : List Bs) (s3 : List Q4) : arun (pg Gslices_Index_of_1 J1 J4) 5000 [.code c0] (mk pin (x1, c1_0, c1_1, s2, s3, ())) = F0 (J1 T1) x1 c1_0 c1_1 s2 s3 := by kernel_rfl
theorem seg1 (Gslices_Index_of_1 : slices_Index_of_1.G) (J1 : List Item → C1) (J4 : List Item → C4) (c1_0 : Bs) (c1_1 : Int) (b0_0 : Int) (b0_1 : Int) (b0_2 : Int) (b0_3 : Int) (s2 : List Bs) (s3 : List Q4) : arunQ (pg Gslices_Index_of_1 J1 J4) q [] [] 5000 T1 (mk p1 (c1_0, c1_1, b0_0, b0_1, b0_2, b0_3, s2, s3, ())) = List.replicate (arunQ (pg Gslices_Index_of_1 J1 J4) q [] [] 5000 T1 (mk p1 (c1_0, c1_1, b0_0, b0_1, b0_2, b0_3, s2, s3, ()))).length (F1 (J4 T4) Gslices_Index_of_1 c1_0 c1_1 b0_0 b0_1 b0_2 b0_3 s2 s3) := by kernel_rfl
theorem seg4 (Gslices_Index_of_1 : slices_Index_of_1.G) (J1 : List Item → C1) (J4 : List Item → C4) (c1_0 : Bs) (c1_1 : Int) (b0_0 : Int) (b0_1 : Int) (b0_2 : Int) (b0_3 : Int) (s2 : List Bs) (s3 : List Q4) : arunE (pg Gslices_Index_of_1 J1 J4) 5000 T4 (mk p4 (c1_0, c1_1, b0_0, b0_1, b0_2, b0_3, s2, s3, ())) = List.replicate (arunE (pg Gslices_Index_of_1 J1 J4) 5000 T4 (mk p4 (c1_0, c1_1, b0_0, b0_1, b0_2, b0_3, s2, s3, ()))).length (F4 c1_0 c1_1 b0_0 b0_1 b0_2 b0_3 s2 s3) := by kernel_rfl
noncomputable def L4 : C4 := fun x => F4 x.1 x.2.1 x.2.2.1 x.2.2.2.1 x.2.2.2.2.1 x.2.2.2.2.2.1 x.2.2.2.2.2.2.1 x.2.2.2.2.2.2.2.1
noncomputable def L1 : C1 := fun x => F1 L4 slices_Index_of_1.impl x.1 x.2.1 x.2.2.1 x.2.2.2.1 x.2.2.2.2.1 x.2.2.2.2.2.1 x.2.2.2.2.2.2.1 x.2.2.2.2.2.2.2.1
noncomputable def impl : G := fun x => F0 L1 x.1 x.2.1 x.2.2.1 x.2.2.2.1 x.2.2.2.2.1
theorem L4_eq (c1_0 : Bs) (c1_1 : Int) (b0_0 : Int) (b0_1 : Int) (b0_2 : Int) (b0_3 : Int) (s2 : List Bs) (s3 : List Q4) : L4 (c1_0, c1_1, b0_0, b0_1, b0_2, b0_3, s2, s3, ()) = F4 c1_0 c1_1 b0_0 b0_1 b0_2 b0_3 s2 s3 := rfl
theorem L1_eq (c1_0 : Bs) (c1_1 : Int) (b0_0 : Int) (b0_1 : Int) (b0_2 : Int) (b0_3 : Int) (s2 : List Bs) (s3 : List Q4) : L1 (c1_0, c1_1, b0_0, b0_1, b0_2, b0_3, s2, s3, ()) = F1 (L4) slices_Index_of_1.impl c1_0 c1_1 b0_0 b0_1 b0_2 b0_3 s2 s3 := rfl
theorem impl_eq (x1 : Int × Int × Int × Int) (c1_0 : Bs) (c1_1 : Int) (s2 : List Bs) (s3 : List Q4) : impl (x1, c1_0, c1_1, s2, s3, ()) = F0 L1 x1 c1_0 c1_1 s2 s3 := rfl
theorem con : Con Tryz.prog 64 2 rs.length 2 pin pout impl := by
  refine con_of_run3 (nt := 31) (c := c0) tabGood Tryz.func64 (by kernel_rfl) (by kernel_rfl) (by kernel_rfl) (by kernel_rfl) (by kernel_rfl) (by kernel_rfl) (by kernel_rfl) ?_
  intro w0 O y Post hnp fin
  have hp : ∀ (J1 : List Item → C1), ∀ (J4 : List Item → C4), Parts Tryz.prog 64 (pg slices_Index_of_1.impl J1 J4) [(1, cut p1 J1), (4, cut p4 J4)] := fun J1 J4 => ⟨tab_ok tabGood rfl, (handAt_ok slices_Index_of_1.con handNil_ok), rfl⟩
  have g4 : Good Tryz.prog 31 w0 O Post y T4 p4 L4 := good_orders (hs := hd slices_Index_of_1.impl) (cv' := hd slices_Index_of_1.impl) (Checked.mixed Tryz.checked) (hp (atT T1 (fun _ => none)) (atT T4 (fun _ => none))) (handAt_ok slices_Index_of_1.con handNil_ok) (handAt_nat handNil_nat) (handAt_nat handNil_nat) (runOK_of (hp (atT T1 (fun _ => none)) (atT T4 (fun _ => none))) hnp ⟨cutOK_at (p := p1) (T := T1) (J := fun _ => none) good_none, cutOK_at (p := p4) (T := T4) (J := fun _ => none) good_none, trivial⟩ fin) (fun x => all_same ⟨_, (seg4 slices_Index_of_1.impl (atT T1 (fun _ => none)) (atT T4 (fun _ => none)) x.1 x.2.1 x.2.2.1 x.2.2.2.1 x.2.2.2.2.1 x.2.2.2.2.2.1 x.2.2.2.2.2.2.1 x.2.2.2.2.2.2.2.1)⟩)
  have g1 : Good Tryz.prog 31 w0 O Post y T1 p1 L1 := good_quiet (hs := hd slices_Index_of_1.impl) (cv' := hd slices_Index_of_1.impl) (Checked.mixed Tryz.checked) (hp (atT T1 (fun _ => none)) (atT T4 L4)) (handAt_D slices_Index_of_1.con (by rfl) rfl handNil_D) (handAt_nat handNil_nat) (handAt_nat handNil_nat) (runOK_of (hp (atT T1 (fun _ => none)) (atT T4 L4)) hnp ⟨cutOK_at (p := p1) (T := T1) (J := fun _ => none) good_none, cutOK_at g4, trivial⟩ fin) (fun x => all_same ⟨_, (seg1 slices_Index_of_1.impl (atT T1 (fun _ => none)) (atT T4 L4) x.1 x.2.1 x.2.2.1 x.2.2.2.1 x.2.2.2.2.1 x.2.2.2.2.2.1 x.2.2.2.2.2.2.1 x.2.2.2.2.2.2.2.1).trans (by simp only [atT_self] <;> rfl)⟩)
  exact good_first (hp (atT T1 L1) (atT T4 (fun _ => none))) (runOK_of (hp (atT T1 L1) (atT T4 (fun _ => none))) hnp ⟨cutOK_at g1, cutOK_at (p := p4) (T := T4) (J := fun _ => none) good_none, trivial⟩ fin) (fun x => (seg0 slices_Index_of_1.impl (atT T1 L1) (atT T4 (fun _ => none)) x.1 x.2.1 x.2.2.1 x.2.2.2.1 x.2.2.2.2.1).trans (by simp only [atT_self] <;> rfl))
end impl_scan_put_1

/-! ### loop.example/wholecheck/impl.Trimmed$1 -/
namespace impl_Trimmed_1
noncomputable abbrev c0 : Code := (Tryz.f63.body).getD .skip
noncomputable abbrev pin : Tpl := ⟨[⟨0, false, [.d i64]⟩, ⟨1, false, [.ptr 500001 0]⟩, ⟨2, false, [.ptr 500002 0]⟩, ⟨3, false, [.ptr 500003 0]⟩], [(500001, .box [.d (.sl q4)]), (500002, .box [.fn 63 [(500001, 0), (500002, 0), (500003, 0)]]), (500003, .box [.ptr 500004 0]), (500004, .box [.row 500005, .d .str, .d i64, .row 500006]), (500005, .row 9 true .str), (500006, .row 52 true q4)]⟩
noncomputable abbrev pout : Tpl := ⟨[⟨0, false, [.d i64]⟩, ⟨2, false, [.ptr 500001 0]⟩, ⟨3, false, [.ptr 500002 0]⟩, ⟨4, false, [.ptr 500003 0]⟩], [(500001, .box [.d (.sl q4)]), (500002, .box [.fn 63 [(500001, 0), (500002, 0), (500003, 0)]]), (500003, .box [.ptr 500004 0]), (500004, .box [.row 500005, .d .str, .d i64, .row 500006]), (500005, .row 9 true .str), (500006, .row 52 true q4)]⟩
noncomputable abbrev PI := Int × (List Q4) × Bs × Int × (List Bs) × (List Q4) × Unit
noncomputable abbrev PO := Int × (List Q4) × Bs × Int × (List Bs) × (List Q4) × Unit
noncomputable abbrev G := PI → Option PO
noncomputable abbrev rs : List ResultVar := [.tmp 5]
noncomputable def F0 (Gimpl_Trimmed_1 : G) (Gimpl_scan_put_1 : impl_scan_put_1.G) (x0 : Int) (c1_0 : List Q4) (c4_0 : Bs) (c4_1 : Int) (s5 : List Bs) (s6 : List Q4) : Option PO :=
  bif inb x0 c1_0.length then
    bif decide ((c1_0.getD x0.toNat (0, 0, 0, 0)).1 ≥ 2) then
      Option.bind (Gimpl_Trimmed_1 ((c1_0.getD x0.toNat (0, 0, 0, 0)).2.2.1, c1_0, c4_0, c4_1, s5, s6, ())) fun y0 =>
      bif (c1_0.getD x0.toNat (0, 0, 0, 0)).1 == 7 then
        Option.bind (Gimpl_scan_put_1 (((c1_0.getD x0.toNat (0, 0, 0, 0)).1, (c1_0.getD x0.toNat (0, 0, 0, 0)).2.1, y0.1, y0.1), y0.2.2.1, y0.2.2.2.1, y0.2.2.2.2.1, y0.2.2.2.2.2.1, ())) fun y1 =>
        some (y1.1, y0.2.1, y1.2.1, y1.2.2.1, y1.2.2.2.1, y1.2.2.2.2.1, ())
      else
        Option.bind (Gimpl_Trimmed_1 ((c1_0.getD x0.toNat (0, 0, 0, 0)).2.2.2, y0.2.1, y0.2.2.1, y0.2.2.2.1, y0.2.2.2.2.1, y0.2.2.2.2.2.1, ())) fun y2 =>
        Option.bind (Gimpl_scan_put_1 (((c1_0.getD x0.toNat (0, 0, 0, 0)).1, (c1_0.getD x0.toNat (0, 0, 0, 0)).2.1, y0.1, y2.1), y2.2.2.1, y2.2.2.2.1, y2.2.2.2.2.1, y2.2.2.2.2.2.1, ())) fun y3 =>
        some (y3.1, y2.2.1, y3.2.1, y3.2.2.1, y3.2.2.2.1, y3.2.2.2.2.1, ())
    else
      Option.bind (Gimpl_scan_put_1 (c1_0.getD x0.toNat (0, 0, 0, 0), c4_0, c4_1, s5, s6, ())) fun y4 =>
      some (y4.1, c1_0, y4.2.1, y4.2.2.1, y4.2.2.2.1, y4.2.2.2.2.1, ())
  else
    none
noncomputable def hd {R : Type} (Gimpl_Trimmed_1 : G) (Gimpl_scan_put_1 : impl_scan_put_1.G) : Hand R := (handAt 64 [32] true ⟨2, 1, 2, impl_scan_put_1.pin, impl_scan_put_1.pout, Gimpl_scan_put_1⟩ (handAt 63 [17, 28] false ⟨4, 1, 4, pin, pout, Gimpl_Trimmed_1⟩ handNil))
noncomputable def pg (Gimpl_Trimmed_1 : G) (Gimpl_scan_put_1 : impl_scan_put_1.G) : Prog PO := { nt := 33, np := 4, tb := tabOf tab, hd := hd Gimpl_Trimmed_1 Gimpl_scan_put_1, cuts := cutsOf [], fin := endOf (tabOf tab) rs 4 pout }
noncomputable def q : FuncId → Bool := fun f => hasId [] f
theorem seg0 (Gimpl_Trimmed_1 : G) (Gimpl_scan_put_1 : impl_scan_put_1.G) (x0 : Int) (c1_0 : List Q4) (c4_0 : Bs) (c4_1 : Int) (s5 : List Bs) (s6 : List Q4) : arun (pg Gimpl_Trimmed_1 Gimpl_scan_put_1) 5000 [.code c0] (mk pin (x0, c1_0, c4_0, c4_1, s5, s6, ())) = F0 Gimpl_Trimmed_1 Gimpl_scan_put_1 x0 c1_0 c4_0 c4_1 s5 s6 := by kernel_rfl
noncomputable def step (Gself : G) : G := fun x => F0 Gself impl_scan_put_1.impl x.1 x.2.1 x.2.2.1 x.2.2.2.1 x.2.2.2.2.1 x.2.2.2.2.2.1
noncomputable def impl : G := lfp step
theorem F0_le {Gself Gself' : G} (hG : OLe Gself Gself') {Gimpl_scan_put_1 : impl_scan_put_1.G} (x0 : Int) (c1_0 : List Q4) (c4_0 : Bs) (c4_1 : Int) (s5 : List Bs) (s6 : List Q4) : OptLe (F0 Gself Gimpl_scan_put_1 x0 c1_0 c4_0 c4_1 s5 s6) (F0 Gself' Gimpl_scan_put_1 x0 c1_0 c4_0 c4_1 s5 s6) := by unfold F0; exact .cond (.cond (.bind (.of hG _) fun _ => .cond (.refl _) (.bind (.of hG _) fun _ => .refl _)) (.refl _)) (.refl _)
theorem step_mono : OMono step := fun G G' hG x => F0_le hG x.1 x.2.1 x.2.2.1 x.2.2.2.1 x.2.2.2.2.1 x.2.2.2.2.2.1
theorem impl_eq (x0 : Int) (c1_0 : List Q4) (c4_0 : Bs) (c4_1 : Int) (s5 : List Bs) (s6 : List Q4) : impl (x0, c1_0, c4_0, c4_1, s5, s6, ()) = F0 impl impl_scan_put_1.impl x0 c1_0 c4_0 c4_1 s5 s6 := congrFun (lfp_eq step_mono) _
theorem con_step (Gself : G) (hself : Con Tryz.prog 63 4 rs.length 4 pin pout Gself) : Con Tryz.prog 63 4 rs.length 4 pin pout (step Gself) := by
  refine con_of_run3 (nt := 33) (c := c0) tabGood Tryz.func63 (by kernel_rfl) (by kernel_rfl) (by kernel_rfl) (by kernel_rfl) (by kernel_rfl) (by kernel_rfl) (by kernel_rfl) ?_
  intro w0 O y Post hnp fin
  have hp : Parts Tryz.prog 63 (pg Gself impl_scan_put_1.impl) [] := ⟨tab_ok tabGood rfl, (handAt_ok impl_scan_put_1.con (handAt_ok hself handNil_ok)), rfl⟩
  exact good_first (hp) (runOK_of (hp) hnp trivial fin) (fun x => (seg0 Gself impl_scan_put_1.impl x.1 x.2.1 x.2.2.1 x.2.2.2.1 x.2.2.2.2.1 x.2.2.2.2.2.1))
theorem con : Con Tryz.prog 63 4 rs.length 4 pin pout impl := con_lfp (c := c0) Tryz.func63 (by kernel_rfl) (by kernel_rfl) (by kernel_rfl) con_step
end impl_Trimmed_1

/-! ### loop.example/wholecheck/impl.Trimmed -/
namespace impl_Trimmed
noncomputable abbrev c0 : Code := (Tryz.f19.body).getD .skip
noncomputable abbrev pin : Tpl := ⟨[⟨0, false, [.d (.sl q4)]⟩, ⟨1, false, [.d i64]⟩], []⟩
noncomputable abbrev pout : Tpl := ⟨[⟨0, false, [.row 600001]⟩], [(600001, .row 52 false q4)]⟩
noncomputable abbrev p5 : Tpl := ⟨[⟨2, false, [.ptr 3000000 0]⟩, ⟨5, false, [.row 3000001]⟩, ⟨17, false, [.d (.sl q4)]⟩, ⟨18, false, [.d i64]⟩, ⟨19, false, [.d i64]⟩], [(3000000, .box [.d (.sl q4)]), (3000001, .row 3 false i64)]⟩
noncomputable def T5 : List Item := (find 5 c0 []).getD []
noncomputable abbrev p9 : Tpl := ⟨[⟨2, false, [.ptr 3000000 0]⟩, ⟨5, false, [.row 3000001]⟩, ⟨6, false, [.d i64]⟩, ⟨7, false, [.ptr 3000002 0]⟩, ⟨17, false, [.d (.sl q4)]⟩, ⟨18, false, [.d i64]⟩, ⟨19, false, [.d i64]⟩], [(3000000, .box [.d (.sl q4)]), (3000001, .row 3 false i64), (3000002, .box [.d i64, .d i64, .d i64, .d i64])]⟩
noncomputable def T9 : List Item := (find 9 c0 []).getD []
noncomputable abbrev p11 : Tpl := ⟨[⟨2, false, [.ptr 3000000 0]⟩, ⟨5, false, [.row 3000001]⟩, ⟨6, false, [.d i64]⟩, ⟨7, false, [.ptr 3000002 0]⟩, ⟨17, false, [.d (.sl q4)]⟩, ⟨18, false, [.d i64]⟩, ⟨19, false, [.d i64]⟩], [(3000000, .box [.d (.sl q4)]), (3000001, .row 3 false i64), (3000002, .box [.d i64, .d i64, .d i64, .d i64])]⟩
noncomputable def T11 : List Item := (find 11 c0 []).getD []
noncomputable abbrev p12 : Tpl := ⟨[⟨2, false, [.ptr 3000000 0]⟩, ⟨5, false, [.row 3000001]⟩, ⟨6, false, [.d i64]⟩, ⟨17, false, [.d (.sl q4)]⟩, ⟨18, false, [.d i64]⟩, ⟨19, false, [.d i64]⟩], [(3000000, .box [.d (.sl q4)]), (3000001, .row 3 false i64)]⟩
noncomputable def T12 : List Item := (find 12 c0 []).getD []
noncomputable abbrev PI := (List Q4) × Int × Unit
noncomputable abbrev PO := (List Q4) × Unit
noncomputable abbrev G := PI → Option PO
noncomputable abbrev P5 := (List Q4) × Int × Int × (List Q4) × (List Int) × Unit
noncomputable abbrev C5 := P5 → Option PO
noncomputable abbrev P9 := Int × (List Q4) × Int × Int × (List Q4) × (List Int) × Int × Int × Int × Int × Unit
noncomputable abbrev C9 := P9 → Option PO
noncomputable abbrev P11 := Int × (List Q4) × Int × Int × (List Q4) × (List Int) × Int × Int × Int × Int × Unit
noncomputable abbrev C11 := P11 → Option PO
noncomputable abbrev P12 := Int × (List Q4) × Int × Int × (List Q4) × (List Int) × Unit
noncomputable abbrev C12 := P12 → Option PO
noncomputable abbrev rs : List ResultVar := [.tmp 4]
noncomputable def F0 (J5 : C5) (Gimpl_TermsValid : impl_TermsValid.G) (x0 : List Q4) (x1 : Int) : Option PO :=
  Option.bind (Gimpl_TermsValid (x0, x1, ())) fun y0 =>
  bif !y0.1 then
    some ([], ())
  else
    bif decide (0 ≤ (x0.length : Int)) && decide ((x0.length : Int) ≤ (x0.length : Int)) && decide ((x0.length : Int) * 8 ≤ 140737488355328) then
      J5 (x0, (x0.length : Int), 0, x0, (List.replicate (x0.length : Int).toNat 0 : List Int), ())
    else
      none
noncomputable def F5 (J9 : C9) (J12 : C12) (Gimpl_Trimmed_1 : impl_Trimmed_1.G) (Gimpl_clone_of : impl_clone_of.G) (t17 : List Q4) (t18 : Int) (t19 : Int) (b0_0 : List Q4) (r1 : List Int) : Option PO :=
  bif decide (t19 < t18) then
    bif inb t19 t17.length then
      bif inb t19 r1.length then
        bif decide ((t17.getD t19.toNat (0, 0, 0, 0)).1 ≥ 2) then
          J9 (t19, t17, t18, t19, b0_0, r1.set t19.toNat 1, (t17.getD t19.toNat (0, 0, 0, 0)).1, (t17.getD t19.toNat (0, 0, 0, 0)).2.1, (t17.getD t19.toNat (0, 0, 0, 0)).2.2.1, (t17.getD t19.toNat (0, 0, 0, 0)).2.2.2, ())
        else
          J12 (t19, t17, t18, t19, b0_0, r1.set t19.toNat 1, ())
      else
        none
    else
      none
  else
    bif inb (wI ((b0_0.length : Int) - 1)) r1.length then
      bif decide (r1.getD (wI ((b0_0.length : Int) - 1)).toNat 0 ≥ 4000) then
        some ([], ())
      else
        Option.bind (Gimpl_Trimmed_1 (wI ((b0_0.length : Int) - 1), b0_0, [], 0, [], [], ())) fun y1 =>
        Option.bind (Gimpl_clone_of (y1.2.2.2.2.2.1, ())) fun y2 =>
        some (y2.1, ())
    else
      none
noncomputable def F9 (J11 : C11) (J12 : C12) (t6 : Int) (t17 : List Q4) (t18 : Int) (t19 : Int) (b0_0 : List Q4) (r1 : List Int) (b2_0 : Int) (b2_1 : Int) (b2_2 : Int) (b2_3 : Int) : Option PO :=
  bif inb t6 r1.length then
    bif inb b2_2 r1.length then
      bif inb t6 r1.length then
        bif b2_0 != 7 then
          J11 (t6, t17, t18, t19, b0_0, r1.set t6.toNat (wI ((r1.getD t6.toNat 0) + (r1.getD b2_2.toNat 0))), b2_0, b2_1, b2_2, b2_3, ())
        else
          J12 (t6, t17, t18, t19, b0_0, r1.set t6.toNat (wI ((r1.getD t6.toNat 0) + (r1.getD b2_2.toNat 0))), ())
      else
        none
    else
      none
  else
    none
noncomputable def F11 (J12 : C12) (t6 : Int) (t17 : List Q4) (t18 : Int) (t19 : Int) (b0_0 : List Q4) (r1 : List Int) (b2_0 : Int) (b2_1 : Int) (b2_2 : Int) (b2_3 : Int) : Option PO :=
  bif inb t6 r1.length then
    bif inb b2_3 r1.length then
      bif inb t6 r1.length then
        J12 (t6, t17, t18, t19, b0_0, r1.set t6.toNat (wI ((r1.getD t6.toNat 0) + (r1.getD b2_3.toNat 0))), ())
      else
        none
    else
      none
  else
    none
noncomputable def F12 (J5 : C5) (t6 : Int) (t17 : List Q4) (t18 : Int) (t19 : Int) (b0_0 : List Q4) (r1 : List Int) : Option PO :=
  bif inb t6 r1.length then
    bif inb t6 r1.length then
      J5 (t17, t18, wI (t19 + 1), b0_0, r1.set t6.toNat (bif decide ((4000 : Int) < r1.getD t6.toNat 0) then 4000 else r1.getD t6.toNat 0), ())
    else
      none
  else
    none
noncomputable def hd {R : Type} (Gimpl_TermsValid : impl_TermsValid.G) (Gimpl_Trimmed_1 : impl_Trimmed_1.G) (Gimpl_clone_of : impl_clone_of.G) : Hand R := (handAt 65 [83] true ⟨1, 1, 1, impl_clone_of.pin, impl_clone_of.pout, Gimpl_clone_of⟩ (handAt 63 [78] false ⟨4, 1, 4, impl_Trimmed_1.pin, impl_Trimmed_1.pout, Gimpl_Trimmed_1⟩ (handAt 23 [12] true ⟨2, 1, 2, impl_TermsValid.pin, impl_TermsValid.pout, Gimpl_TermsValid⟩ handNil)))
noncomputable def pg (Gimpl_TermsValid : impl_TermsValid.G) (Gimpl_Trimmed_1 : impl_Trimmed_1.G) (Gimpl_clone_of : impl_clone_of.G) (J5 : List Item → C5) (J9 : List Item → C9) (J11 : List Item → C11) (J12 : List Item → C12) : Prog PO := { nt := 84, np := 2, tb := tabOf tab, hd := hd Gimpl_TermsValid Gimpl_Trimmed_1 Gimpl_clone_of, cuts := cutsOf [(5, cut p5 J5), (9, cut p9 J9), (11, cut p11 J11), (12, cut p12 J12)], fin := endOf (tabOf tab) rs 2 pout }
noncomputable def q : FuncId → Bool := fun f => hasId [23] f
theorem seg0 (Gimpl_TermsValid : impl_TermsValid.G) (Gimpl_Trimmed_1 : impl_Trimmed_1.G) (Gimpl_clone_of : impl_clone_of.G) (J5 : List Item → C5) (J9 : List Item → C9) (J11 : List Item → C11) (J12 : List Item → C12) (x0 : List Q4) (x1 : Int) : arun (pg Gimpl_TermsValid Gimpl_Trimmed_1 Gimpl_clone_of J5 J9 J11 J12) 5000 [.code c0] (mk pin (x0, x1, ())) = F0 (J5 T5) Gimpl_TermsValid x0 x1 := by kernel_rfl
theorem seg5 (Gimpl_TermsValid : impl_TermsValid.G) (Gimpl_Trimmed_1 : impl_Trimmed_1.G) (Gimpl_clone_of : impl_clone_of.G) (J5 : List Item → C5) (J9 : List Item → C9) (J11 : List Item → C11) (J12 : List Item → C12) (t17 : List Q4) (t18 : Int) (t19 : Int) (b0_0 : List Q4) (r1 : List Int) : arun1 (pg Gimpl_TermsValid Gimpl_Trimmed_1 Gimpl_clone_of J5 J9 J11 J12) 5000 T5 (mk p5 (t17, t18, t19, b0_0, r1, ())) = F5 (J9 T9) (J12 T12) Gimpl_Trimmed_1 Gimpl_clone_of t17 t18 t19 b0_0 r1 := by kernel_rfl
theorem seg9 (Gimpl_TermsValid : impl_TermsValid.G) (Gimpl_Trimmed_1 : impl_Trimmed_1.G) (Gimpl_clone_of : impl_clone_of.G) (J5 : List Item → C5) (J9 : List Item → C9) (J11 : List Item → C11) (J12 : List Item → C12) (t6 : Int) (t17 : List Q4) (t18 : Int) (t19 : Int) (b0_0 : List Q4) (r1 : List Int) (b2_0 : Int) (b2_1 : Int) (b2_2 : Int) (b2_3 : Int) : arunQ (pg Gimpl_TermsValid Gimpl_Trimmed_1 Gimpl_clone_of J5 J9 J11 J12) q [3000001] [3, 8] 5000 T9 (mk p9 (t6, t17, t18, t19, b0_0, r1, b2_0, b2_1, b2_2, b2_3, ())) = List.replicate (arunQ (pg Gimpl_TermsValid Gimpl_Trimmed_1 Gimpl_clone_of J5 J9 J11 J12) q [3000001] [3, 8] 5000 T9 (mk p9 (t6, t17, t18, t19, b0_0, r1, b2_0, b2_1, b2_2, b2_3, ()))).length (F9 (J11 T11) (J12 T12) t6 t17 t18 t19 b0_0 r1 b2_0 b2_1 b2_2 b2_3) := by kernel_rfl
theorem seg11 (Gimpl_TermsValid : impl_TermsValid.G) (Gimpl_Trimmed_1 : impl_Trimmed_1.G) (Gimpl_clone_of : impl_clone_of.G) (J5 : List Item → C5) (J9 : List Item → C9) (J11 : List Item → C11) (J12 : List Item → C12) (t6 : Int) (t17 : List Q4) (t18 : Int) (t19 : Int) (b0_0 : List Q4) (r1 : List Int) (b2_0 : Int) (b2_1 : Int) (b2_2 : Int) (b2_3 : Int) : arunQ (pg Gimpl_TermsValid Gimpl_Trimmed_1 Gimpl_clone_of J5 J9 J11 J12) q [3000001] [3, 8] 5000 T11 (mk p11 (t6, t17, t18, t19, b0_0, r1, b2_0, b2_1, b2_2, b2_3, ())) = List.replicate (arunQ (pg Gimpl_TermsValid Gimpl_Trimmed_1 Gimpl_clone_of J5 J9 J11 J12) q [3000001] [3, 8] 5000 T11 (mk p11 (t6, t17, t18, t19, b0_0, r1, b2_0, b2_1, b2_2, b2_3, ()))).length (F11 (J12 T12) t6 t17 t18 t19 b0_0 r1 b2_0 b2_1 b2_2 b2_3) := by kernel_rfl
theorem seg12 (Gimpl_TermsValid : impl_TermsValid.G) (Gimpl_Trimmed_1 : impl_Trimmed_1.G) (Gimpl_clone_of : impl_clone_of.G) (J5 : List Item → C5) (J9 : List Item → C9) (J11 : List Item → C11) (J12 : List Item → C12) (t6 : Int) (t17 : List Q4) (t18 : Int) (t19 : Int) (b0_0 : List Q4) (r1 : List Int) : arun1 (pg Gimpl_TermsValid Gimpl_Trimmed_1 Gimpl_clone_of J5 J9 J11 J12) 5000 T12 (mk p12 (t6, t17, t18, t19, b0_0, r1, ())) = F12 (J5 T5) t6 t17 t18 t19 b0_0 r1 := by kernel_rfl
noncomputable def L12 (J5 : C5) : C12 := fun x => F12 J5 x.1 x.2.1 x.2.2.1 x.2.2.2.1 x.2.2.2.2.1 x.2.2.2.2.2.1
noncomputable def L11 (J5 : C5) : C11 := fun x => F11 (L12 J5) x.1 x.2.1 x.2.2.1 x.2.2.2.1 x.2.2.2.2.1 x.2.2.2.2.2.1 x.2.2.2.2.2.2.1 x.2.2.2.2.2.2.2.1 x.2.2.2.2.2.2.2.2.1 x.2.2.2.2.2.2.2.2.2.1
noncomputable def L9 (J5 : C5) : C9 := fun x => F9 (L11 J5) (L12 J5) x.1 x.2.1 x.2.2.1 x.2.2.2.1 x.2.2.2.2.1 x.2.2.2.2.2.1 x.2.2.2.2.2.2.1 x.2.2.2.2.2.2.2.1 x.2.2.2.2.2.2.2.2.1 x.2.2.2.2.2.2.2.2.2.1
noncomputable def L5 : C5 := lfp fun J5 x => F5 (L9 J5) (L12 J5) impl_Trimmed_1.impl impl_clone_of.impl x.1 x.2.1 x.2.2.1 x.2.2.2.1 x.2.2.2.2.1
noncomputable def impl : G := fun x => F0 L5 impl_TermsValid.impl x.1 x.2.1
theorem F12_le {J5 J5' : C5} (h5 : OLe J5 J5') (t6 : Int) (t17 : List Q4) (t18 : Int) (t19 : Int) (b0_0 : List Q4) (r1 : List Int) : OptLe (F12 J5 t6 t17 t18 t19 b0_0 r1) (F12 J5' t6 t17 t18 t19 b0_0 r1) := by unfold F12; exact .cond (.cond (.of h5 _) (.refl _)) (.refl _)
theorem F11_le {J12 J12' : C12} (h12 : OLe J12 J12') (t6 : Int) (t17 : List Q4) (t18 : Int) (t19 : Int) (b0_0 : List Q4) (r1 : List Int) (b2_0 : Int) (b2_1 : Int) (b2_2 : Int) (b2_3 : Int) : OptLe (F11 J12 t6 t17 t18 t19 b0_0 r1 b2_0 b2_1 b2_2 b2_3) (F11 J12' t6 t17 t18 t19 b0_0 r1 b2_0 b2_1 b2_2 b2_3) := by unfold F11; exact .cond (.cond (.cond (.of h12 _) (.refl _)) (.refl _)) (.refl _)
theorem F9_le {J11 J11' : C11} (h11 : OLe J11 J11') {J12 J12' : C12} (h12 : OLe J12 J12') (t6 : Int) (t17 : List Q4) (t18 : Int) (t19 : Int) (b0_0 : List Q4) (r1 : List Int) (b2_0 : Int) (b2_1 : Int) (b2_2 : Int) (b2_3 : Int) : OptLe (F9 J11 J12 t6 t17 t18 t19 b0_0 r1 b2_0 b2_1 b2_2 b2_3) (F9 J11' J12' t6 t17 t18 t19 b0_0 r1 b2_0 b2_1 b2_2 b2_3) := by unfold F9; exact .cond (.cond (.cond (.cond (.of h11 _) (.of h12 _)) (.refl _)) (.refl _)) (.refl _)
theorem F5_le {J9 J9' : C9} (h9 : OLe J9 J9') {J12 J12' : C12} (h12 : OLe J12 J12') {Gimpl_Trimmed_1 : impl_Trimmed_1.G} {Gimpl_clone_of : impl_clone_of.G} (t17 : List Q4) (t18 : Int) (t19 : Int) (b0_0 : List Q4) (r1 : List Int) : OptLe (F5 J9 J12 Gimpl_Trimmed_1 Gimpl_clone_of t17 t18 t19 b0_0 r1) (F5 J9' J12' Gimpl_Trimmed_1 Gimpl_clone_of t17 t18 t19 b0_0 r1) := by unfold F5; exact .cond (.cond (.cond (.cond (.of h9 _) (.of h12 _)) (.refl _)) (.refl _)) (.refl _)
theorem L12_eq (J5 : C5) (t6 : Int) (t17 : List Q4) (t18 : Int) (t19 : Int) (b0_0 : List Q4) (r1 : List Int) : L12 J5 (t6, t17, t18, t19, b0_0, r1, ()) = F12 J5 t6 t17 t18 t19 b0_0 r1 := rfl
theorem L12_le {J5 J5' : C5} (h5 : OLe J5 J5') : OLe (L12 J5) (L12 J5') := fun x => F12_le h5 x.1 x.2.1 x.2.2.1 x.2.2.2.1 x.2.2.2.2.1 x.2.2.2.2.2.1
theorem L11_eq (J5 : C5) (t6 : Int) (t17 : List Q4) (t18 : Int) (t19 : Int) (b0_0 : List Q4) (r1 : List Int) (b2_0 : Int) (b2_1 : Int) (b2_2 : Int) (b2_3 : Int) : L11 J5 (t6, t17, t18, t19, b0_0, r1, b2_0, b2_1, b2_2, b2_3, ()) = F11 (L12 J5) t6 t17 t18 t19 b0_0 r1 b2_0 b2_1 b2_2 b2_3 := rfl
theorem L11_le {J5 J5' : C5} (h5 : OLe J5 J5') : OLe (L11 J5) (L11 J5') := fun x => F11_le (L12_le h5) x.1 x.2.1 x.2.2.1 x.2.2.2.1 x.2.2.2.2.1 x.2.2.2.2.2.1 x.2.2.2.2.2.2.1 x.2.2.2.2.2.2.2.1 x.2.2.2.2.2.2.2.2.1 x.2.2.2.2.2.2.2.2.2.1
theorem L9_eq (J5 : C5) (t6 : Int) (t17 : List Q4) (t18 : Int) (t19 : Int) (b0_0 : List Q4) (r1 : List Int) (b2_0 : Int) (b2_1 : Int) (b2_2 : Int) (b2_3 : Int) : L9 J5 (t6, t17, t18, t19, b0_0, r1, b2_0, b2_1, b2_2, b2_3, ()) = F9 (L11 J5) (L12 J5) t6 t17 t18 t19 b0_0 r1 b2_0 b2_1 b2_2 b2_3 := rfl
theorem L9_le {J5 J5' : C5} (h5 : OLe J5 J5') : OLe (L9 J5) (L9 J5') := fun x => F9_le (L11_le h5) (L12_le h5) x.1 x.2.1 x.2.2.1 x.2.2.2.1 x.2.2.2.2.1 x.2.2.2.2.2.1 x.2.2.2.2.2.2.1 x.2.2.2.2.2.2.2.1 x.2.2.2.2.2.2.2.2.1 x.2.2.2.2.2.2.2.2.2.1
theorem L5_mono : OMono fun J5 (x : P5) => F5 (L9 J5) (L12 J5) impl_Trimmed_1.impl impl_clone_of.impl x.1 x.2.1 x.2.2.1 x.2.2.2.1 x.2.2.2.2.1 := fun J J' h5 x => F5_le (L9_le h5) (L12_le h5) x.1 x.2.1 x.2.2.1 x.2.2.2.1 x.2.2.2.2.1
theorem L5_eq (t17 : List Q4) (t18 : Int) (t19 : Int) (b0_0 : List Q4) (r1 : List Int) : L5 (t17, t18, t19, b0_0, r1, ()) = F5 (L9 (L5)) (L12 (L5)) impl_Trimmed_1.impl impl_clone_of.impl t17 t18 t19 b0_0 r1 := congrFun (lfp_eq (L5_mono)) _
theorem impl_eq (x0 : List Q4) (x1 : Int) : impl (x0, x1, ()) = F0 L5 impl_TermsValid.impl x0 x1 := rfl
theorem con : Con Tryz.prog 19 2 rs.length 2 pin pout impl := by
  refine con_of_run3 (nt := 84) (c := c0) tabGood Tryz.func19 (by kernel_rfl) (by kernel_rfl) (by kernel_rfl) (by kernel_rfl) (by kernel_rfl) (by kernel_rfl) (by kernel_rfl) ?_
  intro w0 O y Post hnp fin
  have hp : ∀ (J5 : List Item → C5), ∀ (J9 : List Item → C9), ∀ (J11 : List Item → C11), ∀ (J12 : List Item → C12), Parts Tryz.prog 19 (pg impl_TermsValid.impl impl_Trimmed_1.impl impl_clone_of.impl J5 J9 J11 J12) [(5, cut p5 J5), (9, cut p9 J9), (11, cut p11 J11), (12, cut p12 J12)] := fun J5 J9 J11 J12 => ⟨tab_ok tabGood rfl, (handAt_ok impl_clone_of.con (handAt_ok impl_Trimmed_1.con (handAt_ok impl_TermsValid.con handNil_ok))), rfl⟩
  have g12 : ∀ (J5 : C5), Good Tryz.prog 84 w0 O Post y T5 p5 J5 → Good Tryz.prog 84 w0 O Post y T12 p12 (L12 J5) := fun J5 h5 => good_part (hp (atT T5 J5) (atT T9 (fun _ => none)) (atT T11 (fun _ => none)) (atT T12 (fun _ => none))) (runOK_of (hp (atT T5 J5) (atT T9 (fun _ => none)) (atT T11 (fun _ => none)) (atT T12 (fun _ => none))) hnp ⟨cutOK_at h5, cutOK_at (p := p9) (T := T9) (J := fun _ => none) good_none, cutOK_at (p := p11) (T := T11) (J := fun _ => none) good_none, cutOK_at (p := p12) (T := T12) (J := fun _ => none) good_none, trivial⟩ fin) (fun x => (seg12 impl_TermsValid.impl impl_Trimmed_1.impl impl_clone_of.impl (atT T5 J5) (atT T9 (fun _ => none)) (atT T11 (fun _ => none)) (atT T12 (fun _ => none)) x.1 x.2.1 x.2.2.1 x.2.2.2.1 x.2.2.2.2.1 x.2.2.2.2.2.1).trans (by simp only [atT_self] <;> rfl))
  have g11 : ∀ (J5 : C5), Good Tryz.prog 84 w0 O Post y T5 p5 J5 → Good Tryz.prog 84 w0 O Post y T11 p11 (L11 J5) := fun J5 h5 => good_quiet (hs := hd impl_TermsValid.impl impl_Trimmed_1.impl impl_clone_of.impl) (cv' := hd impl_TermsValid.impl impl_Trimmed_1.impl impl_clone_of.impl) (Checked.mixed Tryz.checked) (hp (atT T5 (fun _ => none)) (atT T9 (fun _ => none)) (atT T11 (fun _ => none)) (atT T12 (L12 J5))) (handAt_D' rfl (handAt_D' rfl (handAt_D impl_TermsValid.con (by rfl) rfl handNil_D))) (handAt_nat (handAt_nat (handAt_nat handNil_nat))) (handAt_nat (handAt_nat (handAt_nat handNil_nat))) (runOK_of (hp (atT T5 (fun _ => none)) (atT T9 (fun _ => none)) (atT T11 (fun _ => none)) (atT T12 (L12 J5))) hnp ⟨cutOK_at (p := p5) (T := T5) (J := fun _ => none) good_none, cutOK_at (p := p9) (T := T9) (J := fun _ => none) good_none, cutOK_at (p := p11) (T := T11) (J := fun _ => none) good_none, cutOK_at (g12 J5 h5), trivial⟩ fin) (fun x => all_same ⟨_, (seg11 impl_TermsValid.impl impl_Trimmed_1.impl impl_clone_of.impl (atT T5 (fun _ => none)) (atT T9 (fun _ => none)) (atT T11 (fun _ => none)) (atT T12 (L12 J5)) x.1 x.2.1 x.2.2.1 x.2.2.2.1 x.2.2.2.2.1 x.2.2.2.2.2.1 x.2.2.2.2.2.2.1 x.2.2.2.2.2.2.2.1 x.2.2.2.2.2.2.2.2.1 x.2.2.2.2.2.2.2.2.2.1).trans (by simp only [atT_self] <;> rfl)⟩)
  have g9 : ∀ (J5 : C5), Good Tryz.prog 84 w0 O Post y T5 p5 J5 → Good Tryz.prog 84 w0 O Post y T9 p9 (L9 J5) := fun J5 h5 => good_quiet (hs := hd impl_TermsValid.impl impl_Trimmed_1.impl impl_clone_of.impl) (cv' := hd impl_TermsValid.impl impl_Trimmed_1.impl impl_clone_of.impl) (Checked.mixed Tryz.checked) (hp (atT T5 (fun _ => none)) (atT T9 (fun _ => none)) (atT T11 (L11 J5)) (atT T12 (L12 J5))) (handAt_D' rfl (handAt_D' rfl (handAt_D impl_TermsValid.con (by rfl) rfl handNil_D))) (handAt_nat (handAt_nat (handAt_nat handNil_nat))) (handAt_nat (handAt_nat (handAt_nat handNil_nat))) (runOK_of (hp (atT T5 (fun _ => none)) (atT T9 (fun _ => none)) (atT T11 (L11 J5)) (atT T12 (L12 J5))) hnp ⟨cutOK_at (p := p5) (T := T5) (J := fun _ => none) good_none, cutOK_at (p := p9) (T := T9) (J := fun _ => none) good_none, cutOK_at (g11 J5 h5), cutOK_at (g12 J5 h5), trivial⟩ fin) (fun x => all_same ⟨_, (seg9 impl_TermsValid.impl impl_Trimmed_1.impl impl_clone_of.impl (atT T5 (fun _ => none)) (atT T9 (fun _ => none)) (atT T11 (L11 J5)) (atT T12 (L12 J5)) x.1 x.2.1 x.2.2.1 x.2.2.2.1 x.2.2.2.2.1 x.2.2.2.2.2.1 x.2.2.2.2.2.2.1 x.2.2.2.2.2.2.2.1 x.2.2.2.2.2.2.2.2.1 x.2.2.2.2.2.2.2.2.2.1).trans (by simp only [atT_self] <;> rfl)⟩)
  have g5 : Good Tryz.prog 84 w0 O Post y T5 p5 L5 := good_lfp fun J5 h5 => good_part (hp (atT T5 (fun _ => none)) (atT T9 (L9 J5)) (atT T11 (fun _ => none)) (atT T12 (L12 J5))) (runOK_of (hp (atT T5 (fun _ => none)) (atT T9 (L9 J5)) (atT T11 (fun _ => none)) (atT T12 (L12 J5))) hnp ⟨cutOK_at (p := p5) (T := T5) (J := fun _ => none) good_none, cutOK_at (g9 J5 h5), cutOK_at (p := p11) (T := T11) (J := fun _ => none) good_none, cutOK_at (g12 J5 h5), trivial⟩ fin) (fun x => (seg5 impl_TermsValid.impl impl_Trimmed_1.impl impl_clone_of.impl (atT T5 (fun _ => none)) (atT T9 (L9 J5)) (atT T11 (fun _ => none)) (atT T12 (L12 J5)) x.1 x.2.1 x.2.2.1 x.2.2.2.1 x.2.2.2.2.1).trans (by simp only [atT_self] <;> rfl))
  exact good_first (hp (atT T5 L5) (atT T9 (fun _ => none)) (atT T11 (fun _ => none)) (atT T12 (fun _ => none))) (runOK_of (hp (atT T5 L5) (atT T9 (fun _ => none)) (atT T11 (fun _ => none)) (atT T12 (fun _ => none))) hnp ⟨cutOK_at g5, cutOK_at (p := p9) (T := T9) (J := fun _ => none) good_none, cutOK_at (p := p11) (T := T11) (J := fun _ => none) good_none, cutOK_at (p := p12) (T := T12) (J := fun _ => none) good_none, trivial⟩ fin) (fun x => (seg0 impl_TermsValid.impl impl_Trimmed_1.impl impl_clone_of.impl (atT T5 L5) (atT T9 (fun _ => none)) (atT T11 (fun _ => none)) (atT T12 (fun _ => none)) x.1 x.2.1).trans (by simp only [atT_self] <;> rfl))
end impl_Trimmed

/-! ### loop.example/wholecheck/laws.FnEveryExpr -/
namespace laws_FnEveryExpr
noncomputable abbrev c0 : Code := (Tryz.f7.body).getD .skip
noncomputable abbrev pin : Tpl := ⟨[⟨0, false, [.d (.sl (.int .u8))]⟩, ⟨1, false, [.d (.sl (.int .u8))]⟩], []⟩
noncomputable abbrev pout : Tpl := ⟨[⟨0, false, [.d .bool]⟩], []⟩
noncomputable abbrev p3 : Tpl := ⟨[⟨5, false, [.row 3000000]⟩, ⟨26, false, [.row 3000001]⟩, ⟨27, false, [.d i64]⟩, ⟨28, false, [.d i64]⟩], [(3000000, .row 9 false .str), (3000001, .row 9 true .str)]⟩
noncomputable def T3 : List Item := (find 3 c0 []).getD []
noncomputable abbrev p9 : Tpl := ⟨[⟨5, false, [.row 3000000]⟩, ⟨8, false, [.d .str]⟩, ⟨9, false, [.row 3000001]⟩, ⟨10, false, [.d .bool]⟩, ⟨11, false, [.row 3000002]⟩, ⟨26, false, [.row 3000003]⟩, ⟨27, false, [.d i64]⟩, ⟨28, false, [.d i64]⟩], [(3000000, .row 9 false .str), (3000001, .row 52 false q4), (3000002, .row 52 true q4), (3000003, .row 9 true .str)]⟩
noncomputable def T9 : List Item := (find 9 c0 []).getD []
noncomputable abbrev PI := (List Int) × (List Int) × Unit
noncomputable abbrev PO := Bool × Unit
noncomputable abbrev G := PI → Option PO
noncomputable abbrev P3 := Int × Int × (List Bs) × (List Bs) × Unit
noncomputable abbrev C3 := P3 → Option PO
noncomputable abbrev P9 := Bs × Bool × Int × Int × (List Bs) × (List Q4) × (List Q4) × (List Bs) × Unit
noncomputable abbrev C9 := P9 → Option PO
noncomputable abbrev rs : List ResultVar := [.tmp 4]
noncomputable def F0 (J3 : C3) (Gspec_DrawReadExpr : spec_DrawReadExpr.G) (x0 : List Int) (x1 : List Int) : Option PO :=
  Option.bind (Gspec_DrawReadExpr (x0, ())) fun y0 =>
  J3 ((([y0.1, strOf x1] : List Bs).length : Int), 0, y0.2.1, ([y0.1, strOf x1] : List Bs), ())
noncomputable def F3 (J9 : C9) (Gimpl_ReadExpr : impl_ReadExpr.G) (Gspec_ReadExpr : spec_ReadExpr.G) (t27 : Int) (t28 : Int) (r0 : List Bs) (r1 : List Bs) : Option PO :=
  bif decide (t28 < t27) then
    bif inb t28 r1.length then
      Option.bind (Gimpl_ReadExpr (r0, r1.getD t28.toNat [], ())) fun y1 =>
      Option.bind (Gspec_ReadExpr (r1.getD t28.toNat [], r0, ())) fun y2 =>
      bif !(y1.1 == y2.1) then
        some (false, ())
      else
        bif (y1.2.1.length : Int) != (y2.2.1.length : Int) then
          some (false, ())
        else
          bif !y1.1 then
            bif decide ((y1.2.1.length : Int) > 0) then
              some (false, ())
            else
              J9 (r1.getD t28.toNat [], y1.1, t27, t28, y2.2.2.1, y1.2.1, y2.2.1, r1, ())
          else
            J9 (r1.getD t28.toNat [], y1.1, t27, t28, y2.2.2.1, y1.2.1, y2.2.1, r1, ())
    else
      none
  else
    some (true, ())
noncomputable def F9 (J3 : C3) (Gimpl_Eval : impl_Eval.G) (Gimpl_Trimmed : impl_Trimmed.G) (Gimpl_WriteExpr : impl_WriteExpr.G) (Gspec_Eval : spec_Eval.G) (t8 : Bs) (t10 : Bool) (t27 : Int) (t28 : Int) (r0 : List Bs) (r1 : List Q4) (r2 : List Q4) (r3 : List Bs) : Option PO :=
  bif !t10 then
    J3 (t27, wI (t28 + 1), r0, r3, ())
  else
    bif decide (0 ≤ (r0.length : Int)) && decide ((r0.length : Int) ≤ (([3, (-1), 2, 0, 1] : List Int).length : Int)) then
      Option.bind (Gimpl_Eval (r1, (([3, (-1), 2, 0, 1] : List Int).drop 0).take ((r0.length : Int).toNat - 0), ())) fun y3 =>
      Option.bind (Gspec_Eval (r2, (([3, (-1), 2, 0, 1] : List Int).drop 0).take ((r0.length : Int).toNat - 0), ())) fun y4 =>
      Option.bind (Gimpl_WriteExpr (r0, r1, ())) fun y5 =>
      bif !(y5.1 == t8) then
        some (false, ())
      else
        bif y3.1 != y4.1 then
          some (false, ())
        else
          bif !(y3.2.1 == y4.2.1) then
            some (false, ())
          else
            Option.bind (Gimpl_Trimmed (r1, (r0.length : Int), ())) fun y6 =>
            bif (y6.1.length : Int) != (r1.length : Int) then
              some (false, ())
            else
              J3 (t27, wI (t28 + 1), r0, r3, ())
    else
      none
noncomputable def hd {R : Type} (Gimpl_Eval : impl_Eval.G) (Gimpl_ReadExpr : impl_ReadExpr.G) (Gimpl_Trimmed : impl_Trimmed.G) (Gimpl_WriteExpr : impl_WriteExpr.G) (Gspec_DrawReadExpr : spec_DrawReadExpr.G) (Gspec_Eval : spec_Eval.G) (Gspec_ReadExpr : spec_ReadExpr.G) : Hand R := (handAt 34 [78] true ⟨2, 2, 2, spec_Eval.pin, spec_Eval.pout, Gspec_Eval⟩ (handAt 22 [41] true ⟨2, 2, 2, spec_ReadExpr.pin, spec_ReadExpr.pout, Gspec_ReadExpr⟩ (handAt 21 [20] true ⟨1, 2, 1, spec_DrawReadExpr.pin, spec_DrawReadExpr.pout, Gspec_DrawReadExpr⟩ (handAt 20 [72] true ⟨2, 2, 2, impl_Eval.pin, impl_Eval.pout, Gimpl_Eval⟩ (handAt 19 [100] true ⟨2, 1, 2, impl_Trimmed.pin, impl_Trimmed.pout, Gimpl_Trimmed⟩ (handAt 18 [35] true ⟨2, 2, 2, impl_ReadExpr.pin, impl_ReadExpr.pout, Gimpl_ReadExpr⟩ (handAt 14 [83] true ⟨2, 1, 2, impl_WriteExpr.pin, impl_WriteExpr.pout, Gimpl_WriteExpr⟩ handNil)))))))
noncomputable def pg (Gimpl_Eval : impl_Eval.G) (Gimpl_ReadExpr : impl_ReadExpr.G) (Gimpl_Trimmed : impl_Trimmed.G) (Gimpl_WriteExpr : impl_WriteExpr.G) (Gspec_DrawReadExpr : spec_DrawReadExpr.G) (Gspec_Eval : spec_Eval.G) (Gspec_ReadExpr : spec_ReadExpr.G) (J3 : List Item → C3) (J9 : List Item → C9) : Prog PO := { nt := 107, np := 2, tb := tabOf tab, hd := hd Gimpl_Eval Gimpl_ReadExpr Gimpl_Trimmed Gimpl_WriteExpr Gspec_DrawReadExpr Gspec_Eval Gspec_ReadExpr, cuts := cutsOf [(3, cut p3 J3), (9, cut p9 J9)], fin := endOf (tabOf tab) rs 2 pout }
noncomputable def q : FuncId → Bool := fun f => hasId [14, 20, 34] f
theorem seg0 (Gimpl_Eval : impl_Eval.G) (Gimpl_ReadExpr : impl_ReadExpr.G) (Gimpl_Trimmed : impl_Trimmed.G) (Gimpl_WriteExpr : impl_WriteExpr.G) (Gspec_DrawReadExpr : spec_DrawReadExpr.G) (Gspec_Eval : spec_Eval.G) (Gspec_ReadExpr : spec_ReadExpr.G) (J3 : List Item → C3) (J9 : List Item → C9) (x0 : List Int) (x1 : List Int) : arun (pg Gimpl_Eval Gimpl_ReadExpr Gimpl_Trimmed Gimpl_WriteExpr Gspec_DrawReadExpr Gspec_Eval Gspec_ReadExpr J3 J9) 5000 [.code c0] (mk pin (x0, x1, ())) = F0 (J3 T3) Gspec_DrawReadExpr x0 x1 := by kernel_rfl
theorem seg3 (Gimpl_Eval : impl_Eval.G) (Gimpl_ReadExpr : impl_ReadExpr.G) (Gimpl_Trimmed : impl_Trimmed.G) (Gimpl_WriteExpr : impl_WriteExpr.G) (Gspec_DrawReadExpr : spec_DrawReadExpr.G) (Gspec_Eval : spec_Eval.G) (Gspec_ReadExpr : spec_ReadExpr.G) (J3 : List Item → C3) (J9 : List Item → C9) (t27 : Int) (t28 : Int) (r0 : List Bs) (r1 : List Bs) : arun1 (pg Gimpl_Eval Gimpl_ReadExpr Gimpl_Trimmed Gimpl_WriteExpr Gspec_DrawReadExpr Gspec_Eval Gspec_ReadExpr J3 J9) 5000 T3 (mk p3 (t27, t28, r0, r1, ())) = F3 (J9 T9) Gimpl_ReadExpr Gspec_ReadExpr t27 t28 r0 r1 := by kernel_rfl
theorem seg9 (Gimpl_Eval : impl_Eval.G) (Gimpl_ReadExpr : impl_ReadExpr.G) (Gimpl_Trimmed : impl_Trimmed.G) (Gimpl_WriteExpr : impl_WriteExpr.G) (Gspec_DrawReadExpr : spec_DrawReadExpr.G) (Gspec_Eval : spec_Eval.G) (Gspec_ReadExpr : spec_ReadExpr.G) (J3 : List Item → C3) (J9 : List Item → C9) (t8 : Bs) (t10 : Bool) (t27 : Int) (t28 : Int) (r0 : List Bs) (r1 : List Q4) (r2 : List Q4) (r3 : List Bs) : arun1 (pg Gimpl_Eval Gimpl_ReadExpr Gimpl_Trimmed Gimpl_WriteExpr Gspec_DrawReadExpr Gspec_Eval Gspec_ReadExpr J3 J9) 5000 T9 (mk p9 (t8, t10, t27, t28, r0, r1, r2, r3, ())) = F9 (J3 T3) Gimpl_Eval Gimpl_Trimmed Gimpl_WriteExpr Gspec_Eval t8 t10 t27 t28 r0 r1 r2 r3 := by kernel_rfl
noncomputable def L9 (J3 : C3) : C9 := fun x => F9 J3 impl_Eval.impl impl_Trimmed.impl impl_WriteExpr.impl spec_Eval.impl x.1 x.2.1 x.2.2.1 x.2.2.2.1 x.2.2.2.2.1 x.2.2.2.2.2.1 x.2.2.2.2.2.2.1 x.2.2.2.2.2.2.2.1
noncomputable def L3 : C3 := lfp fun J3 x => F3 (L9 J3) impl_ReadExpr.impl spec_ReadExpr.impl x.1 x.2.1 x.2.2.1 x.2.2.2.1
noncomputable def impl : G := fun x => F0 L3 spec_DrawReadExpr.impl x.1 x.2.1
theorem F9_le {J3 J3' : C3} (h3 : OLe J3 J3') {Gimpl_Eval : impl_Eval.G} {Gimpl_Trimmed : impl_Trimmed.G} {Gimpl_WriteExpr : impl_WriteExpr.G} {Gspec_Eval : spec_Eval.G} (t8 : Bs) (t10 : Bool) (t27 : Int) (t28 : Int) (r0 : List Bs) (r1 : List Q4) (r2 : List Q4) (r3 : List Bs) : OptLe (F9 J3 Gimpl_Eval Gimpl_Trimmed Gimpl_WriteExpr Gspec_Eval t8 t10 t27 t28 r0 r1 r2 r3) (F9 J3' Gimpl_Eval Gimpl_Trimmed Gimpl_WriteExpr Gspec_Eval t8 t10 t27 t28 r0 r1 r2 r3) := by unfold F9; exact .cond (.of h3 _) (.cond (.bind (.refl _) fun _ => .bind (.refl _) fun _ => .bind (.refl _) fun _ => .cond (.refl _) (.cond (.refl _) (.cond (.refl _) (.bind (.refl _) fun _ => .cond (.refl _) (.of h3 _))))) (.refl _))
theorem F3_le {J9 J9' : C9} (h9 : OLe J9 J9') {Gimpl_ReadExpr : impl_ReadExpr.G} {Gspec_ReadExpr : spec_ReadExpr.G} (t27 : Int) (t28 : Int) (r0 : List Bs) (r1 : List Bs) : OptLe (F3 J9 Gimpl_ReadExpr Gspec_ReadExpr t27 t28 r0 r1) (F3 J9' Gimpl_ReadExpr Gspec_ReadExpr t27 t28 r0 r1) := by unfold F3; exact .cond (.cond (.bind (.refl _) fun _ => .bind (.refl _) fun _ => .cond (.refl _) (.cond (.refl _) (.cond (.cond (.refl _) (.of h9 _)) (.of h9 _)))) (.refl _)) (.refl _)
theorem L9_eq (J3 : C3) (t8 : Bs) (t10 : Bool) (t27 : Int) (t28 : Int) (r0 : List Bs) (r1 : List Q4) (r2 : List Q4) (r3 : List Bs) : L9 J3 (t8, t10, t27, t28, r0, r1, r2, r3, ()) = F9 J3 impl_Eval.impl impl_Trimmed.impl impl_WriteExpr.impl spec_Eval.impl t8 t10 t27 t28 r0 r1 r2 r3 := rfl
theorem L9_le {J3 J3' : C3} (h3 : OLe J3 J3') : OLe (L9 J3) (L9 J3') := fun x => F9_le h3 x.1 x.2.1 x.2.2.1 x.2.2.2.1 x.2.2.2.2.1 x.2.2.2.2.2.1 x.2.2.2.2.2.2.1 x.2.2.2.2.2.2.2.1
theorem L3_mono : OMono fun J3 (x : P3) => F3 (L9 J3) impl_ReadExpr.impl spec_ReadExpr.impl x.1 x.2.1 x.2.2.1 x.2.2.2.1 := fun J J' h3 x => F3_le (L9_le h3) x.1 x.2.1 x.2.2.1 x.2.2.2.1
theorem L3_eq (t27 : Int) (t28 : Int) (r0 : List Bs) (r1 : List Bs) : L3 (t27, t28, r0, r1, ()) = F3 (L9 (L3)) impl_ReadExpr.impl spec_ReadExpr.impl t27 t28 r0 r1 := congrFun (lfp_eq (L3_mono)) _
theorem impl_eq (x0 : List Int) (x1 : List Int) : impl (x0, x1, ()) = F0 L3 spec_DrawReadExpr.impl x0 x1 := rfl
theorem con : Con Tryz.prog 7 2 rs.length 2 pin pout impl := by
  refine con_of_run3 (nt := 107) (c := c0) tabGood Tryz.func7 (by kernel_rfl) (by kernel_rfl) (by kernel_rfl) (by kernel_rfl) (by kernel_rfl) (by kernel_rfl) (by kernel_rfl) ?_
  intro w0 O y Post hnp fin
  have hp : ∀ (J3 : List Item → C3), ∀ (J9 : List Item → C9), Parts Tryz.prog 7 (pg impl_Eval.impl impl_ReadExpr.impl impl_Trimmed.impl impl_WriteExpr.impl spec_DrawReadExpr.impl spec_Eval.impl spec_ReadExpr.impl J3 J9) [(3, cut p3 J3), (9, cut p9 J9)] := fun J3 J9 => ⟨tab_ok tabGood rfl, (handAt_ok spec_Eval.con (handAt_ok spec_ReadExpr.con (handAt_ok spec_DrawReadExpr.con (handAt_ok impl_Eval.con (handAt_ok impl_Trimmed.con (handAt_ok impl_ReadExpr.con (handAt_ok impl_WriteExpr.con handNil_ok))))))), rfl⟩
  have g9 : ∀ (J3 : C3), Good Tryz.prog 107 w0 O Post y T3 p3 J3 → Good Tryz.prog 107 w0 O Post y T9 p9 (L9 J3) := fun J3 h3 => good_part (hp (atT T3 J3) (atT T9 (fun _ => none))) (runOK_of (hp (atT T3 J3) (atT T9 (fun _ => none))) hnp ⟨cutOK_at h3, cutOK_at (p := p9) (T := T9) (J := fun _ => none) good_none, trivial⟩ fin) (fun x => (seg9 impl_Eval.impl impl_ReadExpr.impl impl_Trimmed.impl impl_WriteExpr.impl spec_DrawReadExpr.impl spec_Eval.impl spec_ReadExpr.impl (atT T3 J3) (atT T9 (fun _ => none)) x.1 x.2.1 x.2.2.1 x.2.2.2.1 x.2.2.2.2.1 x.2.2.2.2.2.1 x.2.2.2.2.2.2.1 x.2.2.2.2.2.2.2.1).trans (by simp only [atT_self] <;> rfl))
  have g3 : Good Tryz.prog 107 w0 O Post y T3 p3 L3 := good_lfp fun J3 h3 => good_part (hp (atT T3 (fun _ => none)) (atT T9 (L9 J3))) (runOK_of (hp (atT T3 (fun _ => none)) (atT T9 (L9 J3))) hnp ⟨cutOK_at (p := p3) (T := T3) (J := fun _ => none) good_none, cutOK_at (g9 J3 h3), trivial⟩ fin) (fun x => (seg3 impl_Eval.impl impl_ReadExpr.impl impl_Trimmed.impl impl_WriteExpr.impl spec_DrawReadExpr.impl spec_Eval.impl spec_ReadExpr.impl (atT T3 (fun _ => none)) (atT T9 (L9 J3)) x.1 x.2.1 x.2.2.1 x.2.2.2.1).trans (by simp only [atT_self] <;> rfl))
  exact good_first (hp (atT T3 L3) (atT T9 (fun _ => none))) (runOK_of (hp (atT T3 L3) (atT T9 (fun _ => none))) hnp ⟨cutOK_at g3, cutOK_at (p := p9) (T := T9) (J := fun _ => none) good_none, trivial⟩ fin) (fun x => (seg0 impl_Eval.impl impl_ReadExpr.impl impl_Trimmed.impl impl_WriteExpr.impl spec_DrawReadExpr.impl spec_Eval.impl spec_ReadExpr.impl (atT T3 L3) (atT T9 (fun _ => none)) x.1 x.2.1).trans (by simp only [atT_self] <;> rfl))
end laws_FnEveryExpr
end Go.Proofs.YtfjnckjkpkhbdaaGreatDoorB
