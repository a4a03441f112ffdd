/- PRINTED BY A PROGRAM OF THIS CLAIM'S AUTHOR (wip/gen): functions of the given program, their parts, their contracts. -/
import Derived.Test.YtfjnckjkpkhbdaaGreatDoorB34
import Derived.Test.YtfjnckjkpkhbdaaGreatDoorB42
import Derived.Test.YtfjnckjkpkhbdaaGreatDoorChecked
import Derived.Test.YtfjnckjkpkhbdaaGreatDoorLFnExprBack
set_option linter.unusedVariables false
set_option linter.unusedSimpArgs false
set_option maxRecDepth 100000
namespace Go.Proofs.YtfjnckjkpkhbdaaGreatDoorB
open Go
def tab : Tab := [(3, { kind := .scalar, zero := [.d (.int .i64) (0 : Int)], bytes := 8, data := some (.int .i64), eqf := none }),
  (4, { kind := .scalar, zero := [.d .bool false], bytes := 1, data := some .bool, eqf := none }),
  (5, { kind := .scalar, zero := [.d (.int .u8) (0 : Int)], bytes := 1, data := some (.int .u8), eqf := none }),
  (9, { kind := .scalar, zero := [.d .str ([] : List UInt8)], bytes := 16, data := some .str, eqf := none }),
  (22, { kind := .slice 9, zero := [.nilS], bytes := 24, data := some (.sl .str), eqf := none }),
  (42, { kind := .slice 5, zero := [.nilS], bytes := 24, data := some (.sl (.int .u8)), eqf := none }),
  (43, { kind := .slice 52, zero := [.nilS], bytes := 24, data := some (.sl (.prod (.int .i64) (.prod (.int .i64) (.prod (.int .i64) (.last (.int .i64)))))), eqf := none }),
  (52, { kind := .struct [(0, 1), (1, 1), (2, 1), (3, 1)], zero := [.d (.int .i64) (0 : Int), .d (.int .i64) (0 : Int), .d (.int .i64) (0 : Int), .d (.int .i64) (0 : Int)], bytes := 32, data := some (.prod (.int .i64) (.prod (.int .i64) (.prod (.int .i64) (.last (.int .i64))))), eqf := some [(.int .i64), (.int .i64), (.int .i64), (.int .i64)] }),
  (53, { kind := .slice 3, zero := [.nilS], bytes := 24, data := some (.sl (.int .i64)), eqf := none }),
  (86, { kind := .iface, zero := [.nilif], bytes := 16, data := none, eqf := none }),
  (97, { kind := .scalar, zero := [.nilfn], bytes := 8, data := none, eqf := none }),
  (103, { kind := .scalar, zero := [.nilp], bytes := 8, data := none, eqf := none }),
  (105, { kind := .struct [(0, 1), (1, 1), (2, 1), (3, 1)], zero := [.nilS, .d .str ([] : List UInt8), .d (.int .i64) (0 : Int), .nilS], bytes := 72, data := some (.prod (.sl .str) (.prod .str (.prod (.int .i64) (.last (.sl (.prod (.int .i64) (.prod (.int .i64) (.prod (.int .i64) (.last (.int .i64)))))))))), eqf := none }),
  (145, { kind := .struct [(0, 1), (1, 1)], zero := [.nilS, .d (.int .i64) (0 : Int)], bytes := 32, data := some (.prod (.sl (.int .u8)) (.last (.int .i64))), eqf := none }),
  (191, { kind := .map (.int .u8) (.int .i64), zero := [.undef], bytes := 8, data := none, eqf := none })]
theorem tabGood : tabB Tryz.prog tab = true := by kernel_rfl

/-! ### loop.example/wholecheck/spec.l40Open -/
namespace spec_l40Open
noncomputable abbrev c0 : Code := (Tryz.f51.body).getD .skip
noncomputable abbrev pin : Tpl := ⟨[⟨0, false, [.d (.sl (.int .u8))]⟩], []⟩
noncomputable abbrev pout : Tpl := ⟨[⟨0, false, [.ptr 600001 0]⟩], [(600001, .box [.d (.sl (.int .u8)), .d (.int .i64)])]⟩
noncomputable abbrev PI := (List Int) × Unit
noncomputable abbrev PO := (List Int) × Int × Unit
noncomputable abbrev rs : List ResultVar := [.tmp 2]
noncomputable def F0 (x0 : List Int) : Option PO :=
  bif decide ((x0.length : Int) > 2000) then
    bif decide (2000 ≤ (x0.length : Int)) then
      some ((x0.take 2000).drop 0, 0, ())
    else
      none
  else
    some (x0, 0, ())
noncomputable def hd {R : Type} : Hand R := handNil
noncomputable def pg : Prog PO := { nt := 11, np := 0, tb := tabOf tab, hd := hd, cuts := cutsOf [], fin := endOf (tabOf tab) rs 0 pout }
noncomputable def q : FuncId → Bool := fun f => hasId [] f
theorem seg0 (x0 : List Int) : arun (pg) 5000 [.code c0] (mk pin (x0, ())) = F0 x0 := by kernel_rfl
noncomputable def impl : PI → Option PO := fun x => F0 x.1
theorem impl_eq (x0 : List Int) : impl (x0, ()) = F0 x0 := rfl
theorem con : Con Tryz.prog 51 1 rs.length 0 pin pout impl := by
  refine con_of_run' (nt := 11) (c := c0) tabGood Tryz.func51 (by kernel_rfl) (by kernel_rfl) (by kernel_rfl) (by kernel_rfl) (by kernel_rfl) (by kernel_rfl) (by kernel_rfl) ?_
  intro w0 O y hnp
  generalize hPost : (fun (a' : Act) (w' : World) => ∃ μ' S' st', Rel 11 w0 O μ' S' st' a' w' ∧ endOf (tabOf tab) rs 0 pout st' = some y) = Post
  have fin : ∀ (μ : Id → Option Value) (S : Nat → Prop) (st : St) (a : Act) (w : World), Rel 11 w0 O μ S st a w → endOf (tabOf tab) rs 0 pout st = some y → Post a w := fun μ S st a w h he => by rw [← hPost]; exact ⟨μ, S, st, h, he⟩
  have hp : Parts Tryz.prog 51 (pg) [] := ⟨tab_ok tabGood rfl, handNil_ok, rfl⟩
  exact good_first (hp) (runOK_of (hp) hnp trivial fin) (fun x => (seg0 x.1))
end spec_l40Open

/-! ### (*loop.example/wholecheck/spec.l40Rd).pick -/
namespace spec_l40Rd_pick
noncomputable abbrev c0 : Code := (Tryz.f53.body).getD .skip
noncomputable abbrev pin : Tpl := ⟨[⟨0, false, [.ptr 500001 0]⟩, ⟨1, false, [.d (.int .i64)]⟩], [(500001, .box [.d (.sl (.int .u8)), .d (.int .i64)])]⟩
noncomputable abbrev pout : Tpl := ⟨[⟨0, false, [.d (.int .i64)]⟩, ⟨1, false, [.ptr 500001 0]⟩], [(500001, .box [.d (.sl (.int .u8)), .d (.int .i64)])]⟩
noncomputable abbrev p4 : Tpl := ⟨[⟨0, false, [.ptr 500001 0]⟩, ⟨1, false, [.d (.int .i64)]⟩], [(500001, .box [.d (.sl (.int .u8)), .d (.int .i64)])]⟩
noncomputable def T4 : List Item := (find 4 c0 []).getD []
noncomputable abbrev p7 : Tpl := ⟨[⟨0, false, [.ptr 500001 0]⟩, ⟨1, false, [.d (.int .i64)]⟩, ⟨5, false, [.d (.int .i64)]⟩], [(500001, .box [.d (.sl (.int .u8)), .d (.int .i64)])]⟩
noncomputable def T7 : List Item := (find 7 c0 []).getD []
noncomputable abbrev PI := Int × (List Int) × Int × Unit
noncomputable abbrev PO := Int × (List Int) × Int × Unit
noncomputable abbrev P4 := Int × (List Int) × Int × Unit
noncomputable abbrev P7 := Int × Int × (List Int) × Int × Unit
noncomputable abbrev rs : List ResultVar := [.tmp 4]
noncomputable def F0 (J4 : P4 → Option PO) (x1 : Int) (c1_0 : List Int) (c1_1 : Int) : Option PO :=
  bif decide (x1 < 1) then
    some (0, c1_0, wI (c1_1 + 1), ())
  else
    bif (c1_0.length : Int) == 0 then
      some (0, c1_0, wI (c1_1 + 1), ())
    else
      J4 (x1, c1_0, wI (c1_1 + 1), ())
noncomputable def F4 (J7 : P7 → Option PO) (t1 : Int) (c1_0 : List Int) (c1_1 : Int) : Option PO :=
  bif decide (wI (c1_1 - 1) < (c1_0.length : Int)) then
    bif inb (wI (c1_1 - 1)) c1_0.length then
      bif decide (t1 = 0) then
        none
      else
        some (Int.tmod (wI (c1_0.getD (wI (c1_1 - 1)).toNat 0)) t1, c1_0, c1_1, ())
    else
      none
  else
    J7 (t1, wI (c1_1 - 1), c1_0, c1_1, ())
noncomputable def F7 (t1 : Int) (t5 : Int) (c1_0 : List Int) (c1_1 : Int) : Option PO :=
  bif decide ((c1_0.length : Int) = 0) then
    none
  else
    bif inb (Int.tmod t5 (c1_0.length : Int)) c1_0.length then
      bif decide ((c1_0.length : Int) = 0) then
        none
      else
        bif inb (Int.tmod (wI ((wI (t5 * 7)) + 3)) (c1_0.length : Int)) c1_0.length then
          bif decide ((c1_0.length : Int) = 0) then
            none
          else
            bif decide (t1 = 0) then
              none
            else
              some (Int.tmod (xorI .i64 (wI ((wI ((wI ((wI ((wI (c1_0.getD (Int.tmod t5 (c1_0.length : Int)).toNat 0)) * 131)) + (wI ((wI (c1_0.getD (Int.tmod (wI ((wI (t5 * 7)) + 3)) (c1_0.length : Int)).toNat 0)) * 1117)))) + (wI (t5 * 29)))) + (wI ((wI (Int.tdiv t5 (c1_0.length : Int))) * 53)))) (wI (Int.tdiv (wI ((wI ((wI ((wI ((wI (c1_0.getD (Int.tmod t5 (c1_0.length : Int)).toNat 0)) * 131)) + (wI ((wI (c1_0.getD (Int.tmod (wI ((wI (t5 * 7)) + 3)) (c1_0.length : Int)).toNat 0)) * 1117)))) + (wI (t5 * 29)))) + (wI ((wI (Int.tdiv t5 (c1_0.length : Int))) * 53)))) 64))) t1, c1_0, c1_1, ())
        else
          none
    else
      none
noncomputable def hd {R : Type} : Hand R := handNil
noncomputable def pg (J4 : List Item → P4 → Option PO) (J7 : List Item → P7 → Option PO) : Prog PO := { nt := 99, np := 2, tb := tabOf tab, hd := hd, cuts := cutsOf [(4, cut p4 J4), (7, cut p7 J7)], fin := endOf (tabOf tab) rs 2 pout }
noncomputable def q : FuncId → Bool := fun f => hasId [] f
theorem seg0 (J4 : List Item → P4 → Option PO) (J7 : List Item → P7 → Option PO) (x1 : Int) (c1_0 : List Int) (c1_1 : Int) : arun (pg J4 J7) 5000 [.code c0] (mk pin (x1, c1_0, c1_1, ())) = F0 (J4 T4) x1 c1_0 c1_1 := by kernel_rfl
theorem seg4 (J4 : List Item → P4 → Option PO) (J7 : List Item → P7 → Option PO) (t1 : Int) (c1_0 : List Int) (c1_1 : Int) : arun1 (pg J4 J7) 5000 T4 (mk p4 (t1, c1_0, c1_1, ())) = F4 (J7 T7) t1 c1_0 c1_1 := by kernel_rfl
theorem seg7 (J4 : List Item → P4 → Option PO) (J7 : List Item → P7 → Option PO) (t1 : Int) (t5 : Int) (c1_0 : List Int) (c1_1 : Int) : arunQ (pg J4 J7) q [] [] 5000 T7 (mk p7 (t1, t5, c1_0, c1_1, ())) = List.replicate (arunQ (pg J4 J7) q [] [] 5000 T7 (mk p7 (t1, t5, c1_0, c1_1, ()))).length (F7 t1 t5 c1_0 c1_1) := by kernel_rfl
noncomputable def L7 : P7 → Option PO := fun x => F7 x.1 x.2.1 x.2.2.1 x.2.2.2.1
noncomputable def L4 : P4 → Option PO := fun x => F4 L7 x.1 x.2.1 x.2.2.1
noncomputable def impl : PI → Option PO := fun x => F0 L4 x.1 x.2.1 x.2.2.1
theorem L7_eq (t1 : Int) (t5 : Int) (c1_0 : List Int) (c1_1 : Int) : L7 (t1, t5, c1_0, c1_1, ()) = F7 t1 t5 c1_0 c1_1 := rfl
theorem L4_eq (t1 : Int) (c1_0 : List Int) (c1_1 : Int) : L4 (t1, c1_0, c1_1, ()) = F4 (L7) t1 c1_0 c1_1 := rfl
theorem impl_eq (x1 : Int) (c1_0 : List Int) (c1_1 : Int) : impl (x1, c1_0, c1_1, ()) = F0 L4 x1 c1_0 c1_1 := rfl
theorem con : Con Tryz.prog 53 2 rs.length 2 pin pout impl := by
  refine con_of_run' (nt := 99) (c := c0) tabGood Tryz.func53 (by kernel_rfl) (by kernel_rfl) (by kernel_rfl) (by kernel_rfl) (by kernel_rfl) (by kernel_rfl) (by kernel_rfl) ?_
  intro w0 O y hnp
  generalize hPost : (fun (a' : Act) (w' : World) => ∃ μ' S' st', Rel 99 w0 O μ' S' st' a' w' ∧ endOf (tabOf tab) rs 2 pout st' = some y) = Post
  have fin : ∀ (μ : Id → Option Value) (S : Nat → Prop) (st : St) (a : Act) (w : World), Rel 99 w0 O μ S st a w → endOf (tabOf tab) rs 2 pout st = some y → Post a w := fun μ S st a w h he => by rw [← hPost]; exact ⟨μ, S, st, h, he⟩
  have hp : ∀ (J4 : List Item → P4 → Option PO), ∀ (J7 : List Item → P7 → Option PO), Parts Tryz.prog 53 (pg J4 J7) [(4, cut p4 J4), (7, cut p7 J7)] := fun J4 J7 => ⟨tab_ok tabGood rfl, handNil_ok, rfl⟩
  have g7 : Good Tryz.prog 99 w0 O Post y T7 p7 L7 := good_quiet (hs := hd) (cv' := hd) (Checked.mixed Tryz.checked) (hp (atT T4 (fun _ => none)) (atT T7 (fun _ => none))) handNil_D handNil_nat handNil_nat (runOK_of (hp (atT T4 (fun _ => none)) (atT T7 (fun _ => none))) hnp ⟨cutOK_at (p := p4) (T := T4) (J := fun _ => none) good_none, cutOK_at (p := p7) (T := T7) (J := fun _ => none) good_none, trivial⟩ fin) (fun x => all_same ⟨_, (seg7 (atT T4 (fun _ => none)) (atT T7 (fun _ => none)) x.1 x.2.1 x.2.2.1 x.2.2.2.1)⟩)
  have g4 : Good Tryz.prog 99 w0 O Post y T4 p4 L4 := good_part (hp (atT T4 (fun _ => none)) (atT T7 L7)) (runOK_of (hp (atT T4 (fun _ => none)) (atT T7 L7)) hnp ⟨cutOK_at (p := p4) (T := T4) (J := fun _ => none) good_none, cutOK_at g7, trivial⟩ fin) (fun x => (seg4 (atT T4 (fun _ => none)) (atT T7 L7) x.1 x.2.1 x.2.2.1).trans (by simp only [atT_self] <;> rfl))
  exact good_first (hp (atT T4 L4) (atT T7 (fun _ => none))) (runOK_of (hp (atT T4 L4) (atT T7 (fun _ => none))) hnp ⟨cutOK_at g4, cutOK_at (p := p7) (T := T7) (J := fun _ => none) good_none, trivial⟩ fin) (fun x => (seg0 (atT T4 L4) (atT T7 (fun _ => none)) x.1 x.2.1 x.2.2.1).trans (by simp only [atT_self] <;> rfl))
end spec_l40Rd_pick

/-! ### (*loop.example/wholecheck/spec.l40Rd).of -/
namespace spec_l40Rd_of
noncomputable abbrev c0 : Code := (Tryz.f103.body).getD .skip
noncomputable abbrev pin : Tpl := ⟨[⟨0, false, [.ptr 500001 0]⟩, ⟨1, false, [.d (.sl .str)]⟩], [(500001, .box [.d (.sl (.int .u8)), .d (.int .i64)])]⟩
noncomputable abbrev pout : Tpl := ⟨[⟨0, false, [.d .str]⟩, ⟨1, false, [.ptr 500001 0]⟩], [(500001, .box [.d (.sl (.int .u8)), .d (.int .i64)])]⟩
noncomputable abbrev PI := (List (List UInt8)) × (List Int) × Int × Unit
noncomputable abbrev PO := (List UInt8) × (List Int) × Int × Unit
noncomputable abbrev rs : List ResultVar := [.tmp 4]
noncomputable def F0 (Gspec_l40Rd_pick : spec_l40Rd_pick.PI → Option spec_l40Rd_pick.PO) (x1 : List (List UInt8)) (c1_0 : List Int) (c1_1 : Int) : Option PO :=
  Option.bind (Gspec_l40Rd_pick ((x1.length : Int), c1_0, c1_1, ())) fun y0 =>
  bif inb y0.1 x1.length then
    some (x1.getD y0.1.toNat [], y0.2.1, y0.2.2.1, ())
  else
    none
noncomputable def hd {R : Type} (Gspec_l40Rd_pick : spec_l40Rd_pick.PI → Option spec_l40Rd_pick.PO) : Hand R := (handAt 53 [9] false ⟨2, 1, 2, spec_l40Rd_pick.pin, spec_l40Rd_pick.pout, Gspec_l40Rd_pick⟩ handNil)
noncomputable def pg (Gspec_l40Rd_pick : spec_l40Rd_pick.PI → Option spec_l40Rd_pick.PO) : Prog PO := { nt := 12, np := 2, tb := tabOf tab, hd := hd Gspec_l40Rd_pick, cuts := cutsOf [], fin := endOf (tabOf tab) rs 2 pout }
noncomputable def q : FuncId → Bool := fun f => hasId [] f
theorem seg0 (Gspec_l40Rd_pick : spec_l40Rd_pick.PI → Option spec_l40Rd_pick.PO) (x1 : List (List UInt8)) (c1_0 : List Int) (c1_1 : Int) : arun (pg Gspec_l40Rd_pick) 5000 [.code c0] (mk pin (x1, c1_0, c1_1, ())) = F0 Gspec_l40Rd_pick x1 c1_0 c1_1 := by kernel_rfl
noncomputable def impl : PI → Option PO := fun x => F0 spec_l40Rd_pick.impl x.1 x.2.1 x.2.2.1
theorem impl_eq (x1 : List (List UInt8)) (c1_0 : List Int) (c1_1 : Int) : impl (x1, c1_0, c1_1, ()) = F0 spec_l40Rd_pick.impl x1 c1_0 c1_1 := rfl
theorem con : Con Tryz.prog 103 2 rs.length 2 pin pout impl := by
  refine con_of_run' (nt := 12) (c := c0) tabGood Tryz.func103 (by kernel_rfl) (by kernel_rfl) (by kernel_rfl) (by kernel_rfl) (by kernel_rfl) (by kernel_rfl) (by kernel_rfl) ?_
  intro w0 O y hnp
  generalize hPost : (fun (a' : Act) (w' : World) => ∃ μ' S' st', Rel 12 w0 O μ' S' st' a' w' ∧ endOf (tabOf tab) rs 2 pout st' = some y) = Post
  have fin : ∀ (μ : Id → Option Value) (S : Nat → Prop) (st : St) (a : Act) (w : World), Rel 12 w0 O μ S st a w → endOf (tabOf tab) rs 2 pout st = some y → Post a w := fun μ S st a w h he => by rw [← hPost]; exact ⟨μ, S, st, h, he⟩
  have hp : Parts Tryz.prog 103 (pg spec_l40Rd_pick.impl) [] := ⟨tab_ok tabGood rfl, (handAt_ok spec_l40Rd_pick.con handNil_ok), rfl⟩
  exact good_first (hp) (runOK_of (hp) hnp trivial fin) (fun x => (seg0 spec_l40Rd_pick.impl x.1 x.2.1 x.2.2.1))
end spec_l40Rd_of

/-! ### loop.example/wholecheck/spec.l30Names -/
namespace spec_l30Names
noncomputable abbrev c0 : Code := (Tryz.f52.body).getD .skip
noncomputable abbrev pin : Tpl := ⟨[⟨0, false, [.ptr 500001 0]⟩, ⟨1, false, [.d (.int .i64)]⟩], [(500001, .box [.d (.sl (.int .u8)), .d (.int .i64)])]⟩
noncomputable abbrev pout : Tpl := ⟨[⟨0, false, [.row 600001]⟩, ⟨1, false, [.ptr 500001 0]⟩], [(600001, .row 9 false .str), (500001, .box [.d (.sl (.int .u8)), .d (.int .i64)])]⟩
noncomputable abbrev p3 : Tpl := ⟨[⟨0, false, [.ptr 500001 0]⟩, ⟨1, false, [.d (.int .i64)]⟩, ⟨5, false, [.row 3000000]⟩, ⟨6, false, [.d (.int .i64)]⟩], [(500001, .box [.d (.sl (.int .u8)), .d (.int .i64)]), (3000000, .row 9 false .str)]⟩
noncomputable def T3 : List Item := (find 3 c0 []).getD []
noncomputable abbrev PI := Int × (List Int) × Int × Unit
noncomputable abbrev PO := (List (List UInt8)) × (List Int) × Int × Unit
noncomputable abbrev P3 := Int × Int × (List Int) × Int × (List (List UInt8)) × Unit
noncomputable abbrev rs : List ResultVar := [.tmp 4]
noncomputable def F0 (J3 : P3 → Option PO) (x1 : Int) (c1_0 : List Int) (c1_1 : Int) : Option PO :=
  J3 (x1, 0, c1_0, c1_1, ([] : List (List UInt8)), ())
noncomputable def F3 (J3 : P3 → Option PO) (Gspec_l40Rd_of : spec_l40Rd_of.PI → Option spec_l40Rd_of.PO) (Gspec_l40Rd_pick : spec_l40Rd_pick.PI → Option spec_l40Rd_pick.PO) (t1 : Int) (t6 : Int) (c1_0 : List Int) (c1_1 : Int) (r0 : List (List UInt8)) : Option PO :=
  bif decide (t6 < t1) then
    bif inb (Int.tmod t6 5) ([([120] : List UInt8), ([121] : List UInt8), ([116, 117, 114, 110] : List UInt8), ([100, 111, 111, 114] : List UInt8), ([99, 111, 117, 110, 116] : List UInt8)] : List (List UInt8)).length then
      bif decide ((r0.length + ([([([120] : List UInt8), ([121] : List UInt8), ([116, 117, 114, 110] : List UInt8), ([100, 111, 111, 114] : List UInt8), ([99, 111, 117, 110, 116] : List UInt8)] : List (List UInt8)).getD (Int.tmod t6 5).toNat []] : List (List UInt8)).length) * 16 ≤ 140737488355328) then
        J3 (t1, wI (t6 + 1), c1_0, c1_1, r0 ++ ([([([120] : List UInt8), ([121] : List UInt8), ([116, 117, 114, 110] : List UInt8), ([100, 111, 111, 114] : List UInt8), ([99, 111, 117, 110, 116] : List UInt8)] : List (List UInt8)).getD (Int.tmod t6 5).toNat []] : List (List UInt8)), ())
      else
        none
    else
      none
  else
    bif decide (t1 > 0) then
      Option.bind (Gspec_l40Rd_pick (20, c1_0, c1_1, ())) fun y0 =>
      bif y0.1 == 0 then
        Option.bind (Gspec_l40Rd_pick (t1, y0.2.1, y0.2.2.1, ())) fun y1 =>
        Option.bind (Gspec_l40Rd_of (([[], ([88] : List UInt8), ([120] : List UInt8), ([97, 98, 99, 100, 101, 102, 103, 104, 105] : List UInt8), ([97, 49] : List UInt8)] : List (List UInt8)), y1.2.1, y1.2.2.1, ())) fun y2 =>
        bif inb y1.1 r0.length then
          some (r0.set y1.1.toNat y2.1, y2.2.1, y2.2.2.1, ())
        else
          none
      else
        some (r0, y0.2.1, y0.2.2.1, ())
    else
      some (r0, c1_0, c1_1, ())
noncomputable def hd {R : Type} (Gspec_l40Rd_of : spec_l40Rd_of.PI → Option spec_l40Rd_of.PO) (Gspec_l40Rd_pick : spec_l40Rd_pick.PI → Option spec_l40Rd_pick.PO) : Hand R := (handAt 103 [34] false ⟨2, 1, 2, spec_l40Rd_of.pin, spec_l40Rd_of.pout, Gspec_l40Rd_of⟩ (handAt 53 [25, 31] false ⟨2, 1, 2, spec_l40Rd_pick.pin, spec_l40Rd_pick.pout, Gspec_l40Rd_pick⟩ handNil))
noncomputable def pg (Gspec_l40Rd_of : spec_l40Rd_of.PI → Option spec_l40Rd_of.PO) (Gspec_l40Rd_pick : spec_l40Rd_pick.PI → Option spec_l40Rd_pick.PO) (J3 : List Item → P3 → Option PO) : Prog PO := { nt := 37, np := 2, tb := tabOf tab, hd := hd Gspec_l40Rd_of Gspec_l40Rd_pick, cuts := cutsOf [(3, cut p3 J3)], fin := endOf (tabOf tab) rs 2 pout }
noncomputable def q : FuncId → Bool := fun f => hasId [] f
theorem seg0 (Gspec_l40Rd_of : spec_l40Rd_of.PI → Option spec_l40Rd_of.PO) (Gspec_l40Rd_pick : spec_l40Rd_pick.PI → Option spec_l40Rd_pick.PO) (J3 : List Item → P3 → Option PO) (x1 : Int) (c1_0 : List Int) (c1_1 : Int) : arun (pg Gspec_l40Rd_of Gspec_l40Rd_pick J3) 5000 [.code c0] (mk pin (x1, c1_0, c1_1, ())) = F0 (J3 T3) x1 c1_0 c1_1 := by kernel_rfl
theorem seg3 (Gspec_l40Rd_of : spec_l40Rd_of.PI → Option spec_l40Rd_of.PO) (Gspec_l40Rd_pick : spec_l40Rd_pick.PI → Option spec_l40Rd_pick.PO) (J3 : List Item → P3 → Option PO) (t1 : Int) (t6 : Int) (c1_0 : List Int) (c1_1 : Int) (r0 : List (List UInt8)) : arun1 (pg Gspec_l40Rd_of Gspec_l40Rd_pick J3) 5000 T3 (mk p3 (t1, t6, c1_0, c1_1, r0, ())) = F3 (J3 T3) Gspec_l40Rd_of Gspec_l40Rd_pick t1 t6 c1_0 c1_1 r0 := by kernel_rfl
noncomputable def L3 : P3 → Option PO := lfp fun J3 x => F3 J3 spec_l40Rd_of.impl spec_l40Rd_pick.impl x.1 x.2.1 x.2.2.1 x.2.2.2.1 x.2.2.2.2.1
noncomputable def impl : PI → Option PO := fun x => F0 L3 x.1 x.2.1 x.2.2.1
theorem F3_le {J3 J3' : P3 → Option PO} (h3 : OLe J3 J3') {Gspec_l40Rd_of : spec_l40Rd_of.PI → Option spec_l40Rd_of.PO} {Gspec_l40Rd_pick : spec_l40Rd_pick.PI → Option spec_l40Rd_pick.PO} (t1 : Int) (t6 : Int) (c1_0 : List Int) (c1_1 : Int) (r0 : List (List UInt8)) : OptLe (F3 J3 Gspec_l40Rd_of Gspec_l40Rd_pick t1 t6 c1_0 c1_1 r0) (F3 J3' Gspec_l40Rd_of Gspec_l40Rd_pick t1 t6 c1_0 c1_1 r0) := by unfold F3; exact .cond (.cond (.cond (.of h3 _) (.refl _)) (.refl _)) (.refl _)
theorem L3_mono : OMono fun J3 (x : P3) => F3 J3 spec_l40Rd_of.impl spec_l40Rd_pick.impl x.1 x.2.1 x.2.2.1 x.2.2.2.1 x.2.2.2.2.1 := fun J J' h3 x => F3_le h3 x.1 x.2.1 x.2.2.1 x.2.2.2.1 x.2.2.2.2.1
theorem L3_eq (t1 : Int) (t6 : Int) (c1_0 : List Int) (c1_1 : Int) (r0 : List (List UInt8)) : L3 (t1, t6, c1_0, c1_1, r0, ()) = F3 (L3) spec_l40Rd_of.impl spec_l40Rd_pick.impl t1 t6 c1_0 c1_1 r0 := congrFun (lfp_eq (L3_mono)) _
theorem impl_eq (x1 : Int) (c1_0 : List Int) (c1_1 : Int) : impl (x1, c1_0, c1_1, ()) = F0 L3 x1 c1_0 c1_1 := rfl
theorem con : Con Tryz.prog 52 2 rs.length 2 pin pout impl := by
  refine con_of_run' (nt := 37) (c := c0) tabGood Tryz.func52 (by kernel_rfl) (by kernel_rfl) (by kernel_rfl) (by kernel_rfl) (by kernel_rfl) (by kernel_rfl) (by kernel_rfl) ?_
  intro w0 O y hnp
  generalize hPost : (fun (a' : Act) (w' : World) => ∃ μ' S' st', Rel 37 w0 O μ' S' st' a' w' ∧ endOf (tabOf tab) rs 2 pout st' = some y) = Post
  have fin : ∀ (μ : Id → Option Value) (S : Nat → Prop) (st : St) (a : Act) (w : World), Rel 37 w0 O μ S st a w → endOf (tabOf tab) rs 2 pout st = some y → Post a w := fun μ S st a w h he => by rw [← hPost]; exact ⟨μ, S, st, h, he⟩
  have hp : ∀ (J3 : List Item → P3 → Option PO), Parts Tryz.prog 52 (pg spec_l40Rd_of.impl spec_l40Rd_pick.impl J3) [(3, cut p3 J3)] := fun J3 => ⟨tab_ok tabGood rfl, (handAt_ok spec_l40Rd_of.con (handAt_ok spec_l40Rd_pick.con handNil_ok)), rfl⟩
  have g3 : Good Tryz.prog 37 w0 O Post y T3 p3 L3 := good_lfp fun J3 h3 => good_part (hp (atT T3 J3)) (runOK_of (hp (atT T3 J3)) hnp ⟨cutOK_at h3, trivial⟩ fin) (fun x => (seg3 spec_l40Rd_of.impl spec_l40Rd_pick.impl (atT T3 J3) x.1 x.2.1 x.2.2.1 x.2.2.2.1 x.2.2.2.2.1).trans (by simp only [atT_self] <;> rfl))
  exact good_first (hp (atT T3 L3)) (runOK_of (hp (atT T3 L3)) hnp ⟨cutOK_at g3, trivial⟩ fin) (fun x => (seg0 spec_l40Rd_of.impl spec_l40Rd_pick.impl (atT T3 L3) x.1 x.2.1 x.2.2.1).trans (by simp only [atT_self] <;> rfl))
end spec_l30Names

/-! ### (*loop.example/wholecheck/spec.l40Rd).num -/
namespace spec_l40Rd_num
noncomputable abbrev c0 : Code := (Tryz.f73.body).getD .skip
noncomputable abbrev pin : Tpl := ⟨[⟨0, false, [.ptr 500001 0]⟩, ⟨1, false, [.d (.sl (.int .i64))]⟩], [(500001, .box [.d (.sl (.int .u8)), .d (.int .i64)])]⟩
noncomputable abbrev pout : Tpl := ⟨[⟨0, false, [.d (.int .i64)]⟩, ⟨1, false, [.ptr 500001 0]⟩], [(500001, .box [.d (.sl (.int .u8)), .d (.int .i64)])]⟩
noncomputable abbrev PI := (List Int) × (List Int) × Int × Unit
noncomputable abbrev PO := Int × (List Int) × Int × Unit
noncomputable abbrev rs : List ResultVar := [.tmp 4]
noncomputable def F0 (Gspec_l40Rd_pick : spec_l40Rd_pick.PI → Option spec_l40Rd_pick.PO) (x1 : List Int) (c1_0 : List Int) (c1_1 : Int) : Option PO :=
  Option.bind (Gspec_l40Rd_pick ((x1.length : Int), c1_0, c1_1, ())) fun y0 =>
  bif inb y0.1 x1.length then
    some (x1.getD y0.1.toNat 0, y0.2.1, y0.2.2.1, ())
  else
    none
noncomputable def hd {R : Type} (Gspec_l40Rd_pick : spec_l40Rd_pick.PI → Option spec_l40Rd_pick.PO) : Hand R := (handAt 53 [9] false ⟨2, 1, 2, spec_l40Rd_pick.pin, spec_l40Rd_pick.pout, Gspec_l40Rd_pick⟩ handNil)
noncomputable def pg (Gspec_l40Rd_pick : spec_l40Rd_pick.PI → Option spec_l40Rd_pick.PO) : Prog PO := { nt := 12, np := 2, tb := tabOf tab, hd := hd Gspec_l40Rd_pick, cuts := cutsOf [], fin := endOf (tabOf tab) rs 2 pout }
noncomputable def q : FuncId → Bool := fun f => hasId [] f
theorem seg0 (Gspec_l40Rd_pick : spec_l40Rd_pick.PI → Option spec_l40Rd_pick.PO) (x1 : List Int) (c1_0 : List Int) (c1_1 : Int) : arun (pg Gspec_l40Rd_pick) 5000 [.code c0] (mk pin (x1, c1_0, c1_1, ())) = F0 Gspec_l40Rd_pick x1 c1_0 c1_1 := by kernel_rfl
noncomputable def impl : PI → Option PO := fun x => F0 spec_l40Rd_pick.impl x.1 x.2.1 x.2.2.1
theorem impl_eq (x1 : List Int) (c1_0 : List Int) (c1_1 : Int) : impl (x1, c1_0, c1_1, ()) = F0 spec_l40Rd_pick.impl x1 c1_0 c1_1 := rfl
theorem con : Con Tryz.prog 73 2 rs.length 2 pin pout impl := by
  refine con_of_run' (nt := 12) (c := c0) tabGood Tryz.func73 (by kernel_rfl) (by kernel_rfl) (by kernel_rfl) (by kernel_rfl) (by kernel_rfl) (by kernel_rfl) (by kernel_rfl) ?_
  intro w0 O y hnp
  generalize hPost : (fun (a' : Act) (w' : World) => ∃ μ' S' st', Rel 12 w0 O μ' S' st' a' w' ∧ endOf (tabOf tab) rs 2 pout st' = some y) = Post
  have fin : ∀ (μ : Id → Option Value) (S : Nat → Prop) (st : St) (a : Act) (w : World), Rel 12 w0 O μ S st a w → endOf (tabOf tab) rs 2 pout st = some y → Post a w := fun μ S st a w h he => by rw [← hPost]; exact ⟨μ, S, st, h, he⟩
  have hp : Parts Tryz.prog 73 (pg spec_l40Rd_pick.impl) [] := ⟨tab_ok tabGood rfl, (handAt_ok spec_l40Rd_pick.con handNil_ok), rfl⟩
  exact good_first (hp) (runOK_of (hp) hnp trivial fin) (fun x => (seg0 spec_l40Rd_pick.impl x.1 x.2.1 x.2.2.1))
end spec_l40Rd_num

/-! ### loop.example/wholecheck/spec.l1Number -/
namespace spec_l1Number
noncomputable abbrev c0 : Code := (Tryz.f113.body).getD .skip
noncomputable abbrev pin : Tpl := ⟨[⟨0, false, [.ptr 500001 0]⟩], [(500001, .box [.d (.sl (.int .u8)), .d (.int .i64)])]⟩
noncomputable abbrev pout : Tpl := ⟨[⟨0, false, [.d (.int .i64)]⟩, ⟨1, false, [.ptr 500001 0]⟩], [(500001, .box [.d (.sl (.int .u8)), .d (.int .i64)])]⟩
noncomputable abbrev PI := (List Int) × Int × Unit
noncomputable abbrev PO := Int × (List Int) × Int × Unit
noncomputable abbrev rs : List ResultVar := [.tmp 2]
noncomputable def F0 (Gspec_l40Rd_num : spec_l40Rd_num.PI → Option spec_l40Rd_num.PO) (Gspec_l40Rd_pick : spec_l40Rd_pick.PI → Option spec_l40Rd_pick.PO) (c1_0 : List Int) (c1_1 : Int) : Option PO :=
  Option.bind (Gspec_l40Rd_pick (4, c1_0, c1_1, ())) fun y0 =>
  Option.bind (Gspec_l40Rd_pick (4, y0.2.1, y0.2.2.1, ())) fun y1 =>
  Option.bind (Gspec_l40Rd_pick (7, y1.2.1, y1.2.2.1, ())) fun y2 =>
  Option.bind (Gspec_l40Rd_pick (200, y2.2.1, y2.2.2.1, ())) fun y3 =>
  Option.bind (Gspec_l40Rd_pick (4, y3.2.1, y3.2.2.1, ())) fun y4 =>
  bif inb y4.1 ([9999, (-9999), 5000, 100] : List Int).length then
    Option.bind (Gspec_l40Rd_num (([y0.1, y1.1, wI (y2.1 - 3), 1, 0, wI (y3.1 - 100), ([9999, (-9999), 5000, 100] : List Int).getD y4.1.toNat 0] : List Int), y4.2.1, y4.2.2.1, ())) fun y5 =>
    some (y5.1, y5.2.1, y5.2.2.1, ())
  else
    none
noncomputable def hd {R : Type} (Gspec_l40Rd_num : spec_l40Rd_num.PI → Option spec_l40Rd_num.PO) (Gspec_l40Rd_pick : spec_l40Rd_pick.PI → Option spec_l40Rd_pick.PO) : Hand R := (handAt 73 [20] false ⟨2, 1, 2, spec_l40Rd_num.pin, spec_l40Rd_num.pout, Gspec_l40Rd_num⟩ (handAt 53 [5, 7, 9, 12, 16] false ⟨2, 1, 2, spec_l40Rd_pick.pin, spec_l40Rd_pick.pout, Gspec_l40Rd_pick⟩ handNil))
noncomputable def pg (Gspec_l40Rd_num : spec_l40Rd_num.PI → Option spec_l40Rd_num.PO) (Gspec_l40Rd_pick : spec_l40Rd_pick.PI → Option spec_l40Rd_pick.PO) : Prog PO := { nt := 21, np := 1, tb := tabOf tab, hd := hd Gspec_l40Rd_num Gspec_l40Rd_pick, cuts := cutsOf [], fin := endOf (tabOf tab) rs 1 pout }
noncomputable def q : FuncId → Bool := fun f => hasId [] f
theorem seg0 (Gspec_l40Rd_num : spec_l40Rd_num.PI → Option spec_l40Rd_num.PO) (Gspec_l40Rd_pick : spec_l40Rd_pick.PI → Option spec_l40Rd_pick.PO) (c1_0 : List Int) (c1_1 : Int) : arun (pg Gspec_l40Rd_num Gspec_l40Rd_pick) 5000 [.code c0] (mk pin (c1_0, c1_1, ())) = F0 Gspec_l40Rd_num Gspec_l40Rd_pick c1_0 c1_1 := by kernel_rfl
noncomputable def impl : PI → Option PO := fun x => F0 spec_l40Rd_num.impl spec_l40Rd_pick.impl x.1 x.2.1
theorem impl_eq (c1_0 : List Int) (c1_1 : Int) : impl (c1_0, c1_1, ()) = F0 spec_l40Rd_num.impl spec_l40Rd_pick.impl c1_0 c1_1 := rfl
theorem con : Con Tryz.prog 113 1 rs.length 1 pin pout impl := by
  refine con_of_run' (nt := 21) (c := c0) tabGood Tryz.func113 (by kernel_rfl) (by kernel_rfl) (by kernel_rfl) (by kernel_rfl) (by kernel_rfl) (by kernel_rfl) (by kernel_rfl) ?_
  intro w0 O y hnp
  generalize hPost : (fun (a' : Act) (w' : World) => ∃ μ' S' st', Rel 21 w0 O μ' S' st' a' w' ∧ endOf (tabOf tab) rs 1 pout st' = some y) = Post
  have fin : ∀ (μ : Id → Option Value) (S : Nat → Prop) (st : St) (a : Act) (w : World), Rel 21 w0 O μ S st a w → endOf (tabOf tab) rs 1 pout st = some y → Post a w := fun μ S st a w h he => by rw [← hPost]; exact ⟨μ, S, st, h, he⟩
  have hp : Parts Tryz.prog 113 (pg spec_l40Rd_num.impl spec_l40Rd_pick.impl) [] := ⟨tab_ok tabGood rfl, (handAt_ok spec_l40Rd_num.con (handAt_ok spec_l40Rd_pick.con handNil_ok)), rfl⟩
  exact good_first (hp) (runOK_of (hp) hnp trivial fin) (fun x => (seg0 spec_l40Rd_num.impl spec_l40Rd_pick.impl x.1 x.2.1))
end spec_l1Number

/-! ### loop.example/wholecheck/spec.l1In -/
namespace spec_l1In
noncomputable abbrev c0 : Code := (Tryz.f107.body).getD .skip
noncomputable abbrev pin : Tpl := ⟨[⟨0, false, [.d (.int .i64)]⟩, ⟨1, false, [.d (.int .i64)]⟩, ⟨2, false, [.d (.int .i64)]⟩], []⟩
noncomputable abbrev pout : Tpl := ⟨[⟨0, false, [.d .bool]⟩], []⟩
noncomputable abbrev PI := Int × Int × Int × Unit
noncomputable abbrev PO := Bool × Unit
noncomputable abbrev rs : List ResultVar := [.tmp 6]
noncomputable def F0 (x0 : Int) (x1 : Int) (x2 : Int) : Option PO :=
  bif decide (x0 ≥ x1) then
    some (decide (x0 ≤ x2), ())
  else
    some (false, ())
noncomputable def hd {R : Type} : Hand R := handNil
noncomputable def pg : Prog PO := { nt := 15, np := 3, tb := tabOf tab, hd := hd, cuts := cutsOf [], fin := endOf (tabOf tab) rs 3 pout }
noncomputable def q : FuncId → Bool := fun f => hasId [] f
theorem seg0 (x0 : Int) (x1 : Int) (x2 : Int) : arun (pg) 5000 [.code c0] (mk pin (x0, x1, x2, ())) = F0 x0 x1 x2 := by kernel_rfl
noncomputable def impl : PI → Option PO := fun x => F0 x.1 x.2.1 x.2.2.1
theorem impl_eq (x0 : Int) (x1 : Int) (x2 : Int) : impl (x0, x1, x2, ()) = F0 x0 x1 x2 := rfl
theorem con : Con Tryz.prog 107 3 rs.length 3 pin pout impl := by
  refine con_of_run' (nt := 15) (c := c0) tabGood Tryz.func107 (by kernel_rfl) (by kernel_rfl) (by kernel_rfl) (by kernel_rfl) (by kernel_rfl) (by kernel_rfl) (by kernel_rfl) ?_
  intro w0 O y hnp
  generalize hPost : (fun (a' : Act) (w' : World) => ∃ μ' S' st', Rel 15 w0 O μ' S' st' a' w' ∧ endOf (tabOf tab) rs 3 pout st' = some y) = Post
  have fin : ∀ (μ : Id → Option Value) (S : Nat → Prop) (st : St) (a : Act) (w : World), Rel 15 w0 O μ S st a w → endOf (tabOf tab) rs 3 pout st = some y → Post a w := fun μ S st a w h he => by rw [← hPost]; exact ⟨μ, S, st, h, he⟩
  have hp : Parts Tryz.prog 107 (pg) [] := ⟨tab_ok tabGood rfl, handNil_ok, rfl⟩
  exact good_first (hp) (runOK_of (hp) hnp trivial fin) (fun x => (seg0 x.1 x.2.1 x.2.2.1))
end spec_l1In

/-! ### loop.example/wholecheck/spec.l1One -/
namespace spec_l1One
noncomputable abbrev c0 : Code := (Tryz.f56.body).getD .skip
noncomputable abbrev pin : Tpl := ⟨[⟨0, false, [.d (.int .i64)]⟩], []⟩
noncomputable abbrev pout : Tpl := ⟨[⟨0, false, [.d .bool]⟩], []⟩
noncomputable abbrev PI := Int × Unit
noncomputable abbrev PO := Bool × Unit
noncomputable abbrev rs : List ResultVar := [.tmp 2]
noncomputable def F0 (x0 : Int) : Option PO :=
  some (x0 == 7, ())
noncomputable def hd {R : Type} : Hand R := handNil
noncomputable def pg : Prog PO := { nt := 5, np := 1, tb := tabOf tab, hd := hd, cuts := cutsOf [], fin := endOf (tabOf tab) rs 1 pout }
noncomputable def q : FuncId → Bool := fun f => hasId [] f
theorem seg0 (x0 : Int) : arun (pg) 5000 [.code c0] (mk pin (x0, ())) = F0 x0 := by kernel_rfl
noncomputable def impl : PI → Option PO := fun x => F0 x.1
theorem impl_eq (x0 : Int) : impl (x0, ()) = F0 x0 := rfl
theorem con : Con Tryz.prog 56 1 rs.length 1 pin pout impl := by
  refine con_of_run' (nt := 5) (c := c0) tabGood Tryz.func56 (by kernel_rfl) (by kernel_rfl) (by kernel_rfl) (by kernel_rfl) (by kernel_rfl) (by kernel_rfl) (by kernel_rfl) ?_
  intro w0 O y hnp
  generalize hPost : (fun (a' : Act) (w' : World) => ∃ μ' S' st', Rel 5 w0 O μ' S' st' a' w' ∧ endOf (tabOf tab) rs 1 pout st' = some y) = Post
  have fin : ∀ (μ : Id → Option Value) (S : Nat → Prop) (st : St) (a : Act) (w : World), Rel 5 w0 O μ S st a w → endOf (tabOf tab) rs 1 pout st = some y → Post a w := fun μ S st a w h he => by rw [← hPost]; exact ⟨μ, S, st, h, he⟩
  have hp : Parts Tryz.prog 56 (pg) [] := ⟨tab_ok tabGood rfl, handNil_ok, rfl⟩
  exact good_first (hp) (runOK_of (hp) hnp trivial fin) (fun x => (seg0 x.1))
end spec_l1One

/-! ### loop.example/wholecheck/spec.l1Kind -/
namespace spec_l1Kind
noncomputable abbrev c0 : Code := (Tryz.f115.body).getD .skip
noncomputable abbrev pin : Tpl := ⟨[⟨0, true, [.d (.prod (.int .i64) (.prod (.int .i64) (.prod (.int .i64) (.last (.int .i64)))))]⟩, ⟨1, false, [.d (.sl (.int .i64))]⟩, ⟨2, false, [.d (.int .i64)]⟩], []⟩
noncomputable abbrev pout : Tpl := ⟨[⟨0, false, [.d (.int .i64)]⟩], []⟩
noncomputable abbrev p3 : Tpl := ⟨[⟨1, false, [.d (.sl (.int .i64))]⟩, ⟨2, false, [.d (.int .i64)]⟩, ⟨3, false, [.ptr 3000000 0]⟩], [(3000000, .box [.d (.int .i64), .d (.int .i64), .d (.int .i64), .d (.int .i64)])]⟩
noncomputable def T3 : List Item := (find 3 c0 []).getD []
noncomputable abbrev p5 : Tpl := ⟨[⟨1, false, [.d (.sl (.int .i64))]⟩, ⟨3, false, [.ptr 3000000 0]⟩], [(3000000, .box [.d (.int .i64), .d (.int .i64), .d (.int .i64), .d (.int .i64)])]⟩
noncomputable def T5 : List Item := (find 5 c0 []).getD []
noncomputable abbrev p7 : Tpl := ⟨[⟨1, false, [.d (.sl (.int .i64))]⟩, ⟨3, false, [.ptr 3000000 0]⟩], [(3000000, .box [.d (.int .i64), .d (.int .i64), .d (.int .i64), .d (.int .i64)])]⟩
noncomputable def T7 : List Item := (find 7 c0 []).getD []
noncomputable abbrev p10 : Tpl := ⟨[⟨1, false, [.d (.sl (.int .i64))]⟩, ⟨3, false, [.ptr 3000000 0]⟩, ⟨7, false, [.d (.int .i64)]⟩], [(3000000, .box [.d (.int .i64), .d (.int .i64), .d (.int .i64), .d (.int .i64)])]⟩
noncomputable def T10 : List Item := (find 10 c0 []).getD []
noncomputable abbrev PI := (Int × Int × Int × Int) × (List Int) × Int × Unit
noncomputable abbrev PO := Int × Unit
noncomputable abbrev P3 := (List Int) × Int × Int × Int × Int × Int × Unit
noncomputable abbrev P5 := (List Int) × Int × Int × Int × Int × Unit
noncomputable abbrev P7 := (List Int) × Int × Int × Int × Int × Unit
noncomputable abbrev P10 := (List Int) × Int × Int × Int × Int × Int × Unit
noncomputable abbrev rs : List ResultVar := [.tmp 6]
noncomputable def F0 (J3 : P3 → Option PO) (Gspec_l1In : spec_l1In.PI → Option spec_l1In.PO) (x0 : Int × Int × Int × Int) (x1 : List Int) (x2 : Int) : Option PO :=
  bif x0.1 == 0 then
    Option.bind (Gspec_l1In (x0.2.1, (-9999), 9999, ())) fun y0 =>
    bif y0.1 then
      bif x0.2.2.1 == 0 then
        bif x0.2.2.2 == 0 then
          some (1, ())
        else
          J3 (x1, x2, x0.1, x0.2.1, x0.2.2.1, x0.2.2.2, ())
      else
        J3 (x1, x2, x0.1, x0.2.1, x0.2.2.1, x0.2.2.2, ())
    else
      J3 (x1, x2, x0.1, x0.2.1, x0.2.2.1, x0.2.2.2, ())
  else
    J3 (x1, x2, x0.1, x0.2.1, x0.2.2.1, x0.2.2.2, ())
noncomputable def F3 (J5 : P5 → Option PO) (Gspec_l1In : spec_l1In.PI → Option spec_l1In.PO) (t1 : List Int) (t2 : Int) (b0_0 : Int) (b0_1 : Int) (b0_2 : Int) (b0_3 : Int) : Option PO :=
  bif b0_0 == 1 then
    Option.bind (Gspec_l1In (b0_1, 0, wI (t2 - 1), ())) fun y1 =>
    bif y1.1 then
      bif b0_2 == 0 then
        bif b0_3 == 0 then
          some (1, ())
        else
          J5 (t1, b0_0, b0_1, b0_2, b0_3, ())
      else
        J5 (t1, b0_0, b0_1, b0_2, b0_3, ())
    else
      J5 (t1, b0_0, b0_1, b0_2, b0_3, ())
  else
    J5 (t1, b0_0, b0_1, b0_2, b0_3, ())
noncomputable def F5 (J7 : P7 → Option PO) (Gspec_l1In : spec_l1In.PI → Option spec_l1In.PO) (t1 : List Int) (b0_0 : Int) (b0_1 : Int) (b0_2 : Int) (b0_3 : Int) : Option PO :=
  Option.bind (Gspec_l1In (b0_0, 2, 9, ())) fun y2 =>
  bif !y2.1 then
    some (0, ())
  else
    bif b0_1 != 0 then
      some (0, ())
    else
      Option.bind (Gspec_l1In (b0_2, 0, wI ((t1.length : Int) - 1), ())) fun y3 =>
      bif !y3.1 then
        some (0, ())
      else
        Option.bind (Gspec_l1In (b0_3, 0, wI ((t1.length : Int) - 1), ())) fun y4 =>
        bif !y4.1 then
          some (0, ())
        else
          J7 (t1, b0_0, b0_1, b0_2, b0_3, ())
noncomputable def F7 (J10 : P10 → Option PO) (t1 : List Int) (b0_0 : Int) (b0_1 : Int) (b0_2 : Int) (b0_3 : Int) : Option PO :=
  bif decide (b0_0 ≥ 7) then
    J10 (t1, 2, b0_0, b0_1, b0_2, b0_3, ())
  else
    J10 (t1, 1, b0_0, b0_1, b0_2, b0_3, ())
noncomputable def F10 (Gspec_l1One : spec_l1One.PI → Option spec_l1One.PO) (t1 : List Int) (t7 : Int) (b0_0 : Int) (b0_1 : Int) (b0_2 : Int) (b0_3 : Int) : Option PO :=
  bif inb b0_2 t1.length then
    bif t1.getD b0_2.toNat 0 != t7 then
      some (0, ())
    else
      bif inb b0_3 t1.length then
        bif t1.getD b0_3.toNat 0 != t7 then
          some (0, ())
        else
          Option.bind (Gspec_l1One (b0_0, ())) fun y5 =>
          bif y5.1 then
            bif b0_3 != b0_2 then
              some (0, ())
            else
              bif decide (b0_0 ≥ 5) then
                some (2, ())
              else
                some (1, ())
          else
            bif decide (b0_0 ≥ 5) then
              some (2, ())
            else
              some (1, ())
      else
        none
  else
    none
noncomputable def hd {R : Type} (Gspec_l1In : spec_l1In.PI → Option spec_l1In.PO) (Gspec_l1One : spec_l1One.PI → Option spec_l1One.PO) : Hand R := (handAt 107 [14, 34, 48, 61, 70] true ⟨3, 1, 3, spec_l1In.pin, spec_l1In.pout, Gspec_l1In⟩ (handAt 56 [95] true ⟨1, 1, 1, spec_l1One.pin, spec_l1One.pout, Gspec_l1One⟩ handNil))
noncomputable def pg (Gspec_l1In : spec_l1In.PI → Option spec_l1In.PO) (Gspec_l1One : spec_l1One.PI → Option spec_l1One.PO) (J3 : List Item → P3 → Option PO) (J5 : List Item → P5 → Option PO) (J7 : List Item → P7 → Option PO) (J10 : List Item → P10 → Option PO) : Prog PO := { nt := 107, np := 3, tb := tabOf tab, hd := hd Gspec_l1In Gspec_l1One, cuts := cutsOf [(3, cut p3 J3), (5, cut p5 J5), (7, cut p7 J7), (10, cut p10 J10)], fin := endOf (tabOf tab) rs 3 pout }
noncomputable def q : FuncId → Bool := fun f => hasId [56, 107] f
theorem seg0 (Gspec_l1In : spec_l1In.PI → Option spec_l1In.PO) (Gspec_l1One : spec_l1One.PI → Option spec_l1One.PO) (J3 : List Item → P3 → Option PO) (J5 : List Item → P5 → Option PO) (J7 : List Item → P7 → Option PO) (J10 : List Item → P10 → Option PO) (x0 : Int × Int × Int × Int) (x1 : List Int) (x2 : Int) : arun (pg Gspec_l1In Gspec_l1One J3 J5 J7 J10) 5000 [.code c0] (mk pin (x0, x1, x2, ())) = F0 (J3 T3) Gspec_l1In x0 x1 x2 := by kernel_rfl
theorem seg3 (Gspec_l1In : spec_l1In.PI → Option spec_l1In.PO) (Gspec_l1One : spec_l1One.PI → Option spec_l1One.PO) (J3 : List Item → P3 → Option PO) (J5 : List Item → P5 → Option PO) (J7 : List Item → P7 → Option PO) (J10 : List Item → P10 → Option PO) (t1 : List Int) (t2 : Int) (b0_0 : Int) (b0_1 : Int) (b0_2 : Int) (b0_3 : Int) : arun1 (pg Gspec_l1In Gspec_l1One J3 J5 J7 J10) 5000 T3 (mk p3 (t1, t2, b0_0, b0_1, b0_2, b0_3, ())) = F3 (J5 T5) Gspec_l1In t1 t2 b0_0 b0_1 b0_2 b0_3 := by kernel_rfl
theorem seg5 (Gspec_l1In : spec_l1In.PI → Option spec_l1In.PO) (Gspec_l1One : spec_l1One.PI → Option spec_l1One.PO) (J3 : List Item → P3 → Option PO) (J5 : List Item → P5 → Option PO) (J7 : List Item → P7 → Option PO) (J10 : List Item → P10 → Option PO) (t1 : List Int) (b0_0 : Int) (b0_1 : Int) (b0_2 : Int) (b0_3 : Int) : arun1 (pg Gspec_l1In Gspec_l1One J3 J5 J7 J10) 5000 T5 (mk p5 (t1, b0_0, b0_1, b0_2, b0_3, ())) = F5 (J7 T7) Gspec_l1In t1 b0_0 b0_1 b0_2 b0_3 := by kernel_rfl
theorem seg7 (Gspec_l1In : spec_l1In.PI → Option spec_l1In.PO) (Gspec_l1One : spec_l1One.PI → Option spec_l1One.PO) (J3 : List Item → P3 → Option PO) (J5 : List Item → P5 → Option PO) (J7 : List Item → P7 → Option PO) (J10 : List Item → P10 → Option PO) (t1 : List Int) (b0_0 : Int) (b0_1 : Int) (b0_2 : Int) (b0_3 : Int) : arun1 (pg Gspec_l1In Gspec_l1One J3 J5 J7 J10) 5000 T7 (mk p7 (t1, b0_0, b0_1, b0_2, b0_3, ())) = F7 (J10 T10) t1 b0_0 b0_1 b0_2 b0_3 := by kernel_rfl
theorem seg10 (Gspec_l1In : spec_l1In.PI → Option spec_l1In.PO) (Gspec_l1One : spec_l1One.PI → Option spec_l1One.PO) (J3 : List Item → P3 → Option PO) (J5 : List Item → P5 → Option PO) (J7 : List Item → P7 → Option PO) (J10 : List Item → P10 → Option PO) (t1 : List Int) (t7 : Int) (b0_0 : Int) (b0_1 : Int) (b0_2 : Int) (b0_3 : Int) : arun1 (pg Gspec_l1In Gspec_l1One J3 J5 J7 J10) 5000 T10 (mk p10 (t1, t7, b0_0, b0_1, b0_2, b0_3, ())) = F10 Gspec_l1One t1 t7 b0_0 b0_1 b0_2 b0_3 := by kernel_rfl
noncomputable def L10 : P10 → Option PO := fun x => F10 spec_l1One.impl x.1 x.2.1 x.2.2.1 x.2.2.2.1 x.2.2.2.2.1 x.2.2.2.2.2.1
noncomputable def L7 : P7 → Option PO := fun x => F7 L10 x.1 x.2.1 x.2.2.1 x.2.2.2.1 x.2.2.2.2.1
noncomputable def L5 : P5 → Option PO := fun x => F5 L7 spec_l1In.impl x.1 x.2.1 x.2.2.1 x.2.2.2.1 x.2.2.2.2.1
noncomputable def L3 : P3 → Option PO := fun x => F3 L5 spec_l1In.impl x.1 x.2.1 x.2.2.1 x.2.2.2.1 x.2.2.2.2.1 x.2.2.2.2.2.1
noncomputable def impl : PI → Option PO := fun x => F0 L3 spec_l1In.impl x.1 x.2.1 x.2.2.1
theorem L10_eq (t1 : List Int) (t7 : Int) (b0_0 : Int) (b0_1 : Int) (b0_2 : Int) (b0_3 : Int) : L10 (t1, t7, b0_0, b0_1, b0_2, b0_3, ()) = F10 spec_l1One.impl t1 t7 b0_0 b0_1 b0_2 b0_3 := rfl
theorem L7_eq (t1 : List Int) (b0_0 : Int) (b0_1 : Int) (b0_2 : Int) (b0_3 : Int) : L7 (t1, b0_0, b0_1, b0_2, b0_3, ()) = F7 (L10) t1 b0_0 b0_1 b0_2 b0_3 := rfl
theorem L5_eq (t1 : List Int) (b0_0 : Int) (b0_1 : Int) (b0_2 : Int) (b0_3 : Int) : L5 (t1, b0_0, b0_1, b0_2, b0_3, ()) = F5 (L7) spec_l1In.impl t1 b0_0 b0_1 b0_2 b0_3 := rfl
theorem L3_eq (t1 : List Int) (t2 : Int) (b0_0 : Int) (b0_1 : Int) (b0_2 : Int) (b0_3 : Int) : L3 (t1, t2, b0_0, b0_1, b0_2, b0_3, ()) = F3 (L5) spec_l1In.impl t1 t2 b0_0 b0_1 b0_2 b0_3 := rfl
theorem impl_eq (x0 : Int × Int × Int × Int) (x1 : List Int) (x2 : Int) : impl (x0, x1, x2, ()) = F0 L3 spec_l1In.impl x0 x1 x2 := rfl
theorem con : Con Tryz.prog 115 3 rs.length 3 pin pout impl := by
  refine con_of_run' (nt := 107) (c := c0) tabGood Tryz.func115 (by kernel_rfl) (by kernel_rfl) (by kernel_rfl) (by kernel_rfl) (by kernel_rfl) (by kernel_rfl) (by kernel_rfl) ?_
  intro w0 O y hnp
  generalize hPost : (fun (a' : Act) (w' : World) => ∃ μ' S' st', Rel 107 w0 O μ' S' st' a' w' ∧ endOf (tabOf tab) rs 3 pout st' = some y) = Post
  have fin : ∀ (μ : Id → Option Value) (S : Nat → Prop) (st : St) (a : Act) (w : World), Rel 107 w0 O μ S st a w → endOf (tabOf tab) rs 3 pout st = some y → Post a w := fun μ S st a w h he => by rw [← hPost]; exact ⟨μ, S, st, h, he⟩
  have hp : ∀ (J3 : List Item → P3 → Option PO), ∀ (J5 : List Item → P5 → Option PO), ∀ (J7 : List Item → P7 → Option PO), ∀ (J10 : List Item → P10 → Option PO), Parts Tryz.prog 115 (pg spec_l1In.impl spec_l1One.impl J3 J5 J7 J10) [(3, cut p3 J3), (5, cut p5 J5), (7, cut p7 J7), (10, cut p10 J10)] := fun J3 J5 J7 J10 => ⟨tab_ok tabGood rfl, (handAt_ok spec_l1In.con (handAt_ok spec_l1One.con handNil_ok)), rfl⟩
  have g10 : Good Tryz.prog 107 w0 O Post y T10 p10 L10 := good_part (hp (atT T3 (fun _ => none)) (atT T5 (fun _ => none)) (atT T7 (fun _ => none)) (atT T10 (fun _ => none))) (runOK_of (hp (atT T3 (fun _ => none)) (atT T5 (fun _ => none)) (atT T7 (fun _ => none)) (atT T10 (fun _ => none))) hnp ⟨cutOK_at (p := p3) (T := T3) (J := fun _ => none) good_none, cutOK_at (p := p5) (T := T5) (J := fun _ => none) good_none, cutOK_at (p := p7) (T := T7) (J := fun _ => none) good_none, cutOK_at (p := p10) (T := T10) (J := fun _ => none) good_none, trivial⟩ fin) (fun x => (seg10 spec_l1In.impl spec_l1One.impl (atT T3 (fun _ => none)) (atT T5 (fun _ => none)) (atT T7 (fun _ => none)) (atT T10 (fun _ => none)) x.1 x.2.1 x.2.2.1 x.2.2.2.1 x.2.2.2.2.1 x.2.2.2.2.2.1))
  have g7 : Good Tryz.prog 107 w0 O Post y T7 p7 L7 := good_part (hp (atT T3 (fun _ => none)) (atT T5 (fun _ => none)) (atT T7 (fun _ => none)) (atT T10 L10)) (runOK_of (hp (atT T3 (fun _ => none)) (atT T5 (fun _ => none)) (atT T7 (fun _ => none)) (atT T10 L10)) hnp ⟨cutOK_at (p := p3) (T := T3) (J := fun _ => none) good_none, cutOK_at (p := p5) (T := T5) (J := fun _ => none) good_none, cutOK_at (p := p7) (T := T7) (J := fun _ => none) good_none, cutOK_at g10, trivial⟩ fin) (fun x => (seg7 spec_l1In.impl spec_l1One.impl (atT T3 (fun _ => none)) (atT T5 (fun _ => none)) (atT T7 (fun _ => none)) (atT T10 L10) x.1 x.2.1 x.2.2.1 x.2.2.2.1 x.2.2.2.2.1).trans (by simp only [atT_self] <;> rfl))
  have g5 : Good Tryz.prog 107 w0 O Post y T5 p5 L5 := good_part (hp (atT T3 (fun _ => none)) (atT T5 (fun _ => none)) (atT T7 L7) (atT T10 (fun _ => none))) (runOK_of (hp (atT T3 (fun _ => none)) (atT T5 (fun _ => none)) (atT T7 L7) (atT T10 (fun _ => none))) hnp ⟨cutOK_at (p := p3) (T := T3) (J := fun _ => none) good_none, cutOK_at (p := p5) (T := T5) (J := fun _ => none) good_none, cutOK_at g7, cutOK_at (p := p10) (T := T10) (J := fun _ => none) good_none, trivial⟩ fin) (fun x => (seg5 spec_l1In.impl spec_l1One.impl (atT T3 (fun _ => none)) (atT T5 (fun _ => none)) (atT T7 L7) (atT T10 (fun _ => none)) x.1 x.2.1 x.2.2.1 x.2.2.2.1 x.2.2.2.2.1).trans (by simp only [atT_self] <;> rfl))
  have g3 : Good Tryz.prog 107 w0 O Post y T3 p3 L3 := good_part (hp (atT T3 (fun _ => none)) (atT T5 L5) (atT T7 (fun _ => none)) (atT T10 (fun _ => none))) (runOK_of (hp (atT T3 (fun _ => none)) (atT T5 L5) (atT T7 (fun _ => none)) (atT T10 (fun _ => none))) hnp ⟨cutOK_at (p := p3) (T := T3) (J := fun _ => none) good_none, cutOK_at g5, cutOK_at (p := p7) (T := T7) (J := fun _ => none) good_none, cutOK_at (p := p10) (T := T10) (J := fun _ => none) good_none, trivial⟩ fin) (fun x => (seg3 spec_l1In.impl spec_l1One.impl (atT T3 (fun _ => none)) (atT T5 L5) (atT T7 (fun _ => none)) (atT T10 (fun _ => none)) x.1 x.2.1 x.2.2.1 x.2.2.2.1 x.2.2.2.2.1 x.2.2.2.2.2.1).trans (by simp only [atT_self] <;> rfl))
  exact good_first (hp (atT T3 L3) (atT T5 (fun _ => none)) (atT T7 (fun _ => none)) (atT T10 (fun _ => none))) (runOK_of (hp (atT T3 L3) (atT T5 (fun _ => none)) (atT T7 (fun _ => none)) (atT T10 (fun _ => none))) hnp ⟨cutOK_at g3, cutOK_at (p := p5) (T := T5) (J := fun _ => none) good_none, cutOK_at (p := p7) (T := T7) (J := fun _ => none) good_none, cutOK_at (p := p10) (T := T10) (J := fun _ => none) good_none, trivial⟩ fin) (fun x => (seg0 spec_l1In.impl spec_l1One.impl (atT T3 L3) (atT T5 (fun _ => none)) (atT T7 (fun _ => none)) (atT T10 (fun _ => none)) x.1 x.2.1 x.2.2.1).trans (by simp only [atT_self] <;> rfl))
end spec_l1Kind

/-! ### loop.example/wholecheck/spec.l1Pick -/
namespace spec_l1Pick
noncomputable abbrev c0 : Code := (Tryz.f114.body).getD .skip
noncomputable abbrev pin : Tpl := ⟨[⟨0, false, [.ptr 500001 0]⟩, ⟨1, false, [.row 500002]⟩, ⟨2, false, [.d (.int .i64)]⟩], [(500001, .box [.d (.sl (.int .u8)), .d (.int .i64)]), (500002, .row 3 false (.int .i64))]⟩
noncomputable abbrev pout : Tpl := ⟨[⟨0, false, [.d (.int .i64)]⟩, ⟨1, false, [.ptr 500001 0]⟩, ⟨2, false, [.row 500002]⟩], [(500001, .box [.d (.sl (.int .u8)), .d (.int .i64)]), (500002, .row 3 false (.int .i64))]⟩
noncomputable abbrev p3 : Tpl := ⟨[⟨0, false, [.ptr 500001 0]⟩, ⟨1, false, [.row 500002]⟩, ⟨2, false, [.d (.int .i64)]⟩, ⟨7, false, [.d (.int .i64)]⟩, ⟨8, false, [.d (.int .i64)]⟩], [(500001, .box [.d (.sl (.int .u8)), .d (.int .i64)]), (500002, .row 3 false (.int .i64))]⟩
noncomputable def T3 : List Item := (find 3 c0 []).getD []
noncomputable abbrev PI := Int × (List Int) × Int × (List Int) × Unit
noncomputable abbrev PO := Int × (List Int) × Int × (List Int) × Unit
noncomputable abbrev P3 := Int × Int × Int × (List Int) × Int × (List Int) × Unit
noncomputable abbrev rs : List ResultVar := [.tmp 6]
noncomputable def F0 (J3 : P3 → Option PO) (Gspec_l40Rd_pick : spec_l40Rd_pick.PI → Option spec_l40Rd_pick.PO) (x2 : Int) (c1_0 : List Int) (c1_1 : Int) (s2 : List Int) : Option PO :=
  Option.bind (Gspec_l40Rd_pick ((s2.length : Int), c1_0, c1_1, ())) fun y0 =>
  J3 (x2, y0.1, 0, y0.2.1, y0.2.2.1, s2, ())
noncomputable def F3 (J3 : P3 → Option PO) (t2 : Int) (t7 : Int) (t8 : Int) (c1_0 : List Int) (c1_1 : Int) (s2 : List Int) : Option PO :=
  bif decide (t8 < (s2.length : Int)) then
    bif decide ((s2.length : Int) = 0) then
      none
    else
      bif inb (Int.tmod (wI (t7 + t8)) (s2.length : Int)) s2.length then
        bif s2.getD (Int.tmod (wI (t7 + t8)) (s2.length : Int)).toNat 0 == t2 then
          some (Int.tmod (wI (t7 + t8)) (s2.length : Int), c1_0, c1_1, s2, ())
        else
          J3 (t2, t7, wI (t8 + 1), c1_0, c1_1, s2, ())
      else
        none
  else
    some ((-1), c1_0, c1_1, s2, ())
noncomputable def hd {R : Type} (Gspec_l40Rd_pick : spec_l40Rd_pick.PI → Option spec_l40Rd_pick.PO) : Hand R := (handAt 53 [13] false ⟨2, 1, 2, spec_l40Rd_pick.pin, spec_l40Rd_pick.pout, Gspec_l40Rd_pick⟩ handNil)
noncomputable def pg (Gspec_l40Rd_pick : spec_l40Rd_pick.PI → Option spec_l40Rd_pick.PO) (J3 : List Item → P3 → Option PO) : Prog PO := { nt := 33, np := 3, tb := tabOf tab, hd := hd Gspec_l40Rd_pick, cuts := cutsOf [(3, cut p3 J3)], fin := endOf (tabOf tab) rs 3 pout }
noncomputable def q : FuncId → Bool := fun f => hasId [] f
theorem seg0 (Gspec_l40Rd_pick : spec_l40Rd_pick.PI → Option spec_l40Rd_pick.PO) (J3 : List Item → P3 → Option PO) (x2 : Int) (c1_0 : List Int) (c1_1 : Int) (s2 : List Int) : arun (pg Gspec_l40Rd_pick J3) 5000 [.code c0] (mk pin (x2, c1_0, c1_1, s2, ())) = F0 (J3 T3) Gspec_l40Rd_pick x2 c1_0 c1_1 s2 := by kernel_rfl
theorem seg3 (Gspec_l40Rd_pick : spec_l40Rd_pick.PI → Option spec_l40Rd_pick.PO) (J3 : List Item → P3 → Option PO) (t2 : Int) (t7 : Int) (t8 : Int) (c1_0 : List Int) (c1_1 : Int) (s2 : List Int) : arun1 (pg Gspec_l40Rd_pick J3) 5000 T3 (mk p3 (t2, t7, t8, c1_0, c1_1, s2, ())) = F3 (J3 T3) t2 t7 t8 c1_0 c1_1 s2 := by kernel_rfl
noncomputable def L3 : P3 → Option PO := lfp fun J3 x => F3 J3 x.1 x.2.1 x.2.2.1 x.2.2.2.1 x.2.2.2.2.1 x.2.2.2.2.2.1
noncomputable def impl : PI → Option PO := fun x => F0 L3 spec_l40Rd_pick.impl x.1 x.2.1 x.2.2.1 x.2.2.2.1
theorem F3_le {J3 J3' : P3 → Option PO} (h3 : OLe J3 J3') (t2 : Int) (t7 : Int) (t8 : Int) (c1_0 : List Int) (c1_1 : Int) (s2 : List Int) : OptLe (F3 J3 t2 t7 t8 c1_0 c1_1 s2) (F3 J3' t2 t7 t8 c1_0 c1_1 s2) := by unfold F3; exact .cond (.cond (.refl _) (.cond (.cond (.refl _) (.of h3 _)) (.refl _))) (.refl _)
theorem L3_mono : OMono fun J3 (x : P3) => F3 J3 x.1 x.2.1 x.2.2.1 x.2.2.2.1 x.2.2.2.2.1 x.2.2.2.2.2.1 := fun J J' h3 x => F3_le h3 x.1 x.2.1 x.2.2.1 x.2.2.2.1 x.2.2.2.2.1 x.2.2.2.2.2.1
theorem L3_eq (t2 : Int) (t7 : Int) (t8 : Int) (c1_0 : List Int) (c1_1 : Int) (s2 : List Int) : L3 (t2, t7, t8, c1_0, c1_1, s2, ()) = F3 (L3) t2 t7 t8 c1_0 c1_1 s2 := congrFun (lfp_eq (L3_mono)) _
theorem impl_eq (x2 : Int) (c1_0 : List Int) (c1_1 : Int) (s2 : List Int) : impl (x2, c1_0, c1_1, s2, ()) = F0 L3 spec_l40Rd_pick.impl x2 c1_0 c1_1 s2 := rfl
theorem con : Con Tryz.prog 114 3 rs.length 3 pin pout impl := by
  refine con_of_run' (nt := 33) (c := c0) tabGood Tryz.func114 (by kernel_rfl) (by kernel_rfl) (by kernel_rfl) (by kernel_rfl) (by kernel_rfl) (by kernel_rfl) (by kernel_rfl) ?_
  intro w0 O y hnp
  generalize hPost : (fun (a' : Act) (w' : World) => ∃ μ' S' st', Rel 33 w0 O μ' S' st' a' w' ∧ endOf (tabOf tab) rs 3 pout st' = some y) = Post
  have fin : ∀ (μ : Id → Option Value) (S : Nat → Prop) (st : St) (a : Act) (w : World), Rel 33 w0 O μ S st a w → endOf (tabOf tab) rs 3 pout st = some y → Post a w := fun μ S st a w h he => by rw [← hPost]; exact ⟨μ, S, st, h, he⟩
  have hp : ∀ (J3 : List Item → P3 → Option PO), Parts Tryz.prog 114 (pg spec_l40Rd_pick.impl J3) [(3, cut p3 J3)] := fun J3 => ⟨tab_ok tabGood rfl, (handAt_ok spec_l40Rd_pick.con handNil_ok), rfl⟩
  have g3 : Good Tryz.prog 33 w0 O Post y T3 p3 L3 := good_lfp fun J3 h3 => good_part (hp (atT T3 J3)) (runOK_of (hp (atT T3 J3)) hnp ⟨cutOK_at h3, trivial⟩ fin) (fun x => (seg3 spec_l40Rd_pick.impl (atT T3 J3) x.1 x.2.1 x.2.2.1 x.2.2.2.1 x.2.2.2.2.1 x.2.2.2.2.2.1).trans (by simp only [atT_self] <;> rfl))
  exact good_first (hp (atT T3 L3)) (runOK_of (hp (atT T3 L3)) hnp ⟨cutOK_at g3, trivial⟩ fin) (fun x => (seg0 spec_l40Rd_pick.impl (atT T3 L3) x.1 x.2.1 x.2.2.1 x.2.2.2.1).trans (by simp only [atT_self] <;> rfl))
end spec_l1Pick

/-! ### loop.example/wholecheck/spec.l1Terms -/
namespace spec_l1Terms
noncomputable abbrev c0 : Code := (Tryz.f68.body).getD .skip
noncomputable abbrev pin : Tpl := ⟨[⟨0, false, [.ptr 500001 0]⟩, ⟨1, false, [.d (.int .i64)]⟩, ⟨2, false, [.d (.int .i64)]⟩, ⟨3, false, [.d (.int .i64)]⟩], [(500001, .box [.d (.sl (.int .u8)), .d (.int .i64)])]⟩
noncomputable abbrev pout : Tpl := ⟨[⟨0, false, [.row 600001]⟩, ⟨1, false, [.ptr 500001 0]⟩], [(600001, .row 52 false (.prod (.int .i64) (.prod (.int .i64) (.prod (.int .i64) (.last (.int .i64)))))), (500001, .box [.d (.sl (.int .u8)), .d (.int .i64)])]⟩
noncomputable abbrev p4 : Tpl := ⟨[⟨0, false, [.ptr 500001 0]⟩, ⟨1, false, [.d (.int .i64)]⟩, ⟨2, false, [.d (.int .i64)]⟩, ⟨9, false, [.row 3000000]⟩, ⟨10, false, [.row 3000001]⟩, ⟨11, false, [.d (.int .i64)]⟩], [(500001, .box [.d (.sl (.int .u8)), .d (.int .i64)]), (3000000, .row 52 false (.prod (.int .i64) (.prod (.int .i64) (.prod (.int .i64) (.last (.int .i64)))))), (3000001, .row 3 false (.int .i64))]⟩
noncomputable def T4 : List Item := (find 4 c0 []).getD []
noncomputable abbrev p15 : Tpl := ⟨[⟨0, false, [.ptr 500001 0]⟩, ⟨1, false, [.d (.int .i64)]⟩, ⟨2, false, [.d (.int .i64)]⟩, ⟨9, false, [.row 3000000]⟩, ⟨10, false, [.row 3000001]⟩, ⟨11, false, [.d (.int .i64)]⟩, ⟨12, false, [.d (.int .i64)]⟩, ⟨13, false, [.ptr 3000002 0]⟩, ⟨14, false, [.d (.int .i64)]⟩], [(500001, .box [.d (.sl (.int .u8)), .d (.int .i64)]), (3000000, .row 52 false (.prod (.int .i64) (.prod (.int .i64) (.prod (.int .i64) (.last (.int .i64)))))), (3000001, .row 3 false (.int .i64)), (3000002, .box [.d (.int .i64), .d (.int .i64), .d (.int .i64), .d (.int .i64)])]⟩
noncomputable def T15 : List Item := (find 15 c0 []).getD []
noncomputable abbrev p19 : Tpl := ⟨[⟨0, false, [.ptr 500001 0]⟩, ⟨1, false, [.d (.int .i64)]⟩, ⟨2, false, [.d (.int .i64)]⟩, ⟨9, false, [.row 3000000]⟩, ⟨10, false, [.row 3000001]⟩, ⟨11, false, [.d (.int .i64)]⟩, ⟨13, false, [.ptr 3000002 0]⟩], [(500001, .box [.d (.sl (.int .u8)), .d (.int .i64)]), (3000000, .row 52 false (.prod (.int .i64) (.prod (.int .i64) (.prod (.int .i64) (.last (.int .i64)))))), (3000001, .row 3 false (.int .i64)), (3000002, .box [.d (.int .i64), .d (.int .i64), .d (.int .i64), .d (.int .i64)])]⟩
noncomputable def T19 : List Item := (find 19 c0 []).getD []
noncomputable abbrev p26 : Tpl := ⟨[⟨0, false, [.ptr 500001 0]⟩, ⟨2, false, [.d (.int .i64)]⟩, ⟨9, false, [.row 3000000]⟩, ⟨10, false, [.row 3000001]⟩], [(500001, .box [.d (.sl (.int .u8)), .d (.int .i64)]), (3000000, .row 52 false (.prod (.int .i64) (.prod (.int .i64) (.prod (.int .i64) (.last (.int .i64)))))), (3000001, .row 3 false (.int .i64))]⟩
noncomputable def T26 : List Item := (find 26 c0 []).getD []
noncomputable abbrev PI := Int × Int × Int × (List Int) × Int × Unit
noncomputable abbrev PO := (List (Int × Int × Int × Int)) × (List Int) × Int × Unit
noncomputable abbrev P4 := Int × Int × Int × (List Int) × Int × (List (Int × Int × Int × Int)) × (List Int) × Unit
noncomputable abbrev P15 := Int × Int × Int × Int × Int × (List Int) × Int × (List (Int × Int × Int × Int)) × (List Int) × Int × Int × Int × Int × Unit
noncomputable abbrev P19 := Int × Int × Int × (List Int) × Int × (List (Int × Int × Int × Int)) × (List Int) × Int × Int × Int × Int × Unit
noncomputable abbrev P26 := Int × (List Int) × Int × (List (Int × Int × Int × Int)) × (List Int) × Unit
noncomputable abbrev rs : List ResultVar := [.tmp 8]
noncomputable def F0 (J4 : P4 → Option PO) (Gspec_l40Rd_pick : spec_l40Rd_pick.PI → Option spec_l40Rd_pick.PO) (x1 : Int) (x2 : Int) (x3 : Int) (c1_0 : List Int) (c1_1 : Int) : Option PO :=
  Option.bind (Gspec_l40Rd_pick (x3, c1_0, c1_1, ())) fun y0 =>
  J4 (x1, x2, wI (2 + y0.1), y0.2.1, y0.2.2.1, ([] : List (Int × Int × Int × Int)), ([] : List Int), ())
noncomputable def F4 (J15 : P15 → Option PO) (J19 : P19 → Option PO) (J26 : P26 → Option PO) (Gspec_l1Number : spec_l1Number.PI → Option spec_l1Number.PO) (Gspec_l40Rd_num : spec_l40Rd_num.PI → Option spec_l40Rd_num.PO) (Gspec_l40Rd_pick : spec_l40Rd_pick.PI → Option spec_l40Rd_pick.PO) (t1 : Int) (t2 : Int) (t11 : Int) (c1_0 : List Int) (c1_1 : Int) (r0 : List (Int × Int × Int × Int)) (r1 : List Int) : Option PO :=
  bif decide (t11 > 0) then
    Option.bind (Gspec_l40Rd_num (([0, 1, 1, 2, 3, 4, 5, 6, 5, 6, 7, 8, 9] : List Int), c1_0, c1_1, ())) fun y1 =>
    bif (r0.length : Int) == 0 then
      Option.bind (Gspec_l1Number (y1.2.1, y1.2.2.1, ())) fun y2 =>
      bif decide (t1 > 0) then
        bif y1.1 != 0 then
          Option.bind (Gspec_l40Rd_pick (t1, y2.2.1, y2.2.2.1, ())) fun y3 =>
          J19 (t1, t2, t11, y3.2.1, y3.2.2.1, r0, r1, 1, y3.1, 0, 0, ())
        else
          J19 (t1, t2, t11, y2.2.1, y2.2.2.1, r0, r1, 0, y2.1, 0, 0, ())
      else
        J19 (t1, t2, t11, y2.2.1, y2.2.2.1, r0, r1, 0, y2.1, 0, 0, ())
    else
      bif decide (y1.1 < 2) then
        Option.bind (Gspec_l1Number (y1.2.1, y1.2.2.1, ())) fun y4 =>
        bif decide (t1 > 0) then
          bif y1.1 != 0 then
            Option.bind (Gspec_l40Rd_pick (t1, y4.2.1, y4.2.2.1, ())) fun y5 =>
            J19 (t1, t2, t11, y5.2.1, y5.2.2.1, r0, r1, 1, y5.1, 0, 0, ())
          else
            J19 (t1, t2, t11, y4.2.1, y4.2.2.1, r0, r1, 0, y4.1, 0, 0, ())
        else
          J19 (t1, t2, t11, y4.2.1, y4.2.2.1, r0, r1, 0, y4.1, 0, 0, ())
      else
        bif decide (y1.1 ≥ 7) then
          J15 (t1, t2, t11, y1.1, 2, y1.2.1, y1.2.2.1, r0, r1, y1.1, 0, 0, 0, ())
        else
          J15 (t1, t2, t11, y1.1, 1, y1.2.1, y1.2.2.1, r0, r1, y1.1, 0, 0, 0, ())
  else
    bif (r0.length : Int) == 0 then
      bif decide ((r0.length + ([(0, 1, 0, 0)] : List (Int × Int × Int × Int)).length) * 32 ≤ 140737488355328) then
        bif decide ((r1.length + ([1] : List Int).length) * 8 ≤ 140737488355328) then
          J26 (t2, c1_0, c1_1, r0 ++ ([(0, 1, 0, 0)] : List (Int × Int × Int × Int)), r1 ++ ([1] : List Int), ())
        else
          none
      else
        none
    else
      J26 (t2, c1_0, c1_1, r0, r1, ())
noncomputable def F15 (J19 : P19 → Option PO) (Gspec_l1One : spec_l1One.PI → Option spec_l1One.PO) (Gspec_l1Pick : spec_l1Pick.PI → Option spec_l1Pick.PO) (t1 : Int) (t2 : Int) (t11 : Int) (t12 : Int) (t14 : Int) (c1_0 : List Int) (c1_1 : Int) (r0 : List (Int × Int × Int × Int)) (r1 : List Int) (b2_0 : Int) (b2_1 : Int) (b2_2 : Int) (b2_3 : Int) : Option PO :=
  Option.bind (Gspec_l1Pick (t14, c1_0, c1_1, r1, ())) fun y6 =>
  Option.bind (Gspec_l1Pick (t14, y6.2.1, y6.2.2.1, y6.2.2.2.1, ())) fun y7 =>
  Option.bind (Gspec_l1One (t12, ())) fun y8 =>
  bif y8.1 then
    J19 (t1, t2, t11, y7.2.1, y7.2.2.1, r0, y7.2.2.2.1, b2_0, b2_1, y6.1, y6.1, ())
  else
    J19 (t1, t2, t11, y7.2.1, y7.2.2.1, r0, y7.2.2.2.1, b2_0, b2_1, y6.1, y7.1, ())
noncomputable def F19 (J4 : P4 → Option PO) (Gspec_l1Kind : spec_l1Kind.PI → Option spec_l1Kind.PO) (t1 : Int) (t2 : Int) (t11 : Int) (c1_0 : List Int) (c1_1 : Int) (r0 : List (Int × Int × Int × Int)) (r1 : List Int) (b2_0 : Int) (b2_1 : Int) (b2_2 : Int) (b2_3 : Int) : Option PO :=
  Option.bind (Gspec_l1Kind ((b2_0, b2_1, b2_2, b2_3), r1, t1, ())) fun y9 =>
  bif y9.1 != 0 then
    bif decide ((r0.length + ([(b2_0, b2_1, b2_2, b2_3)] : List (Int × Int × Int × Int)).length) * 32 ≤ 140737488355328) then
      bif decide ((r1.length + ([y9.1] : List Int).length) * 8 ≤ 140737488355328) then
        J4 (t1, t2, wI (t11 - 1), c1_0, c1_1, r0 ++ ([(b2_0, b2_1, b2_2, b2_3)] : List (Int × Int × Int × Int)), r1 ++ ([y9.1] : List Int), ())
      else
        none
    else
      none
  else
    J4 (t1, t2, wI (t11 - 1), c1_0, c1_1, r0, r1, ())
noncomputable def F26 (Gspec_l1Pick : spec_l1Pick.PI → Option spec_l1Pick.PO) (Gspec_l40Rd_num : spec_l40Rd_num.PI → Option spec_l40Rd_num.PO) (t2 : Int) (c1_0 : List Int) (c1_1 : Int) (r0 : List (Int × Int × Int × Int)) (r1 : List Int) : Option PO :=
  bif t2 == 2 then
    bif inb (wI ((r0.length : Int) - 1)) r1.length then
      bif r1.getD (wI ((r0.length : Int) - 1)).toNat 0 != t2 then
        Option.bind (Gspec_l40Rd_num (([5, 6] : List Int), c1_0, c1_1, ())) fun y10 =>
        Option.bind (Gspec_l1Pick (1, y10.2.1, y10.2.2.1, r1, ())) fun y11 =>
        bif decide ((r0.length + ([(y10.1, 0, wI ((r0.length : Int) - 1), y11.1)] : List (Int × Int × Int × Int)).length) * 32 ≤ 140737488355328) then
          some (r0 ++ ([(y10.1, 0, wI ((r0.length : Int) - 1), y11.1)] : List (Int × Int × Int × Int)), y11.2.1, y11.2.2.1, ())
        else
          none
      else
        bif t2 == 1 then
          bif inb (wI ((r0.length : Int) - 1)) r1.length then
            bif r1.getD (wI ((r0.length : Int) - 1)).toNat 0 != t2 then
              Option.bind (Gspec_l1Pick (1, c1_0, c1_1, r1, ())) fun y12 =>
              Option.bind (Gspec_l40Rd_num (([2, 3] : List Int), y12.2.1, y12.2.2.1, ())) fun y13 =>
              Option.bind (Gspec_l1Pick (1, y13.2.1, y13.2.2.1, y12.2.2.2.1, ())) fun y14 =>
              bif decide ((r0.length + ([(y13.1, 0, y12.1, y14.1)] : List (Int × Int × Int × Int)).length) * 32 ≤ 140737488355328) then
                some (r0 ++ ([(y13.1, 0, y12.1, y14.1)] : List (Int × Int × Int × Int)), y14.2.1, y14.2.2.1, ())
              else
                none
            else
              some (r0, c1_0, c1_1, ())
          else
            none
        else
          some (r0, c1_0, c1_1, ())
    else
      none
  else
    bif t2 == 1 then
      bif inb (wI ((r0.length : Int) - 1)) r1.length then
        bif r1.getD (wI ((r0.length : Int) - 1)).toNat 0 != t2 then
          Option.bind (Gspec_l1Pick (1, c1_0, c1_1, r1, ())) fun y15 =>
          Option.bind (Gspec_l40Rd_num (([2, 3] : List Int), y15.2.1, y15.2.2.1, ())) fun y16 =>
          Option.bind (Gspec_l1Pick (1, y16.2.1, y16.2.2.1, y15.2.2.2.1, ())) fun y17 =>
          bif decide ((r0.length + ([(y16.1, 0, y15.1, y17.1)] : List (Int × Int × Int × Int)).length) * 32 ≤ 140737488355328) then
            some (r0 ++ ([(y16.1, 0, y15.1, y17.1)] : List (Int × Int × Int × Int)), y17.2.1, y17.2.2.1, ())
          else
            none
        else
          some (r0, c1_0, c1_1, ())
      else
        none
    else
      some (r0, c1_0, c1_1, ())
noncomputable def hd {R : Type} (Gspec_l1Kind : spec_l1Kind.PI → Option spec_l1Kind.PO) (Gspec_l1Number : spec_l1Number.PI → Option spec_l1Number.PO) (Gspec_l1One : spec_l1One.PI → Option spec_l1One.PO) (Gspec_l1Pick : spec_l1Pick.PI → Option spec_l1Pick.PO) (Gspec_l40Rd_num : spec_l40Rd_num.PI → Option spec_l40Rd_num.PO) (Gspec_l40Rd_pick : spec_l40Rd_pick.PI → Option spec_l40Rd_pick.PO) : Hand R := (handAt 115 [73] true ⟨3, 1, 3, spec_l1Kind.pin, spec_l1Kind.pout, Gspec_l1Kind⟩ (handAt 114 [58, 63, 114, 130, 138] false ⟨3, 1, 3, spec_l1Pick.pin, spec_l1Pick.pout, Gspec_l1Pick⟩ (handAt 113 [41] false ⟨1, 1, 1, spec_l1Number.pin, spec_l1Number.pout, Gspec_l1Number⟩ (handAt 73 [30, 110, 134] false ⟨2, 1, 2, spec_l40Rd_num.pin, spec_l40Rd_num.pout, Gspec_l40Rd_num⟩ (handAt 56 [66] true ⟨1, 1, 1, spec_l1One.pin, spec_l1One.pout, Gspec_l1One⟩ (handAt 53 [22, 51] false ⟨2, 1, 2, spec_l40Rd_pick.pin, spec_l40Rd_pick.pout, Gspec_l40Rd_pick⟩ handNil))))))
noncomputable def pg (Gspec_l1Kind : spec_l1Kind.PI → Option spec_l1Kind.PO) (Gspec_l1Number : spec_l1Number.PI → Option spec_l1Number.PO) (Gspec_l1One : spec_l1One.PI → Option spec_l1One.PO) (Gspec_l1Pick : spec_l1Pick.PI → Option spec_l1Pick.PO) (Gspec_l40Rd_num : spec_l40Rd_num.PI → Option spec_l40Rd_num.PO) (Gspec_l40Rd_pick : spec_l40Rd_pick.PI → Option spec_l40Rd_pick.PO) (J4 : List Item → P4 → Option PO) (J15 : List Item → P15 → Option PO) (J19 : List Item → P19 → Option PO) (J26 : List Item → P26 → Option PO) : Prog PO := { nt := 143, np := 4, tb := tabOf tab, hd := hd Gspec_l1Kind Gspec_l1Number Gspec_l1One Gspec_l1Pick Gspec_l40Rd_num Gspec_l40Rd_pick, cuts := cutsOf [(4, cut p4 J4), (15, cut p15 J15), (19, cut p19 J19), (26, cut p26 J26)], fin := endOf (tabOf tab) rs 4 pout }
noncomputable def q : FuncId → Bool := fun f => hasId [56, 115] f
theorem seg0 (Gspec_l1Kind : spec_l1Kind.PI → Option spec_l1Kind.PO) (Gspec_l1Number : spec_l1Number.PI → Option spec_l1Number.PO) (Gspec_l1One : spec_l1One.PI → Option spec_l1One.PO) (Gspec_l1Pick : spec_l1Pick.PI → Option spec_l1Pick.PO) (Gspec_l40Rd_num : spec_l40Rd_num.PI → Option spec_l40Rd_num.PO) (Gspec_l40Rd_pick : spec_l40Rd_pick.PI → Option spec_l40Rd_pick.PO) (J4 : List Item → P4 → Option PO) (J15 : List Item → P15 → Option PO) (J19 : List Item → P19 → Option PO) (J26 : List Item → P26 → Option PO) (x1 : Int) (x2 : Int) (x3 : Int) (c1_0 : List Int) (c1_1 : Int) : arun (pg Gspec_l1Kind Gspec_l1Number Gspec_l1One Gspec_l1Pick Gspec_l40Rd_num Gspec_l40Rd_pick J4 J15 J19 J26) 5000 [.code c0] (mk pin (x1, x2, x3, c1_0, c1_1, ())) = F0 (J4 T4) Gspec_l40Rd_pick x1 x2 x3 c1_0 c1_1 := by kernel_rfl
theorem seg4 (Gspec_l1Kind : spec_l1Kind.PI → Option spec_l1Kind.PO) (Gspec_l1Number : spec_l1Number.PI → Option spec_l1Number.PO) (Gspec_l1One : spec_l1One.PI → Option spec_l1One.PO) (Gspec_l1Pick : spec_l1Pick.PI → Option spec_l1Pick.PO) (Gspec_l40Rd_num : spec_l40Rd_num.PI → Option spec_l40Rd_num.PO) (Gspec_l40Rd_pick : spec_l40Rd_pick.PI → Option spec_l40Rd_pick.PO) (J4 : List Item → P4 → Option PO) (J15 : List Item → P15 → Option PO) (J19 : List Item → P19 → Option PO) (J26 : List Item → P26 → Option PO) (t1 : Int) (t2 : Int) (t11 : Int) (c1_0 : List Int) (c1_1 : Int) (r0 : List (Int × Int × Int × Int)) (r1 : List Int) : arun1 (pg Gspec_l1Kind Gspec_l1Number Gspec_l1One Gspec_l1Pick Gspec_l40Rd_num Gspec_l40Rd_pick J4 J15 J19 J26) 5000 T4 (mk p4 (t1, t2, t11, c1_0, c1_1, r0, r1, ())) = F4 (J15 T15) (J19 T19) (J26 T26) Gspec_l1Number Gspec_l40Rd_num Gspec_l40Rd_pick t1 t2 t11 c1_0 c1_1 r0 r1 := by kernel_rfl
theorem seg15 (Gspec_l1Kind : spec_l1Kind.PI → Option spec_l1Kind.PO) (Gspec_l1Number : spec_l1Number.PI → Option spec_l1Number.PO) (Gspec_l1One : spec_l1One.PI → Option spec_l1One.PO) (Gspec_l1Pick : spec_l1Pick.PI → Option spec_l1Pick.PO) (Gspec_l40Rd_num : spec_l40Rd_num.PI → Option spec_l40Rd_num.PO) (Gspec_l40Rd_pick : spec_l40Rd_pick.PI → Option spec_l40Rd_pick.PO) (J4 : List Item → P4 → Option PO) (J15 : List Item → P15 → Option PO) (J19 : List Item → P19 → Option PO) (J26 : List Item → P26 → Option PO) (t1 : Int) (t2 : Int) (t11 : Int) (t12 : Int) (t14 : Int) (c1_0 : List Int) (c1_1 : Int) (r0 : List (Int × Int × Int × Int)) (r1 : List Int) (b2_0 : Int) (b2_1 : Int) (b2_2 : Int) (b2_3 : Int) : arun1 (pg Gspec_l1Kind Gspec_l1Number Gspec_l1One Gspec_l1Pick Gspec_l40Rd_num Gspec_l40Rd_pick J4 J15 J19 J26) 5000 T15 (mk p15 (t1, t2, t11, t12, t14, c1_0, c1_1, r0, r1, b2_0, b2_1, b2_2, b2_3, ())) = F15 (J19 T19) Gspec_l1One Gspec_l1Pick t1 t2 t11 t12 t14 c1_0 c1_1 r0 r1 b2_0 b2_1 b2_2 b2_3 := by kernel_rfl
theorem seg19 (Gspec_l1Kind : spec_l1Kind.PI → Option spec_l1Kind.PO) (Gspec_l1Number : spec_l1Number.PI → Option spec_l1Number.PO) (Gspec_l1One : spec_l1One.PI → Option spec_l1One.PO) (Gspec_l1Pick : spec_l1Pick.PI → Option spec_l1Pick.PO) (Gspec_l40Rd_num : spec_l40Rd_num.PI → Option spec_l40Rd_num.PO) (Gspec_l40Rd_pick : spec_l40Rd_pick.PI → Option spec_l40Rd_pick.PO) (J4 : List Item → P4 → Option PO) (J15 : List Item → P15 → Option PO) (J19 : List Item → P19 → Option PO) (J26 : List Item → P26 → Option PO) (t1 : Int) (t2 : Int) (t11 : Int) (c1_0 : List Int) (c1_1 : Int) (r0 : List (Int × Int × Int × Int)) (r1 : List Int) (b2_0 : Int) (b2_1 : Int) (b2_2 : Int) (b2_3 : Int) : arun1 (pg Gspec_l1Kind Gspec_l1Number Gspec_l1One Gspec_l1Pick Gspec_l40Rd_num Gspec_l40Rd_pick J4 J15 J19 J26) 5000 T19 (mk p19 (t1, t2, t11, c1_0, c1_1, r0, r1, b2_0, b2_1, b2_2, b2_3, ())) = F19 (J4 T4) Gspec_l1Kind t1 t2 t11 c1_0 c1_1 r0 r1 b2_0 b2_1 b2_2 b2_3 := by kernel_rfl
theorem seg26 (Gspec_l1Kind : spec_l1Kind.PI → Option spec_l1Kind.PO) (Gspec_l1Number : spec_l1Number.PI → Option spec_l1Number.PO) (Gspec_l1One : spec_l1One.PI → Option spec_l1One.PO) (Gspec_l1Pick : spec_l1Pick.PI → Option spec_l1Pick.PO) (Gspec_l40Rd_num : spec_l40Rd_num.PI → Option spec_l40Rd_num.PO) (Gspec_l40Rd_pick : spec_l40Rd_pick.PI → Option spec_l40Rd_pick.PO) (J4 : List Item → P4 → Option PO) (J15 : List Item → P15 → Option PO) (J19 : List Item → P19 → Option PO) (J26 : List Item → P26 → Option PO) (t2 : Int) (c1_0 : List Int) (c1_1 : Int) (r0 : List (Int × Int × Int × Int)) (r1 : List Int) : arun1 (pg Gspec_l1Kind Gspec_l1Number Gspec_l1One Gspec_l1Pick Gspec_l40Rd_num Gspec_l40Rd_pick J4 J15 J19 J26) 5000 T26 (mk p26 (t2, c1_0, c1_1, r0, r1, ())) = F26 Gspec_l1Pick Gspec_l40Rd_num t2 c1_0 c1_1 r0 r1 := by kernel_rfl
noncomputable def L26 : P26 → Option PO := fun x => F26 spec_l1Pick.impl spec_l40Rd_num.impl x.1 x.2.1 x.2.2.1 x.2.2.2.1 x.2.2.2.2.1
noncomputable def L19 (J4 : P4 → Option PO) : P19 → Option PO := fun x => F19 J4 spec_l1Kind.impl x.1 x.2.1 x.2.2.1 x.2.2.2.1 x.2.2.2.2.1 x.2.2.2.2.2.1 x.2.2.2.2.2.2.1 x.2.2.2.2.2.2.2.1 x.2.2.2.2.2.2.2.2.1 x.2.2.2.2.2.2.2.2.2.1 x.2.2.2.2.2.2.2.2.2.2.1
noncomputable def L15 (J4 : P4 → Option PO) : P15 → Option PO := fun x => F15 (L19 J4) spec_l1One.impl spec_l1Pick.impl x.1 x.2.1 x.2.2.1 x.2.2.2.1 x.2.2.2.2.1 x.2.2.2.2.2.1 x.2.2.2.2.2.2.1 x.2.2.2.2.2.2.2.1 x.2.2.2.2.2.2.2.2.1 x.2.2.2.2.2.2.2.2.2.1 x.2.2.2.2.2.2.2.2.2.2.1 x.2.2.2.2.2.2.2.2.2.2.2.1 x.2.2.2.2.2.2.2.2.2.2.2.2.1
noncomputable def L4 : P4 → Option PO := lfp fun J4 x => F4 (L15 J4) (L19 J4) L26 spec_l1Number.impl spec_l40Rd_num.impl spec_l40Rd_pick.impl x.1 x.2.1 x.2.2.1 x.2.2.2.1 x.2.2.2.2.1 x.2.2.2.2.2.1 x.2.2.2.2.2.2.1
noncomputable def impl : PI → Option PO := fun x => F0 L4 spec_l40Rd_pick.impl x.1 x.2.1 x.2.2.1 x.2.2.2.1 x.2.2.2.2.1
theorem F19_le {J4 J4' : P4 → Option PO} (h4 : OLe J4 J4') {Gspec_l1Kind : spec_l1Kind.PI → Option spec_l1Kind.PO} (t1 : Int) (t2 : Int) (t11 : Int) (c1_0 : List Int) (c1_1 : Int) (r0 : List (Int × Int × Int × Int)) (r1 : List Int) (b2_0 : Int) (b2_1 : Int) (b2_2 : Int) (b2_3 : Int) : OptLe (F19 J4 Gspec_l1Kind t1 t2 t11 c1_0 c1_1 r0 r1 b2_0 b2_1 b2_2 b2_3) (F19 J4' Gspec_l1Kind t1 t2 t11 c1_0 c1_1 r0 r1 b2_0 b2_1 b2_2 b2_3) := by unfold F19; exact .bind (.refl _) fun _ => .cond (.cond (.cond (.of h4 _) (.refl _)) (.refl _)) (.of h4 _)
theorem F15_le {J19 J19' : P19 → Option PO} (h19 : OLe J19 J19') {Gspec_l1One : spec_l1One.PI → Option spec_l1One.PO} {Gspec_l1Pick : spec_l1Pick.PI → Option spec_l1Pick.PO} (t1 : Int) (t2 : Int) (t11 : Int) (t12 : Int) (t14 : Int) (c1_0 : List Int) (c1_1 : Int) (r0 : List (Int × Int × Int × Int)) (r1 : List Int) (b2_0 : Int) (b2_1 : Int) (b2_2 : Int) (b2_3 : Int) : OptLe (F15 J19 Gspec_l1One Gspec_l1Pick t1 t2 t11 t12 t14 c1_0 c1_1 r0 r1 b2_0 b2_1 b2_2 b2_3) (F15 J19' Gspec_l1One Gspec_l1Pick t1 t2 t11 t12 t14 c1_0 c1_1 r0 r1 b2_0 b2_1 b2_2 b2_3) := by unfold F15; exact .bind (.refl _) fun _ => .bind (.refl _) fun _ => .bind (.refl _) fun _ => .cond (.of h19 _) (.of h19 _)
theorem F4_le {J15 J15' : P15 → Option PO} (h15 : OLe J15 J15') {J19 J19' : P19 → Option PO} (h19 : OLe J19 J19') {J26 J26' : P26 → Option PO} (h26 : OLe J26 J26') {Gspec_l1Number : spec_l1Number.PI → Option spec_l1Number.PO} {Gspec_l40Rd_num : spec_l40Rd_num.PI → Option spec_l40Rd_num.PO} {Gspec_l40Rd_pick : spec_l40Rd_pick.PI → Option spec_l40Rd_pick.PO} (t1 : Int) (t2 : Int) (t11 : Int) (c1_0 : List Int) (c1_1 : Int) (r0 : List (Int × Int × Int × Int)) (r1 : List Int) : OptLe (F4 J15 J19 J26 Gspec_l1Number Gspec_l40Rd_num Gspec_l40Rd_pick t1 t2 t11 c1_0 c1_1 r0 r1) (F4 J15' J19' J26' Gspec_l1Number Gspec_l40Rd_num Gspec_l40Rd_pick t1 t2 t11 c1_0 c1_1 r0 r1) := by unfold F4; exact .cond (.bind (.refl _) fun _ => .cond (.bind (.refl _) fun _ => .cond (.cond (.bind (.refl _) fun _ => .of h19 _) (.of h19 _)) (.of h19 _)) (.cond (.bind (.refl _) fun _ => .cond (.cond (.bind (.refl _) fun _ => .of h19 _) (.of h19 _)) (.of h19 _)) (.cond (.of h15 _) (.of h15 _)))) (.cond (.cond (.cond (.of h26 _) (.refl _)) (.refl _)) (.of h26 _))
theorem L26_eq (t2 : Int) (c1_0 : List Int) (c1_1 : Int) (r0 : List (Int × Int × Int × Int)) (r1 : List Int) : L26 (t2, c1_0, c1_1, r0, r1, ()) = F26 spec_l1Pick.impl spec_l40Rd_num.impl t2 c1_0 c1_1 r0 r1 := rfl
theorem L19_eq (J4 : P4 → Option PO) (t1 : Int) (t2 : Int) (t11 : Int) (c1_0 : List Int) (c1_1 : Int) (r0 : List (Int × Int × Int × Int)) (r1 : List Int) (b2_0 : Int) (b2_1 : Int) (b2_2 : Int) (b2_3 : Int) : L19 J4 (t1, t2, t11, c1_0, c1_1, r0, r1, b2_0, b2_1, b2_2, b2_3, ()) = F19 J4 spec_l1Kind.impl t1 t2 t11 c1_0 c1_1 r0 r1 b2_0 b2_1 b2_2 b2_3 := rfl
theorem L19_le {J4 J4' : P4 → Option PO} (h4 : OLe J4 J4') : OLe (L19 J4) (L19 J4') := fun x => F19_le h4 x.1 x.2.1 x.2.2.1 x.2.2.2.1 x.2.2.2.2.1 x.2.2.2.2.2.1 x.2.2.2.2.2.2.1 x.2.2.2.2.2.2.2.1 x.2.2.2.2.2.2.2.2.1 x.2.2.2.2.2.2.2.2.2.1 x.2.2.2.2.2.2.2.2.2.2.1
theorem L15_eq (J4 : P4 → Option PO) (t1 : Int) (t2 : Int) (t11 : Int) (t12 : Int) (t14 : Int) (c1_0 : List Int) (c1_1 : Int) (r0 : List (Int × Int × Int × Int)) (r1 : List Int) (b2_0 : Int) (b2_1 : Int) (b2_2 : Int) (b2_3 : Int) : L15 J4 (t1, t2, t11, t12, t14, c1_0, c1_1, r0, r1, b2_0, b2_1, b2_2, b2_3, ()) = F15 (L19 J4) spec_l1One.impl spec_l1Pick.impl t1 t2 t11 t12 t14 c1_0 c1_1 r0 r1 b2_0 b2_1 b2_2 b2_3 := rfl
theorem L15_le {J4 J4' : P4 → Option PO} (h4 : OLe J4 J4') : OLe (L15 J4) (L15 J4') := fun x => F15_le (L19_le h4) x.1 x.2.1 x.2.2.1 x.2.2.2.1 x.2.2.2.2.1 x.2.2.2.2.2.1 x.2.2.2.2.2.2.1 x.2.2.2.2.2.2.2.1 x.2.2.2.2.2.2.2.2.1 x.2.2.2.2.2.2.2.2.2.1 x.2.2.2.2.2.2.2.2.2.2.1 x.2.2.2.2.2.2.2.2.2.2.2.1 x.2.2.2.2.2.2.2.2.2.2.2.2.1
theorem L4_mono : OMono fun J4 (x : P4) => F4 (L15 J4) (L19 J4) L26 spec_l1Number.impl spec_l40Rd_num.impl spec_l40Rd_pick.impl x.1 x.2.1 x.2.2.1 x.2.2.2.1 x.2.2.2.2.1 x.2.2.2.2.2.1 x.2.2.2.2.2.2.1 := fun J J' h4 x => F4_le (L15_le h4) (L19_le h4) (fun _ _ h => h) x.1 x.2.1 x.2.2.1 x.2.2.2.1 x.2.2.2.2.1 x.2.2.2.2.2.1 x.2.2.2.2.2.2.1
theorem L4_eq (t1 : Int) (t2 : Int) (t11 : Int) (c1_0 : List Int) (c1_1 : Int) (r0 : List (Int × Int × Int × Int)) (r1 : List Int) : L4 (t1, t2, t11, c1_0, c1_1, r0, r1, ()) = F4 (L15 (L4)) (L19 (L4)) (L26) spec_l1Number.impl spec_l40Rd_num.impl spec_l40Rd_pick.impl t1 t2 t11 c1_0 c1_1 r0 r1 := congrFun (lfp_eq (L4_mono)) _
theorem impl_eq (x1 : Int) (x2 : Int) (x3 : Int) (c1_0 : List Int) (c1_1 : Int) : impl (x1, x2, x3, c1_0, c1_1, ()) = F0 L4 spec_l40Rd_pick.impl x1 x2 x3 c1_0 c1_1 := rfl
theorem con : Con Tryz.prog 68 4 rs.length 4 pin pout impl := by
  refine con_of_run' (nt := 143) (c := c0) tabGood Tryz.func68 (by kernel_rfl) (by kernel_rfl) (by kernel_rfl) (by kernel_rfl) (by kernel_rfl) (by kernel_rfl) (by kernel_rfl) ?_
  intro w0 O y hnp
  generalize hPost : (fun (a' : Act) (w' : World) => ∃ μ' S' st', Rel 143 w0 O μ' S' st' a' w' ∧ endOf (tabOf tab) rs 4 pout st' = some y) = Post
  have fin : ∀ (μ : Id → Option Value) (S : Nat → Prop) (st : St) (a : Act) (w : World), Rel 143 w0 O μ S st a w → endOf (tabOf tab) rs 4 pout st = some y → Post a w := fun μ S st a w h he => by rw [← hPost]; exact ⟨μ, S, st, h, he⟩
  have hp : ∀ (J4 : List Item → P4 → Option PO), ∀ (J15 : List Item → P15 → Option PO), ∀ (J19 : List Item → P19 → Option PO), ∀ (J26 : List Item → P26 → Option PO), Parts Tryz.prog 68 (pg spec_l1Kind.impl spec_l1Number.impl spec_l1One.impl spec_l1Pick.impl spec_l40Rd_num.impl spec_l40Rd_pick.impl J4 J15 J19 J26) [(4, cut p4 J4), (15, cut p15 J15), (19, cut p19 J19), (26, cut p26 J26)] := fun J4 J15 J19 J26 => ⟨tab_ok tabGood rfl, (handAt_ok spec_l1Kind.con (handAt_ok spec_l1Pick.con (handAt_ok spec_l1Number.con (handAt_ok spec_l40Rd_num.con (handAt_ok spec_l1One.con (handAt_ok spec_l40Rd_pick.con handNil_ok)))))), rfl⟩
  have g26 : Good Tryz.prog 143 w0 O Post y T26 p26 L26 := good_part (hp (atT T4 (fun _ => none)) (atT T15 (fun _ => none)) (atT T19 (fun _ => none)) (atT T26 (fun _ => none))) (runOK_of (hp (atT T4 (fun _ => none)) (atT T15 (fun _ => none)) (atT T19 (fun _ => none)) (atT T26 (fun _ => none))) hnp ⟨cutOK_at (p := p4) (T := T4) (J := fun _ => none) good_none, cutOK_at (p := p15) (T := T15) (J := fun _ => none) good_none, cutOK_at (p := p19) (T := T19) (J := fun _ => none) good_none, cutOK_at (p := p26) (T := T26) (J := fun _ => none) good_none, trivial⟩ fin) (fun x => (seg26 spec_l1Kind.impl spec_l1Number.impl spec_l1One.impl spec_l1Pick.impl spec_l40Rd_num.impl spec_l40Rd_pick.impl (atT T4 (fun _ => none)) (atT T15 (fun _ => none)) (atT T19 (fun _ => none)) (atT T26 (fun _ => none)) x.1 x.2.1 x.2.2.1 x.2.2.2.1 x.2.2.2.2.1))
  have g19 : ∀ (J4 : P4 → Option PO), Good Tryz.prog 143 w0 O Post y T4 p4 J4 → Good Tryz.prog 143 w0 O Post y T19 p19 (L19 J4) := fun J4 h4 => good_part (hp (atT T4 J4) (atT T15 (fun _ => none)) (atT T19 (fun _ => none)) (atT T26 (fun _ => none))) (runOK_of (hp (atT T4 J4) (atT T15 (fun _ => none)) (atT T19 (fun _ => none)) (atT T26 (fun _ => none))) hnp ⟨cutOK_at h4, cutOK_at (p := p15) (T := T15) (J := fun _ => none) good_none, cutOK_at (p := p19) (T := T19) (J := fun _ => none) good_none, cutOK_at (p := p26) (T := T26) (J := fun _ => none) good_none, trivial⟩ fin) (fun x => (seg19 spec_l1Kind.impl spec_l1Number.impl spec_l1One.impl spec_l1Pick.impl spec_l40Rd_num.impl spec_l40Rd_pick.impl (atT T4 J4) (atT T15 (fun _ => none)) (atT T19 (fun _ => none)) (atT T26 (fun _ => none)) x.1 x.2.1 x.2.2.1 x.2.2.2.1 x.2.2.2.2.1 x.2.2.2.2.2.1 x.2.2.2.2.2.2.1 x.2.2.2.2.2.2.2.1 x.2.2.2.2.2.2.2.2.1 x.2.2.2.2.2.2.2.2.2.1 x.2.2.2.2.2.2.2.2.2.2.1).trans (by simp only [atT_self] <;> rfl))
  have g15 : ∀ (J4 : P4 → Option PO), Good Tryz.prog 143 w0 O Post y T4 p4 J4 → Good Tryz.prog 143 w0 O Post y T15 p15 (L15 J4) := fun J4 h4 => good_part (hp (atT T4 (fun _ => none)) (atT T15 (fun _ => none)) (atT T19 (L19 J4)) (atT T26 (fun _ => none))) (runOK_of (hp (atT T4 (fun _ => none)) (atT T15 (fun _ => none)) (atT T19 (L19 J4)) (atT T26 (fun _ => none))) hnp ⟨cutOK_at (p := p4) (T := T4) (J := fun _ => none) good_none, cutOK_at (p := p15) (T := T15) (J := fun _ => none) good_none, cutOK_at (g19 J4 h4), cutOK_at (p := p26) (T := T26) (J := fun _ => none) good_none, trivial⟩ fin) (fun x => (seg15 spec_l1Kind.impl spec_l1Number.impl spec_l1One.impl spec_l1Pick.impl spec_l40Rd_num.impl spec_l40Rd_pick.impl (atT T4 (fun _ => none)) (atT T15 (fun _ => none)) (atT T19 (L19 J4)) (atT T26 (fun _ => none)) x.1 x.2.1 x.2.2.1 x.2.2.2.1 x.2.2.2.2.1 x.2.2.2.2.2.1 x.2.2.2.2.2.2.1 x.2.2.2.2.2.2.2.1 x.2.2.2.2.2.2.2.2.1 x.2.2.2.2.2.2.2.2.2.1 x.2.2.2.2.2.2.2.2.2.2.1 x.2.2.2.2.2.2.2.2.2.2.2.1 x.2.2.2.2.2.2.2.2.2.2.2.2.1).trans (by simp only [atT_self] <;> rfl))
  have g4 : Good Tryz.prog 143 w0 O Post y T4 p4 L4 := good_lfp fun J4 h4 => good_part (hp (atT T4 (fun _ => none)) (atT T15 (L15 J4)) (atT T19 (L19 J4)) (atT T26 L26)) (runOK_of (hp (atT T4 (fun _ => none)) (atT T15 (L15 J4)) (atT T19 (L19 J4)) (atT T26 L26)) hnp ⟨cutOK_at (p := p4) (T := T4) (J := fun _ => none) good_none, cutOK_at (g15 J4 h4), cutOK_at (g19 J4 h4), cutOK_at g26, trivial⟩ fin) (fun x => (seg4 spec_l1Kind.impl spec_l1Number.impl spec_l1One.impl spec_l1Pick.impl spec_l40Rd_num.impl spec_l40Rd_pick.impl (atT T4 (fun _ => none)) (atT T15 (L15 J4)) (atT T19 (L19 J4)) (atT T26 L26) x.1 x.2.1 x.2.2.1 x.2.2.2.1 x.2.2.2.2.1 x.2.2.2.2.2.1 x.2.2.2.2.2.2.1).trans (by simp only [atT_self] <;> rfl))
  exact good_first (hp (atT T4 L4) (atT T15 (fun _ => none)) (atT T19 (fun _ => none)) (atT T26 (fun _ => none))) (runOK_of (hp (atT T4 L4) (atT T15 (fun _ => none)) (atT T19 (fun _ => none)) (atT T26 (fun _ => none))) hnp ⟨cutOK_at g4, cutOK_at (p := p15) (T := T15) (J := fun _ => none) good_none, cutOK_at (p := p19) (T := T19) (J := fun _ => none) good_none, cutOK_at (p := p26) (T := T26) (J := fun _ => none) good_none, trivial⟩ fin) (fun x => (seg0 spec_l1Kind.impl spec_l1Number.impl spec_l1One.impl spec_l1Pick.impl spec_l40Rd_num.impl spec_l40Rd_pick.impl (atT T4 L4) (atT T15 (fun _ => none)) (atT T19 (fun _ => none)) (atT T26 (fun _ => none)) x.1 x.2.1 x.2.2.1 x.2.2.2.1 x.2.2.2.2.1).trans (by simp only [atT_self] <;> rfl))
end spec_l1Terms

/-! ### loop.example/wholecheck/spec.l1Any -/
namespace spec_l1Any
noncomputable abbrev c0 : Code := (Tryz.f54.body).getD .skip
noncomputable abbrev pin : Tpl := ⟨[⟨0, false, [.ptr 500001 0]⟩, ⟨1, false, [.d (.int .i64)]⟩], [(500001, .box [.d (.sl (.int .u8)), .d (.int .i64)])]⟩
noncomputable abbrev pout : Tpl := ⟨[⟨0, false, [.row 600001]⟩, ⟨1, false, [.ptr 500001 0]⟩], [(600001, .row 52 false (.prod (.int .i64) (.prod (.int .i64) (.prod (.int .i64) (.last (.int .i64)))))), (500001, .box [.d (.sl (.int .u8)), .d (.int .i64)])]⟩
noncomputable abbrev PI := Int × (List Int) × Int × Unit
noncomputable abbrev PO := (List (Int × Int × Int × Int)) × (List Int) × Int × Unit
noncomputable abbrev rs : List ResultVar := [.tmp 4]
noncomputable def F0 (Gspec_l1Terms : spec_l1Terms.PI → Option spec_l1Terms.PO) (Gspec_l40Rd_num : spec_l40Rd_num.PI → Option spec_l40Rd_num.PO) (Gspec_l40Rd_pick : spec_l40Rd_pick.PI → Option spec_l40Rd_pick.PO) (x1 : Int) (c1_0 : List Int) (c1_1 : Int) : Option PO :=
  Option.bind (Gspec_l40Rd_pick (3, c1_0, c1_1, ())) fun y0 =>
  Option.bind (Gspec_l1Terms (x1, y0.1, 12, y0.2.1, y0.2.2.1, ())) fun y1 =>
  Option.bind (Gspec_l40Rd_pick (12, y1.2.1, y1.2.2.1, ())) fun y2 =>
  bif y2.1 == 0 then
    Option.bind (Gspec_l40Rd_pick ((y1.1.length : Int), y2.2.1, y2.2.2.1, ())) fun y3 =>
    bif inb y3.1 y1.1.length then
      Option.bind (Gspec_l40Rd_pick (4, y3.2.1, y3.2.2.1, ())) fun y4 =>
      bif y4.1 == 0 then
        Option.bind (Gspec_l40Rd_num (([(-1), 10, 7, 2, 0, 1] : List Int), y4.2.1, y4.2.2.1, ())) fun y5 =>
        bif inb y3.1 y1.1.length then
          some (y1.1.set y3.1.toNat (y5.1, (y1.1.getD y3.1.toNat (0, 0, 0, 0)).2), y5.2.1, y5.2.2.1, ())
        else
          none
      else
        bif y4.1 == 1 then
          Option.bind (Gspec_l40Rd_num (([(-1), x1, 10000, 1] : List Int), y4.2.1, y4.2.2.1, ())) fun y6 =>
          bif inb y3.1 y1.1.length then
            some (y1.1.set y3.1.toNat ((y1.1.getD y3.1.toNat (0, 0, 0, 0)).1, y6.1, (y1.1.getD y3.1.toNat (0, 0, 0, 0)).2.2), y6.2.1, y6.2.2.1, ())
          else
            none
        else
          bif y4.1 == 2 then
            Option.bind (Gspec_l40Rd_num (([(-1), y3.1, (y1.1.length : Int), 0] : List Int), y4.2.1, y4.2.2.1, ())) fun y7 =>
            bif inb y3.1 y1.1.length then
              some (y1.1.set y3.1.toNat ((y1.1.getD y3.1.toNat (0, 0, 0, 0)).1, (y1.1.getD y3.1.toNat (0, 0, 0, 0)).2.1, y7.1, (y1.1.getD y3.1.toNat (0, 0, 0, 0)).2.2.2), y7.2.1, y7.2.2.1, ())
            else
              none
          else
            Option.bind (Gspec_l40Rd_num (([(-1), y3.1, (y1.1.length : Int), 0] : List Int), y4.2.1, y4.2.2.1, ())) fun y8 =>
            bif inb y3.1 y1.1.length then
              some (y1.1.set y3.1.toNat ((y1.1.getD y3.1.toNat (0, 0, 0, 0)).1, (y1.1.getD y3.1.toNat (0, 0, 0, 0)).2.1, (y1.1.getD y3.1.toNat (0, 0, 0, 0)).2.2.1, y8.1), y8.2.1, y8.2.2.1, ())
            else
              none
    else
      none
  else
    some (y1.1, y2.2.1, y2.2.2.1, ())
noncomputable def hd {R : Type} (Gspec_l1Terms : spec_l1Terms.PI → Option spec_l1Terms.PO) (Gspec_l40Rd_num : spec_l40Rd_num.PI → Option spec_l40Rd_num.PO) (Gspec_l40Rd_pick : spec_l40Rd_pick.PI → Option spec_l40Rd_pick.PO) : Hand R := (handAt 73 [31, 38, 47, 54] false ⟨2, 1, 2, spec_l40Rd_num.pin, spec_l40Rd_num.pout, Gspec_l40Rd_num⟩ (handAt 68 [13] false ⟨4, 1, 4, spec_l1Terms.pin, spec_l1Terms.pout, Gspec_l1Terms⟩ (handAt 53 [12, 15, 20, 26] false ⟨2, 1, 2, spec_l40Rd_pick.pin, spec_l40Rd_pick.pout, Gspec_l40Rd_pick⟩ handNil)))
noncomputable def pg (Gspec_l1Terms : spec_l1Terms.PI → Option spec_l1Terms.PO) (Gspec_l40Rd_num : spec_l40Rd_num.PI → Option spec_l40Rd_num.PO) (Gspec_l40Rd_pick : spec_l40Rd_pick.PI → Option spec_l40Rd_pick.PO) : Prog PO := { nt := 61, np := 2, tb := tabOf tab, hd := hd Gspec_l1Terms Gspec_l40Rd_num Gspec_l40Rd_pick, cuts := cutsOf [], fin := endOf (tabOf tab) rs 2 pout }
noncomputable def q : FuncId → Bool := fun f => hasId [] f
theorem seg0 (Gspec_l1Terms : spec_l1Terms.PI → Option spec_l1Terms.PO) (Gspec_l40Rd_num : spec_l40Rd_num.PI → Option spec_l40Rd_num.PO) (Gspec_l40Rd_pick : spec_l40Rd_pick.PI → Option spec_l40Rd_pick.PO) (x1 : Int) (c1_0 : List Int) (c1_1 : Int) : arun (pg Gspec_l1Terms Gspec_l40Rd_num Gspec_l40Rd_pick) 5000 [.code c0] (mk pin (x1, c1_0, c1_1, ())) = F0 Gspec_l1Terms Gspec_l40Rd_num Gspec_l40Rd_pick x1 c1_0 c1_1 := by kernel_rfl
noncomputable def impl : PI → Option PO := fun x => F0 spec_l1Terms.impl spec_l40Rd_num.impl spec_l40Rd_pick.impl x.1 x.2.1 x.2.2.1
theorem impl_eq (x1 : Int) (c1_0 : List Int) (c1_1 : Int) : impl (x1, c1_0, c1_1, ()) = F0 spec_l1Terms.impl spec_l40Rd_num.impl spec_l40Rd_pick.impl x1 c1_0 c1_1 := rfl
theorem con : Con Tryz.prog 54 2 rs.length 2 pin pout impl := by
  refine con_of_run' (nt := 61) (c := c0) tabGood Tryz.func54 (by kernel_rfl) (by kernel_rfl) (by kernel_rfl) (by kernel_rfl) (by kernel_rfl) (by kernel_rfl) (by kernel_rfl) ?_
  intro w0 O y hnp
  generalize hPost : (fun (a' : Act) (w' : World) => ∃ μ' S' st', Rel 61 w0 O μ' S' st' a' w' ∧ endOf (tabOf tab) rs 2 pout st' = some y) = Post
  have fin : ∀ (μ : Id → Option Value) (S : Nat → Prop) (st : St) (a : Act) (w : World), Rel 61 w0 O μ S st a w → endOf (tabOf tab) rs 2 pout st = some y → Post a w := fun μ S st a w h he => by rw [← hPost]; exact ⟨μ, S, st, h, he⟩
  have hp : Parts Tryz.prog 54 (pg spec_l1Terms.impl spec_l40Rd_num.impl spec_l40Rd_pick.impl) [] := ⟨tab_ok tabGood rfl, (handAt_ok spec_l40Rd_num.con (handAt_ok spec_l1Terms.con (handAt_ok spec_l40Rd_pick.con handNil_ok))), rfl⟩
  exact good_first (hp) (runOK_of (hp) hnp trivial fin) (fun x => (seg0 spec_l1Terms.impl spec_l40Rd_num.impl spec_l40Rd_pick.impl x.1 x.2.1 x.2.2.1))
end spec_l1Any

/-! ### loop.example/wholecheck/spec.DrawWriteExpr -/
namespace spec_DrawWriteExpr
noncomputable abbrev c0 : Code := (Tryz.f13.body).getD .skip
noncomputable abbrev pin : Tpl := ⟨[⟨0, false, [.d (.sl (.int .u8))]⟩], []⟩
noncomputable abbrev pout : Tpl := ⟨[⟨0, false, [.row 600001]⟩, ⟨1, false, [.row 600002]⟩], [(600001, .row 9 false .str), (600002, .row 52 false (.prod (.int .i64) (.prod (.int .i64) (.prod (.int .i64) (.last (.int .i64))))))]⟩
noncomputable abbrev PI := (List Int) × Unit
noncomputable abbrev PO := (List (List UInt8)) × (List (Int × Int × Int × Int)) × Unit
noncomputable abbrev rs : List ResultVar := [.tmp 2, .tmp 3]
noncomputable def F0 (Gspec_l1Any : spec_l1Any.PI → Option spec_l1Any.PO) (Gspec_l30Names : spec_l30Names.PI → Option spec_l30Names.PO) (Gspec_l40Open : spec_l40Open.PI → Option spec_l40Open.PO) (Gspec_l40Rd_pick : spec_l40Rd_pick.PI → Option spec_l40Rd_pick.PO) (x0 : List Int) : Option PO :=
  Option.bind (Gspec_l40Open (x0, ())) fun y0 =>
  Option.bind (Gspec_l40Rd_pick (3, y0.1, y0.2.1, ())) fun y1 =>
  Option.bind (Gspec_l30Names (wI (1 + y1.1), y1.2.1, y1.2.2.1, ())) fun y2 =>
  Option.bind (Gspec_l1Any ((y2.1.length : Int), y2.2.1, y2.2.2.1, ())) fun y3 =>
  some (y2.1, y3.1, ())
noncomputable def hd {R : Type} (Gspec_l1Any : spec_l1Any.PI → Option spec_l1Any.PO) (Gspec_l30Names : spec_l30Names.PI → Option spec_l30Names.PO) (Gspec_l40Open : spec_l40Open.PI → Option spec_l40Open.PO) (Gspec_l40Rd_pick : spec_l40Rd_pick.PI → Option spec_l40Rd_pick.PO) : Hand R := (handAt 54 [17] false ⟨2, 1, 2, spec_l1Any.pin, spec_l1Any.pout, Gspec_l1Any⟩ (handAt 53 [10] false ⟨2, 1, 2, spec_l40Rd_pick.pin, spec_l40Rd_pick.pout, Gspec_l40Rd_pick⟩ (handAt 52 [12] false ⟨2, 1, 2, spec_l30Names.pin, spec_l30Names.pout, Gspec_l30Names⟩ (handAt 51 [7] false ⟨1, 1, 0, spec_l40Open.pin, spec_l40Open.pout, Gspec_l40Open⟩ handNil))))
noncomputable def pg (Gspec_l1Any : spec_l1Any.PI → Option spec_l1Any.PO) (Gspec_l30Names : spec_l30Names.PI → Option spec_l30Names.PO) (Gspec_l40Open : spec_l40Open.PI → Option spec_l40Open.PO) (Gspec_l40Rd_pick : spec_l40Rd_pick.PI → Option spec_l40Rd_pick.PO) : Prog PO := { nt := 18, np := 1, tb := tabOf tab, hd := hd Gspec_l1Any Gspec_l30Names Gspec_l40Open Gspec_l40Rd_pick, cuts := cutsOf [], fin := endOf (tabOf tab) rs 1 pout }
noncomputable def q : FuncId → Bool := fun f => hasId [] f
theorem seg0 (Gspec_l1Any : spec_l1Any.PI → Option spec_l1Any.PO) (Gspec_l30Names : spec_l30Names.PI → Option spec_l30Names.PO) (Gspec_l40Open : spec_l40Open.PI → Option spec_l40Open.PO) (Gspec_l40Rd_pick : spec_l40Rd_pick.PI → Option spec_l40Rd_pick.PO) (x0 : List Int) : arun (pg Gspec_l1Any Gspec_l30Names Gspec_l40Open Gspec_l40Rd_pick) 5000 [.code c0] (mk pin (x0, ())) = F0 Gspec_l1Any Gspec_l30Names Gspec_l40Open Gspec_l40Rd_pick x0 := by kernel_rfl
noncomputable def impl : PI → Option PO := fun x => F0 spec_l1Any.impl spec_l30Names.impl spec_l40Open.impl spec_l40Rd_pick.impl x.1
theorem impl_eq (x0 : List Int) : impl (x0, ()) = F0 spec_l1Any.impl spec_l30Names.impl spec_l40Open.impl spec_l40Rd_pick.impl x0 := rfl
theorem con : Con Tryz.prog 13 1 rs.length 1 pin pout impl := by
  refine con_of_run' (nt := 18) (c := c0) tabGood Tryz.func13 (by kernel_rfl) (by kernel_rfl) (by kernel_rfl) (by kernel_rfl) (by kernel_rfl) (by kernel_rfl) (by kernel_rfl) ?_
  intro w0 O y hnp
  generalize hPost : (fun (a' : Act) (w' : World) => ∃ μ' S' st', Rel 18 w0 O μ' S' st' a' w' ∧ endOf (tabOf tab) rs 1 pout st' = some y) = Post
  have fin : ∀ (μ : Id → Option Value) (S : Nat → Prop) (st : St) (a : Act) (w : World), Rel 18 w0 O μ S st a w → endOf (tabOf tab) rs 1 pout st = some y → Post a w := fun μ S st a w h he => by rw [← hPost]; exact ⟨μ, S, st, h, he⟩
  have hp : Parts Tryz.prog 13 (pg spec_l1Any.impl spec_l30Names.impl spec_l40Open.impl spec_l40Rd_pick.impl) [] := ⟨tab_ok tabGood rfl, (handAt_ok spec_l1Any.con (handAt_ok spec_l40Rd_pick.con (handAt_ok spec_l30Names.con (handAt_ok spec_l40Open.con handNil_ok)))), rfl⟩
  exact good_first (hp) (runOK_of (hp) hnp trivial fin) (fun x => (seg0 spec_l1Any.impl spec_l30Names.impl spec_l40Open.impl spec_l40Rd_pick.impl x.1))
end spec_DrawWriteExpr

/-! ### loop.example/wholecheck/impl.in -/
namespace impl_in
noncomputable abbrev c0 : Code := (Tryz.f74.body).getD .skip
noncomputable abbrev pin : Tpl := ⟨[⟨0, false, [.d (.int .i64)]⟩, ⟨1, false, [.d (.int .i64)]⟩, ⟨2, false, [.d (.int .i64)]⟩], []⟩
noncomputable abbrev pout : Tpl := ⟨[⟨0, false, [.d .bool]⟩], []⟩
noncomputable abbrev PI := Int × Int × Int × Unit
noncomputable abbrev PO := Bool × Unit
noncomputable abbrev rs : List ResultVar := [.tmp 6]
noncomputable def F0 (x0 : Int) (x1 : Int) (x2 : Int) : Option PO :=
  bif decide (x0 ≥ x1) then
    some (decide (x0 ≤ x2), ())
  else
    some (false, ())
noncomputable def hd {R : Type} : Hand R := handNil
noncomputable def pg : Prog PO := { nt := 15, np := 3, tb := tabOf tab, hd := hd, cuts := cutsOf [], fin := endOf (tabOf tab) rs 3 pout }
noncomputable def q : FuncId → Bool := fun f => hasId [] f
theorem seg0 (x0 : Int) (x1 : Int) (x2 : Int) : arun (pg) 5000 [.code c0] (mk pin (x0, x1, x2, ())) = F0 x0 x1 x2 := by kernel_rfl
noncomputable def impl : PI → Option PO := fun x => F0 x.1 x.2.1 x.2.2.1
theorem impl_eq (x0 : Int) (x1 : Int) (x2 : Int) : impl (x0, x1, x2, ()) = F0 x0 x1 x2 := rfl
theorem con : Con Tryz.prog 74 3 rs.length 3 pin pout impl := by
  refine con_of_run' (nt := 15) (c := c0) tabGood Tryz.func74 (by kernel_rfl) (by kernel_rfl) (by kernel_rfl) (by kernel_rfl) (by kernel_rfl) (by kernel_rfl) (by kernel_rfl) ?_
  intro w0 O y hnp
  generalize hPost : (fun (a' : Act) (w' : World) => ∃ μ' S' st', Rel 15 w0 O μ' S' st' a' w' ∧ endOf (tabOf tab) rs 3 pout st' = some y) = Post
  have fin : ∀ (μ : Id → Option Value) (S : Nat → Prop) (st : St) (a : Act) (w : World), Rel 15 w0 O μ S st a w → endOf (tabOf tab) rs 3 pout st = some y → Post a w := fun μ S st a w h he => by rw [← hPost]; exact ⟨μ, S, st, h, he⟩
  have hp : Parts Tryz.prog 74 (pg) [] := ⟨tab_ok tabGood rfl, handNil_ok, rfl⟩
  exact good_first (hp) (runOK_of (hp) hnp trivial fin) (fun x => (seg0 x.1 x.2.1 x.2.2.1))
end impl_in

/-! ### loop.example/wholecheck/impl.nameOk -/
namespace impl_nameOk
noncomputable abbrev c0 : Code := (Tryz.f58.body).getD .skip
noncomputable abbrev pin : Tpl := ⟨[⟨0, false, [.d .str]⟩], []⟩
noncomputable abbrev pout : Tpl := ⟨[⟨0, false, [.d .bool]⟩], []⟩
noncomputable abbrev PI := (List UInt8) × Unit
noncomputable abbrev PO := Bool × Unit
noncomputable abbrev rs : List ResultVar := [.tmp 2]
noncomputable def F0 (Gimpl_in : impl_in.PI → Option impl_in.PO) (Glib_Trim : lib_Trim.PI → Option lib_Trim.PO) (x0 : List UInt8) : Option PO :=
  Option.bind (Gimpl_in ((x0.length : Int), 1, 8, ())) fun y0 =>
  bif y0.1 then
    Option.bind (Glib_Trim (x0, ([97, 98, 99, 100, 101, 102, 103, 104, 105, 106, 107, 108, 109, 110, 111, 112, 113, 114, 115, 116, 117, 118, 119, 120, 121, 122] : List UInt8), ())) fun y1 =>
    some (y1.1 == [], ())
  else
    some (false, ())
noncomputable def hd {R : Type} (Gimpl_in : impl_in.PI → Option impl_in.PO) (Glib_Trim : lib_Trim.PI → Option lib_Trim.PO) : Hand R := (handAt 105 [8] true ⟨2, 1, 0, lib_Trim.pin, lib_Trim.pout, Glib_Trim⟩ (handAt 74 [5] true ⟨3, 1, 3, impl_in.pin, impl_in.pout, Gimpl_in⟩ handNil))
noncomputable def pg (Gimpl_in : impl_in.PI → Option impl_in.PO) (Glib_Trim : lib_Trim.PI → Option lib_Trim.PO) : Prog PO := { nt := 11, np := 1, tb := tabOf tab, hd := hd Gimpl_in Glib_Trim, cuts := cutsOf [], fin := endOf (tabOf tab) rs 1 pout }
noncomputable def q : FuncId → Bool := fun f => hasId [74, 105] f
theorem seg0 (Gimpl_in : impl_in.PI → Option impl_in.PO) (Glib_Trim : lib_Trim.PI → Option lib_Trim.PO) (x0 : List UInt8) : arun (pg Gimpl_in Glib_Trim) 5000 [.code c0] (mk pin (x0, ())) = F0 Gimpl_in Glib_Trim x0 := by kernel_rfl
noncomputable def impl : PI → Option PO := fun x => F0 impl_in.impl lib_Trim.impl x.1
theorem impl_eq (x0 : List UInt8) : impl (x0, ()) = F0 impl_in.impl lib_Trim.impl x0 := rfl
theorem con : Con Tryz.prog 58 1 rs.length 1 pin pout impl := by
  refine con_of_run' (nt := 11) (c := c0) tabGood Tryz.func58 (by kernel_rfl) (by kernel_rfl) (by kernel_rfl) (by kernel_rfl) (by kernel_rfl) (by kernel_rfl) (by kernel_rfl) ?_
  intro w0 O y hnp
  generalize hPost : (fun (a' : Act) (w' : World) => ∃ μ' S' st', Rel 11 w0 O μ' S' st' a' w' ∧ endOf (tabOf tab) rs 1 pout st' = some y) = Post
  have fin : ∀ (μ : Id → Option Value) (S : Nat → Prop) (st : St) (a : Act) (w : World), Rel 11 w0 O μ S st a w → endOf (tabOf tab) rs 1 pout st = some y → Post a w := fun μ S st a w h he => by rw [← hPost]; exact ⟨μ, S, st, h, he⟩
  have hp : Parts Tryz.prog 58 (pg impl_in.impl lib_Trim.impl) [] := ⟨tab_ok tabGood rfl, (handAt_ok lib_Trim.con (handAt_ok impl_in.con handNil_ok)), rfl⟩
  exact good_first (hp) (runOK_of (hp) hnp trivial fin) (fun x => (seg0 impl_in.impl lib_Trim.impl x.1))
end impl_nameOk

/-! ### slices.Index[[]string,string] -/
namespace slices_Index_of
noncomputable abbrev c0 : Code := (Tryz.f106.body).getD .skip
noncomputable abbrev pin : Tpl := ⟨[⟨0, false, [.d (.sl .str)]⟩, ⟨1, false, [.d .str]⟩], []⟩
noncomputable abbrev pout : Tpl := ⟨[⟨0, false, [.d (.int .i64)]⟩], []⟩
noncomputable abbrev p2 : Tpl := ⟨[⟨0, false, [.d (.sl .str)]⟩, ⟨1, false, [.d .str]⟩, ⟨7, false, [.d (.int .i64)]⟩, ⟨8, false, [.d (.int .i64)]⟩], []⟩
noncomputable def T2 : List Item := (find 2 c0 []).getD []
noncomputable abbrev PI := (List (List UInt8)) × (List UInt8) × Unit
noncomputable abbrev PO := Int × Unit
noncomputable abbrev P2 := (List (List UInt8)) × (List UInt8) × Int × Int × Unit
noncomputable abbrev rs : List ResultVar := [.tmp 4]
noncomputable def F0 (J2 : P2 → Option PO) (x0 : List (List UInt8)) (x1 : List UInt8) : Option PO :=
  J2 (x0, x1, (x0.length : Int), 0, ())
noncomputable def F2 (J2 : P2 → Option PO) (t0 : List (List UInt8)) (t1 : List UInt8) (t7 : Int) (t8 : Int) : Option PO :=
  bif decide (t8 < t7) then
    bif inb t8 t0.length then
      bif t1 == (t0.getD t8.toNat []) then
        some (t8, ())
      else
        J2 (t0, t1, t7, wI (t8 + 1), ())
    else
      none
  else
    some ((-1), ())
noncomputable def hd {R : Type} : Hand R := handNil
noncomputable def pg (J2 : List Item → P2 → Option PO) : Prog PO := { nt := 19, np := 2, tb := tabOf tab, hd := hd, cuts := cutsOf [(2, cut p2 J2)], fin := endOf (tabOf tab) rs 2 pout }
noncomputable def q : FuncId → Bool := fun f => hasId [] f
theorem seg0 (J2 : List Item → P2 → Option PO) (x0 : List (List UInt8)) (x1 : List UInt8) : arun (pg J2) 5000 [.code c0] (mk pin (x0, x1, ())) = F0 (J2 T2) x0 x1 := by kernel_rfl
theorem seg2 (J2 : List Item → P2 → Option PO) (t0 : List (List UInt8)) (t1 : List UInt8) (t7 : Int) (t8 : Int) : arun1 (pg J2) 5000 T2 (mk p2 (t0, t1, t7, t8, ())) = F2 (J2 T2) t0 t1 t7 t8 := by kernel_rfl
noncomputable def L2 : P2 → Option PO := lfp fun J2 x => F2 J2 x.1 x.2.1 x.2.2.1 x.2.2.2.1
noncomputable def impl : PI → Option PO := fun x => F0 L2 x.1 x.2.1
theorem F2_le {J2 J2' : P2 → Option PO} (h2 : OLe J2 J2') (t0 : List (List UInt8)) (t1 : List UInt8) (t7 : Int) (t8 : Int) : OptLe (F2 J2 t0 t1 t7 t8) (F2 J2' t0 t1 t7 t8) := by unfold F2; exact .cond (.cond (.cond (.refl _) (.of h2 _)) (.refl _)) (.refl _)
theorem L2_mono : OMono fun J2 (x : P2) => F2 J2 x.1 x.2.1 x.2.2.1 x.2.2.2.1 := fun J J' h2 x => F2_le h2 x.1 x.2.1 x.2.2.1 x.2.2.2.1
theorem L2_eq (t0 : List (List UInt8)) (t1 : List UInt8) (t7 : Int) (t8 : Int) : L2 (t0, t1, t7, t8, ()) = F2 (L2) t0 t1 t7 t8 := congrFun (lfp_eq (L2_mono)) _
theorem impl_eq (x0 : List (List UInt8)) (x1 : List UInt8) : impl (x0, x1, ()) = F0 L2 x0 x1 := rfl
theorem con : Con Tryz.prog 106 2 rs.length 2 pin pout impl := by
  refine con_of_run' (nt := 19) (c := c0) tabGood Tryz.func106 (by kernel_rfl) (by kernel_rfl) (by kernel_rfl) (by kernel_rfl) (by kernel_rfl) (by kernel_rfl) (by kernel_rfl) ?_
  intro w0 O y hnp
  generalize hPost : (fun (a' : Act) (w' : World) => ∃ μ' S' st', Rel 19 w0 O μ' S' st' a' w' ∧ endOf (tabOf tab) rs 2 pout st' = some y) = Post
  have fin : ∀ (μ : Id → Option Value) (S : Nat → Prop) (st : St) (a : Act) (w : World), Rel 19 w0 O μ S st a w → endOf (tabOf tab) rs 2 pout st = some y → Post a w := fun μ S st a w h he => by rw [← hPost]; exact ⟨μ, S, st, h, he⟩
  have hp : ∀ (J2 : List Item → P2 → Option PO), Parts Tryz.prog 106 (pg J2) [(2, cut p2 J2)] := fun J2 => ⟨tab_ok tabGood rfl, handNil_ok, rfl⟩
  have g2 : Good Tryz.prog 19 w0 O Post y T2 p2 L2 := good_lfp fun J2 h2 => good_part (hp (atT T2 J2)) (runOK_of (hp (atT T2 J2)) hnp ⟨cutOK_at h2, trivial⟩ fin) (fun x => (seg2 (atT T2 J2) x.1 x.2.1 x.2.2.1 x.2.2.2.1).trans (by simp only [atT_self] <;> rfl))
  exact good_first (hp (atT T2 L2)) (runOK_of (hp (atT T2 L2)) hnp ⟨cutOK_at g2, trivial⟩ fin) (fun x => (seg0 (atT T2 L2) x.1 x.2.1).trans (by simp only [atT_self] <;> rfl))
end slices_Index_of

/-! ### slices.Contains[[]string,string] -/
namespace slices_Contains_of
noncomputable abbrev c0 : Code := (Tryz.f59.body).getD .skip
noncomputable abbrev pin : Tpl := ⟨[⟨0, false, [.d (.sl .str)]⟩, ⟨1, false, [.d .str]⟩], []⟩
noncomputable abbrev pout : Tpl := ⟨[⟨0, false, [.d .bool]⟩], []⟩
noncomputable abbrev PI := (List (List UInt8)) × (List UInt8) × Unit
noncomputable abbrev PO := Bool × Unit
noncomputable abbrev rs : List ResultVar := [.tmp 4]
noncomputable def F0 (Gslices_Index_of : slices_Index_of.PI → Option slices_Index_of.PO) (x0 : List (List UInt8)) (x1 : List UInt8) : Option PO :=
  Option.bind (Gslices_Index_of (x0, x1, ())) fun y0 =>
  some (decide (y0.1 ≥ 0), ())
noncomputable def hd {R : Type} (Gslices_Index_of : slices_Index_of.PI → Option slices_Index_of.PO) : Hand R := (handAt 106 [7] true ⟨2, 1, 2, slices_Index_of.pin, slices_Index_of.pout, Gslices_Index_of⟩ handNil)
noncomputable def pg (Gslices_Index_of : slices_Index_of.PI → Option slices_Index_of.PO) : Prog PO := { nt := 9, np := 2, tb := tabOf tab, hd := hd Gslices_Index_of, cuts := cutsOf [], fin := endOf (tabOf tab) rs 2 pout }
noncomputable def q : FuncId → Bool := fun f => hasId [106] f
theorem seg0 (Gslices_Index_of : slices_Index_of.PI → Option slices_Index_of.PO) (x0 : List (List UInt8)) (x1 : List UInt8) : arun (pg Gslices_Index_of) 5000 [.code c0] (mk pin (x0, x1, ())) = F0 Gslices_Index_of x0 x1 := by kernel_rfl
noncomputable def impl : PI → Option PO := fun x => F0 slices_Index_of.impl x.1 x.2.1
theorem impl_eq (x0 : List (List UInt8)) (x1 : List UInt8) : impl (x0, x1, ()) = F0 slices_Index_of.impl x0 x1 := rfl
theorem con : Con Tryz.prog 59 2 rs.length 2 pin pout impl := by
  refine con_of_run' (nt := 9) (c := c0) tabGood Tryz.func59 (by kernel_rfl) (by kernel_rfl) (by kernel_rfl) (by kernel_rfl) (by kernel_rfl) (by kernel_rfl) (by kernel_rfl) ?_
  intro w0 O y hnp
  generalize hPost : (fun (a' : Act) (w' : World) => ∃ μ' S' st', Rel 9 w0 O μ' S' st' a' w' ∧ endOf (tabOf tab) rs 2 pout st' = some y) = Post
  have fin : ∀ (μ : Id → Option Value) (S : Nat → Prop) (st : St) (a : Act) (w : World), Rel 9 w0 O μ S st a w → endOf (tabOf tab) rs 2 pout st = some y → Post a w := fun μ S st a w h he => by rw [← hPost]; exact ⟨μ, S, st, h, he⟩
  have hp : Parts Tryz.prog 59 (pg slices_Index_of.impl) [] := ⟨tab_ok tabGood rfl, (handAt_ok slices_Index_of.con handNil_ok), rfl⟩
  exact good_first (hp) (runOK_of (hp) hnp trivial fin) (fun x => (seg0 slices_Index_of.impl x.1 x.2.1))
end slices_Contains_of

/-! ### loop.example/wholecheck/impl.NamesValid -/
namespace impl_NamesValid
noncomputable abbrev c0 : Code := (Tryz.f16.body).getD .skip
noncomputable abbrev pin : Tpl := ⟨[⟨0, false, [.d (.sl .str)]⟩], []⟩
noncomputable abbrev pout : Tpl := ⟨[⟨0, false, [.d .bool]⟩], []⟩
noncomputable abbrev p4 : Tpl := ⟨[⟨0, false, [.d (.sl .str)]⟩, ⟨8, false, [.d (.sl .str)]⟩, ⟨9, false, [.d (.int .i64)]⟩, ⟨10, false, [.d (.int .i64)]⟩], []⟩
noncomputable def T4 : List Item := (find 4 c0 []).getD []
noncomputable abbrev PI := (List (List UInt8)) × Unit
noncomputable abbrev PO := Bool × Unit
noncomputable abbrev P4 := (List (List UInt8)) × (List (List UInt8)) × Int × Int × Unit
noncomputable abbrev rs : List ResultVar := [.tmp 2]
noncomputable def F0 (J4 : P4 → Option PO) (x0 : List (List UInt8)) : Option PO :=
  bif decide ((x0.length : Int) > 5) then
    some (false, ())
  else
    J4 (x0, x0, (x0.length : Int), 0, ())
noncomputable def F4 (J4 : P4 → Option PO) (Gimpl_nameOk : impl_nameOk.PI → Option impl_nameOk.PO) (Gslices_Contains_of : slices_Contains_of.PI → Option slices_Contains_of.PO) (t0 : List (List UInt8)) (t8 : List (List UInt8)) (t9 : Int) (t10 : Int) : Option PO :=
  bif decide (t10 < t9) then
    bif inb t10 t8.length then
      Option.bind (Gimpl_nameOk (t8.getD t10.toNat [], ())) fun y0 =>
      bif !y0.1 then
        some (false, ())
      else
        bif decide (0 ≤ t10) && decide (t10 ≤ (t0.length : Int)) then
          Option.bind (Gslices_Contains_of ((t0.take t10.toNat).drop 0, t8.getD t10.toNat [], ())) fun y1 =>
          bif y1.1 then
            some (false, ())
          else
            J4 (t0, t8, t9, wI (t10 + 1), ())
        else
          none
    else
      none
  else
    some (true, ())
noncomputable def hd {R : Type} (Gimpl_nameOk : impl_nameOk.PI → Option impl_nameOk.PO) (Gslices_Contains_of : slices_Contains_of.PI → Option slices_Contains_of.PO) : Hand R := (handAt 59 [23] true ⟨2, 1, 2, slices_Contains_of.pin, slices_Contains_of.pout, Gslices_Contains_of⟩ (handAt 58 [16] true ⟨1, 1, 1, impl_nameOk.pin, impl_nameOk.pout, Gimpl_nameOk⟩ handNil))
noncomputable def pg (Gimpl_nameOk : impl_nameOk.PI → Option impl_nameOk.PO) (Gslices_Contains_of : slices_Contains_of.PI → Option slices_Contains_of.PO) (J4 : List Item → P4 → Option PO) : Prog PO := { nt := 26, np := 1, tb := tabOf tab, hd := hd Gimpl_nameOk Gslices_Contains_of, cuts := cutsOf [(4, cut p4 J4)], fin := endOf (tabOf tab) rs 1 pout }
noncomputable def q : FuncId → Bool := fun f => hasId [58, 59] f
theorem seg0 (Gimpl_nameOk : impl_nameOk.PI → Option impl_nameOk.PO) (Gslices_Contains_of : slices_Contains_of.PI → Option slices_Contains_of.PO) (J4 : List Item → P4 → Option PO) (x0 : List (List UInt8)) : arun (pg Gimpl_nameOk Gslices_Contains_of J4) 5000 [.code c0] (mk pin (x0, ())) = F0 (J4 T4) x0 := by kernel_rfl
theorem seg4 (Gimpl_nameOk : impl_nameOk.PI → Option impl_nameOk.PO) (Gslices_Contains_of : slices_Contains_of.PI → Option slices_Contains_of.PO) (J4 : List Item → P4 → Option PO) (t0 : List (List UInt8)) (t8 : List (List UInt8)) (t9 : Int) (t10 : Int) : arun1 (pg Gimpl_nameOk Gslices_Contains_of J4) 5000 T4 (mk p4 (t0, t8, t9, t10, ())) = F4 (J4 T4) Gimpl_nameOk Gslices_Contains_of t0 t8 t9 t10 := by kernel_rfl
noncomputable def L4 : P4 → Option PO := lfp fun J4 x => F4 J4 impl_nameOk.impl slices_Contains_of.impl x.1 x.2.1 x.2.2.1 x.2.2.2.1
noncomputable def impl : PI → Option PO := fun x => F0 L4 x.1
theorem F4_le {J4 J4' : P4 → Option PO} (h4 : OLe J4 J4') {Gimpl_nameOk : impl_nameOk.PI → Option impl_nameOk.PO} {Gslices_Contains_of : slices_Contains_of.PI → Option slices_Contains_of.PO} (t0 : List (List UInt8)) (t8 : List (List UInt8)) (t9 : Int) (t10 : Int) : OptLe (F4 J4 Gimpl_nameOk Gslices_Contains_of t0 t8 t9 t10) (F4 J4' Gimpl_nameOk Gslices_Contains_of t0 t8 t9 t10) := by unfold F4; exact .cond (.cond (.bind (.refl _) fun _ => .cond (.refl _) (.cond (.bind (.refl _) fun _ => .cond (.refl _) (.of h4 _)) (.refl _))) (.refl _)) (.refl _)
theorem L4_mono : OMono fun J4 (x : P4) => F4 J4 impl_nameOk.impl slices_Contains_of.impl x.1 x.2.1 x.2.2.1 x.2.2.2.1 := fun J J' h4 x => F4_le h4 x.1 x.2.1 x.2.2.1 x.2.2.2.1
theorem L4_eq (t0 : List (List UInt8)) (t8 : List (List UInt8)) (t9 : Int) (t10 : Int) : L4 (t0, t8, t9, t10, ()) = F4 (L4) impl_nameOk.impl slices_Contains_of.impl t0 t8 t9 t10 := congrFun (lfp_eq (L4_mono)) _
theorem impl_eq (x0 : List (List UInt8)) : impl (x0, ()) = F0 L4 x0 := rfl
theorem con : Con Tryz.prog 16 1 rs.length 1 pin pout impl := by
  refine con_of_run' (nt := 26) (c := c0) tabGood Tryz.func16 (by kernel_rfl) (by kernel_rfl) (by kernel_rfl) (by kernel_rfl) (by kernel_rfl) (by kernel_rfl) (by kernel_rfl) ?_
  intro w0 O y hnp
  generalize hPost : (fun (a' : Act) (w' : World) => ∃ μ' S' st', Rel 26 w0 O μ' S' st' a' w' ∧ endOf (tabOf tab) rs 1 pout st' = some y) = Post
  have fin : ∀ (μ : Id → Option Value) (S : Nat → Prop) (st : St) (a : Act) (w : World), Rel 26 w0 O μ S st a w → endOf (tabOf tab) rs 1 pout st = some y → Post a w := fun μ S st a w h he => by rw [← hPost]; exact ⟨μ, S, st, h, he⟩
  have hp : ∀ (J4 : List Item → P4 → Option PO), Parts Tryz.prog 16 (pg impl_nameOk.impl slices_Contains_of.impl J4) [(4, cut p4 J4)] := fun J4 => ⟨tab_ok tabGood rfl, (handAt_ok slices_Contains_of.con (handAt_ok impl_nameOk.con handNil_ok)), rfl⟩
  have g4 : Good Tryz.prog 26 w0 O Post y T4 p4 L4 := good_lfp fun J4 h4 => good_part (hp (atT T4 J4)) (runOK_of (hp (atT T4 J4)) hnp ⟨cutOK_at h4, trivial⟩ fin) (fun x => (seg4 impl_nameOk.impl slices_Contains_of.impl (atT T4 J4) x.1 x.2.1 x.2.2.1 x.2.2.2.1).trans (by simp only [atT_self] <;> rfl))
  exact good_first (hp (atT T4 L4)) (runOK_of (hp (atT T4 L4)) hnp ⟨cutOK_at g4, trivial⟩ fin) (fun x => (seg0 impl_nameOk.impl slices_Contains_of.impl (atT T4 L4) x.1).trans (by simp only [atT_self] <;> rfl))
end impl_NamesValid

/-! ### loop.example/wholecheck/impl.parts -/
namespace impl_parts
noncomputable abbrev c0 : Code := (Tryz.f120.body).getD .skip
noncomputable abbrev pin : Tpl := ⟨[⟨0, false, [.d (.int .i64)]⟩], []⟩
noncomputable abbrev pout : Tpl := ⟨[⟨0, false, [.d (.int .i64)]⟩, ⟨1, false, [.d (.int .i64)]⟩, ⟨2, false, [.d (.int .i64)]⟩], []⟩
noncomputable abbrev PI := Int × Unit
noncomputable abbrev PO := Int × Int × Int × Unit
noncomputable abbrev rs : List ResultVar := [.tmp 2, .tmp 3, .tmp 4]
noncomputable def F0 (x0 : Int) : Option PO :=
  bif x0 == 2 then
    some (2, 1, 1, ())
  else
    bif x0 == 3 then
      some (2, 1, 1, ())
    else
      bif x0 == 4 then
        some (2, 1, 1, ())
      else
        bif x0 == 5 then
          some (2, 1, 2, ())
        else
          bif x0 == 6 then
            some (2, 1, 2, ())
          else
            bif x0 == 7 then
              some (1, 2, 2, ())
            else
              bif x0 == 8 then
                some (2, 2, 2, ())
              else
                bif x0 == 9 then
                  some (2, 2, 2, ())
                else
                  some (0, 0, 1, ())
noncomputable def hd {R : Type} : Hand R := handNil
noncomputable def pg : Prog PO := { nt := 18, np := 1, tb := tabOf tab, hd := hd, cuts := cutsOf [], fin := endOf (tabOf tab) rs 1 pout }
noncomputable def q : FuncId → Bool := fun f => hasId [] f
theorem seg0 (x0 : Int) : arun (pg) 5000 [.code c0] (mk pin (x0, ())) = F0 x0 := by kernel_rfl
noncomputable def impl : PI → Option PO := fun x => F0 x.1
theorem impl_eq (x0 : Int) : impl (x0, ()) = F0 x0 := rfl
theorem con : Con Tryz.prog 120 1 rs.length 1 pin pout impl := by
  refine con_of_run' (nt := 18) (c := c0) tabGood Tryz.func120 (by kernel_rfl) (by kernel_rfl) (by kernel_rfl) (by kernel_rfl) (by kernel_rfl) (by kernel_rfl) (by kernel_rfl) ?_
  intro w0 O y hnp
  generalize hPost : (fun (a' : Act) (w' : World) => ∃ μ' S' st', Rel 18 w0 O μ' S' st' a' w' ∧ endOf (tabOf tab) rs 1 pout st' = some y) = Post
  have fin : ∀ (μ : Id → Option Value) (S : Nat → Prop) (st : St) (a : Act) (w : World), Rel 18 w0 O μ S st a w → endOf (tabOf tab) rs 1 pout st = some y → Post a w := fun μ S st a w h he => by rw [← hPost]; exact ⟨μ, S, st, h, he⟩
  have hp : Parts Tryz.prog 120 (pg) [] := ⟨tab_ok tabGood rfl, handNil_ok, rfl⟩
  exact good_first (hp) (runOK_of (hp) hnp trivial fin) (fun x => (seg0 x.1))
end impl_parts

/-! ### loop.example/wholecheck/impl.kindsOf -/
namespace impl_kindsOf
noncomputable abbrev c0 : Code := (Tryz.f72.body).getD .skip
noncomputable abbrev pin : Tpl := ⟨[⟨0, false, [.d (.sl (.prod (.int .i64) (.prod (.int .i64) (.prod (.int .i64) (.last (.int .i64))))))]⟩, ⟨1, false, [.d (.int .i64)]⟩], []⟩
noncomputable abbrev pout : Tpl := ⟨[⟨0, false, [.row 600001]⟩], [(600001, .row 3 true (.int .i64))]⟩
noncomputable abbrev p3 : Tpl := ⟨[⟨0, false, [.d (.sl (.prod (.int .i64) (.prod (.int .i64) (.prod (.int .i64) (.last (.int .i64))))))]⟩, ⟨1, false, [.d (.int .i64)]⟩], []⟩
noncomputable def T3 : List Item := (find 3 c0 []).getD []
noncomputable abbrev p5 : Tpl := ⟨[⟨1, false, [.d (.int .i64)]⟩, ⟨5, false, [.row 3000000]⟩, ⟨24, false, [.d (.sl (.prod (.int .i64) (.prod (.int .i64) (.prod (.int .i64) (.last (.int .i64))))))]⟩, ⟨25, false, [.d (.int .i64)]⟩, ⟨26, false, [.d (.int .i64)]⟩], [(3000000, .row 3 false (.int .i64))]⟩
noncomputable def T5 : List Item := (find 5 c0 []).getD []
noncomputable abbrev PI := (List (Int × Int × Int × Int)) × Int × Unit
noncomputable abbrev PO := (List Int) × Unit
noncomputable abbrev P3 := (List (Int × Int × Int × Int)) × Int × Unit
noncomputable abbrev P5 := Int × (List (Int × Int × Int × Int)) × Int × Int × (List Int) × Unit
noncomputable abbrev rs : List ResultVar := [.tmp 4]
noncomputable def F0 (J3 : P3 → Option PO) (Gimpl_in : impl_in.PI → Option impl_in.PO) (x0 : List (Int × Int × Int × Int)) (x1 : Int) : Option PO :=
  Option.bind (Gimpl_in (x1, 0, 5, ())) fun y0 =>
  bif !y0.1 then
    some ([], ())
  else
    Option.bind (Gimpl_in ((x0.length : Int), 1, 40, ())) fun y1 =>
    bif !y1.1 then
      some ([], ())
    else
      J3 (x0, x1, ())
noncomputable def F3 (J5 : P5 → Option PO) (t0 : List (Int × Int × Int × Int)) (t1 : Int) : Option PO :=
  bif decide (0 ≤ (t0.length : Int)) && decide ((t0.length : Int) * 8 ≤ 140737488355328) then
    J5 (t1, t0, (t0.length : Int), 0, (List.replicate 0 0 : List Int), ())
  else
    none
noncomputable def F5 (J5 : P5 → Option PO) (Gimpl_in : impl_in.PI → Option impl_in.PO) (Gimpl_parts : impl_parts.PI → Option impl_parts.PO) (t1 : Int) (t24 : List (Int × Int × Int × Int)) (t25 : Int) (t26 : Int) (r0 : List Int) : Option PO :=
  bif decide (t26 < t25) then
    bif inb t26 t24.length then
      Option.bind (Gimpl_parts ((t24.getD t26.toNat (0, 0, 0, 0)).1, ())) fun y2 =>
      Option.bind (Gimpl_in ((t24.getD t26.toNat (0, 0, 0, 0)).1, 0, 9, ())) fun y3 =>
      bif (t24.getD t26.toNat (0, 0, 0, 0)).1 == 0 then
        Option.bind (Gimpl_in ((t24.getD t26.toNat (0, 0, 0, 0)).2.1, (-9999), 9999, ())) fun y4 =>
        bif y4.1 then
          bif (t24.getD t26.toNat (0, 0, 0, 0)).2.2.1 == 0 then
            bif !((t24.getD t26.toNat (0, 0, 0, 0)).2.2.2 == 0) then
              some ([], ())
            else
              bif decide ((r0.length + ([y2.2.2.1] : List Int).length) * 8 ≤ 140737488355328) then
                J5 (t1, t24, t25, wI (t26 + 1), r0 ++ ([y2.2.2.1] : List Int), ())
              else
                none
          else
            some ([], ())
        else
          some ([], ())
      else
        bif (t24.getD t26.toNat (0, 0, 0, 0)).1 == 1 then
          Option.bind (Gimpl_in ((t24.getD t26.toNat (0, 0, 0, 0)).2.1, 0, wI (t1 - 1), ())) fun y5 =>
          bif y5.1 then
            bif (t24.getD t26.toNat (0, 0, 0, 0)).2.2.1 == 0 then
              bif !((t24.getD t26.toNat (0, 0, 0, 0)).2.2.2 == 0) then
                some ([], ())
              else
                bif decide ((r0.length + ([y2.2.2.1] : List Int).length) * 8 ≤ 140737488355328) then
                  J5 (t1, t24, t25, wI (t26 + 1), r0 ++ ([y2.2.2.1] : List Int), ())
                else
                  none
            else
              some ([], ())
          else
            some ([], ())
        else
          bif y3.1 then
            bif (t24.getD t26.toNat (0, 0, 0, 0)).2.1 == 0 then
              Option.bind (Gimpl_in ((t24.getD t26.toNat (0, 0, 0, 0)).2.2.1, 0, wI (t26 - 1), ())) fun y6 =>
              bif y6.1 then
                Option.bind (Gimpl_in ((t24.getD t26.toNat (0, 0, 0, 0)).2.2.2, 0, wI (t26 - 1), ())) fun y7 =>
                bif y7.1 then
                  bif inb (t24.getD t26.toNat (0, 0, 0, 0)).2.2.1 r0.length then
                    bif r0.getD (t24.getD t26.toNat (0, 0, 0, 0)).2.2.1.toNat 0 == y2.2.1 then
                      bif inb (t24.getD t26.toNat (0, 0, 0, 0)).2.2.2 r0.length then
                        bif r0.getD (t24.getD t26.toNat (0, 0, 0, 0)).2.2.2.toNat 0 == y2.2.1 then
                          bif y2.1 == 2 then
                            bif decide ((r0.length + ([y2.2.2.1] : List Int).length) * 8 ≤ 140737488355328) then
                              J5 (t1, t24, t25, wI (t26 + 1), r0 ++ ([y2.2.2.1] : List Int), ())
                            else
                              none
                          else
                            bif !((t24.getD t26.toNat (0, 0, 0, 0)).2.2.1 == (t24.getD t26.toNat (0, 0, 0, 0)).2.2.2) then
                              some ([], ())
                            else
                              bif decide ((r0.length + ([y2.2.2.1] : List Int).length) * 8 ≤ 140737488355328) then
                                J5 (t1, t24, t25, wI (t26 + 1), r0 ++ ([y2.2.2.1] : List Int), ())
                              else
                                none
                        else
                          some ([], ())
                      else
                        none
                    else
                      some ([], ())
                  else
                    none
                else
                  some ([], ())
              else
                some ([], ())
            else
              some ([], ())
          else
            bif !y3.1 then
              some ([], ())
            else
              bif decide ((r0.length + ([y2.2.2.1] : List Int).length) * 8 ≤ 140737488355328) then
                J5 (t1, t24, t25, wI (t26 + 1), r0 ++ ([y2.2.2.1] : List Int), ())
              else
                none
    else
      none
  else
    bif (!r0.isEmpty && true) then
      some (r0, ())
    else
      none
noncomputable def hd {R : Type} (Gimpl_in : impl_in.PI → Option impl_in.PO) (Gimpl_parts : impl_parts.PI → Option impl_parts.PO) : Hand R := (handAt 120 [34] true ⟨1, 3, 1, impl_parts.pin, impl_parts.pout, Gimpl_parts⟩ (handAt 74 [13, 18, 40, 47, 66, 87, 94] true ⟨3, 1, 3, impl_in.pin, impl_in.pout, Gimpl_in⟩ handNil))
noncomputable def pg (Gimpl_in : impl_in.PI → Option impl_in.PO) (Gimpl_parts : impl_parts.PI → Option impl_parts.PO) (J3 : List Item → P3 → Option PO) (J5 : List Item → P5 → Option PO) : Prog PO := { nt := 133, np := 2, tb := tabOf tab, hd := hd Gimpl_in Gimpl_parts, cuts := cutsOf [(3, cut p3 J3), (5, cut p5 J5)], fin := endOf (tabOf tab) rs 2 pout }
noncomputable def q : FuncId → Bool := fun f => hasId [74, 120] f
theorem seg0 (Gimpl_in : impl_in.PI → Option impl_in.PO) (Gimpl_parts : impl_parts.PI → Option impl_parts.PO) (J3 : List Item → P3 → Option PO) (J5 : List Item → P5 → Option PO) (x0 : List (Int × Int × Int × Int)) (x1 : Int) : arun (pg Gimpl_in Gimpl_parts J3 J5) 5000 [.code c0] (mk pin (x0, x1, ())) = F0 (J3 T3) Gimpl_in x0 x1 := by kernel_rfl
theorem seg3 (Gimpl_in : impl_in.PI → Option impl_in.PO) (Gimpl_parts : impl_parts.PI → Option impl_parts.PO) (J3 : List Item → P3 → Option PO) (J5 : List Item → P5 → Option PO) (t0 : List (Int × Int × Int × Int)) (t1 : Int) : arun1 (pg Gimpl_in Gimpl_parts J3 J5) 5000 T3 (mk p3 (t0, t1, ())) = F3 (J5 T5) t0 t1 := by kernel_rfl
theorem seg5 (Gimpl_in : impl_in.PI → Option impl_in.PO) (Gimpl_parts : impl_parts.PI → Option impl_parts.PO) (J3 : List Item → P3 → Option PO) (J5 : List Item → P5 → Option PO) (t1 : Int) (t24 : List (Int × Int × Int × Int)) (t25 : Int) (t26 : Int) (r0 : List Int) : arun1 (pg Gimpl_in Gimpl_parts J3 J5) 5000 T5 (mk p5 (t1, t24, t25, t26, r0, ())) = F5 (J5 T5) Gimpl_in Gimpl_parts t1 t24 t25 t26 r0 := by kernel_rfl
noncomputable def L5 : P5 → Option PO := lfp fun J5 x => F5 J5 impl_in.impl impl_parts.impl x.1 x.2.1 x.2.2.1 x.2.2.2.1 x.2.2.2.2.1
noncomputable def L3 : P3 → Option PO := fun x => F3 L5 x.1 x.2.1
noncomputable def impl : PI → Option PO := fun x => F0 L3 impl_in.impl x.1 x.2.1
theorem F5_le {J5 J5' : P5 → Option PO} (h5 : OLe J5 J5') {Gimpl_in : impl_in.PI → Option impl_in.PO} {Gimpl_parts : impl_parts.PI → Option impl_parts.PO} (t1 : Int) (t24 : List (Int × Int × Int × Int)) (t25 : Int) (t26 : Int) (r0 : List Int) : OptLe (F5 J5 Gimpl_in Gimpl_parts t1 t24 t25 t26 r0) (F5 J5' Gimpl_in Gimpl_parts t1 t24 t25 t26 r0) := by unfold F5; exact .cond (.cond (.bind (.refl _) fun _ => .bind (.refl _) fun _ => .cond (.bind (.refl _) fun _ => .cond (.cond (.cond (.refl _) (.cond (.of h5 _) (.refl _))) (.refl _)) (.refl _)) (.cond (.bind (.refl _) fun _ => .cond (.cond (.cond (.refl _) (.cond (.of h5 _) (.refl _))) (.refl _)) (.refl _)) (.cond (.cond (.bind (.refl _) fun _ => .cond (.bind (.refl _) fun _ => .cond (.cond (.cond (.cond (.cond (.cond (.cond (.of h5 _) (.refl _)) (.cond (.refl _) (.cond (.of h5 _) (.refl _)))) (.refl _)) (.refl _)) (.refl _)) (.refl _)) (.refl _)) (.refl _)) (.refl _)) (.cond (.refl _) (.cond (.of h5 _) (.refl _)))))) (.refl _)) (.refl _)
theorem L5_mono : OMono fun J5 (x : P5) => F5 J5 impl_in.impl impl_parts.impl x.1 x.2.1 x.2.2.1 x.2.2.2.1 x.2.2.2.2.1 := fun J J' h5 x => F5_le h5 x.1 x.2.1 x.2.2.1 x.2.2.2.1 x.2.2.2.2.1
theorem L5_eq (t1 : Int) (t24 : List (Int × Int × Int × Int)) (t25 : Int) (t26 : Int) (r0 : List Int) : L5 (t1, t24, t25, t26, r0, ()) = F5 (L5) impl_in.impl impl_parts.impl t1 t24 t25 t26 r0 := congrFun (lfp_eq (L5_mono)) _
theorem L3_eq (t0 : List (Int × Int × Int × Int)) (t1 : Int) : L3 (t0, t1, ()) = F3 (L5) t0 t1 := rfl
theorem impl_eq (x0 : List (Int × Int × Int × Int)) (x1 : Int) : impl (x0, x1, ()) = F0 L3 impl_in.impl x0 x1 := rfl
theorem con : Con Tryz.prog 72 2 rs.length 2 pin pout impl := by
  refine con_of_run' (nt := 133) (c := c0) tabGood Tryz.func72 (by kernel_rfl) (by kernel_rfl) (by kernel_rfl) (by kernel_rfl) (by kernel_rfl) (by kernel_rfl) (by kernel_rfl) ?_
  intro w0 O y hnp
  generalize hPost : (fun (a' : Act) (w' : World) => ∃ μ' S' st', Rel 133 w0 O μ' S' st' a' w' ∧ endOf (tabOf tab) rs 2 pout st' = some y) = Post
  have fin : ∀ (μ : Id → Option Value) (S : Nat → Prop) (st : St) (a : Act) (w : World), Rel 133 w0 O μ S st a w → endOf (tabOf tab) rs 2 pout st = some y → Post a w := fun μ S st a w h he => by rw [← hPost]; exact ⟨μ, S, st, h, he⟩
  have hp : ∀ (J3 : List Item → P3 → Option PO), ∀ (J5 : List Item → P5 → Option PO), Parts Tryz.prog 72 (pg impl_in.impl impl_parts.impl J3 J5) [(3, cut p3 J3), (5, cut p5 J5)] := fun J3 J5 => ⟨tab_ok tabGood rfl, (handAt_ok impl_parts.con (handAt_ok impl_in.con handNil_ok)), rfl⟩
  have g5 : Good Tryz.prog 133 w0 O Post y T5 p5 L5 := good_lfp fun J5 h5 => good_part (hp (atT T3 (fun _ => none)) (atT T5 J5)) (runOK_of (hp (atT T3 (fun _ => none)) (atT T5 J5)) hnp ⟨cutOK_at (p := p3) (T := T3) (J := fun _ => none) good_none, cutOK_at h5, trivial⟩ fin) (fun x => (seg5 impl_in.impl impl_parts.impl (atT T3 (fun _ => none)) (atT T5 J5) x.1 x.2.1 x.2.2.1 x.2.2.2.1 x.2.2.2.2.1).trans (by simp only [atT_self] <;> rfl))
  have g3 : Good Tryz.prog 133 w0 O Post y T3 p3 L3 := good_part (hp (atT T3 (fun _ => none)) (atT T5 L5)) (runOK_of (hp (atT T3 (fun _ => none)) (atT T5 L5)) hnp ⟨cutOK_at (p := p3) (T := T3) (J := fun _ => none) good_none, cutOK_at g5, trivial⟩ fin) (fun x => (seg3 impl_in.impl impl_parts.impl (atT T3 (fun _ => none)) (atT T5 L5) x.1 x.2.1).trans (by simp only [atT_self] <;> rfl))
  exact good_first (hp (atT T3 L3) (atT T5 (fun _ => none))) (runOK_of (hp (atT T3 L3) (atT T5 (fun _ => none))) hnp ⟨cutOK_at g3, cutOK_at (p := p5) (T := T5) (J := fun _ => none) good_none, trivial⟩ fin) (fun x => (seg0 impl_in.impl impl_parts.impl (atT T3 L3) (atT T5 (fun _ => none)) x.1 x.2.1).trans (by simp only [atT_self] <;> rfl))
end impl_kindsOf

/-! ### loop.example/wholecheck/impl.TermsValid -/
namespace impl_TermsValid
noncomputable abbrev c0 : Code := (Tryz.f23.body).getD .skip
noncomputable abbrev pin : Tpl := ⟨[⟨0, false, [.d (.sl (.prod (.int .i64) (.prod (.int .i64) (.prod (.int .i64) (.last (.int .i64))))))]⟩, ⟨1, false, [.d (.int .i64)]⟩], []⟩
noncomputable abbrev pout : Tpl := ⟨[⟨0, false, [.d .bool]⟩], []⟩
noncomputable abbrev PI := (List (Int × Int × Int × Int)) × Int × Unit
noncomputable abbrev PO := Bool × Unit
noncomputable abbrev rs : List ResultVar := [.tmp 4]
noncomputable def F0 (Gimpl_kindsOf : impl_kindsOf.PI → Option impl_kindsOf.PO) (x0 : List (Int × Int × Int × Int)) (x1 : Int) : Option PO :=
  Option.bind (Gimpl_kindsOf (x0, x1, ())) fun y0 =>
  some (!y0.1.isEmpty, ())
noncomputable def hd {R : Type} (Gimpl_kindsOf : impl_kindsOf.PI → Option impl_kindsOf.PO) : Hand R := (handAt 72 [7] true ⟨2, 1, 2, impl_kindsOf.pin, impl_kindsOf.pout, Gimpl_kindsOf⟩ handNil)
noncomputable def pg (Gimpl_kindsOf : impl_kindsOf.PI → Option impl_kindsOf.PO) : Prog PO := { nt := 9, np := 2, tb := tabOf tab, hd := hd Gimpl_kindsOf, cuts := cutsOf [], fin := endOf (tabOf tab) rs 2 pout }
noncomputable def q : FuncId → Bool := fun f => hasId [] f
theorem seg0 (Gimpl_kindsOf : impl_kindsOf.PI → Option impl_kindsOf.PO) (x0 : List (Int × Int × Int × Int)) (x1 : Int) : arun (pg Gimpl_kindsOf) 5000 [.code c0] (mk pin (x0, x1, ())) = F0 Gimpl_kindsOf x0 x1 := by kernel_rfl
noncomputable def impl : PI → Option PO := fun x => F0 impl_kindsOf.impl x.1 x.2.1
theorem impl_eq (x0 : List (Int × Int × Int × Int)) (x1 : Int) : impl (x0, x1, ()) = F0 impl_kindsOf.impl x0 x1 := rfl
theorem con : Con Tryz.prog 23 2 rs.length 2 pin pout impl := by
  refine con_of_run' (nt := 9) (c := c0) tabGood Tryz.func23 (by kernel_rfl) (by kernel_rfl) (by kernel_rfl) (by kernel_rfl) (by kernel_rfl) (by kernel_rfl) (by kernel_rfl) ?_
  intro w0 O y hnp
  generalize hPost : (fun (a' : Act) (w' : World) => ∃ μ' S' st', Rel 9 w0 O μ' S' st' a' w' ∧ endOf (tabOf tab) rs 2 pout st' = some y) = Post
  have fin : ∀ (μ : Id → Option Value) (S : Nat → Prop) (st : St) (a : Act) (w : World), Rel 9 w0 O μ S st a w → endOf (tabOf tab) rs 2 pout st = some y → Post a w := fun μ S st a w h he => by rw [← hPost]; exact ⟨μ, S, st, h, he⟩
  have hp : Parts Tryz.prog 23 (pg impl_kindsOf.impl) [] := ⟨tab_ok tabGood rfl, (handAt_ok impl_kindsOf.con handNil_ok), rfl⟩
  exact good_first (hp) (runOK_of (hp) hnp trivial fin) (fun x => (seg0 impl_kindsOf.impl x.1 x.2.1))
end impl_TermsValid

/-! ### loop.example/wholecheck/impl.WriteExpr -/
namespace impl_WriteExpr
noncomputable abbrev c0 : Code := (Tryz.f14.body).getD .skip
noncomputable abbrev pin : Tpl := ⟨[⟨0, false, [.d (.sl .str)]⟩, ⟨1, false, [.d (.sl (.prod (.int .i64) (.prod (.int .i64) (.prod (.int .i64) (.last (.int .i64))))))]⟩], []⟩
noncomputable abbrev pout : Tpl := ⟨[⟨0, false, [.d .str]⟩], []⟩
noncomputable abbrev p3 : Tpl := ⟨[⟨0, false, [.d (.sl .str)]⟩, ⟨1, false, [.d (.sl (.prod (.int .i64) (.prod (.int .i64) (.prod (.int .i64) (.last (.int .i64))))))]⟩], []⟩
noncomputable def T3 : List Item := (find 3 c0 []).getD []
noncomputable abbrev p5 : Tpl := ⟨[⟨0, false, [.d (.sl .str)]⟩, ⟨5, false, [.row 3000000]⟩, ⟨21, false, [.d (.sl (.prod (.int .i64) (.prod (.int .i64) (.prod (.int .i64) (.last (.int .i64))))))]⟩, ⟨22, false, [.d (.int .i64)]⟩, ⟨23, false, [.d (.int .i64)]⟩], [(3000000, .row 9 false .str)]⟩
noncomputable def T5 : List Item := (find 5 c0 []).getD []
noncomputable abbrev p8 : Tpl := ⟨[⟨0, false, [.d (.sl .str)]⟩, ⟨5, false, [.row 3000000]⟩, ⟨6, false, [.d (.int .i64)]⟩, ⟨7, false, [.ptr 3000001 0]⟩, ⟨21, false, [.d (.sl (.prod (.int .i64) (.prod (.int .i64) (.prod (.int .i64) (.last (.int .i64))))))]⟩, ⟨22, false, [.d (.int .i64)]⟩, ⟨23, false, [.d (.int .i64)]⟩], [(3000000, .row 9 false .str), (3000001, .box [.d (.int .i64), .d (.int .i64), .d (.int .i64), .d (.int .i64)])]⟩
noncomputable def T8 : List Item := (find 8 c0 []).getD []
noncomputable abbrev PI := (List (List UInt8)) × (List (Int × Int × Int × Int)) × Unit
noncomputable abbrev PO := (List UInt8) × Unit
noncomputable abbrev P3 := (List (List UInt8)) × (List (Int × Int × Int × Int)) × Unit
noncomputable abbrev P5 := (List (List UInt8)) × (List (Int × Int × Int × Int)) × Int × Int × (List (List UInt8)) × Unit
noncomputable abbrev P8 := (List (List UInt8)) × Int × (List (Int × Int × Int × Int)) × Int × Int × (List (List UInt8)) × Int × Int × Int × Int × Unit
noncomputable abbrev rs : List ResultVar := [.tmp 4]
noncomputable def F0 (J3 : P3 → Option PO) (Gimpl_NamesValid : impl_NamesValid.PI → Option impl_NamesValid.PO) (Gimpl_TermsValid : impl_TermsValid.PI → Option impl_TermsValid.PO) (x0 : List (List UInt8)) (x1 : List (Int × Int × Int × Int)) : Option PO :=
  Option.bind (Gimpl_NamesValid (x0, ())) fun y0 =>
  bif !y0.1 then
    some ([], ())
  else
    Option.bind (Gimpl_TermsValid (x1, (x0.length : Int), ())) fun y1 =>
    bif !y1.1 then
      some ([], ())
    else
      J3 (x0, x1, ())
noncomputable def F3 (J5 : P5 → Option PO) (t0 : List (List UInt8)) (t1 : List (Int × Int × Int × Int)) : Option PO :=
  bif decide (0 ≤ (t1.length : Int)) && decide ((t1.length : Int) ≤ (t1.length : Int)) && decide ((t1.length : Int) * 16 ≤ 140737488355328) then
    J5 (t0, t1, (t1.length : Int), 0, (List.replicate (t1.length : Int).toNat [] : List (List UInt8)), ())
  else
    none
noncomputable def F5 (J5 : P5 → Option PO) (J8 : P8 → Option PO) (Glib_Itoa : lib_Itoa.PI → Option lib_Itoa.PO) (t0 : List (List UInt8)) (t21 : List (Int × Int × Int × Int)) (t22 : Int) (t23 : Int) (r0 : List (List UInt8)) : Option PO :=
  bif decide (t23 < t22) then
    bif inb t23 t21.length then
      bif (t21.getD t23.toNat (0, 0, 0, 0)).1 == 0 then
        Option.bind (Glib_Itoa ((t21.getD t23.toNat (0, 0, 0, 0)).2.1, ())) fun y2 =>
        bif inb t23 r0.length then
          bif inb t23 (r0.set t23.toNat y2.1).length then
            bif decide ((((r0.set t23.toNat y2.1).getD t23.toNat []).length : Int) > 4000) then
              some ([], ())
            else
              J5 (t0, t21, t22, wI (t23 + 1), r0.set t23.toNat y2.1, ())
          else
            none
        else
          none
      else
        bif (t21.getD t23.toNat (0, 0, 0, 0)).1 == 1 then
          bif inb (t21.getD t23.toNat (0, 0, 0, 0)).2.1 t0.length then
            bif inb t23 r0.length then
              bif inb t23 (r0.set t23.toNat (t0.getD (t21.getD t23.toNat (0, 0, 0, 0)).2.1.toNat [])).length then
                bif decide ((((r0.set t23.toNat (t0.getD (t21.getD t23.toNat (0, 0, 0, 0)).2.1.toNat [])).getD t23.toNat []).length : Int) > 4000) then
                  some ([], ())
                else
                  J5 (t0, t21, t22, wI (t23 + 1), r0.set t23.toNat (t0.getD (t21.getD t23.toNat (0, 0, 0, 0)).2.1.toNat []), ())
              else
                none
            else
              none
          else
            none
        else
          bif (t21.getD t23.toNat (0, 0, 0, 0)).1 == 7 then
            bif inb (t21.getD t23.toNat (0, 0, 0, 0)).2.2.1 r0.length then
              bif decide (([33] : List UInt8).length + (r0.getD (t21.getD t23.toNat (0, 0, 0, 0)).2.2.1.toNat []).length ≤ 140737488355328) then
                bif inb t23 r0.length then
                  bif inb t23 (r0.set t23.toNat (([33] : List UInt8) ++ (r0.getD (t21.getD t23.toNat (0, 0, 0, 0)).2.2.1.toNat []))).length then
                    bif decide ((((r0.set t23.toNat (([33] : List UInt8) ++ (r0.getD (t21.getD t23.toNat (0, 0, 0, 0)).2.2.1.toNat []))).getD t23.toNat []).length : Int) > 4000) then
                      some ([], ())
                    else
                      J5 (t0, t21, t22, wI (t23 + 1), r0.set t23.toNat (([33] : List UInt8) ++ (r0.getD (t21.getD t23.toNat (0, 0, 0, 0)).2.2.1.toNat [])), ())
                  else
                    none
                else
                  none
              else
                none
            else
              none
          else
            J8 (t0, t23, t21, t22, t23, r0, (t21.getD t23.toNat (0, 0, 0, 0)).1, (t21.getD t23.toNat (0, 0, 0, 0)).2.1, (t21.getD t23.toNat (0, 0, 0, 0)).2.2.1, (t21.getD t23.toNat (0, 0, 0, 0)).2.2.2, ())
    else
      none
  else
    bif inb (wI ((r0.length : Int) - 1)) r0.length then
      some (r0.getD (wI ((r0.length : Int) - 1)).toNat [], ())
    else
      none
noncomputable def F8 (J5 : P5 → Option PO) (t0 : List (List UInt8)) (t6 : Int) (t21 : List (Int × Int × Int × Int)) (t22 : Int) (t23 : Int) (r0 : List (List UInt8)) (b1_0 : Int) (b1_1 : Int) (b1_2 : Int) (b1_3 : Int) : Option PO :=
  bif inb b1_2 r0.length then
    bif decide (0 ≤ b1_0) && decide (b1_0 ≤ wI (b1_0 + 1)) && decide (wI (b1_0 + 1) ≤ (([32, 32, 43, 45, 42, 60, 61, 33, 38, 124] : List UInt8).length : Int)) then
      bif inb b1_3 r0.length then
        bif decide (([40] : List UInt8).length + (r0.getD b1_2.toNat []).length ≤ 140737488355328) then
          bif decide ((([40] : List UInt8) ++ (r0.getD b1_2.toNat [])).length + ([32] : List UInt8).length ≤ 140737488355328) then
            bif decide (((([40] : List UInt8) ++ (r0.getD b1_2.toNat [])) ++ ([32] : List UInt8)).length + ((([32, 32, 43, 45, 42, 60, 61, 33, 38, 124] : List UInt8).take (wI (b1_0 + 1)).toNat).drop b1_0.toNat).length ≤ 140737488355328) then
              bif decide ((((([40] : List UInt8) ++ (r0.getD b1_2.toNat [])) ++ ([32] : List UInt8)) ++ ((([32, 32, 43, 45, 42, 60, 61, 33, 38, 124] : List UInt8).take (wI (b1_0 + 1)).toNat).drop b1_0.toNat)).length + ([32] : List UInt8).length ≤ 140737488355328) then
                bif decide (((((([40] : List UInt8) ++ (r0.getD b1_2.toNat [])) ++ ([32] : List UInt8)) ++ ((([32, 32, 43, 45, 42, 60, 61, 33, 38, 124] : List UInt8).take (wI (b1_0 + 1)).toNat).drop b1_0.toNat)) ++ ([32] : List UInt8)).length + (r0.getD b1_3.toNat []).length ≤ 140737488355328) then
                  bif decide ((((((([40] : List UInt8) ++ (r0.getD b1_2.toNat [])) ++ ([32] : List UInt8)) ++ ((([32, 32, 43, 45, 42, 60, 61, 33, 38, 124] : List UInt8).take (wI (b1_0 + 1)).toNat).drop b1_0.toNat)) ++ ([32] : List UInt8)) ++ (r0.getD b1_3.toNat [])).length + ([41] : List UInt8).length ≤ 140737488355328) then
                    bif inb t6 r0.length then
                      bif inb t6 (r0.set t6.toNat ((((((([40] : List UInt8) ++ (r0.getD b1_2.toNat [])) ++ ([32] : List UInt8)) ++ ((([32, 32, 43, 45, 42, 60, 61, 33, 38, 124] : List UInt8).take (wI (b1_0 + 1)).toNat).drop b1_0.toNat)) ++ ([32] : List UInt8)) ++ (r0.getD b1_3.toNat [])) ++ ([41] : List UInt8))).length then
                        bif decide ((((r0.set t6.toNat ((((((([40] : List UInt8) ++ (r0.getD b1_2.toNat [])) ++ ([32] : List UInt8)) ++ ((([32, 32, 43, 45, 42, 60, 61, 33, 38, 124] : List UInt8).take (wI (b1_0 + 1)).toNat).drop b1_0.toNat)) ++ ([32] : List UInt8)) ++ (r0.getD b1_3.toNat [])) ++ ([41] : List UInt8))).getD t6.toNat []).length : Int) > 4000) then
                          some ([], ())
                        else
                          J5 (t0, t21, t22, wI (t23 + 1), r0.set t6.toNat ((((((([40] : List UInt8) ++ (r0.getD b1_2.toNat [])) ++ ([32] : List UInt8)) ++ ((([32, 32, 43, 45, 42, 60, 61, 33, 38, 124] : List UInt8).take (wI (b1_0 + 1)).toNat).drop b1_0.toNat)) ++ ([32] : List UInt8)) ++ (r0.getD b1_3.toNat [])) ++ ([41] : List UInt8)), ())
                      else
                        none
                    else
                      none
                  else
                    none
                else
                  none
              else
                none
            else
              none
          else
            none
        else
          none
      else
        none
    else
      none
  else
    none
noncomputable def hd {R : Type} (Gimpl_NamesValid : impl_NamesValid.PI → Option impl_NamesValid.PO) (Gimpl_TermsValid : impl_TermsValid.PI → Option impl_TermsValid.PO) (Glib_Itoa : lib_Itoa.PI → Option lib_Itoa.PO) : Hand R := (handAt 45 [61] true ⟨1, 1, 0, lib_Itoa.pin, lib_Itoa.pout, Glib_Itoa⟩ (handAt 23 [15] true ⟨2, 1, 2, impl_TermsValid.pin, impl_TermsValid.pout, Gimpl_TermsValid⟩ (handAt 16 [9] true ⟨1, 1, 1, impl_NamesValid.pin, impl_NamesValid.pout, Gimpl_NamesValid⟩ handNil)))
noncomputable def pg (Gimpl_NamesValid : impl_NamesValid.PI → Option impl_NamesValid.PO) (Gimpl_TermsValid : impl_TermsValid.PI → Option impl_TermsValid.PO) (Glib_Itoa : lib_Itoa.PI → Option lib_Itoa.PO) (J3 : List Item → P3 → Option PO) (J5 : List Item → P5 → Option PO) (J8 : List Item → P8 → Option PO) : Prog PO := { nt := 97, np := 2, tb := tabOf tab, hd := hd Gimpl_NamesValid Gimpl_TermsValid Glib_Itoa, cuts := cutsOf [(3, cut p3 J3), (5, cut p5 J5), (8, cut p8 J8)], fin := endOf (tabOf tab) rs 2 pout }
noncomputable def q : FuncId → Bool := fun f => hasId [16, 23, 45] f
theorem seg0 (Gimpl_NamesValid : impl_NamesValid.PI → Option impl_NamesValid.PO) (Gimpl_TermsValid : impl_TermsValid.PI → Option impl_TermsValid.PO) (Glib_Itoa : lib_Itoa.PI → Option lib_Itoa.PO) (J3 : List Item → P3 → Option PO) (J5 : List Item → P5 → Option PO) (J8 : List Item → P8 → Option PO) (x0 : List (List UInt8)) (x1 : List (Int × Int × Int × Int)) : arun (pg Gimpl_NamesValid Gimpl_TermsValid Glib_Itoa J3 J5 J8) 5000 [.code c0] (mk pin (x0, x1, ())) = F0 (J3 T3) Gimpl_NamesValid Gimpl_TermsValid x0 x1 := by kernel_rfl
theorem seg3 (Gimpl_NamesValid : impl_NamesValid.PI → Option impl_NamesValid.PO) (Gimpl_TermsValid : impl_TermsValid.PI → Option impl_TermsValid.PO) (Glib_Itoa : lib_Itoa.PI → Option lib_Itoa.PO) (J3 : List Item → P3 → Option PO) (J5 : List Item → P5 → Option PO) (J8 : List Item → P8 → Option PO) (t0 : List (List UInt8)) (t1 : List (Int × Int × Int × Int)) : arun1 (pg Gimpl_NamesValid Gimpl_TermsValid Glib_Itoa J3 J5 J8) 5000 T3 (mk p3 (t0, t1, ())) = F3 (J5 T5) t0 t1 := by kernel_rfl
theorem seg5 (Gimpl_NamesValid : impl_NamesValid.PI → Option impl_NamesValid.PO) (Gimpl_TermsValid : impl_TermsValid.PI → Option impl_TermsValid.PO) (Glib_Itoa : lib_Itoa.PI → Option lib_Itoa.PO) (J3 : List Item → P3 → Option PO) (J5 : List Item → P5 → Option PO) (J8 : List Item → P8 → Option PO) (t0 : List (List UInt8)) (t21 : List (Int × Int × Int × Int)) (t22 : Int) (t23 : Int) (r0 : List (List UInt8)) : arun1 (pg Gimpl_NamesValid Gimpl_TermsValid Glib_Itoa J3 J5 J8) 5000 T5 (mk p5 (t0, t21, t22, t23, r0, ())) = F5 (J5 T5) (J8 T8) Glib_Itoa t0 t21 t22 t23 r0 := by kernel_rfl
theorem seg8 (Gimpl_NamesValid : impl_NamesValid.PI → Option impl_NamesValid.PO) (Gimpl_TermsValid : impl_TermsValid.PI → Option impl_TermsValid.PO) (Glib_Itoa : lib_Itoa.PI → Option lib_Itoa.PO) (J3 : List Item → P3 → Option PO) (J5 : List Item → P5 → Option PO) (J8 : List Item → P8 → Option PO) (t0 : List (List UInt8)) (t6 : Int) (t21 : List (Int × Int × Int × Int)) (t22 : Int) (t23 : Int) (r0 : List (List UInt8)) (b1_0 : Int) (b1_1 : Int) (b1_2 : Int) (b1_3 : Int) : arunQ (pg Gimpl_NamesValid Gimpl_TermsValid Glib_Itoa J3 J5 J8) q [3000000] [6, 21] 5000 T8 (mk p8 (t0, t6, t21, t22, t23, r0, b1_0, b1_1, b1_2, b1_3, ())) = List.replicate (arunQ (pg Gimpl_NamesValid Gimpl_TermsValid Glib_Itoa J3 J5 J8) q [3000000] [6, 21] 5000 T8 (mk p8 (t0, t6, t21, t22, t23, r0, b1_0, b1_1, b1_2, b1_3, ()))).length (F8 (J5 T5) t0 t6 t21 t22 t23 r0 b1_0 b1_1 b1_2 b1_3) := by kernel_rfl
noncomputable def L8 (J5 : P5 → Option PO) : P8 → Option PO := fun x => F8 J5 x.1 x.2.1 x.2.2.1 x.2.2.2.1 x.2.2.2.2.1 x.2.2.2.2.2.1 x.2.2.2.2.2.2.1 x.2.2.2.2.2.2.2.1 x.2.2.2.2.2.2.2.2.1 x.2.2.2.2.2.2.2.2.2.1
noncomputable def L5 : P5 → Option PO := lfp fun J5 x => F5 J5 (L8 J5) lib_Itoa.impl x.1 x.2.1 x.2.2.1 x.2.2.2.1 x.2.2.2.2.1
noncomputable def L3 : P3 → Option PO := fun x => F3 L5 x.1 x.2.1
noncomputable def impl : PI → Option PO := fun x => F0 L3 impl_NamesValid.impl impl_TermsValid.impl x.1 x.2.1
theorem F8_le {J5 J5' : P5 → Option PO} (h5 : OLe J5 J5') (t0 : List (List UInt8)) (t6 : Int) (t21 : List (Int × Int × Int × Int)) (t22 : Int) (t23 : Int) (r0 : List (List UInt8)) (b1_0 : Int) (b1_1 : Int) (b1_2 : Int) (b1_3 : Int) : OptLe (F8 J5 t0 t6 t21 t22 t23 r0 b1_0 b1_1 b1_2 b1_3) (F8 J5' t0 t6 t21 t22 t23 r0 b1_0 b1_1 b1_2 b1_3) := by unfold F8; exact .cond (.cond (.cond (.cond (.cond (.cond (.cond (.cond (.cond (.cond (.cond (.cond (.refl _) (.of h5 _)) (.refl _)) (.refl _)) (.refl _)) (.refl _)) (.refl _)) (.refl _)) (.refl _)) (.refl _)) (.refl _)) (.refl _)) (.refl _)
theorem F5_le {J5 J5' : P5 → Option PO} (h5 : OLe J5 J5') {J8 J8' : P8 → Option PO} (h8 : OLe J8 J8') {Glib_Itoa : lib_Itoa.PI → Option lib_Itoa.PO} (t0 : List (List UInt8)) (t21 : List (Int × Int × Int × Int)) (t22 : Int) (t23 : Int) (r0 : List (List UInt8)) : OptLe (F5 J5 J8 Glib_Itoa t0 t21 t22 t23 r0) (F5 J5' J8' Glib_Itoa t0 t21 t22 t23 r0) := by unfold F5; exact .cond (.cond (.cond (.bind (.refl _) fun _ => .cond (.cond (.cond (.refl _) (.of h5 _)) (.refl _)) (.refl _)) (.cond (.cond (.cond (.cond (.cond (.refl _) (.of h5 _)) (.refl _)) (.refl _)) (.refl _)) (.cond (.cond (.cond (.cond (.cond (.cond (.refl _) (.of h5 _)) (.refl _)) (.refl _)) (.refl _)) (.refl _)) (.of h8 _)))) (.refl _)) (.refl _)
theorem L8_eq (J5 : P5 → Option PO) (t0 : List (List UInt8)) (t6 : Int) (t21 : List (Int × Int × Int × Int)) (t22 : Int) (t23 : Int) (r0 : List (List UInt8)) (b1_0 : Int) (b1_1 : Int) (b1_2 : Int) (b1_3 : Int) : L8 J5 (t0, t6, t21, t22, t23, r0, b1_0, b1_1, b1_2, b1_3, ()) = F8 J5 t0 t6 t21 t22 t23 r0 b1_0 b1_1 b1_2 b1_3 := rfl
theorem L8_le {J5 J5' : P5 → Option PO} (h5 : OLe J5 J5') : OLe (L8 J5) (L8 J5') := fun x => F8_le h5 x.1 x.2.1 x.2.2.1 x.2.2.2.1 x.2.2.2.2.1 x.2.2.2.2.2.1 x.2.2.2.2.2.2.1 x.2.2.2.2.2.2.2.1 x.2.2.2.2.2.2.2.2.1 x.2.2.2.2.2.2.2.2.2.1
theorem L5_mono : OMono fun J5 (x : P5) => F5 J5 (L8 J5) lib_Itoa.impl x.1 x.2.1 x.2.2.1 x.2.2.2.1 x.2.2.2.2.1 := fun J J' h5 x => F5_le h5 (L8_le h5) x.1 x.2.1 x.2.2.1 x.2.2.2.1 x.2.2.2.2.1
theorem L5_eq (t0 : List (List UInt8)) (t21 : List (Int × Int × Int × Int)) (t22 : Int) (t23 : Int) (r0 : List (List UInt8)) : L5 (t0, t21, t22, t23, r0, ()) = F5 (L5) (L8 (L5)) lib_Itoa.impl t0 t21 t22 t23 r0 := congrFun (lfp_eq (L5_mono)) _
theorem L3_eq (t0 : List (List UInt8)) (t1 : List (Int × Int × Int × Int)) : L3 (t0, t1, ()) = F3 (L5) t0 t1 := rfl
theorem impl_eq (x0 : List (List UInt8)) (x1 : List (Int × Int × Int × Int)) : impl (x0, x1, ()) = F0 L3 impl_NamesValid.impl impl_TermsValid.impl x0 x1 := rfl
theorem con : Con Tryz.prog 14 2 rs.length 2 pin pout impl := by
  refine con_of_run' (nt := 97) (c := c0) tabGood Tryz.func14 (by kernel_rfl) (by kernel_rfl) (by kernel_rfl) (by kernel_rfl) (by kernel_rfl) (by kernel_rfl) (by kernel_rfl) ?_
  intro w0 O y hnp
  generalize hPost : (fun (a' : Act) (w' : World) => ∃ μ' S' st', Rel 97 w0 O μ' S' st' a' w' ∧ endOf (tabOf tab) rs 2 pout st' = some y) = Post
  have fin : ∀ (μ : Id → Option Value) (S : Nat → Prop) (st : St) (a : Act) (w : World), Rel 97 w0 O μ S st a w → endOf (tabOf tab) rs 2 pout st = some y → Post a w := fun μ S st a w h he => by rw [← hPost]; exact ⟨μ, S, st, h, he⟩
  have hp : ∀ (J3 : List Item → P3 → Option PO), ∀ (J5 : List Item → P5 → Option PO), ∀ (J8 : List Item → P8 → Option PO), Parts Tryz.prog 14 (pg impl_NamesValid.impl impl_TermsValid.impl lib_Itoa.impl J3 J5 J8) [(3, cut p3 J3), (5, cut p5 J5), (8, cut p8 J8)] := fun J3 J5 J8 => ⟨tab_ok tabGood rfl, (handAt_ok lib_Itoa.con (handAt_ok impl_TermsValid.con (handAt_ok impl_NamesValid.con handNil_ok))), rfl⟩
  have g8 : ∀ (J5 : P5 → Option PO), Good Tryz.prog 97 w0 O Post y T5 p5 J5 → Good Tryz.prog 97 w0 O Post y T8 p8 (L8 J5) := fun J5 h5 => good_quiet (hs := hd impl_NamesValid.impl impl_TermsValid.impl lib_Itoa.impl) (cv' := hd impl_NamesValid.impl impl_TermsValid.impl lib_Itoa.impl) (Checked.mixed Tryz.checked) (hp (atT T3 (fun _ => none)) (atT T5 J5) (atT T8 (fun _ => none))) (handAt_D lib_Itoa.con (by rfl) rfl (handAt_D impl_TermsValid.con (by rfl) rfl (handAt_D impl_NamesValid.con (by rfl) rfl handNil_D))) (handAt_nat (handAt_nat (handAt_nat handNil_nat))) (handAt_nat (handAt_nat (handAt_nat handNil_nat))) (runOK_of (hp (atT T3 (fun _ => none)) (atT T5 J5) (atT T8 (fun _ => none))) hnp ⟨cutOK_at (p := p3) (T := T3) (J := fun _ => none) good_none, cutOK_at h5, cutOK_at (p := p8) (T := T8) (J := fun _ => none) good_none, trivial⟩ fin) (fun x => all_same ⟨_, (seg8 impl_NamesValid.impl impl_TermsValid.impl lib_Itoa.impl (atT T3 (fun _ => none)) (atT T5 J5) (atT T8 (fun _ => none)) x.1 x.2.1 x.2.2.1 x.2.2.2.1 x.2.2.2.2.1 x.2.2.2.2.2.1 x.2.2.2.2.2.2.1 x.2.2.2.2.2.2.2.1 x.2.2.2.2.2.2.2.2.1 x.2.2.2.2.2.2.2.2.2.1).trans (by simp only [atT_self] <;> rfl)⟩)
  have g5 : Good Tryz.prog 97 w0 O Post y T5 p5 L5 := good_lfp fun J5 h5 => good_part (hp (atT T3 (fun _ => none)) (atT T5 J5) (atT T8 (L8 J5))) (runOK_of (hp (atT T3 (fun _ => none)) (atT T5 J5) (atT T8 (L8 J5))) hnp ⟨cutOK_at (p := p3) (T := T3) (J := fun _ => none) good_none, cutOK_at h5, cutOK_at (g8 J5 h5), trivial⟩ fin) (fun x => (seg5 impl_NamesValid.impl impl_TermsValid.impl lib_Itoa.impl (atT T3 (fun _ => none)) (atT T5 J5) (atT T8 (L8 J5)) x.1 x.2.1 x.2.2.1 x.2.2.2.1 x.2.2.2.2.1).trans (by simp only [atT_self] <;> rfl))
  have g3 : Good Tryz.prog 97 w0 O Post y T3 p3 L3 := good_part (hp (atT T3 (fun _ => none)) (atT T5 L5) (atT T8 (fun _ => none))) (runOK_of (hp (atT T3 (fun _ => none)) (atT T5 L5) (atT T8 (fun _ => none))) hnp ⟨cutOK_at (p := p3) (T := T3) (J := fun _ => none) good_none, cutOK_at g5, cutOK_at (p := p8) (T := T8) (J := fun _ => none) good_none, trivial⟩ fin) (fun x => (seg3 impl_NamesValid.impl impl_TermsValid.impl lib_Itoa.impl (atT T3 (fun _ => none)) (atT T5 L5) (atT T8 (fun _ => none)) x.1 x.2.1).trans (by simp only [atT_self] <;> rfl))
  exact good_first (hp (atT T3 L3) (atT T5 (fun _ => none)) (atT T8 (fun _ => none))) (runOK_of (hp (atT T3 L3) (atT T5 (fun _ => none)) (atT T8 (fun _ => none))) hnp ⟨cutOK_at g3, cutOK_at (p := p5) (T := T5) (J := fun _ => none) good_none, cutOK_at (p := p8) (T := T8) (J := fun _ => none) good_none, trivial⟩ fin) (fun x => (seg0 impl_NamesValid.impl impl_TermsValid.impl lib_Itoa.impl (atT T3 L3) (atT T5 (fun _ => none)) (atT T8 (fun _ => none)) x.1 x.2.1).trans (by simp only [atT_self] <;> rfl))
end impl_WriteExpr

/-! ### loop.example/wholecheck/spec.l30Name -/
namespace spec_l30Name
noncomputable abbrev c0 : Code := (Tryz.f60.body).getD .skip
noncomputable abbrev pin : Tpl := ⟨[⟨0, false, [.d .str]⟩], []⟩
noncomputable abbrev pout : Tpl := ⟨[⟨0, false, [.d .bool]⟩], []⟩
noncomputable abbrev p2 : Tpl := ⟨[⟨0, false, [.d .str]⟩, ⟨3, false, [.d (.int .i64)]⟩], []⟩
noncomputable def T2 : List Item := (find 2 c0 []).getD []
noncomputable abbrev PI := (List UInt8) × Unit
noncomputable abbrev PO := Bool × Unit
noncomputable abbrev P2 := (List UInt8) × Int × Unit
noncomputable abbrev rs : List ResultVar := [.tmp 2]
noncomputable def F0 (J2 : P2 → Option PO) (x0 : List UInt8) : Option PO :=
  J2 (x0, 0, ())
noncomputable def F2 (J2 : P2 → Option PO) (Gspec_l1In : spec_l1In.PI → Option spec_l1In.PO) (t0 : List UInt8) (t3 : Int) : Option PO :=
  bif decide (t3 < (t0.length : Int)) then
    bif inb t3 t0.length then
      bif decide (((t0.getD t3.toNat 0).toNat : Int) < 97) then
        some (false, ())
      else
        bif inb t3 t0.length then
          bif decide (((t0.getD t3.toNat 0).toNat : Int) > 122) then
            some (false, ())
          else
            J2 (t0, wI (t3 + 1), ())
        else
          none
    else
      none
  else
    Option.bind (Gspec_l1In ((t0.length : Int), 1, 8, ())) fun y0 =>
    some (y0.1, ())
noncomputable def hd {R : Type} (Gspec_l1In : spec_l1In.PI → Option spec_l1In.PO) : Hand R := (handAt 107 [22] true ⟨3, 1, 3, spec_l1In.pin, spec_l1In.pout, Gspec_l1In⟩ handNil)
noncomputable def pg (Gspec_l1In : spec_l1In.PI → Option spec_l1In.PO) (J2 : List Item → P2 → Option PO) : Prog PO := { nt := 23, np := 1, tb := tabOf tab, hd := hd Gspec_l1In, cuts := cutsOf [(2, cut p2 J2)], fin := endOf (tabOf tab) rs 1 pout }
noncomputable def q : FuncId → Bool := fun f => hasId [107] f
theorem seg0 (Gspec_l1In : spec_l1In.PI → Option spec_l1In.PO) (J2 : List Item → P2 → Option PO) (x0 : List UInt8) : arun (pg Gspec_l1In J2) 5000 [.code c0] (mk pin (x0, ())) = F0 (J2 T2) x0 := by kernel_rfl
theorem seg2 (Gspec_l1In : spec_l1In.PI → Option spec_l1In.PO) (J2 : List Item → P2 → Option PO) (t0 : List UInt8) (t3 : Int) : arun1 (pg Gspec_l1In J2) 5000 T2 (mk p2 (t0, t3, ())) = F2 (J2 T2) Gspec_l1In t0 t3 := by kernel_rfl
noncomputable def L2 : P2 → Option PO := lfp fun J2 x => F2 J2 spec_l1In.impl x.1 x.2.1
noncomputable def impl : PI → Option PO := fun x => F0 L2 x.1
theorem F2_le {J2 J2' : P2 → Option PO} (h2 : OLe J2 J2') {Gspec_l1In : spec_l1In.PI → Option spec_l1In.PO} (t0 : List UInt8) (t3 : Int) : OptLe (F2 J2 Gspec_l1In t0 t3) (F2 J2' Gspec_l1In t0 t3) := by unfold F2; exact .cond (.cond (.cond (.refl _) (.cond (.cond (.refl _) (.of h2 _)) (.refl _))) (.refl _)) (.refl _)
theorem L2_mono : OMono fun J2 (x : P2) => F2 J2 spec_l1In.impl x.1 x.2.1 := fun J J' h2 x => F2_le h2 x.1 x.2.1
theorem L2_eq (t0 : List UInt8) (t3 : Int) : L2 (t0, t3, ()) = F2 (L2) spec_l1In.impl t0 t3 := congrFun (lfp_eq (L2_mono)) _
theorem impl_eq (x0 : List UInt8) : impl (x0, ()) = F0 L2 x0 := rfl
theorem con : Con Tryz.prog 60 1 rs.length 1 pin pout impl := by
  refine con_of_run' (nt := 23) (c := c0) tabGood Tryz.func60 (by kernel_rfl) (by kernel_rfl) (by kernel_rfl) (by kernel_rfl) (by kernel_rfl) (by kernel_rfl) (by kernel_rfl) ?_
  intro w0 O y hnp
  generalize hPost : (fun (a' : Act) (w' : World) => ∃ μ' S' st', Rel 23 w0 O μ' S' st' a' w' ∧ endOf (tabOf tab) rs 1 pout st' = some y) = Post
  have fin : ∀ (μ : Id → Option Value) (S : Nat → Prop) (st : St) (a : Act) (w : World), Rel 23 w0 O μ S st a w → endOf (tabOf tab) rs 1 pout st = some y → Post a w := fun μ S st a w h he => by rw [← hPost]; exact ⟨μ, S, st, h, he⟩
  have hp : ∀ (J2 : List Item → P2 → Option PO), Parts Tryz.prog 60 (pg spec_l1In.impl J2) [(2, cut p2 J2)] := fun J2 => ⟨tab_ok tabGood rfl, (handAt_ok spec_l1In.con handNil_ok), rfl⟩
  have g2 : Good Tryz.prog 23 w0 O Post y T2 p2 L2 := good_lfp fun J2 h2 => good_part (hp (atT T2 J2)) (runOK_of (hp (atT T2 J2)) hnp ⟨cutOK_at h2, trivial⟩ fin) (fun x => (seg2 spec_l1In.impl (atT T2 J2) x.1 x.2.1).trans (by simp only [atT_self] <;> rfl))
  exact good_first (hp (atT T2 L2)) (runOK_of (hp (atT T2 L2)) hnp ⟨cutOK_at g2, trivial⟩ fin) (fun x => (seg0 spec_l1In.impl (atT T2 L2) x.1).trans (by simp only [atT_self] <;> rfl))
end spec_l30Name

/-! ### loop.example/wholecheck/spec.l30At -/
namespace spec_l30At
noncomputable abbrev c0 : Code := (Tryz.f61.body).getD .skip
noncomputable abbrev pin : Tpl := ⟨[⟨0, false, [.d (.sl .str)]⟩, ⟨1, false, [.d .str]⟩], []⟩
noncomputable abbrev pout : Tpl := ⟨[⟨0, false, [.d (.int .i64)]⟩], []⟩
noncomputable abbrev p2 : Tpl := ⟨[⟨0, false, [.d (.sl .str)]⟩, ⟨1, false, [.d .str]⟩, ⟨5, false, [.d (.int .i64)]⟩], []⟩
noncomputable def T2 : List Item := (find 2 c0 []).getD []
noncomputable abbrev PI := (List (List UInt8)) × (List UInt8) × Unit
noncomputable abbrev PO := Int × Unit
noncomputable abbrev P2 := (List (List UInt8)) × (List UInt8) × Int × Unit
noncomputable abbrev rs : List ResultVar := [.tmp 4]
noncomputable def F0 (J2 : P2 → Option PO) (x0 : List (List UInt8)) (x1 : List UInt8) : Option PO :=
  J2 (x0, x1, 0, ())
noncomputable def F2 (J2 : P2 → Option PO) (t0 : List (List UInt8)) (t1 : List UInt8) (t5 : Int) : Option PO :=
  bif decide (t5 < (t0.length : Int)) then
    bif inb t5 t0.length then
      bif (t0.getD t5.toNat []) == t1 then
        some (t5, ())
      else
        J2 (t0, t1, wI (t5 + 1), ())
    else
      none
  else
    some ((-1), ())
noncomputable def hd {R : Type} : Hand R := handNil
noncomputable def pg (J2 : List Item → P2 → Option PO) : Prog PO := { nt := 19, np := 2, tb := tabOf tab, hd := hd, cuts := cutsOf [(2, cut p2 J2)], fin := endOf (tabOf tab) rs 2 pout }
noncomputable def q : FuncId → Bool := fun f => hasId [] f
theorem seg0 (J2 : List Item → P2 → Option PO) (x0 : List (List UInt8)) (x1 : List UInt8) : arun (pg J2) 5000 [.code c0] (mk pin (x0, x1, ())) = F0 (J2 T2) x0 x1 := by kernel_rfl
theorem seg2 (J2 : List Item → P2 → Option PO) (t0 : List (List UInt8)) (t1 : List UInt8) (t5 : Int) : arun1 (pg J2) 5000 T2 (mk p2 (t0, t1, t5, ())) = F2 (J2 T2) t0 t1 t5 := by kernel_rfl
noncomputable def L2 : P2 → Option PO := lfp fun J2 x => F2 J2 x.1 x.2.1 x.2.2.1
noncomputable def impl : PI → Option PO := fun x => F0 L2 x.1 x.2.1
theorem F2_le {J2 J2' : P2 → Option PO} (h2 : OLe J2 J2') (t0 : List (List UInt8)) (t1 : List UInt8) (t5 : Int) : OptLe (F2 J2 t0 t1 t5) (F2 J2' t0 t1 t5) := by unfold F2; exact .cond (.cond (.cond (.refl _) (.of h2 _)) (.refl _)) (.refl _)
theorem L2_mono : OMono fun J2 (x : P2) => F2 J2 x.1 x.2.1 x.2.2.1 := fun J J' h2 x => F2_le h2 x.1 x.2.1 x.2.2.1
theorem L2_eq (t0 : List (List UInt8)) (t1 : List UInt8) (t5 : Int) : L2 (t0, t1, t5, ()) = F2 (L2) t0 t1 t5 := congrFun (lfp_eq (L2_mono)) _
theorem impl_eq (x0 : List (List UInt8)) (x1 : List UInt8) : impl (x0, x1, ()) = F0 L2 x0 x1 := rfl
theorem con : Con Tryz.prog 61 2 rs.length 2 pin pout impl := by
  refine con_of_run' (nt := 19) (c := c0) tabGood Tryz.func61 (by kernel_rfl) (by kernel_rfl) (by kernel_rfl) (by kernel_rfl) (by kernel_rfl) (by kernel_rfl) (by kernel_rfl) ?_
  intro w0 O y hnp
  generalize hPost : (fun (a' : Act) (w' : World) => ∃ μ' S' st', Rel 19 w0 O μ' S' st' a' w' ∧ endOf (tabOf tab) rs 2 pout st' = some y) = Post
  have fin : ∀ (μ : Id → Option Value) (S : Nat → Prop) (st : St) (a : Act) (w : World), Rel 19 w0 O μ S st a w → endOf (tabOf tab) rs 2 pout st = some y → Post a w := fun μ S st a w h he => by rw [← hPost]; exact ⟨μ, S, st, h, he⟩
  have hp : ∀ (J2 : List Item → P2 → Option PO), Parts Tryz.prog 61 (pg J2) [(2, cut p2 J2)] := fun J2 => ⟨tab_ok tabGood rfl, handNil_ok, rfl⟩
  have g2 : Good Tryz.prog 19 w0 O Post y T2 p2 L2 := good_lfp fun J2 h2 => good_part (hp (atT T2 J2)) (runOK_of (hp (atT T2 J2)) hnp ⟨cutOK_at h2, trivial⟩ fin) (fun x => (seg2 (atT T2 J2) x.1 x.2.1 x.2.2.1).trans (by simp only [atT_self] <;> rfl))
  exact good_first (hp (atT T2 L2)) (runOK_of (hp (atT T2 L2)) hnp ⟨cutOK_at g2, trivial⟩ fin) (fun x => (seg0 (atT T2 L2) x.1 x.2.1).trans (by simp only [atT_self] <;> rfl))
end spec_l30At

/-! ### loop.example/wholecheck/spec.NamesValid -/
namespace spec_NamesValid
noncomputable abbrev c0 : Code := (Tryz.f17.body).getD .skip
noncomputable abbrev pin : Tpl := ⟨[⟨0, false, [.d (.sl .str)]⟩], []⟩
noncomputable abbrev pout : Tpl := ⟨[⟨0, false, [.d .bool]⟩], []⟩
noncomputable abbrev p2 : Tpl := ⟨[⟨0, false, [.d (.sl .str)]⟩, ⟨3, false, [.d (.int .i64)]⟩], []⟩
noncomputable def T2 : List Item := (find 2 c0 []).getD []
noncomputable abbrev p4 : Tpl := ⟨[⟨0, false, [.d (.sl .str)]⟩, ⟨3, false, [.d (.int .i64)]⟩], []⟩
noncomputable def T4 : List Item := (find 4 c0 []).getD []
noncomputable abbrev PI := (List (List UInt8)) × Unit
noncomputable abbrev PO := Bool × Unit
noncomputable abbrev P2 := (List (List UInt8)) × Int × Unit
noncomputable abbrev P4 := (List (List UInt8)) × Int × Unit
noncomputable abbrev rs : List ResultVar := [.tmp 2]
noncomputable def F0 (J2 : P2 → Option PO) (x0 : List (List UInt8)) : Option PO :=
  J2 (x0, 0, ())
noncomputable def F2 (J4 : P4 → Option PO) (t0 : List (List UInt8)) (t3 : Int) : Option PO :=
  bif decide (t3 < (t0.length : Int)) then
    J4 (t0, t3, ())
  else
    some (decide ((t0.length : Int) ≤ 5), ())
noncomputable def F4 (J2 : P2 → Option PO) (Gspec_l30At : spec_l30At.PI → Option spec_l30At.PO) (Gspec_l30Name : spec_l30Name.PI → Option spec_l30Name.PO) (t0 : List (List UInt8)) (t3 : Int) : Option PO :=
  bif inb t3 t0.length then
    Option.bind (Gspec_l30Name (t0.getD t3.toNat [], ())) fun y0 =>
    bif !y0.1 then
      some (false, ())
    else
      bif decide (0 ≤ t3) && decide (t3 ≤ (t0.length : Int)) then
        bif inb t3 t0.length then
          Option.bind (Gspec_l30At ((t0.take t3.toNat).drop 0, t0.getD t3.toNat [], ())) fun y1 =>
          bif decide (y1.1 ≥ 0) then
            some (false, ())
          else
            J2 (t0, wI (t3 + 1), ())
        else
          none
      else
        none
  else
    none
noncomputable def hd {R : Type} (Gspec_l30At : spec_l30At.PI → Option spec_l30At.PO) (Gspec_l30Name : spec_l30Name.PI → Option spec_l30Name.PO) : Hand R := (handAt 61 [24] true ⟨2, 1, 2, spec_l30At.pin, spec_l30At.pout, Gspec_l30At⟩ (handAt 60 [14] true ⟨1, 1, 1, spec_l30Name.pin, spec_l30Name.pout, Gspec_l30Name⟩ handNil))
noncomputable def pg (Gspec_l30At : spec_l30At.PI → Option spec_l30At.PO) (Gspec_l30Name : spec_l30Name.PI → Option spec_l30Name.PO) (J2 : List Item → P2 → Option PO) (J4 : List Item → P4 → Option PO) : Prog PO := { nt := 30, np := 1, tb := tabOf tab, hd := hd Gspec_l30At Gspec_l30Name, cuts := cutsOf [(2, cut p2 J2), (4, cut p4 J4)], fin := endOf (tabOf tab) rs 1 pout }
noncomputable def q : FuncId → Bool := fun f => hasId [60, 61] f
theorem seg0 (Gspec_l30At : spec_l30At.PI → Option spec_l30At.PO) (Gspec_l30Name : spec_l30Name.PI → Option spec_l30Name.PO) (J2 : List Item → P2 → Option PO) (J4 : List Item → P4 → Option PO) (x0 : List (List UInt8)) : arun (pg Gspec_l30At Gspec_l30Name J2 J4) 5000 [.code c0] (mk pin (x0, ())) = F0 (J2 T2) x0 := by kernel_rfl
theorem seg2 (Gspec_l30At : spec_l30At.PI → Option spec_l30At.PO) (Gspec_l30Name : spec_l30Name.PI → Option spec_l30Name.PO) (J2 : List Item → P2 → Option PO) (J4 : List Item → P4 → Option PO) (t0 : List (List UInt8)) (t3 : Int) : arun1 (pg Gspec_l30At Gspec_l30Name J2 J4) 5000 T2 (mk p2 (t0, t3, ())) = F2 (J4 T4) t0 t3 := by kernel_rfl
theorem seg4 (Gspec_l30At : spec_l30At.PI → Option spec_l30At.PO) (Gspec_l30Name : spec_l30Name.PI → Option spec_l30Name.PO) (J2 : List Item → P2 → Option PO) (J4 : List Item → P4 → Option PO) (t0 : List (List UInt8)) (t3 : Int) : arunQ (pg Gspec_l30At Gspec_l30Name J2 J4) q [] [] 5000 T4 (mk p4 (t0, t3, ())) = List.replicate (arunQ (pg Gspec_l30At Gspec_l30Name J2 J4) q [] [] 5000 T4 (mk p4 (t0, t3, ()))).length (F4 (J2 T2) Gspec_l30At Gspec_l30Name t0 t3) := by kernel_rfl
noncomputable def L4 (J2 : P2 → Option PO) : P4 → Option PO := fun x => F4 J2 spec_l30At.impl spec_l30Name.impl x.1 x.2.1
noncomputable def L2 : P2 → Option PO := lfp fun J2 x => F2 (L4 J2) x.1 x.2.1
noncomputable def impl : PI → Option PO := fun x => F0 L2 x.1
theorem F4_le {J2 J2' : P2 → Option PO} (h2 : OLe J2 J2') {Gspec_l30At : spec_l30At.PI → Option spec_l30At.PO} {Gspec_l30Name : spec_l30Name.PI → Option spec_l30Name.PO} (t0 : List (List UInt8)) (t3 : Int) : OptLe (F4 J2 Gspec_l30At Gspec_l30Name t0 t3) (F4 J2' Gspec_l30At Gspec_l30Name t0 t3) := by unfold F4; exact .cond (.bind (.refl _) fun _ => .cond (.refl _) (.cond (.cond (.bind (.refl _) fun _ => .cond (.refl _) (.of h2 _)) (.refl _)) (.refl _))) (.refl _)
theorem F2_le {J4 J4' : P4 → Option PO} (h4 : OLe J4 J4') (t0 : List (List UInt8)) (t3 : Int) : OptLe (F2 J4 t0 t3) (F2 J4' t0 t3) := by unfold F2; exact .cond (.of h4 _) (.refl _)
theorem L4_eq (J2 : P2 → Option PO) (t0 : List (List UInt8)) (t3 : Int) : L4 J2 (t0, t3, ()) = F4 J2 spec_l30At.impl spec_l30Name.impl t0 t3 := rfl
theorem L4_le {J2 J2' : P2 → Option PO} (h2 : OLe J2 J2') : OLe (L4 J2) (L4 J2') := fun x => F4_le h2 x.1 x.2.1
theorem L2_mono : OMono fun J2 (x : P2) => F2 (L4 J2) x.1 x.2.1 := fun J J' h2 x => F2_le (L4_le h2) x.1 x.2.1
theorem L2_eq (t0 : List (List UInt8)) (t3 : Int) : L2 (t0, t3, ()) = F2 (L4 (L2)) t0 t3 := congrFun (lfp_eq (L2_mono)) _
theorem impl_eq (x0 : List (List UInt8)) : impl (x0, ()) = F0 L2 x0 := rfl
theorem con : Con Tryz.prog 17 1 rs.length 1 pin pout impl := by
  refine con_of_run' (nt := 30) (c := c0) tabGood Tryz.func17 (by kernel_rfl) (by kernel_rfl) (by kernel_rfl) (by kernel_rfl) (by kernel_rfl) (by kernel_rfl) (by kernel_rfl) ?_
  intro w0 O y hnp
  generalize hPost : (fun (a' : Act) (w' : World) => ∃ μ' S' st', Rel 30 w0 O μ' S' st' a' w' ∧ endOf (tabOf tab) rs 1 pout st' = some y) = Post
  have fin : ∀ (μ : Id → Option Value) (S : Nat → Prop) (st : St) (a : Act) (w : World), Rel 30 w0 O μ S st a w → endOf (tabOf tab) rs 1 pout st = some y → Post a w := fun μ S st a w h he => by rw [← hPost]; exact ⟨μ, S, st, h, he⟩
  have hp : ∀ (J2 : List Item → P2 → Option PO), ∀ (J4 : List Item → P4 → Option PO), Parts Tryz.prog 17 (pg spec_l30At.impl spec_l30Name.impl J2 J4) [(2, cut p2 J2), (4, cut p4 J4)] := fun J2 J4 => ⟨tab_ok tabGood rfl, (handAt_ok spec_l30At.con (handAt_ok spec_l30Name.con handNil_ok)), rfl⟩
  have g4 : ∀ (J2 : P2 → Option PO), Good Tryz.prog 30 w0 O Post y T2 p2 J2 → Good Tryz.prog 30 w0 O Post y T4 p4 (L4 J2) := fun J2 h2 => good_quiet (hs := hd spec_l30At.impl spec_l30Name.impl) (cv' := hd spec_l30At.impl spec_l30Name.impl) (Checked.mixed Tryz.checked) (hp (atT T2 J2) (atT T4 (fun _ => none))) (handAt_D spec_l30At.con (by rfl) rfl (handAt_D spec_l30Name.con (by rfl) rfl handNil_D)) (handAt_nat (handAt_nat handNil_nat)) (handAt_nat (handAt_nat handNil_nat)) (runOK_of (hp (atT T2 J2) (atT T4 (fun _ => none))) hnp ⟨cutOK_at h2, cutOK_at (p := p4) (T := T4) (J := fun _ => none) good_none, trivial⟩ fin) (fun x => all_same ⟨_, (seg4 spec_l30At.impl spec_l30Name.impl (atT T2 J2) (atT T4 (fun _ => none)) x.1 x.2.1).trans (by simp only [atT_self] <;> rfl)⟩)
  have g2 : Good Tryz.prog 30 w0 O Post y T2 p2 L2 := good_lfp fun J2 h2 => good_part (hp (atT T2 (fun _ => none)) (atT T4 (L4 J2))) (runOK_of (hp (atT T2 (fun _ => none)) (atT T4 (L4 J2))) hnp ⟨cutOK_at (p := p2) (T := T2) (J := fun _ => none) good_none, cutOK_at (g4 J2 h2), trivial⟩ fin) (fun x => (seg2 spec_l30At.impl spec_l30Name.impl (atT T2 (fun _ => none)) (atT T4 (L4 J2)) x.1 x.2.1).trans (by simp only [atT_self] <;> rfl))
  exact good_first (hp (atT T2 L2) (atT T4 (fun _ => none))) (runOK_of (hp (atT T2 L2) (atT T4 (fun _ => none))) hnp ⟨cutOK_at g2, cutOK_at (p := p4) (T := T4) (J := fun _ => none) good_none, trivial⟩ fin) (fun x => (seg0 spec_l30At.impl spec_l30Name.impl (atT T2 L2) (atT T4 (fun _ => none)) x.1).trans (by simp only [atT_self] <;> rfl))
end spec_NamesValid

/-! ### loop.example/wholecheck/spec.KindsOf -/
namespace spec_KindsOf
noncomputable abbrev c0 : Code := (Tryz.f104.body).getD .skip
noncomputable abbrev pin : Tpl := ⟨[⟨0, false, [.d (.sl (.prod (.int .i64) (.prod (.int .i64) (.prod (.int .i64) (.last (.int .i64))))))]⟩, ⟨1, false, [.d (.int .i64)]⟩], []⟩
noncomputable abbrev pout : Tpl := ⟨[⟨0, false, [.row 600001]⟩], [(600001, .row 3 false (.int .i64))]⟩
noncomputable abbrev p3 : Tpl := ⟨[⟨0, false, [.d (.sl (.prod (.int .i64) (.prod (.int .i64) (.prod (.int .i64) (.last (.int .i64))))))]⟩, ⟨1, false, [.d (.int .i64)]⟩], []⟩
noncomputable def T3 : List Item := (find 3 c0 []).getD []
noncomputable abbrev p5 : Tpl := ⟨[⟨0, false, [.d (.sl (.prod (.int .i64) (.prod (.int .i64) (.prod (.int .i64) (.last (.int .i64))))))]⟩, ⟨1, false, [.d (.int .i64)]⟩, ⟨5, false, [.row 3000000]⟩, ⟨6, false, [.d (.int .i64)]⟩], [(3000000, .row 3 false (.int .i64))]⟩
noncomputable def T5 : List Item := (find 5 c0 []).getD []
noncomputable abbrev PI := (List (Int × Int × Int × Int)) × Int × Unit
noncomputable abbrev PO := (List Int) × Unit
noncomputable abbrev P3 := (List (Int × Int × Int × Int)) × Int × Unit
noncomputable abbrev P5 := (List (Int × Int × Int × Int)) × Int × Int × (List Int) × Unit
noncomputable abbrev rs : List ResultVar := [.tmp 4]
noncomputable def F0 (J3 : P3 → Option PO) (Gspec_l1In : spec_l1In.PI → Option spec_l1In.PO) (x0 : List (Int × Int × Int × Int)) (x1 : Int) : Option PO :=
  Option.bind (Gspec_l1In (x1, 0, 5, ())) fun y0 =>
  bif !y0.1 then
    some ([], ())
  else
    Option.bind (Gspec_l1In ((x0.length : Int), 1, 40, ())) fun y1 =>
    bif !y1.1 then
      some ([], ())
    else
      J3 (x0, x1, ())
noncomputable def F3 (J5 : P5 → Option PO) (t0 : List (Int × Int × Int × Int)) (t1 : Int) : Option PO :=
  J5 (t0, t1, 0, ([] : List Int), ())
noncomputable def F5 (J5 : P5 → Option PO) (Gspec_l1Kind : spec_l1Kind.PI → Option spec_l1Kind.PO) (t0 : List (Int × Int × Int × Int)) (t1 : Int) (t6 : Int) (r0 : List Int) : Option PO :=
  bif decide (t6 < (t0.length : Int)) then
    bif inb t6 t0.length then
      Option.bind (Gspec_l1Kind (t0.getD t6.toNat (0, 0, 0, 0), r0, t1, ())) fun y2 =>
      bif y2.1 == 0 then
        some ([], ())
      else
        bif decide ((r0.length + ([y2.1] : List Int).length) * 8 ≤ 140737488355328) then
          J5 (t0, t1, wI (t6 + 1), r0 ++ ([y2.1] : List Int), ())
        else
          none
    else
      none
  else
    some (r0, ())
noncomputable def hd {R : Type} (Gspec_l1In : spec_l1In.PI → Option spec_l1In.PO) (Gspec_l1Kind : spec_l1Kind.PI → Option spec_l1Kind.PO) : Hand R := (handAt 115 [30] true ⟨3, 1, 3, spec_l1Kind.pin, spec_l1Kind.pout, Gspec_l1Kind⟩ (handAt 107 [9, 14] true ⟨3, 1, 3, spec_l1In.pin, spec_l1In.pout, Gspec_l1In⟩ handNil))
noncomputable def pg (Gspec_l1In : spec_l1In.PI → Option spec_l1In.PO) (Gspec_l1Kind : spec_l1Kind.PI → Option spec_l1Kind.PO) (J3 : List Item → P3 → Option PO) (J5 : List Item → P5 → Option PO) : Prog PO := { nt := 38, np := 2, tb := tabOf tab, hd := hd Gspec_l1In Gspec_l1Kind, cuts := cutsOf [(3, cut p3 J3), (5, cut p5 J5)], fin := endOf (tabOf tab) rs 2 pout }
noncomputable def q : FuncId → Bool := fun f => hasId [107, 115] f
theorem seg0 (Gspec_l1In : spec_l1In.PI → Option spec_l1In.PO) (Gspec_l1Kind : spec_l1Kind.PI → Option spec_l1Kind.PO) (J3 : List Item → P3 → Option PO) (J5 : List Item → P5 → Option PO) (x0 : List (Int × Int × Int × Int)) (x1 : Int) : arun (pg Gspec_l1In Gspec_l1Kind J3 J5) 5000 [.code c0] (mk pin (x0, x1, ())) = F0 (J3 T3) Gspec_l1In x0 x1 := by kernel_rfl
theorem seg3 (Gspec_l1In : spec_l1In.PI → Option spec_l1In.PO) (Gspec_l1Kind : spec_l1Kind.PI → Option spec_l1Kind.PO) (J3 : List Item → P3 → Option PO) (J5 : List Item → P5 → Option PO) (t0 : List (Int × Int × Int × Int)) (t1 : Int) : arun1 (pg Gspec_l1In Gspec_l1Kind J3 J5) 5000 T3 (mk p3 (t0, t1, ())) = F3 (J5 T5) t0 t1 := by kernel_rfl
theorem seg5 (Gspec_l1In : spec_l1In.PI → Option spec_l1In.PO) (Gspec_l1Kind : spec_l1Kind.PI → Option spec_l1Kind.PO) (J3 : List Item → P3 → Option PO) (J5 : List Item → P5 → Option PO) (t0 : List (Int × Int × Int × Int)) (t1 : Int) (t6 : Int) (r0 : List Int) : arun1 (pg Gspec_l1In Gspec_l1Kind J3 J5) 5000 T5 (mk p5 (t0, t1, t6, r0, ())) = F5 (J5 T5) Gspec_l1Kind t0 t1 t6 r0 := by kernel_rfl
noncomputable def L5 : P5 → Option PO := lfp fun J5 x => F5 J5 spec_l1Kind.impl x.1 x.2.1 x.2.2.1 x.2.2.2.1
noncomputable def L3 : P3 → Option PO := fun x => F3 L5 x.1 x.2.1
noncomputable def impl : PI → Option PO := fun x => F0 L3 spec_l1In.impl x.1 x.2.1
theorem F5_le {J5 J5' : P5 → Option PO} (h5 : OLe J5 J5') {Gspec_l1Kind : spec_l1Kind.PI → Option spec_l1Kind.PO} (t0 : List (Int × Int × Int × Int)) (t1 : Int) (t6 : Int) (r0 : List Int) : OptLe (F5 J5 Gspec_l1Kind t0 t1 t6 r0) (F5 J5' Gspec_l1Kind t0 t1 t6 r0) := by unfold F5; exact .cond (.cond (.bind (.refl _) fun _ => .cond (.refl _) (.cond (.of h5 _) (.refl _))) (.refl _)) (.refl _)
theorem L5_mono : OMono fun J5 (x : P5) => F5 J5 spec_l1Kind.impl x.1 x.2.1 x.2.2.1 x.2.2.2.1 := fun J J' h5 x => F5_le h5 x.1 x.2.1 x.2.2.1 x.2.2.2.1
theorem L5_eq (t0 : List (Int × Int × Int × Int)) (t1 : Int) (t6 : Int) (r0 : List Int) : L5 (t0, t1, t6, r0, ()) = F5 (L5) spec_l1Kind.impl t0 t1 t6 r0 := congrFun (lfp_eq (L5_mono)) _
theorem L3_eq (t0 : List (Int × Int × Int × Int)) (t1 : Int) : L3 (t0, t1, ()) = F3 (L5) t0 t1 := rfl
theorem impl_eq (x0 : List (Int × Int × Int × Int)) (x1 : Int) : impl (x0, x1, ()) = F0 L3 spec_l1In.impl x0 x1 := rfl
theorem con : Con Tryz.prog 104 2 rs.length 2 pin pout impl := by
  refine con_of_run' (nt := 38) (c := c0) tabGood Tryz.func104 (by kernel_rfl) (by kernel_rfl) (by kernel_rfl) (by kernel_rfl) (by kernel_rfl) (by kernel_rfl) (by kernel_rfl) ?_
  intro w0 O y hnp
  generalize hPost : (fun (a' : Act) (w' : World) => ∃ μ' S' st', Rel 38 w0 O μ' S' st' a' w' ∧ endOf (tabOf tab) rs 2 pout st' = some y) = Post
  have fin : ∀ (μ : Id → Option Value) (S : Nat → Prop) (st : St) (a : Act) (w : World), Rel 38 w0 O μ S st a w → endOf (tabOf tab) rs 2 pout st = some y → Post a w := fun μ S st a w h he => by rw [← hPost]; exact ⟨μ, S, st, h, he⟩
  have hp : ∀ (J3 : List Item → P3 → Option PO), ∀ (J5 : List Item → P5 → Option PO), Parts Tryz.prog 104 (pg spec_l1In.impl spec_l1Kind.impl J3 J5) [(3, cut p3 J3), (5, cut p5 J5)] := fun J3 J5 => ⟨tab_ok tabGood rfl, (handAt_ok spec_l1Kind.con (handAt_ok spec_l1In.con handNil_ok)), rfl⟩
  have g5 : Good Tryz.prog 38 w0 O Post y T5 p5 L5 := good_lfp fun J5 h5 => good_part (hp (atT T3 (fun _ => none)) (atT T5 J5)) (runOK_of (hp (atT T3 (fun _ => none)) (atT T5 J5)) hnp ⟨cutOK_at (p := p3) (T := T3) (J := fun _ => none) good_none, cutOK_at h5, trivial⟩ fin) (fun x => (seg5 spec_l1In.impl spec_l1Kind.impl (atT T3 (fun _ => none)) (atT T5 J5) x.1 x.2.1 x.2.2.1 x.2.2.2.1).trans (by simp only [atT_self] <;> rfl))
  have g3 : Good Tryz.prog 38 w0 O Post y T3 p3 L3 := good_part (hp (atT T3 (fun _ => none)) (atT T5 L5)) (runOK_of (hp (atT T3 (fun _ => none)) (atT T5 L5)) hnp ⟨cutOK_at (p := p3) (T := T3) (J := fun _ => none) good_none, cutOK_at g5, trivial⟩ fin) (fun x => (seg3 spec_l1In.impl spec_l1Kind.impl (atT T3 (fun _ => none)) (atT T5 L5) x.1 x.2.1).trans (by simp only [atT_self] <;> rfl))
  exact good_first (hp (atT T3 L3) (atT T5 (fun _ => none))) (runOK_of (hp (atT T3 L3) (atT T5 (fun _ => none))) hnp ⟨cutOK_at g3, cutOK_at (p := p5) (T := T5) (J := fun _ => none) good_none, trivial⟩ fin) (fun x => (seg0 spec_l1In.impl spec_l1Kind.impl (atT T3 L3) (atT T5 (fun _ => none)) x.1 x.2.1).trans (by simp only [atT_self] <;> rfl))
end spec_KindsOf

/-! ### loop.example/wholecheck/spec.TermsValid -/
namespace spec_TermsValid
noncomputable abbrev c0 : Code := (Tryz.f55.body).getD .skip
noncomputable abbrev pin : Tpl := ⟨[⟨0, false, [.d (.sl (.prod (.int .i64) (.prod (.int .i64) (.prod (.int .i64) (.last (.int .i64))))))]⟩, ⟨1, false, [.d (.int .i64)]⟩], []⟩
noncomputable abbrev pout : Tpl := ⟨[⟨0, false, [.d .bool]⟩], []⟩
noncomputable abbrev PI := (List (Int × Int × Int × Int)) × Int × Unit
noncomputable abbrev PO := Bool × Unit
noncomputable abbrev rs : List ResultVar := [.tmp 4]
noncomputable def F0 (Gspec_KindsOf : spec_KindsOf.PI → Option spec_KindsOf.PO) (x0 : List (Int × Int × Int × Int)) (x1 : Int) : Option PO :=
  Option.bind (Gspec_KindsOf (x0, x1, ())) fun y0 =>
  some (decide ((y0.1.length : Int) > 0), ())
noncomputable def hd {R : Type} (Gspec_KindsOf : spec_KindsOf.PI → Option spec_KindsOf.PO) : Hand R := (handAt 104 [7] true ⟨2, 1, 2, spec_KindsOf.pin, spec_KindsOf.pout, Gspec_KindsOf⟩ handNil)
noncomputable def pg (Gspec_KindsOf : spec_KindsOf.PI → Option spec_KindsOf.PO) : Prog PO := { nt := 10, np := 2, tb := tabOf tab, hd := hd Gspec_KindsOf, cuts := cutsOf [], fin := endOf (tabOf tab) rs 2 pout }
noncomputable def q : FuncId → Bool := fun f => hasId [] f
theorem seg0 (Gspec_KindsOf : spec_KindsOf.PI → Option spec_KindsOf.PO) (x0 : List (Int × Int × Int × Int)) (x1 : Int) : arun (pg Gspec_KindsOf) 5000 [.code c0] (mk pin (x0, x1, ())) = F0 Gspec_KindsOf x0 x1 := by kernel_rfl
noncomputable def impl : PI → Option PO := fun x => F0 spec_KindsOf.impl x.1 x.2.1
theorem impl_eq (x0 : List (Int × Int × Int × Int)) (x1 : Int) : impl (x0, x1, ()) = F0 spec_KindsOf.impl x0 x1 := rfl
theorem con : Con Tryz.prog 55 2 rs.length 2 pin pout impl := by
  refine con_of_run' (nt := 10) (c := c0) tabGood Tryz.func55 (by kernel_rfl) (by kernel_rfl) (by kernel_rfl) (by kernel_rfl) (by kernel_rfl) (by kernel_rfl) (by kernel_rfl) ?_
  intro w0 O y hnp
  generalize hPost : (fun (a' : Act) (w' : World) => ∃ μ' S' st', Rel 10 w0 O μ' S' st' a' w' ∧ endOf (tabOf tab) rs 2 pout st' = some y) = Post
  have fin : ∀ (μ : Id → Option Value) (S : Nat → Prop) (st : St) (a : Act) (w : World), Rel 10 w0 O μ S st a w → endOf (tabOf tab) rs 2 pout st = some y → Post a w := fun μ S st a w h he => by rw [← hPost]; exact ⟨μ, S, st, h, he⟩
  have hp : Parts Tryz.prog 55 (pg spec_KindsOf.impl) [] := ⟨tab_ok tabGood rfl, (handAt_ok spec_KindsOf.con handNil_ok), rfl⟩
  exact good_first (hp) (runOK_of (hp) hnp trivial fin) (fun x => (seg0 spec_KindsOf.impl x.1 x.2.1))
end spec_TermsValid

/-! ### loop.example/wholecheck/spec.l40Dec -/
namespace spec_l40Dec
noncomputable abbrev c0 : Code := (Tryz.f39.body).getD .skip
noncomputable abbrev pin : Tpl := ⟨[⟨0, false, [.d (.int .i64)]⟩], []⟩
noncomputable abbrev pout : Tpl := ⟨[⟨0, false, [.d .str]⟩], []⟩
noncomputable abbrev p6 : Tpl := ⟨[⟨0, false, [.d (.int .i64)]⟩, ⟨3, false, [.d .str]⟩], []⟩
noncomputable def T6 : List Item := (find 6 c0 []).getD []
noncomputable abbrev PI := Int × Unit
noncomputable abbrev PO := (List UInt8) × Unit
noncomputable abbrev P6 := Int × (List UInt8) × Unit
noncomputable abbrev rs : List ResultVar := [.tmp 2]
noncomputable def F0 (J6 : P6 → Option PO) (Gspec_l40Dec : PI → Option PO) (x0 : Int) : Option PO :=
  bif decide (x0 < (-9223372036854775807)) then
    some (([45, 57, 50, 50, 51, 51, 55, 50, 48, 51, 54, 56, 53, 52, 55, 55, 53, 56, 48, 56] : List UInt8), ())
  else
    bif decide (x0 < 0) then
      Option.bind (Gspec_l40Dec (wI (0 - x0), ())) fun y0 =>
      bif decide (([45] : List UInt8).length + y0.1.length ≤ 140737488355328) then
        some (([45] : List UInt8) ++ y0.1, ())
      else
        none
    else
      J6 (x0, [], ())
noncomputable def F6 (J6 : P6 → Option PO) (t0 : Int) (t3 : List UInt8) : Option PO :=
  bif decide (t0 > 9) then
    bif decide ((strOf ([IntKind.u8.wrap (wI (48 + (Int.tmod t0 10)))] : List Int)).length + t3.length ≤ 140737488355328) then
      J6 (wI (Int.tdiv t0 10), (strOf ([IntKind.u8.wrap (wI (48 + (Int.tmod t0 10)))] : List Int)) ++ t3, ())
    else
      none
  else
    bif decide ((strOf ([IntKind.u8.wrap (wI (48 + t0))] : List Int)).length + t3.length ≤ 140737488355328) then
      some ((strOf ([IntKind.u8.wrap (wI (48 + t0))] : List Int)) ++ t3, ())
    else
      none
noncomputable def hd {R : Type} (Gspec_l40Dec : PI → Option PO) : Hand R := (handAt 39 [10] true ⟨1, 1, 0, pin, pout, Gspec_l40Dec⟩ handNil)
noncomputable def pg (Gspec_l40Dec : PI → Option PO) (J6 : List Item → P6 → Option PO) : Prog PO := { nt := 31, np := 0, tb := tabOf tab, hd := hd Gspec_l40Dec, cuts := cutsOf [(6, cut p6 J6)], fin := endOf (tabOf tab) rs 0 pout }
noncomputable def q : FuncId → Bool := fun f => hasId [39] f
theorem seg0 (Gspec_l40Dec : PI → Option PO) (J6 : List Item → P6 → Option PO) (x0 : Int) : arun (pg Gspec_l40Dec J6) 5000 [.code c0] (mk pin (x0, ())) = F0 (J6 T6) Gspec_l40Dec x0 := by kernel_rfl
theorem seg6 (Gspec_l40Dec : PI → Option PO) (J6 : List Item → P6 → Option PO) (t0 : Int) (t3 : List UInt8) : arun1 (pg Gspec_l40Dec J6) 5000 T6 (mk p6 (t0, t3, ())) = F6 (J6 T6) t0 t3 := by kernel_rfl
noncomputable def L6 (Gself : PI → Option PO) : P6 → Option PO := lfp fun J6 x => F6 J6 x.1 x.2.1
noncomputable def step (Gself : PI → Option PO) : PI → Option PO := fun x => F0 (L6 Gself) Gself x.1
noncomputable def impl : PI → Option PO := lfp step
theorem F6_le {J6 J6' : P6 → Option PO} (h6 : OLe J6 J6') (t0 : Int) (t3 : List UInt8) : OptLe (F6 J6 t0 t3) (F6 J6' t0 t3) := by unfold F6; exact .cond (.cond (.of h6 _) (.refl _)) (.refl _)
theorem F0_le {J6 J6' : P6 → Option PO} (h6 : OLe J6 J6') {Gself Gself' : PI → Option PO} (hG : OLe Gself Gself') (x0 : Int) : OptLe (F0 J6 Gself x0) (F0 J6' Gself' x0) := by unfold F0; exact .cond (.refl _) (.cond (.bind (.of hG _) fun _ => .refl _) (.of h6 _))
theorem L6_mono (Gself : PI → Option PO) : OMono fun J6 (x : P6) => F6 J6 x.1 x.2.1 := fun J J' h6 x => F6_le h6 x.1 x.2.1
theorem L6_eq (Gself : PI → Option PO) (t0 : Int) (t3 : List UInt8) : L6 Gself (t0, t3, ()) = F6 (L6 Gself) t0 t3 := congrFun (lfp_eq (L6_mono Gself)) _
theorem L6_le {Gself Gself' : PI → Option PO} (hG : OLe Gself Gself') : OLe (L6 Gself) (L6 Gself') := lfp_le (L6_mono Gself') fun J x => F6_le (fun _ _ h => h) x.1 x.2.1
theorem step_mono : OMono step := fun G G' hG x => F0_le (L6_le hG) hG x.1
theorem impl_eq (x0 : Int) : impl (x0, ()) = F0 (L6 impl) impl x0 := congrFun (lfp_eq step_mono) _
theorem con_step (Gself : PI → Option PO) (hself : Con Tryz.prog 39 1 rs.length 0 pin pout Gself) : Con Tryz.prog 39 1 rs.length 0 pin pout (step Gself) := by
  refine con_of_run' (nt := 31) (c := c0) tabGood Tryz.func39 (by kernel_rfl) (by kernel_rfl) (by kernel_rfl) (by kernel_rfl) (by kernel_rfl) (by kernel_rfl) (by kernel_rfl) ?_
  intro w0 O y hnp
  generalize hPost : (fun (a' : Act) (w' : World) => ∃ μ' S' st', Rel 31 w0 O μ' S' st' a' w' ∧ endOf (tabOf tab) rs 0 pout st' = some y) = Post
  have fin : ∀ (μ : Id → Option Value) (S : Nat → Prop) (st : St) (a : Act) (w : World), Rel 31 w0 O μ S st a w → endOf (tabOf tab) rs 0 pout st = some y → Post a w := fun μ S st a w h he => by rw [← hPost]; exact ⟨μ, S, st, h, he⟩
  have hp : ∀ (J6 : List Item → P6 → Option PO), Parts Tryz.prog 39 (pg Gself J6) [(6, cut p6 J6)] := fun J6 => ⟨tab_ok tabGood rfl, (handAt_ok hself handNil_ok), rfl⟩
  have g6 : Good Tryz.prog 31 w0 O Post y T6 p6 (L6 Gself) := good_lfp fun J6 h6 => good_part (hp (atT T6 J6)) (runOK_of (hp (atT T6 J6)) hnp ⟨cutOK_at h6, trivial⟩ fin) (fun x => (seg6 Gself (atT T6 J6) x.1 x.2.1).trans (by simp only [atT_self] <;> rfl))
  exact good_first (hp (atT T6 (L6 Gself))) (runOK_of (hp (atT T6 (L6 Gself))) hnp ⟨cutOK_at g6, trivial⟩ fin) (fun x => (seg0 Gself (atT T6 (L6 Gself)) x.1).trans (by simp only [atT_self] <;> rfl))
theorem con : Con Tryz.prog 39 1 rs.length 0 pin pout impl := con_lfp (c := c0) Tryz.func39 (by kernel_rfl) (by kernel_rfl) (by kernel_rfl) con_step
end spec_l40Dec

/-! ### loop.example/wholecheck/spec.l1Sign -/
namespace spec_l1Sign
noncomputable abbrev c0 : Code := (Tryz.f57.body).getD .skip
noncomputable abbrev pin : Tpl := ⟨[⟨0, false, [.d (.int .i64)]⟩], []⟩
noncomputable abbrev pout : Tpl := ⟨[⟨0, false, [.d .str]⟩], []⟩
noncomputable abbrev PI := Int × Unit
noncomputable abbrev PO := (List UInt8) × Unit
noncomputable abbrev rs : List ResultVar := [.tmp 2]
noncomputable def F0 (x0 : Int) : Option PO :=
  bif inb x0 ([[], [], ([43] : List UInt8), ([45] : List UInt8), ([42] : List UInt8), ([60] : List UInt8), ([61] : List UInt8), ([33] : List UInt8), ([38] : List UInt8), ([124] : List UInt8)] : List (List UInt8)).length then
    some (([[], [], ([43] : List UInt8), ([45] : List UInt8), ([42] : List UInt8), ([60] : List UInt8), ([61] : List UInt8), ([33] : List UInt8), ([38] : List UInt8), ([124] : List UInt8)] : List (List UInt8)).getD x0.toNat [], ())
  else
    none
noncomputable def hd {R : Type} : Hand R := handNil
noncomputable def pg : Prog PO := { nt := 7, np := 1, tb := tabOf tab, hd := hd, cuts := cutsOf [], fin := endOf (tabOf tab) rs 1 pout }
noncomputable def q : FuncId → Bool := fun f => hasId [] f
theorem seg0 (x0 : Int) : arun (pg) 5000 [.code c0] (mk pin (x0, ())) = F0 x0 := by kernel_rfl
noncomputable def impl : PI → Option PO := fun x => F0 x.1
theorem impl_eq (x0 : Int) : impl (x0, ()) = F0 x0 := rfl
theorem con : Con Tryz.prog 57 1 rs.length 1 pin pout impl := by
  refine con_of_run' (nt := 7) (c := c0) tabGood Tryz.func57 (by kernel_rfl) (by kernel_rfl) (by kernel_rfl) (by kernel_rfl) (by kernel_rfl) (by kernel_rfl) (by kernel_rfl) ?_
  intro w0 O y hnp
  generalize hPost : (fun (a' : Act) (w' : World) => ∃ μ' S' st', Rel 7 w0 O μ' S' st' a' w' ∧ endOf (tabOf tab) rs 1 pout st' = some y) = Post
  have fin : ∀ (μ : Id → Option Value) (S : Nat → Prop) (st : St) (a : Act) (w : World), Rel 7 w0 O μ S st a w → endOf (tabOf tab) rs 1 pout st = some y → Post a w := fun μ S st a w h he => by rw [← hPost]; exact ⟨μ, S, st, h, he⟩
  have hp : Parts Tryz.prog 57 (pg) [] := ⟨tab_ok tabGood rfl, handNil_ok, rfl⟩
  exact good_first (hp) (runOK_of (hp) hnp trivial fin) (fun x => (seg0 x.1))
end spec_l1Sign

/-! ### loop.example/wholecheck/spec.WriteExpr -/
namespace spec_WriteExpr
noncomputable abbrev c0 : Code := (Tryz.f15.body).getD .skip
noncomputable abbrev pin : Tpl := ⟨[⟨0, false, [.d (.sl .str)]⟩, ⟨1, false, [.d (.sl (.prod (.int .i64) (.prod (.int .i64) (.prod (.int .i64) (.last (.int .i64))))))]⟩], []⟩
noncomputable abbrev pout : Tpl := ⟨[⟨0, false, [.d .str]⟩], []⟩
noncomputable abbrev p3 : Tpl := ⟨[⟨0, false, [.d (.sl .str)]⟩, ⟨1, false, [.d (.sl (.prod (.int .i64) (.prod (.int .i64) (.prod (.int .i64) (.last (.int .i64))))))]⟩], []⟩
noncomputable def T3 : List Item := (find 3 c0 []).getD []
noncomputable abbrev p5 : Tpl := ⟨[⟨0, false, [.d (.sl .str)]⟩, ⟨1, false, [.d (.sl (.prod (.int .i64) (.prod (.int .i64) (.prod (.int .i64) (.last (.int .i64))))))]⟩, ⟨5, false, [.row 3000000]⟩, ⟨6, false, [.d (.int .i64)]⟩], [(3000000, .row 9 false .str)]⟩
noncomputable def T5 : List Item := (find 5 c0 []).getD []
noncomputable abbrev p15 : Tpl := ⟨[⟨0, false, [.d (.sl .str)]⟩, ⟨1, false, [.d (.sl (.prod (.int .i64) (.prod (.int .i64) (.prod (.int .i64) (.last (.int .i64))))))]⟩, ⟨5, false, [.row 3000000]⟩, ⟨6, false, [.d (.int .i64)]⟩, ⟨7, false, [.ptr 3000001 0]⟩], [(3000000, .row 9 false .str), (3000001, .box [.d (.int .i64), .d (.int .i64), .d (.int .i64), .d (.int .i64)])]⟩
noncomputable def T15 : List Item := (find 15 c0 []).getD []
noncomputable abbrev p16 : Tpl := ⟨[⟨0, false, [.d (.sl .str)]⟩, ⟨1, false, [.d (.sl (.prod (.int .i64) (.prod (.int .i64) (.prod (.int .i64) (.last (.int .i64))))))]⟩, ⟨5, false, [.row 3000000]⟩, ⟨6, false, [.d (.int .i64)]⟩, ⟨8, false, [.d .str]⟩], [(3000000, .row 9 false .str)]⟩
noncomputable def T16 : List Item := (find 16 c0 []).getD []
noncomputable abbrev PI := (List (List UInt8)) × (List (Int × Int × Int × Int)) × Unit
noncomputable abbrev PO := (List UInt8) × Unit
noncomputable abbrev P3 := (List (List UInt8)) × (List (Int × Int × Int × Int)) × Unit
noncomputable abbrev P5 := (List (List UInt8)) × (List (Int × Int × Int × Int)) × Int × (List (List UInt8)) × Unit
noncomputable abbrev P15 := (List (List UInt8)) × (List (Int × Int × Int × Int)) × Int × (List (List UInt8)) × Int × Int × Int × Int × Unit
noncomputable abbrev P16 := (List (List UInt8)) × (List (Int × Int × Int × Int)) × Int × (List UInt8) × (List (List UInt8)) × Unit
noncomputable abbrev rs : List ResultVar := [.tmp 4]
noncomputable def F0 (J3 : P3 → Option PO) (Gspec_NamesValid : spec_NamesValid.PI → Option spec_NamesValid.PO) (Gspec_TermsValid : spec_TermsValid.PI → Option spec_TermsValid.PO) (x0 : List (List UInt8)) (x1 : List (Int × Int × Int × Int)) : Option PO :=
  Option.bind (Gspec_NamesValid (x0, ())) fun y0 =>
  bif !y0.1 then
    some ([], ())
  else
    Option.bind (Gspec_TermsValid (x1, (x0.length : Int), ())) fun y1 =>
    bif !y1.1 then
      some ([], ())
    else
      J3 (x0, x1, ())
noncomputable def F3 (J5 : P5 → Option PO) (t0 : List (List UInt8)) (t1 : List (Int × Int × Int × Int)) : Option PO :=
  J5 (t0, t1, 0, ([] : List (List UInt8)), ())
noncomputable def F5 (J15 : P15 → Option PO) (J16 : P16 → Option PO) (Gspec_l1One : spec_l1One.PI → Option spec_l1One.PO) (Gspec_l40Dec : spec_l40Dec.PI → Option spec_l40Dec.PO) (t0 : List (List UInt8)) (t1 : List (Int × Int × Int × Int)) (t6 : Int) (r0 : List (List UInt8)) : Option PO :=
  bif decide (t6 < (t1.length : Int)) then
    bif inb t6 t1.length then
      bif (t1.getD t6.toNat (0, 0, 0, 0)).1 == 0 then
        Option.bind (Gspec_l40Dec ((t1.getD t6.toNat (0, 0, 0, 0)).2.1, ())) fun y2 =>
        J16 (t0, t1, t6, y2.1, r0, ())
      else
        bif (t1.getD t6.toNat (0, 0, 0, 0)).1 == 1 then
          bif inb (t1.getD t6.toNat (0, 0, 0, 0)).2.1 t0.length then
            J16 (t0, t1, t6, t0.getD (t1.getD t6.toNat (0, 0, 0, 0)).2.1.toNat [], r0, ())
          else
            none
        else
          Option.bind (Gspec_l1One ((t1.getD t6.toNat (0, 0, 0, 0)).1, ())) fun y3 =>
          bif y3.1 then
            bif inb (t1.getD t6.toNat (0, 0, 0, 0)).2.2.1 r0.length then
              bif decide (([33] : List UInt8).length + (r0.getD (t1.getD t6.toNat (0, 0, 0, 0)).2.2.1.toNat []).length ≤ 140737488355328) then
                J16 (t0, t1, t6, ([33] : List UInt8) ++ (r0.getD (t1.getD t6.toNat (0, 0, 0, 0)).2.2.1.toNat []), r0, ())
              else
                none
            else
              none
          else
            J15 (t0, t1, t6, r0, (t1.getD t6.toNat (0, 0, 0, 0)).1, (t1.getD t6.toNat (0, 0, 0, 0)).2.1, (t1.getD t6.toNat (0, 0, 0, 0)).2.2.1, (t1.getD t6.toNat (0, 0, 0, 0)).2.2.2, ())
    else
      none
  else
    bif inb (wI ((r0.length : Int) - 1)) r0.length then
      some (r0.getD (wI ((r0.length : Int) - 1)).toNat [], ())
    else
      none
noncomputable def F15 (J16 : P16 → Option PO) (Gspec_l1Sign : spec_l1Sign.PI → Option spec_l1Sign.PO) (t0 : List (List UInt8)) (t1 : List (Int × Int × Int × Int)) (t6 : Int) (r0 : List (List UInt8)) (b1_0 : Int) (b1_1 : Int) (b1_2 : Int) (b1_3 : Int) : Option PO :=
  bif inb b1_2 r0.length then
    bif decide (([40] : List UInt8).length + (r0.getD b1_2.toNat []).length ≤ 140737488355328) then
      bif decide ((([40] : List UInt8) ++ (r0.getD b1_2.toNat [])).length + ([32] : List UInt8).length ≤ 140737488355328) then
        bif inb b1_3 r0.length then
          Option.bind (Gspec_l1Sign (b1_0, ())) fun y4 =>
          bif decide (((([40] : List UInt8) ++ (r0.getD b1_2.toNat [])) ++ ([32] : List UInt8)).length + y4.1.length ≤ 140737488355328) then
            bif decide ((((([40] : List UInt8) ++ (r0.getD b1_2.toNat [])) ++ ([32] : List UInt8)) ++ y4.1).length + ([32] : List UInt8).length ≤ 140737488355328) then
              bif decide (((((([40] : List UInt8) ++ (r0.getD b1_2.toNat [])) ++ ([32] : List UInt8)) ++ y4.1) ++ ([32] : List UInt8)).length + (r0.getD b1_3.toNat []).length ≤ 140737488355328) then
                bif decide ((((((([40] : List UInt8) ++ (r0.getD b1_2.toNat [])) ++ ([32] : List UInt8)) ++ y4.1) ++ ([32] : List UInt8)) ++ (r0.getD b1_3.toNat [])).length + ([41] : List UInt8).length ≤ 140737488355328) then
                  J16 (t0, t1, t6, (((((([40] : List UInt8) ++ (r0.getD b1_2.toNat [])) ++ ([32] : List UInt8)) ++ y4.1) ++ ([32] : List UInt8)) ++ (r0.getD b1_3.toNat [])) ++ ([41] : List UInt8), r0, ())
                else
                  none
              else
                none
            else
              none
          else
            none
        else
          none
      else
        none
    else
      none
  else
    none
noncomputable def F16 (J5 : P5 → Option PO) (t0 : List (List UInt8)) (t1 : List (Int × Int × Int × Int)) (t6 : Int) (t8 : List UInt8) (r0 : List (List UInt8)) : Option PO :=
  bif decide ((t8.length : Int) > 4000) then
    some ([], ())
  else
    bif decide ((r0.length + ([t8] : List (List UInt8)).length) * 16 ≤ 140737488355328) then
      J5 (t0, t1, wI (t6 + 1), r0 ++ ([t8] : List (List UInt8)), ())
    else
      none
noncomputable def hd {R : Type} (Gspec_NamesValid : spec_NamesValid.PI → Option spec_NamesValid.PO) (Gspec_TermsValid : spec_TermsValid.PI → Option spec_TermsValid.PO) (Gspec_l1One : spec_l1One.PI → Option spec_l1One.PO) (Gspec_l1Sign : spec_l1Sign.PI → Option spec_l1Sign.PO) (Gspec_l40Dec : spec_l40Dec.PI → Option spec_l40Dec.PO) : Hand R := (handAt 57 [62] true ⟨1, 1, 1, spec_l1Sign.pin, spec_l1Sign.pout, Gspec_l1Sign⟩ (handAt 56 [46] true ⟨1, 1, 1, spec_l1One.pin, spec_l1One.pout, Gspec_l1One⟩ (handAt 55 [16] true ⟨2, 1, 2, spec_TermsValid.pin, spec_TermsValid.pout, Gspec_TermsValid⟩ (handAt 39 [35] true ⟨1, 1, 0, spec_l40Dec.pin, spec_l40Dec.pout, Gspec_l40Dec⟩ (handAt 17 [10] true ⟨1, 1, 1, spec_NamesValid.pin, spec_NamesValid.pout, Gspec_NamesValid⟩ handNil)))))
noncomputable def pg (Gspec_NamesValid : spec_NamesValid.PI → Option spec_NamesValid.PO) (Gspec_TermsValid : spec_TermsValid.PI → Option spec_TermsValid.PO) (Gspec_l1One : spec_l1One.PI → Option spec_l1One.PO) (Gspec_l1Sign : spec_l1Sign.PI → Option spec_l1Sign.PO) (Gspec_l40Dec : spec_l40Dec.PI → Option spec_l40Dec.PO) (J3 : List Item → P3 → Option PO) (J5 : List Item → P5 → Option PO) (J15 : List Item → P15 → Option PO) (J16 : List Item → P16 → Option PO) : Prog PO := { nt := 85, np := 2, tb := tabOf tab, hd := hd Gspec_NamesValid Gspec_TermsValid Gspec_l1One Gspec_l1Sign Gspec_l40Dec, cuts := cutsOf [(3, cut p3 J3), (5, cut p5 J5), (15, cut p15 J15), (16, cut p16 J16)], fin := endOf (tabOf tab) rs 2 pout }
noncomputable def q : FuncId → Bool := fun f => hasId [17, 39, 55, 56, 57] f
theorem seg0 (Gspec_NamesValid : spec_NamesValid.PI → Option spec_NamesValid.PO) (Gspec_TermsValid : spec_TermsValid.PI → Option spec_TermsValid.PO) (Gspec_l1One : spec_l1One.PI → Option spec_l1One.PO) (Gspec_l1Sign : spec_l1Sign.PI → Option spec_l1Sign.PO) (Gspec_l40Dec : spec_l40Dec.PI → Option spec_l40Dec.PO) (J3 : List Item → P3 → Option PO) (J5 : List Item → P5 → Option PO) (J15 : List Item → P15 → Option PO) (J16 : List Item → P16 → Option PO) (x0 : List (List UInt8)) (x1 : List (Int × Int × Int × Int)) : arun (pg Gspec_NamesValid Gspec_TermsValid Gspec_l1One Gspec_l1Sign Gspec_l40Dec J3 J5 J15 J16) 5000 [.code c0] (mk pin (x0, x1, ())) = F0 (J3 T3) Gspec_NamesValid Gspec_TermsValid x0 x1 := by kernel_rfl
theorem seg3 (Gspec_NamesValid : spec_NamesValid.PI → Option spec_NamesValid.PO) (Gspec_TermsValid : spec_TermsValid.PI → Option spec_TermsValid.PO) (Gspec_l1One : spec_l1One.PI → Option spec_l1One.PO) (Gspec_l1Sign : spec_l1Sign.PI → Option spec_l1Sign.PO) (Gspec_l40Dec : spec_l40Dec.PI → Option spec_l40Dec.PO) (J3 : List Item → P3 → Option PO) (J5 : List Item → P5 → Option PO) (J15 : List Item → P15 → Option PO) (J16 : List Item → P16 → Option PO) (t0 : List (List UInt8)) (t1 : List (Int × Int × Int × Int)) : arun1 (pg Gspec_NamesValid Gspec_TermsValid Gspec_l1One Gspec_l1Sign Gspec_l40Dec J3 J5 J15 J16) 5000 T3 (mk p3 (t0, t1, ())) = F3 (J5 T5) t0 t1 := by kernel_rfl
theorem seg5 (Gspec_NamesValid : spec_NamesValid.PI → Option spec_NamesValid.PO) (Gspec_TermsValid : spec_TermsValid.PI → Option spec_TermsValid.PO) (Gspec_l1One : spec_l1One.PI → Option spec_l1One.PO) (Gspec_l1Sign : spec_l1Sign.PI → Option spec_l1Sign.PO) (Gspec_l40Dec : spec_l40Dec.PI → Option spec_l40Dec.PO) (J3 : List Item → P3 → Option PO) (J5 : List Item → P5 → Option PO) (J15 : List Item → P15 → Option PO) (J16 : List Item → P16 → Option PO) (t0 : List (List UInt8)) (t1 : List (Int × Int × Int × Int)) (t6 : Int) (r0 : List (List UInt8)) : arun1 (pg Gspec_NamesValid Gspec_TermsValid Gspec_l1One Gspec_l1Sign Gspec_l40Dec J3 J5 J15 J16) 5000 T5 (mk p5 (t0, t1, t6, r0, ())) = F5 (J15 T15) (J16 T16) Gspec_l1One Gspec_l40Dec t0 t1 t6 r0 := by kernel_rfl
theorem seg15 (Gspec_NamesValid : spec_NamesValid.PI → Option spec_NamesValid.PO) (Gspec_TermsValid : spec_TermsValid.PI → Option spec_TermsValid.PO) (Gspec_l1One : spec_l1One.PI → Option spec_l1One.PO) (Gspec_l1Sign : spec_l1Sign.PI → Option spec_l1Sign.PO) (Gspec_l40Dec : spec_l40Dec.PI → Option spec_l40Dec.PO) (J3 : List Item → P3 → Option PO) (J5 : List Item → P5 → Option PO) (J15 : List Item → P15 → Option PO) (J16 : List Item → P16 → Option PO) (t0 : List (List UInt8)) (t1 : List (Int × Int × Int × Int)) (t6 : Int) (r0 : List (List UInt8)) (b1_0 : Int) (b1_1 : Int) (b1_2 : Int) (b1_3 : Int) : arunQ (pg Gspec_NamesValid Gspec_TermsValid Gspec_l1One Gspec_l1Sign Gspec_l40Dec J3 J5 J15 J16) q [] [] 5000 T15 (mk p15 (t0, t1, t6, r0, b1_0, b1_1, b1_2, b1_3, ())) = List.replicate (arunQ (pg Gspec_NamesValid Gspec_TermsValid Gspec_l1One Gspec_l1Sign Gspec_l40Dec J3 J5 J15 J16) q [] [] 5000 T15 (mk p15 (t0, t1, t6, r0, b1_0, b1_1, b1_2, b1_3, ()))).length (F15 (J16 T16) Gspec_l1Sign t0 t1 t6 r0 b1_0 b1_1 b1_2 b1_3) := by kernel_rfl
theorem seg16 (Gspec_NamesValid : spec_NamesValid.PI → Option spec_NamesValid.PO) (Gspec_TermsValid : spec_TermsValid.PI → Option spec_TermsValid.PO) (Gspec_l1One : spec_l1One.PI → Option spec_l1One.PO) (Gspec_l1Sign : spec_l1Sign.PI → Option spec_l1Sign.PO) (Gspec_l40Dec : spec_l40Dec.PI → Option spec_l40Dec.PO) (J3 : List Item → P3 → Option PO) (J5 : List Item → P5 → Option PO) (J15 : List Item → P15 → Option PO) (J16 : List Item → P16 → Option PO) (t0 : List (List UInt8)) (t1 : List (Int × Int × Int × Int)) (t6 : Int) (t8 : List UInt8) (r0 : List (List UInt8)) : arun1 (pg Gspec_NamesValid Gspec_TermsValid Gspec_l1One Gspec_l1Sign Gspec_l40Dec J3 J5 J15 J16) 5000 T16 (mk p16 (t0, t1, t6, t8, r0, ())) = F16 (J5 T5) t0 t1 t6 t8 r0 := by kernel_rfl
noncomputable def L16 (J5 : P5 → Option PO) : P16 → Option PO := fun x => F16 J5 x.1 x.2.1 x.2.2.1 x.2.2.2.1 x.2.2.2.2.1
noncomputable def L15 (J5 : P5 → Option PO) : P15 → Option PO := fun x => F15 (L16 J5) spec_l1Sign.impl x.1 x.2.1 x.2.2.1 x.2.2.2.1 x.2.2.2.2.1 x.2.2.2.2.2.1 x.2.2.2.2.2.2.1 x.2.2.2.2.2.2.2.1
noncomputable def L5 : P5 → Option PO := lfp fun J5 x => F5 (L15 J5) (L16 J5) spec_l1One.impl spec_l40Dec.impl x.1 x.2.1 x.2.2.1 x.2.2.2.1
noncomputable def L3 : P3 → Option PO := fun x => F3 L5 x.1 x.2.1
noncomputable def impl : PI → Option PO := fun x => F0 L3 spec_NamesValid.impl spec_TermsValid.impl x.1 x.2.1
theorem F16_le {J5 J5' : P5 → Option PO} (h5 : OLe J5 J5') (t0 : List (List UInt8)) (t1 : List (Int × Int × Int × Int)) (t6 : Int) (t8 : List UInt8) (r0 : List (List UInt8)) : OptLe (F16 J5 t0 t1 t6 t8 r0) (F16 J5' t0 t1 t6 t8 r0) := by unfold F16; exact .cond (.refl _) (.cond (.of h5 _) (.refl _))
theorem F15_le {J16 J16' : P16 → Option PO} (h16 : OLe J16 J16') {Gspec_l1Sign : spec_l1Sign.PI → Option spec_l1Sign.PO} (t0 : List (List UInt8)) (t1 : List (Int × Int × Int × Int)) (t6 : Int) (r0 : List (List UInt8)) (b1_0 : Int) (b1_1 : Int) (b1_2 : Int) (b1_3 : Int) : OptLe (F15 J16 Gspec_l1Sign t0 t1 t6 r0 b1_0 b1_1 b1_2 b1_3) (F15 J16' Gspec_l1Sign t0 t1 t6 r0 b1_0 b1_1 b1_2 b1_3) := by unfold F15; exact .cond (.cond (.cond (.cond (.bind (.refl _) fun _ => .cond (.cond (.cond (.cond (.of h16 _) (.refl _)) (.refl _)) (.refl _)) (.refl _)) (.refl _)) (.refl _)) (.refl _)) (.refl _)
theorem F5_le {J15 J15' : P15 → Option PO} (h15 : OLe J15 J15') {J16 J16' : P16 → Option PO} (h16 : OLe J16 J16') {Gspec_l1One : spec_l1One.PI → Option spec_l1One.PO} {Gspec_l40Dec : spec_l40Dec.PI → Option spec_l40Dec.PO} (t0 : List (List UInt8)) (t1 : List (Int × Int × Int × Int)) (t6 : Int) (r0 : List (List UInt8)) : OptLe (F5 J15 J16 Gspec_l1One Gspec_l40Dec t0 t1 t6 r0) (F5 J15' J16' Gspec_l1One Gspec_l40Dec t0 t1 t6 r0) := by unfold F5; exact .cond (.cond (.cond (.bind (.refl _) fun _ => .of h16 _) (.cond (.cond (.of h16 _) (.refl _)) (.bind (.refl _) fun _ => .cond (.cond (.cond (.of h16 _) (.refl _)) (.refl _)) (.of h15 _)))) (.refl _)) (.refl _)
theorem L16_eq (J5 : P5 → Option PO) (t0 : List (List UInt8)) (t1 : List (Int × Int × Int × Int)) (t6 : Int) (t8 : List UInt8) (r0 : List (List UInt8)) : L16 J5 (t0, t1, t6, t8, r0, ()) = F16 J5 t0 t1 t6 t8 r0 := rfl
theorem L16_le {J5 J5' : P5 → Option PO} (h5 : OLe J5 J5') : OLe (L16 J5) (L16 J5') := fun x => F16_le h5 x.1 x.2.1 x.2.2.1 x.2.2.2.1 x.2.2.2.2.1
theorem L15_eq (J5 : P5 → Option PO) (t0 : List (List UInt8)) (t1 : List (Int × Int × Int × Int)) (t6 : Int) (r0 : List (List UInt8)) (b1_0 : Int) (b1_1 : Int) (b1_2 : Int) (b1_3 : Int) : L15 J5 (t0, t1, t6, r0, b1_0, b1_1, b1_2, b1_3, ()) = F15 (L16 J5) spec_l1Sign.impl t0 t1 t6 r0 b1_0 b1_1 b1_2 b1_3 := rfl
theorem L15_le {J5 J5' : P5 → Option PO} (h5 : OLe J5 J5') : OLe (L15 J5) (L15 J5') := fun x => F15_le (L16_le h5) x.1 x.2.1 x.2.2.1 x.2.2.2.1 x.2.2.2.2.1 x.2.2.2.2.2.1 x.2.2.2.2.2.2.1 x.2.2.2.2.2.2.2.1
theorem L5_mono : OMono fun J5 (x : P5) => F5 (L15 J5) (L16 J5) spec_l1One.impl spec_l40Dec.impl x.1 x.2.1 x.2.2.1 x.2.2.2.1 := fun J J' h5 x => F5_le (L15_le h5) (L16_le h5) x.1 x.2.1 x.2.2.1 x.2.2.2.1
theorem L5_eq (t0 : List (List UInt8)) (t1 : List (Int × Int × Int × Int)) (t6 : Int) (r0 : List (List UInt8)) : L5 (t0, t1, t6, r0, ()) = F5 (L15 (L5)) (L16 (L5)) spec_l1One.impl spec_l40Dec.impl t0 t1 t6 r0 := congrFun (lfp_eq (L5_mono)) _
theorem L3_eq (t0 : List (List UInt8)) (t1 : List (Int × Int × Int × Int)) : L3 (t0, t1, ()) = F3 (L5) t0 t1 := rfl
theorem impl_eq (x0 : List (List UInt8)) (x1 : List (Int × Int × Int × Int)) : impl (x0, x1, ()) = F0 L3 spec_NamesValid.impl spec_TermsValid.impl x0 x1 := rfl
theorem con : Con Tryz.prog 15 2 rs.length 2 pin pout impl := by
  refine con_of_run' (nt := 85) (c := c0) tabGood Tryz.func15 (by kernel_rfl) (by kernel_rfl) (by kernel_rfl) (by kernel_rfl) (by kernel_rfl) (by kernel_rfl) (by kernel_rfl) ?_
  intro w0 O y hnp
  generalize hPost : (fun (a' : Act) (w' : World) => ∃ μ' S' st', Rel 85 w0 O μ' S' st' a' w' ∧ endOf (tabOf tab) rs 2 pout st' = some y) = Post
  have fin : ∀ (μ : Id → Option Value) (S : Nat → Prop) (st : St) (a : Act) (w : World), Rel 85 w0 O μ S st a w → endOf (tabOf tab) rs 2 pout st = some y → Post a w := fun μ S st a w h he => by rw [← hPost]; exact ⟨μ, S, st, h, he⟩
  have hp : ∀ (J3 : List Item → P3 → Option PO), ∀ (J5 : List Item → P5 → Option PO), ∀ (J15 : List Item → P15 → Option PO), ∀ (J16 : List Item → P16 → Option PO), Parts Tryz.prog 15 (pg spec_NamesValid.impl spec_TermsValid.impl spec_l1One.impl spec_l1Sign.impl spec_l40Dec.impl J3 J5 J15 J16) [(3, cut p3 J3), (5, cut p5 J5), (15, cut p15 J15), (16, cut p16 J16)] := fun J3 J5 J15 J16 => ⟨tab_ok tabGood rfl, (handAt_ok spec_l1Sign.con (handAt_ok spec_l1One.con (handAt_ok spec_TermsValid.con (handAt_ok spec_l40Dec.con (handAt_ok spec_NamesValid.con handNil_ok))))), rfl⟩
  have g16 : ∀ (J5 : P5 → Option PO), Good Tryz.prog 85 w0 O Post y T5 p5 J5 → Good Tryz.prog 85 w0 O Post y T16 p16 (L16 J5) := fun J5 h5 => good_part (hp (atT T3 (fun _ => none)) (atT T5 J5) (atT T15 (fun _ => none)) (atT T16 (fun _ => none))) (runOK_of (hp (atT T3 (fun _ => none)) (atT T5 J5) (atT T15 (fun _ => none)) (atT T16 (fun _ => none))) hnp ⟨cutOK_at (p := p3) (T := T3) (J := fun _ => none) good_none, cutOK_at h5, cutOK_at (p := p15) (T := T15) (J := fun _ => none) good_none, cutOK_at (p := p16) (T := T16) (J := fun _ => none) good_none, trivial⟩ fin) (fun x => (seg16 spec_NamesValid.impl spec_TermsValid.impl spec_l1One.impl spec_l1Sign.impl spec_l40Dec.impl (atT T3 (fun _ => none)) (atT T5 J5) (atT T15 (fun _ => none)) (atT T16 (fun _ => none)) x.1 x.2.1 x.2.2.1 x.2.2.2.1 x.2.2.2.2.1).trans (by simp only [atT_self] <;> rfl))
  have g15 : ∀ (J5 : P5 → Option PO), Good Tryz.prog 85 w0 O Post y T5 p5 J5 → Good Tryz.prog 85 w0 O Post y T15 p15 (L15 J5) := fun J5 h5 => good_quiet (hs := hd spec_NamesValid.impl spec_TermsValid.impl spec_l1One.impl spec_l1Sign.impl spec_l40Dec.impl) (cv' := hd spec_NamesValid.impl spec_TermsValid.impl spec_l1One.impl spec_l1Sign.impl spec_l40Dec.impl) (Checked.mixed Tryz.checked) (hp (atT T3 (fun _ => none)) (atT T5 (fun _ => none)) (atT T15 (fun _ => none)) (atT T16 (L16 J5))) (handAt_D spec_l1Sign.con (by rfl) rfl (handAt_D spec_l1One.con (by rfl) rfl (handAt_D spec_TermsValid.con (by rfl) rfl (handAt_D spec_l40Dec.con (by rfl) rfl (handAt_D spec_NamesValid.con (by rfl) rfl handNil_D))))) (handAt_nat (handAt_nat (handAt_nat (handAt_nat (handAt_nat handNil_nat))))) (handAt_nat (handAt_nat (handAt_nat (handAt_nat (handAt_nat handNil_nat))))) (runOK_of (hp (atT T3 (fun _ => none)) (atT T5 (fun _ => none)) (atT T15 (fun _ => none)) (atT T16 (L16 J5))) hnp ⟨cutOK_at (p := p3) (T := T3) (J := fun _ => none) good_none, cutOK_at (p := p5) (T := T5) (J := fun _ => none) good_none, cutOK_at (p := p15) (T := T15) (J := fun _ => none) good_none, cutOK_at (g16 J5 h5), trivial⟩ fin) (fun x => all_same ⟨_, (seg15 spec_NamesValid.impl spec_TermsValid.impl spec_l1One.impl spec_l1Sign.impl spec_l40Dec.impl (atT T3 (fun _ => none)) (atT T5 (fun _ => none)) (atT T15 (fun _ => none)) (atT T16 (L16 J5)) x.1 x.2.1 x.2.2.1 x.2.2.2.1 x.2.2.2.2.1 x.2.2.2.2.2.1 x.2.2.2.2.2.2.1 x.2.2.2.2.2.2.2.1).trans (by simp only [atT_self] <;> rfl)⟩)
  have g5 : Good Tryz.prog 85 w0 O Post y T5 p5 L5 := good_lfp fun J5 h5 => good_part (hp (atT T3 (fun _ => none)) (atT T5 (fun _ => none)) (atT T15 (L15 J5)) (atT T16 (L16 J5))) (runOK_of (hp (atT T3 (fun _ => none)) (atT T5 (fun _ => none)) (atT T15 (L15 J5)) (atT T16 (L16 J5))) hnp ⟨cutOK_at (p := p3) (T := T3) (J := fun _ => none) good_none, cutOK_at (p := p5) (T := T5) (J := fun _ => none) good_none, cutOK_at (g15 J5 h5), cutOK_at (g16 J5 h5), trivial⟩ fin) (fun x => (seg5 spec_NamesValid.impl spec_TermsValid.impl spec_l1One.impl spec_l1Sign.impl spec_l40Dec.impl (atT T3 (fun _ => none)) (atT T5 (fun _ => none)) (atT T15 (L15 J5)) (atT T16 (L16 J5)) x.1 x.2.1 x.2.2.1 x.2.2.2.1).trans (by simp only [atT_self] <;> rfl))
  have g3 : Good Tryz.prog 85 w0 O Post y T3 p3 L3 := good_part (hp (atT T3 (fun _ => none)) (atT T5 L5) (atT T15 (fun _ => none)) (atT T16 (fun _ => none))) (runOK_of (hp (atT T3 (fun _ => none)) (atT T5 L5) (atT T15 (fun _ => none)) (atT T16 (fun _ => none))) hnp ⟨cutOK_at (p := p3) (T := T3) (J := fun _ => none) good_none, cutOK_at g5, cutOK_at (p := p15) (T := T15) (J := fun _ => none) good_none, cutOK_at (p := p16) (T := T16) (J := fun _ => none) good_none, trivial⟩ fin) (fun x => (seg3 spec_NamesValid.impl spec_TermsValid.impl spec_l1One.impl spec_l1Sign.impl spec_l40Dec.impl (atT T3 (fun _ => none)) (atT T5 L5) (atT T15 (fun _ => none)) (atT T16 (fun _ => none)) x.1 x.2.1).trans (by simp only [atT_self] <;> rfl))
  exact good_first (hp (atT T3 L3) (atT T5 (fun _ => none)) (atT T15 (fun _ => none)) (atT T16 (fun _ => none))) (runOK_of (hp (atT T3 L3) (atT T5 (fun _ => none)) (atT T15 (fun _ => none)) (atT T16 (fun _ => none))) hnp ⟨cutOK_at g3, cutOK_at (p := p5) (T := T5) (J := fun _ => none) good_none, cutOK_at (p := p15) (T := T15) (J := fun _ => none) good_none, cutOK_at (p := p16) (T := T16) (J := fun _ => none) good_none, trivial⟩ fin) (fun x => (seg0 spec_NamesValid.impl spec_TermsValid.impl spec_l1One.impl spec_l1Sign.impl spec_l40Dec.impl (atT T3 L3) (atT T5 (fun _ => none)) (atT T15 (fun _ => none)) (atT T16 (fun _ => none)) x.1 x.2.1).trans (by simp only [atT_self] <;> rfl))
end spec_WriteExpr

/-! ### (*loop.example/wholecheck/impl.scan).run -/
namespace impl_scan_run
noncomputable abbrev c0 : Code := (Tryz.f152.body).getD .skip
noncomputable abbrev pin : Tpl := ⟨[⟨0, false, [.ptr 500001 0]⟩, ⟨1, false, [.d .str]⟩], [(500001, .box [.d (.sl .str), .d .str, .d (.int .i64), .row 500002]), (500002, .row 52 true (.prod (.int .i64) (.prod (.int .i64) (.prod (.int .i64) (.last (.int .i64))))))]⟩
noncomputable abbrev pout : Tpl := ⟨[⟨0, false, [.d .str]⟩, ⟨1, false, [.ptr 500001 0]⟩], [(500001, .box [.d (.sl .str), .d .str, .d (.int .i64), .row 500002]), (500002, .row 52 true (.prod (.int .i64) (.prod (.int .i64) (.prod (.int .i64) (.last (.int .i64))))))]⟩
noncomputable abbrev p2 : Tpl := ⟨[⟨0, false, [.ptr 500001 0]⟩, ⟨1, false, [.d .str]⟩, ⟨5, false, [.d (.int .i64)]⟩], [(500001, .box [.d (.sl .str), .d .str, .d (.int .i64), .row 500002]), (500002, .row 52 true (.prod (.int .i64) (.prod (.int .i64) (.prod (.int .i64) (.last (.int .i64))))))]⟩
noncomputable def T2 : List Item := (find 2 c0 []).getD []
noncomputable abbrev p4 : Tpl := ⟨[⟨0, false, [.ptr 500001 0]⟩, ⟨5, false, [.d (.int .i64)]⟩], [(500001, .box [.d (.sl .str), .d .str, .d (.int .i64), .row 500002]), (500002, .row 52 true (.prod (.int .i64) (.prod (.int .i64) (.prod (.int .i64) (.last (.int .i64))))))]⟩
noncomputable def T4 : List Item := (find 4 c0 []).getD []
noncomputable abbrev PI := (List UInt8) × (List (List UInt8)) × (List UInt8) × Int × (List (Int × Int × Int × Int)) × Unit
noncomputable abbrev PO := (List UInt8) × (List (List UInt8)) × (List UInt8) × Int × (List (Int × Int × Int × Int)) × Unit
noncomputable abbrev P2 := (List UInt8) × Int × (List (List UInt8)) × (List UInt8) × Int × (List (Int × Int × Int × Int)) × Unit
noncomputable abbrev P4 := Int × (List (List UInt8)) × (List UInt8) × Int × (List (Int × Int × Int × Int)) × Unit
noncomputable abbrev rs : List ResultVar := [.tmp 4]
noncomputable def F0 (J2 : P2 → Option PO) (x1 : List UInt8) (c1_0 : List (List UInt8)) (c1_1 : List UInt8) (c1_2 : Int) (s2 : List (Int × Int × Int × Int)) : Option PO :=
  J2 (x1, c1_2, c1_0, c1_1, c1_2, s2, ())
noncomputable def F2 (J2 : P2 → Option PO) (J4 : P4 → Option PO) (Glib_IndexByte : lib_IndexByte.PI → Option lib_IndexByte.PO) (t1 : List UInt8) (t5 : Int) (c1_0 : List (List UInt8)) (c1_1 : List UInt8) (c1_2 : Int) (s2 : List (Int × Int × Int × Int)) : Option PO :=
  bif decide (c1_2 < (c1_1.length : Int)) then
    bif inb c1_2 c1_1.length then
      Option.bind (Glib_IndexByte (t1, ((c1_1.getD c1_2.toNat 0).toNat : Int), ())) fun y0 =>
      bif decide (y0.1 ≥ 0) then
        J2 (t1, t5, c1_0, c1_1, wI (c1_2 + 1), s2, ())
      else
        J4 (t5, c1_0, c1_1, c1_2, s2, ())
    else
      none
  else
    J4 (t5, c1_0, c1_1, c1_2, s2, ())
noncomputable def F4 (t5 : Int) (c1_0 : List (List UInt8)) (c1_1 : List UInt8) (c1_2 : Int) (s2 : List (Int × Int × Int × Int)) : Option PO :=
  bif decide (0 ≤ t5) && decide (t5 ≤ c1_2) && decide (c1_2 ≤ (c1_1.length : Int)) then
    some ((c1_1.take c1_2.toNat).drop t5.toNat, c1_0, c1_1, c1_2, s2, ())
  else
    none
noncomputable def hd {R : Type} (Glib_IndexByte : lib_IndexByte.PI → Option lib_IndexByte.PO) : Hand R := (handAt 179 [31] true ⟨2, 1, 0, lib_IndexByte.pin, lib_IndexByte.pout, Glib_IndexByte⟩ handNil)
noncomputable def pg (Glib_IndexByte : lib_IndexByte.PI → Option lib_IndexByte.PO) (J2 : List Item → P2 → Option PO) (J4 : List Item → P4 → Option PO) : Prog PO := { nt := 51, np := 2, tb := tabOf tab, hd := hd Glib_IndexByte, cuts := cutsOf [(2, cut p2 J2), (4, cut p4 J4)], fin := endOf (tabOf tab) rs 2 pout }
noncomputable def q : FuncId → Bool := fun f => hasId [179] f
theorem seg0 (Glib_IndexByte : lib_IndexByte.PI → Option lib_IndexByte.PO) (J2 : List Item → P2 → Option PO) (J4 : List Item → P4 → Option PO) (x1 : List UInt8) (c1_0 : List (List UInt8)) (c1_1 : List UInt8) (c1_2 : Int) (s2 : List (Int × Int × Int × Int)) : arun (pg Glib_IndexByte J2 J4) 5000 [.code c0] (mk pin (x1, c1_0, c1_1, c1_2, s2, ())) = F0 (J2 T2) x1 c1_0 c1_1 c1_2 s2 := by kernel_rfl
theorem seg2 (Glib_IndexByte : lib_IndexByte.PI → Option lib_IndexByte.PO) (J2 : List Item → P2 → Option PO) (J4 : List Item → P4 → Option PO) (t1 : List UInt8) (t5 : Int) (c1_0 : List (List UInt8)) (c1_1 : List UInt8) (c1_2 : Int) (s2 : List (Int × Int × Int × Int)) : arunQ (pg Glib_IndexByte J2 J4) q [] [] 5000 T2 (mk p2 (t1, t5, c1_0, c1_1, c1_2, s2, ())) = List.replicate (arunQ (pg Glib_IndexByte J2 J4) q [] [] 5000 T2 (mk p2 (t1, t5, c1_0, c1_1, c1_2, s2, ()))).length (F2 (J2 T2) (J4 T4) Glib_IndexByte t1 t5 c1_0 c1_1 c1_2 s2) := by kernel_rfl
theorem seg4 (Glib_IndexByte : lib_IndexByte.PI → Option lib_IndexByte.PO) (J2 : List Item → P2 → Option PO) (J4 : List Item → P4 → Option PO) (t5 : Int) (c1_0 : List (List UInt8)) (c1_1 : List UInt8) (c1_2 : Int) (s2 : List (Int × Int × Int × Int)) : arunQ (pg Glib_IndexByte J2 J4) q [] [] 5000 T4 (mk p4 (t5, c1_0, c1_1, c1_2, s2, ())) = List.replicate (arunQ (pg Glib_IndexByte J2 J4) q [] [] 5000 T4 (mk p4 (t5, c1_0, c1_1, c1_2, s2, ()))).length (F4 t5 c1_0 c1_1 c1_2 s2) := by kernel_rfl
noncomputable def L4 : P4 → Option PO := fun x => F4 x.1 x.2.1 x.2.2.1 x.2.2.2.1 x.2.2.2.2.1
noncomputable def L2 : P2 → Option PO := lfp fun J2 x => F2 J2 L4 lib_IndexByte.impl x.1 x.2.1 x.2.2.1 x.2.2.2.1 x.2.2.2.2.1 x.2.2.2.2.2.1
noncomputable def impl : PI → Option PO := fun x => F0 L2 x.1 x.2.1 x.2.2.1 x.2.2.2.1 x.2.2.2.2.1
theorem F2_le {J2 J2' : P2 → Option PO} (h2 : OLe J2 J2') {J4 J4' : P4 → Option PO} (h4 : OLe J4 J4') {Glib_IndexByte : lib_IndexByte.PI → Option lib_IndexByte.PO} (t1 : List UInt8) (t5 : Int) (c1_0 : List (List UInt8)) (c1_1 : List UInt8) (c1_2 : Int) (s2 : List (Int × Int × Int × Int)) : OptLe (F2 J2 J4 Glib_IndexByte t1 t5 c1_0 c1_1 c1_2 s2) (F2 J2' J4' Glib_IndexByte t1 t5 c1_0 c1_1 c1_2 s2) := by unfold F2; exact .cond (.cond (.bind (.refl _) fun _ => .cond (.of h2 _) (.of h4 _)) (.refl _)) (.of h4 _)
theorem L4_eq (t5 : Int) (c1_0 : List (List UInt8)) (c1_1 : List UInt8) (c1_2 : Int) (s2 : List (Int × Int × Int × Int)) : L4 (t5, c1_0, c1_1, c1_2, s2, ()) = F4 t5 c1_0 c1_1 c1_2 s2 := rfl
theorem L2_mono : OMono fun J2 (x : P2) => F2 J2 L4 lib_IndexByte.impl x.1 x.2.1 x.2.2.1 x.2.2.2.1 x.2.2.2.2.1 x.2.2.2.2.2.1 := fun J J' h2 x => F2_le h2 (fun _ _ h => h) x.1 x.2.1 x.2.2.1 x.2.2.2.1 x.2.2.2.2.1 x.2.2.2.2.2.1
theorem L2_eq (t1 : List UInt8) (t5 : Int) (c1_0 : List (List UInt8)) (c1_1 : List UInt8) (c1_2 : Int) (s2 : List (Int × Int × Int × Int)) : L2 (t1, t5, c1_0, c1_1, c1_2, s2, ()) = F2 (L2) (L4) lib_IndexByte.impl t1 t5 c1_0 c1_1 c1_2 s2 := congrFun (lfp_eq (L2_mono)) _
theorem impl_eq (x1 : List UInt8) (c1_0 : List (List UInt8)) (c1_1 : List UInt8) (c1_2 : Int) (s2 : List (Int × Int × Int × Int)) : impl (x1, c1_0, c1_1, c1_2, s2, ()) = F0 L2 x1 c1_0 c1_1 c1_2 s2 := rfl
theorem con : Con Tryz.prog 152 2 rs.length 2 pin pout impl := by
  refine con_of_run' (nt := 51) (c := c0) tabGood Tryz.func152 (by kernel_rfl) (by kernel_rfl) (by kernel_rfl) (by kernel_rfl) (by kernel_rfl) (by kernel_rfl) (by kernel_rfl) ?_
  intro w0 O y hnp
  generalize hPost : (fun (a' : Act) (w' : World) => ∃ μ' S' st', Rel 51 w0 O μ' S' st' a' w' ∧ endOf (tabOf tab) rs 2 pout st' = some y) = Post
  have fin : ∀ (μ : Id → Option Value) (S : Nat → Prop) (st : St) (a : Act) (w : World), Rel 51 w0 O μ S st a w → endOf (tabOf tab) rs 2 pout st = some y → Post a w := fun μ S st a w h he => by rw [← hPost]; exact ⟨μ, S, st, h, he⟩
  have hp : ∀ (J2 : List Item → P2 → Option PO), ∀ (J4 : List Item → P4 → Option PO), Parts Tryz.prog 152 (pg lib_IndexByte.impl J2 J4) [(2, cut p2 J2), (4, cut p4 J4)] := fun J2 J4 => ⟨tab_ok tabGood rfl, (handAt_ok lib_IndexByte.con handNil_ok), rfl⟩
  have g4 : Good Tryz.prog 51 w0 O Post y T4 p4 L4 := good_quiet (hs := hd lib_IndexByte.impl) (cv' := hd lib_IndexByte.impl) (Checked.mixed Tryz.checked) (hp (atT T2 (fun _ => none)) (atT T4 (fun _ => none))) (handAt_D lib_IndexByte.con (by rfl) rfl handNil_D) (handAt_nat handNil_nat) (handAt_nat handNil_nat) (runOK_of (hp (atT T2 (fun _ => none)) (atT T4 (fun _ => none))) hnp ⟨cutOK_at (p := p2) (T := T2) (J := fun _ => none) good_none, cutOK_at (p := p4) (T := T4) (J := fun _ => none) good_none, trivial⟩ fin) (fun x => all_same ⟨_, (seg4 lib_IndexByte.impl (atT T2 (fun _ => none)) (atT T4 (fun _ => none)) x.1 x.2.1 x.2.2.1 x.2.2.2.1 x.2.2.2.2.1)⟩)
  have g2 : Good Tryz.prog 51 w0 O Post y T2 p2 L2 := good_lfp fun J2 h2 => good_quiet (hs := hd lib_IndexByte.impl) (cv' := hd lib_IndexByte.impl) (Checked.mixed Tryz.checked) (hp (atT T2 J2) (atT T4 L4)) (handAt_D lib_IndexByte.con (by rfl) rfl handNil_D) (handAt_nat handNil_nat) (handAt_nat handNil_nat) (runOK_of (hp (atT T2 J2) (atT T4 L4)) hnp ⟨cutOK_at h2, cutOK_at g4, trivial⟩ fin) (fun x => all_same ⟨_, (seg2 lib_IndexByte.impl (atT T2 J2) (atT T4 L4) x.1 x.2.1 x.2.2.1 x.2.2.2.1 x.2.2.2.2.1 x.2.2.2.2.2.1).trans (by simp only [atT_self] <;> rfl)⟩)
  exact good_first (hp (atT T2 L2) (atT T4 (fun _ => none))) (runOK_of (hp (atT T2 L2) (atT T4 (fun _ => none))) hnp ⟨cutOK_at g2, cutOK_at (p := p4) (T := T4) (J := fun _ => none) good_none, trivial⟩ fin) (fun x => (seg0 lib_IndexByte.impl (atT T2 L2) (atT T4 (fun _ => none)) x.1 x.2.1 x.2.2.1 x.2.2.2.1 x.2.2.2.2.1).trans (by simp only [atT_self] <;> rfl))
end impl_scan_run

/-! ### loop.example/wholecheck/impl.numberText -/
namespace impl_numberText
noncomputable abbrev c0 : Code := (Tryz.f79.body).getD .skip
noncomputable abbrev pin : Tpl := ⟨[⟨0, false, [.d .str]⟩], []⟩
noncomputable abbrev pout : Tpl := ⟨[⟨0, false, [.d (.int .i64)]⟩, ⟨1, false, [.d .bool]⟩], []⟩
noncomputable abbrev PI := (List UInt8) × Unit
noncomputable abbrev PO := Int × Bool × Unit
noncomputable abbrev rs : List ResultVar := [.tmp 2, .tmp 3]
noncomputable def F0 (Gimpl_in : impl_in.PI → Option impl_in.PO) (Glib_Atoi : lib_Atoi.PI → Option lib_Atoi.PO) (Glib_Itoa : lib_Itoa.PI → Option lib_Itoa.PO) (x0 : List UInt8) : Option PO :=
  Option.bind (Glib_Atoi (x0, ())) fun y0 =>
  bif y0.2.1 then
    Option.bind (Glib_Itoa (y0.1, ())) fun y1 =>
    bif y1.1 == x0 then
      Option.bind (Gimpl_in (y0.1, (-9999), 9999, ())) fun y2 =>
      some (y0.1, y2.1, ())
    else
      some (y0.1, false, ())
  else
    some (y0.1, false, ())
noncomputable def hd {R : Type} (Gimpl_in : impl_in.PI → Option impl_in.PO) (Glib_Atoi : lib_Atoi.PI → Option lib_Atoi.PO) (Glib_Itoa : lib_Itoa.PI → Option lib_Itoa.PO) : Hand R := (handAt 123 [8] true ⟨1, 2, 0, lib_Atoi.pin, lib_Atoi.pout, Glib_Atoi⟩ (handAt 74 [22] true ⟨3, 1, 3, impl_in.pin, impl_in.pout, Gimpl_in⟩ (handAt 45 [16] true ⟨1, 1, 0, lib_Itoa.pin, lib_Itoa.pout, Glib_Itoa⟩ handNil)))
noncomputable def pg (Gimpl_in : impl_in.PI → Option impl_in.PO) (Glib_Atoi : lib_Atoi.PI → Option lib_Atoi.PO) (Glib_Itoa : lib_Itoa.PI → Option lib_Itoa.PO) : Prog PO := { nt := 24, np := 1, tb := tabOf tab, hd := hd Gimpl_in Glib_Atoi Glib_Itoa, cuts := cutsOf [], fin := endOf (tabOf tab) rs 1 pout }
noncomputable def q : FuncId → Bool := fun f => hasId [45, 74, 123] f
theorem seg0 (Gimpl_in : impl_in.PI → Option impl_in.PO) (Glib_Atoi : lib_Atoi.PI → Option lib_Atoi.PO) (Glib_Itoa : lib_Itoa.PI → Option lib_Itoa.PO) (x0 : List UInt8) : arun (pg Gimpl_in Glib_Atoi Glib_Itoa) 5000 [.code c0] (mk pin (x0, ())) = F0 Gimpl_in Glib_Atoi Glib_Itoa x0 := by kernel_rfl
noncomputable def impl : PI → Option PO := fun x => F0 impl_in.impl lib_Atoi.impl lib_Itoa.impl x.1
theorem impl_eq (x0 : List UInt8) : impl (x0, ()) = F0 impl_in.impl lib_Atoi.impl lib_Itoa.impl x0 := rfl
theorem con : Con Tryz.prog 79 1 rs.length 1 pin pout impl := by
  refine con_of_run' (nt := 24) (c := c0) tabGood Tryz.func79 (by kernel_rfl) (by kernel_rfl) (by kernel_rfl) (by kernel_rfl) (by kernel_rfl) (by kernel_rfl) (by kernel_rfl) ?_
  intro w0 O y hnp
  generalize hPost : (fun (a' : Act) (w' : World) => ∃ μ' S' st', Rel 24 w0 O μ' S' st' a' w' ∧ endOf (tabOf tab) rs 1 pout st' = some y) = Post
  have fin : ∀ (μ : Id → Option Value) (S : Nat → Prop) (st : St) (a : Act) (w : World), Rel 24 w0 O μ S st a w → endOf (tabOf tab) rs 1 pout st = some y → Post a w := fun μ S st a w h he => by rw [← hPost]; exact ⟨μ, S, st, h, he⟩
  have hp : Parts Tryz.prog 79 (pg impl_in.impl lib_Atoi.impl lib_Itoa.impl) [] := ⟨tab_ok tabGood rfl, (handAt_ok lib_Atoi.con (handAt_ok impl_in.con (handAt_ok lib_Itoa.con handNil_ok))), rfl⟩
  exact good_first (hp) (runOK_of (hp) hnp trivial fin) (fun x => (seg0 impl_in.impl lib_Atoi.impl lib_Itoa.impl x.1))
end impl_numberText

/-! ### slices.Index[[]loop.example/wholecheck/impl.Term,loop.example/wholecheck/impl.Term] -/
namespace slices_Index_of_1
noncomputable abbrev c0 : Code := (Tryz.f109.body).getD .skip
noncomputable abbrev pin : Tpl := ⟨[⟨0, false, [.d (.sl (.prod (.int .i64) (.prod (.int .i64) (.prod (.int .i64) (.last (.int .i64))))))]⟩, ⟨1, true, [.d (.prod (.int .i64) (.prod (.int .i64) (.prod (.int .i64) (.last (.int .i64)))))]⟩], []⟩
noncomputable abbrev pout : Tpl := ⟨[⟨0, false, [.d (.int .i64)]⟩], []⟩
noncomputable abbrev p2 : Tpl := ⟨[⟨0, false, [.d (.sl (.prod (.int .i64) (.prod (.int .i64) (.prod (.int .i64) (.last (.int .i64))))))]⟩, ⟨3, false, [.ptr 3000000 0]⟩, ⟨7, false, [.d (.int .i64)]⟩, ⟨8, false, [.d (.int .i64)]⟩], [(3000000, .box [.d (.int .i64), .d (.int .i64), .d (.int .i64), .d (.int .i64)])]⟩
noncomputable def T2 : List Item := (find 2 c0 []).getD []
noncomputable abbrev p4 : Tpl := ⟨[⟨0, false, [.d (.sl (.prod (.int .i64) (.prod (.int .i64) (.prod (.int .i64) (.last (.int .i64))))))]⟩, ⟨3, false, [.ptr 3000000 0]⟩, ⟨5, false, [.d (.int .i64)]⟩, ⟨7, false, [.d (.int .i64)]⟩, ⟨8, false, [.d (.int .i64)]⟩], [(3000000, .box [.d (.int .i64), .d (.int .i64), .d (.int .i64), .d (.int .i64)])]⟩
noncomputable def T4 : List Item := (find 4 c0 []).getD []
noncomputable abbrev PI := (List (Int × Int × Int × Int)) × (Int × Int × Int × Int) × Unit
noncomputable abbrev PO := Int × Unit
noncomputable abbrev P2 := (List (Int × Int × Int × Int)) × Int × Int × Int × Int × Int × Int × Unit
noncomputable abbrev P4 := (List (Int × Int × Int × Int)) × Int × Int × Int × Int × Int × Int × Int × Unit
noncomputable abbrev rs : List ResultVar := [.tmp 4]
noncomputable def F0 (J2 : P2 → Option PO) (x0 : List (Int × Int × Int × Int)) (x1 : Int × Int × Int × Int) : Option PO :=
  J2 (x0, (x0.length : Int), 0, x1.1, x1.2.1, x1.2.2.1, x1.2.2.2, ())
noncomputable def F2 (J4 : P4 → Option PO) (t0 : List (Int × Int × Int × Int)) (t7 : Int) (t8 : Int) (b0_0 : Int) (b0_1 : Int) (b0_2 : Int) (b0_3 : Int) : Option PO :=
  bif decide (t8 < t7) then
    J4 (t0, t8, t7, t8, b0_0, b0_1, b0_2, b0_3, ())
  else
    some ((-1), ())
noncomputable def F4 (J2 : P2 → Option PO) (t0 : List (Int × Int × Int × Int)) (t5 : Int) (t7 : Int) (t8 : Int) (b0_0 : Int) (b0_1 : Int) (b0_2 : Int) (b0_3 : Int) : Option PO :=
  bif inb t5 t0.length then
    bif ((b0_0 == (t0.getD t5.toNat (0, 0, 0, 0)).1) && ((b0_1 == (t0.getD t5.toNat (0, 0, 0, 0)).2.1) && ((b0_2 == (t0.getD t5.toNat (0, 0, 0, 0)).2.2.1) && (b0_3 == (t0.getD t5.toNat (0, 0, 0, 0)).2.2.2)))) then
      some (t5, ())
    else
      J2 (t0, t7, wI (t8 + 1), b0_0, b0_1, b0_2, b0_3, ())
  else
    none
noncomputable def hd {R : Type} : Hand R := handNil
noncomputable def pg (J2 : List Item → P2 → Option PO) (J4 : List Item → P4 → Option PO) : Prog PO := { nt := 19, np := 2, tb := tabOf tab, hd := hd, cuts := cutsOf [(2, cut p2 J2), (4, cut p4 J4)], fin := endOf (tabOf tab) rs 2 pout }
noncomputable def q : FuncId → Bool := fun f => hasId [] f
theorem seg0 (J2 : List Item → P2 → Option PO) (J4 : List Item → P4 → Option PO) (x0 : List (Int × Int × Int × Int)) (x1 : Int × Int × Int × Int) : arun (pg J2 J4) 5000 [.code c0] (mk pin (x0, x1, ())) = F0 (J2 T2) x0 x1 := by kernel_rfl
theorem seg2 (J2 : List Item → P2 → Option PO) (J4 : List Item → P4 → Option PO) (t0 : List (Int × Int × Int × Int)) (t7 : Int) (t8 : Int) (b0_0 : Int) (b0_1 : Int) (b0_2 : Int) (b0_3 : Int) : arun1 (pg J2 J4) 5000 T2 (mk p2 (t0, t7, t8, b0_0, b0_1, b0_2, b0_3, ())) = F2 (J4 T4) t0 t7 t8 b0_0 b0_1 b0_2 b0_3 := by kernel_rfl
theorem seg4 (J2 : List Item → P2 → Option PO) (J4 : List Item → P4 → Option PO) (t0 : List (Int × Int × Int × Int)) (t5 : Int) (t7 : Int) (t8 : Int) (b0_0 : Int) (b0_1 : Int) (b0_2 : Int) (b0_3 : Int) : arunQ (pg J2 J4) q [] [] 5000 T4 (mk p4 (t0, t5, t7, t8, b0_0, b0_1, b0_2, b0_3, ())) = List.replicate (arunQ (pg J2 J4) q [] [] 5000 T4 (mk p4 (t0, t5, t7, t8, b0_0, b0_1, b0_2, b0_3, ()))).length (F4 (J2 T2) t0 t5 t7 t8 b0_0 b0_1 b0_2 b0_3) := by kernel_rfl
noncomputable def L4 (J2 : P2 → Option PO) : P4 → Option PO := fun x => F4 J2 x.1 x.2.1 x.2.2.1 x.2.2.2.1 x.2.2.2.2.1 x.2.2.2.2.2.1 x.2.2.2.2.2.2.1 x.2.2.2.2.2.2.2.1
noncomputable def L2 : P2 → Option PO := lfp fun J2 x => F2 (L4 J2) x.1 x.2.1 x.2.2.1 x.2.2.2.1 x.2.2.2.2.1 x.2.2.2.2.2.1 x.2.2.2.2.2.2.1
noncomputable def impl : PI → Option PO := fun x => F0 L2 x.1 x.2.1
theorem F4_le {J2 J2' : P2 → Option PO} (h2 : OLe J2 J2') (t0 : List (Int × Int × Int × Int)) (t5 : Int) (t7 : Int) (t8 : Int) (b0_0 : Int) (b0_1 : Int) (b0_2 : Int) (b0_3 : Int) : OptLe (F4 J2 t0 t5 t7 t8 b0_0 b0_1 b0_2 b0_3) (F4 J2' t0 t5 t7 t8 b0_0 b0_1 b0_2 b0_3) := by unfold F4; exact .cond (.cond (.refl _) (.of h2 _)) (.refl _)
theorem F2_le {J4 J4' : P4 → Option PO} (h4 : OLe J4 J4') (t0 : List (Int × Int × Int × Int)) (t7 : Int) (t8 : Int) (b0_0 : Int) (b0_1 : Int) (b0_2 : Int) (b0_3 : Int) : OptLe (F2 J4 t0 t7 t8 b0_0 b0_1 b0_2 b0_3) (F2 J4' t0 t7 t8 b0_0 b0_1 b0_2 b0_3) := by unfold F2; exact .cond (.of h4 _) (.refl _)
theorem L4_eq (J2 : P2 → Option PO) (t0 : List (Int × Int × Int × Int)) (t5 : Int) (t7 : Int) (t8 : Int) (b0_0 : Int) (b0_1 : Int) (b0_2 : Int) (b0_3 : Int) : L4 J2 (t0, t5, t7, t8, b0_0, b0_1, b0_2, b0_3, ()) = F4 J2 t0 t5 t7 t8 b0_0 b0_1 b0_2 b0_3 := rfl
theorem L4_le {J2 J2' : P2 → Option PO} (h2 : OLe J2 J2') : OLe (L4 J2) (L4 J2') := fun x => F4_le h2 x.1 x.2.1 x.2.2.1 x.2.2.2.1 x.2.2.2.2.1 x.2.2.2.2.2.1 x.2.2.2.2.2.2.1 x.2.2.2.2.2.2.2.1
theorem L2_mono : OMono fun J2 (x : P2) => F2 (L4 J2) x.1 x.2.1 x.2.2.1 x.2.2.2.1 x.2.2.2.2.1 x.2.2.2.2.2.1 x.2.2.2.2.2.2.1 := fun J J' h2 x => F2_le (L4_le h2) x.1 x.2.1 x.2.2.1 x.2.2.2.1 x.2.2.2.2.1 x.2.2.2.2.2.1 x.2.2.2.2.2.2.1
theorem L2_eq (t0 : List (Int × Int × Int × Int)) (t7 : Int) (t8 : Int) (b0_0 : Int) (b0_1 : Int) (b0_2 : Int) (b0_3 : Int) : L2 (t0, t7, t8, b0_0, b0_1, b0_2, b0_3, ()) = F2 (L4 (L2)) t0 t7 t8 b0_0 b0_1 b0_2 b0_3 := congrFun (lfp_eq (L2_mono)) _
theorem impl_eq (x0 : List (Int × Int × Int × Int)) (x1 : Int × Int × Int × Int) : impl (x0, x1, ()) = F0 L2 x0 x1 := rfl
theorem con : Con Tryz.prog 109 2 rs.length 2 pin pout impl := by
  refine con_of_run' (nt := 19) (c := c0) tabGood Tryz.func109 (by kernel_rfl) (by kernel_rfl) (by kernel_rfl) (by kernel_rfl) (by kernel_rfl) (by kernel_rfl) (by kernel_rfl) ?_
  intro w0 O y hnp
  generalize hPost : (fun (a' : Act) (w' : World) => ∃ μ' S' st', Rel 19 w0 O μ' S' st' a' w' ∧ endOf (tabOf tab) rs 2 pout st' = some y) = Post
  have fin : ∀ (μ : Id → Option Value) (S : Nat → Prop) (st : St) (a : Act) (w : World), Rel 19 w0 O μ S st a w → endOf (tabOf tab) rs 2 pout st = some y → Post a w := fun μ S st a w h he => by rw [← hPost]; exact ⟨μ, S, st, h, he⟩
  have hp : ∀ (J2 : List Item → P2 → Option PO), ∀ (J4 : List Item → P4 → Option PO), Parts Tryz.prog 109 (pg J2 J4) [(2, cut p2 J2), (4, cut p4 J4)] := fun J2 J4 => ⟨tab_ok tabGood rfl, handNil_ok, rfl⟩
  have g4 : ∀ (J2 : P2 → Option PO), Good Tryz.prog 19 w0 O Post y T2 p2 J2 → Good Tryz.prog 19 w0 O Post y T4 p4 (L4 J2) := fun J2 h2 => good_quiet (hs := hd) (cv' := hd) (Checked.mixed Tryz.checked) (hp (atT T2 J2) (atT T4 (fun _ => none))) handNil_D handNil_nat handNil_nat (runOK_of (hp (atT T2 J2) (atT T4 (fun _ => none))) hnp ⟨cutOK_at h2, cutOK_at (p := p4) (T := T4) (J := fun _ => none) good_none, trivial⟩ fin) (fun x => all_same ⟨_, (seg4 (atT T2 J2) (atT T4 (fun _ => none)) x.1 x.2.1 x.2.2.1 x.2.2.2.1 x.2.2.2.2.1 x.2.2.2.2.2.1 x.2.2.2.2.2.2.1 x.2.2.2.2.2.2.2.1).trans (by simp only [atT_self] <;> rfl)⟩)
  have g2 : Good Tryz.prog 19 w0 O Post y T2 p2 L2 := good_lfp fun J2 h2 => good_part (hp (atT T2 (fun _ => none)) (atT T4 (L4 J2))) (runOK_of (hp (atT T2 (fun _ => none)) (atT T4 (L4 J2))) hnp ⟨cutOK_at (p := p2) (T := T2) (J := fun _ => none) good_none, cutOK_at (g4 J2 h2), trivial⟩ fin) (fun x => (seg2 (atT T2 (fun _ => none)) (atT T4 (L4 J2)) x.1 x.2.1 x.2.2.1 x.2.2.2.1 x.2.2.2.2.1 x.2.2.2.2.2.1 x.2.2.2.2.2.2.1).trans (by simp only [atT_self] <;> rfl))
  exact good_first (hp (atT T2 L2) (atT T4 (fun _ => none))) (runOK_of (hp (atT T2 L2) (atT T4 (fun _ => none))) hnp ⟨cutOK_at g2, cutOK_at (p := p4) (T := T4) (J := fun _ => none) good_none, trivial⟩ fin) (fun x => (seg0 (atT T2 L2) (atT T4 (fun _ => none)) x.1 x.2.1).trans (by simp only [atT_self] <;> rfl))
end slices_Index_of_1

/-! ### (*loop.example/wholecheck/impl.scan).put -/
namespace impl_scan_put
noncomputable abbrev c0 : Code := (Tryz.f64.body).getD .skip
noncomputable abbrev pin : Tpl := ⟨[⟨0, false, [.ptr 500001 0]⟩, ⟨1, true, [.d (.prod (.int .i64) (.prod (.int .i64) (.prod (.int .i64) (.last (.int .i64)))))]⟩], [(500001, .box [.d (.sl .str), .d .str, .d (.int .i64), .row 500002]), (500002, .row 52 true (.prod (.int .i64) (.prod (.int .i64) (.prod (.int .i64) (.last (.int .i64))))))]⟩
noncomputable abbrev pout : Tpl := ⟨[⟨0, false, [.d (.int .i64)]⟩, ⟨1, false, [.ptr 500001 0]⟩], [(500001, .box [.d (.sl .str), .d .str, .d (.int .i64), .row 500002]), (500002, .row 52 true (.prod (.int .i64) (.prod (.int .i64) (.prod (.int .i64) (.last (.int .i64))))))]⟩
noncomputable abbrev p1 : Tpl := ⟨[⟨0, false, [.ptr 500001 0]⟩, ⟨3, false, [.ptr 3000000 0]⟩], [(500001, .box [.d (.sl .str), .d .str, .d (.int .i64), .row 500002]), (3000000, .box [.d (.int .i64), .d (.int .i64), .d (.int .i64), .d (.int .i64)]), (500002, .row 52 true (.prod (.int .i64) (.prod (.int .i64) (.prod (.int .i64) (.last (.int .i64))))))]⟩
noncomputable def T1 : List Item := (find 1 c0 []).getD []
noncomputable abbrev p4 : Tpl := ⟨[⟨0, false, [.ptr 500001 0]⟩, ⟨3, false, [.ptr 3000000 0]⟩], [(500001, .box [.d (.sl .str), .d .str, .d (.int .i64), .row 500002]), (3000000, .box [.d (.int .i64), .d (.int .i64), .d (.int .i64), .d (.int .i64)]), (500002, .row 52 true (.prod (.int .i64) (.prod (.int .i64) (.prod (.int .i64) (.last (.int .i64))))))]⟩
noncomputable def T4 : List Item := (find 4 c0 []).getD []
noncomputable abbrev PI := (Int × Int × Int × Int) × (List (List UInt8)) × (List UInt8) × Int × (List (Int × Int × Int × Int)) × Unit
noncomputable abbrev PO := Int × (List (List UInt8)) × (List UInt8) × Int × (List (Int × Int × Int × Int)) × Unit
noncomputable abbrev P1 := (List (List UInt8)) × (List UInt8) × Int × Int × Int × Int × Int × (List (Int × Int × Int × Int)) × Unit
noncomputable abbrev P4 := (List (List UInt8)) × (List UInt8) × Int × Int × Int × Int × Int × (List (Int × Int × Int × Int)) × Unit
noncomputable abbrev rs : List ResultVar := [.tmp 4]
noncomputable def F0 (J1 : P1 → Option PO) (x1 : Int × Int × Int × Int) (c1_0 : List (List UInt8)) (c1_1 : List UInt8) (c1_2 : Int) (s2 : List (Int × Int × Int × Int)) : Option PO :=
  J1 (c1_0, c1_1, c1_2, x1.1, x1.2.1, x1.2.2.1, x1.2.2.2, s2, ())
noncomputable def F1 (J4 : P4 → Option PO) (Gslices_Index_of_1 : slices_Index_of_1.PI → Option slices_Index_of_1.PO) (c1_0 : List (List UInt8)) (c1_1 : List UInt8) (c1_2 : Int) (b0_0 : Int) (b0_1 : Int) (b0_2 : Int) (b0_3 : Int) (s2 : List (Int × Int × Int × Int)) : Option PO :=
  Option.bind (Gslices_Index_of_1 (s2, (b0_0, b0_1, b0_2, b0_3), ())) fun y0 =>
  bif decide (y0.1 ≥ 0) then
    some (y0.1, c1_0, c1_1, c1_2, s2, ())
  else
    J4 (c1_0, c1_1, c1_2, b0_0, b0_1, b0_2, b0_3, s2, ())
noncomputable def F4 (c1_0 : List (List UInt8)) (c1_1 : List UInt8) (c1_2 : Int) (b0_0 : Int) (b0_1 : Int) (b0_2 : Int) (b0_3 : Int) (s2 : List (Int × Int × Int × Int)) : Option PO :=
  bif decide ((s2.length + ([(b0_0, b0_1, b0_2, b0_3)] : List (Int × Int × Int × Int)).length) * 32 ≤ 140737488355328) then
    some (wI (((s2 ++ ([(b0_0, b0_1, b0_2, b0_3)] : List (Int × Int × Int × Int))).length : Int) - 1), c1_0, c1_1, c1_2, s2 ++ ([(b0_0, b0_1, b0_2, b0_3)] : List (Int × Int × Int × Int)), ())
  else
    none
noncomputable def hd {R : Type} (Gslices_Index_of_1 : slices_Index_of_1.PI → Option slices_Index_of_1.PO) : Hand R := (handAt 109 [11] true ⟨2, 1, 2, slices_Index_of_1.pin, slices_Index_of_1.pout, Gslices_Index_of_1⟩ handNil)
noncomputable def pg (Gslices_Index_of_1 : slices_Index_of_1.PI → Option slices_Index_of_1.PO) (J1 : List Item → P1 → Option PO) (J4 : List Item → P4 → Option PO) : Prog PO := { nt := 31, np := 2, tb := tabOf tab, hd := hd Gslices_Index_of_1, cuts := cutsOf [(1, cut p1 J1), (4, cut p4 J4)], fin := endOf (tabOf tab) rs 2 pout }
noncomputable def q : FuncId → Bool := fun f => hasId [109] f
theorem seg0 (Gslices_Index_of_1 : slices_Index_of_1.PI → Option slices_Index_of_1.PO) (J1 : List Item → P1 → Option PO) (J4 : List Item → P4 → Option PO) (x1 : Int × Int × Int × Int) (c1_0 : List (List UInt8)) (c1_1 : List UInt8) (c1_2 : Int) (s2 : List (Int × Int × Int × Int)) : arun (pg Gslices_Index_of_1 J1 J4) 5000 [.code c0] (mk pin (x1, c1_0, c1_1, c1_2, s2, ())) = F0 (J1 T1) x1 c1_0 c1_1 c1_2 s2 := by kernel_rfl
theorem seg1 (Gslices_Index_of_1 : slices_Index_of_1.PI → Option slices_Index_of_1.PO) (J1 : List Item → P1 → Option PO) (J4 : List Item → P4 → Option PO) (c1_0 : List (List UInt8)) (c1_1 : List UInt8) (c1_2 : Int) (b0_0 : Int) (b0_1 : Int) (b0_2 : Int) (b0_3 : Int) (s2 : List (Int × Int × Int × Int)) : arunQ (pg Gslices_Index_of_1 J1 J4) q [] [] 5000 T1 (mk p1 (c1_0, c1_1, c1_2, b0_0, b0_1, b0_2, b0_3, s2, ())) = List.replicate (arunQ (pg Gslices_Index_of_1 J1 J4) q [] [] 5000 T1 (mk p1 (c1_0, c1_1, c1_2, b0_0, b0_1, b0_2, b0_3, s2, ()))).length (F1 (J4 T4) Gslices_Index_of_1 c1_0 c1_1 c1_2 b0_0 b0_1 b0_2 b0_3 s2) := by kernel_rfl
theorem seg4 (Gslices_Index_of_1 : slices_Index_of_1.PI → Option slices_Index_of_1.PO) (J1 : List Item → P1 → Option PO) (J4 : List Item → P4 → Option PO) (c1_0 : List (List UInt8)) (c1_1 : List UInt8) (c1_2 : Int) (b0_0 : Int) (b0_1 : Int) (b0_2 : Int) (b0_3 : Int) (s2 : List (Int × Int × Int × Int)) : arunE (pg Gslices_Index_of_1 J1 J4) 5000 T4 (mk p4 (c1_0, c1_1, c1_2, b0_0, b0_1, b0_2, b0_3, s2, ())) = List.replicate (arunE (pg Gslices_Index_of_1 J1 J4) 5000 T4 (mk p4 (c1_0, c1_1, c1_2, b0_0, b0_1, b0_2, b0_3, s2, ()))).length (F4 c1_0 c1_1 c1_2 b0_0 b0_1 b0_2 b0_3 s2) := by kernel_rfl
noncomputable def L4 : P4 → Option PO := fun x => F4 x.1 x.2.1 x.2.2.1 x.2.2.2.1 x.2.2.2.2.1 x.2.2.2.2.2.1 x.2.2.2.2.2.2.1 x.2.2.2.2.2.2.2.1
noncomputable def L1 : P1 → Option PO := fun x => F1 L4 slices_Index_of_1.impl x.1 x.2.1 x.2.2.1 x.2.2.2.1 x.2.2.2.2.1 x.2.2.2.2.2.1 x.2.2.2.2.2.2.1 x.2.2.2.2.2.2.2.1
noncomputable def impl : PI → Option PO := fun x => F0 L1 x.1 x.2.1 x.2.2.1 x.2.2.2.1 x.2.2.2.2.1
theorem L4_eq (c1_0 : List (List UInt8)) (c1_1 : List UInt8) (c1_2 : Int) (b0_0 : Int) (b0_1 : Int) (b0_2 : Int) (b0_3 : Int) (s2 : List (Int × Int × Int × Int)) : L4 (c1_0, c1_1, c1_2, b0_0, b0_1, b0_2, b0_3, s2, ()) = F4 c1_0 c1_1 c1_2 b0_0 b0_1 b0_2 b0_3 s2 := rfl
theorem L1_eq (c1_0 : List (List UInt8)) (c1_1 : List UInt8) (c1_2 : Int) (b0_0 : Int) (b0_1 : Int) (b0_2 : Int) (b0_3 : Int) (s2 : List (Int × Int × Int × Int)) : L1 (c1_0, c1_1, c1_2, b0_0, b0_1, b0_2, b0_3, s2, ()) = F1 (L4) slices_Index_of_1.impl c1_0 c1_1 c1_2 b0_0 b0_1 b0_2 b0_3 s2 := rfl
theorem impl_eq (x1 : Int × Int × Int × Int) (c1_0 : List (List UInt8)) (c1_1 : List UInt8) (c1_2 : Int) (s2 : List (Int × Int × Int × Int)) : impl (x1, c1_0, c1_1, c1_2, s2, ()) = F0 L1 x1 c1_0 c1_1 c1_2 s2 := rfl
theorem con : Con Tryz.prog 64 2 rs.length 2 pin pout impl := by
  refine con_of_run' (nt := 31) (c := c0) tabGood Tryz.func64 (by kernel_rfl) (by kernel_rfl) (by kernel_rfl) (by kernel_rfl) (by kernel_rfl) (by kernel_rfl) (by kernel_rfl) ?_
  intro w0 O y hnp
  generalize hPost : (fun (a' : Act) (w' : World) => ∃ μ' S' st', Rel 31 w0 O μ' S' st' a' w' ∧ endOf (tabOf tab) rs 2 pout st' = some y) = Post
  have fin : ∀ (μ : Id → Option Value) (S : Nat → Prop) (st : St) (a : Act) (w : World), Rel 31 w0 O μ S st a w → endOf (tabOf tab) rs 2 pout st = some y → Post a w := fun μ S st a w h he => by rw [← hPost]; exact ⟨μ, S, st, h, he⟩
  have hp : ∀ (J1 : List Item → P1 → Option PO), ∀ (J4 : List Item → P4 → Option PO), Parts Tryz.prog 64 (pg slices_Index_of_1.impl J1 J4) [(1, cut p1 J1), (4, cut p4 J4)] := fun J1 J4 => ⟨tab_ok tabGood rfl, (handAt_ok slices_Index_of_1.con handNil_ok), rfl⟩
  have g4 : Good Tryz.prog 31 w0 O Post y T4 p4 L4 := good_orders (hs := hd slices_Index_of_1.impl) (cv' := hd slices_Index_of_1.impl) (Checked.mixed Tryz.checked) (hp (atT T1 (fun _ => none)) (atT T4 (fun _ => none))) (handAt_ok slices_Index_of_1.con handNil_ok) (handAt_nat handNil_nat) (handAt_nat handNil_nat) (runOK_of (hp (atT T1 (fun _ => none)) (atT T4 (fun _ => none))) hnp ⟨cutOK_at (p := p1) (T := T1) (J := fun _ => none) good_none, cutOK_at (p := p4) (T := T4) (J := fun _ => none) good_none, trivial⟩ fin) (fun x => all_same ⟨_, (seg4 slices_Index_of_1.impl (atT T1 (fun _ => none)) (atT T4 (fun _ => none)) x.1 x.2.1 x.2.2.1 x.2.2.2.1 x.2.2.2.2.1 x.2.2.2.2.2.1 x.2.2.2.2.2.2.1 x.2.2.2.2.2.2.2.1)⟩)
  have g1 : Good Tryz.prog 31 w0 O Post y T1 p1 L1 := good_quiet (hs := hd slices_Index_of_1.impl) (cv' := hd slices_Index_of_1.impl) (Checked.mixed Tryz.checked) (hp (atT T1 (fun _ => none)) (atT T4 L4)) (handAt_D slices_Index_of_1.con (by rfl) rfl handNil_D) (handAt_nat handNil_nat) (handAt_nat handNil_nat) (runOK_of (hp (atT T1 (fun _ => none)) (atT T4 L4)) hnp ⟨cutOK_at (p := p1) (T := T1) (J := fun _ => none) good_none, cutOK_at g4, trivial⟩ fin) (fun x => all_same ⟨_, (seg1 slices_Index_of_1.impl (atT T1 (fun _ => none)) (atT T4 L4) x.1 x.2.1 x.2.2.1 x.2.2.2.1 x.2.2.2.2.1 x.2.2.2.2.2.1 x.2.2.2.2.2.2.1 x.2.2.2.2.2.2.2.1).trans (by simp only [atT_self] <;> rfl)⟩)
  exact good_first (hp (atT T1 L1) (atT T4 (fun _ => none))) (runOK_of (hp (atT T1 L1) (atT T4 (fun _ => none))) hnp ⟨cutOK_at g1, cutOK_at (p := p4) (T := T4) (J := fun _ => none) good_none, trivial⟩ fin) (fun x => (seg0 slices_Index_of_1.impl (atT T1 L1) (atT T4 (fun _ => none)) x.1 x.2.1 x.2.2.1 x.2.2.2.1 x.2.2.2.2.1).trans (by simp only [atT_self] <;> rfl))
end impl_scan_put

/-! ### internal/stringslite.HasPrefix -/
namespace internal_stringslite_HasPrefix
noncomputable abbrev c0 : Code := (Tryz.f199.body).getD .skip
noncomputable abbrev pin : Tpl := ⟨[⟨0, false, [.d .str]⟩, ⟨1, false, [.d .str]⟩], []⟩
noncomputable abbrev pout : Tpl := ⟨[⟨0, false, [.d .bool]⟩], []⟩
noncomputable abbrev PI := (List UInt8) × (List UInt8) × Unit
noncomputable abbrev PO := Bool × Unit
noncomputable abbrev rs : List ResultVar := [.tmp 4]
noncomputable def F0 (x0 : List UInt8) (x1 : List UInt8) : Option PO :=
  bif decide ((x0.length : Int) ≥ (x1.length : Int)) then
    bif decide (0 ≤ (x1.length : Int)) && decide ((x1.length : Int) ≤ (x0.length : Int)) then
      some (((x0.take (x1.length : Int).toNat).drop 0) == x1, ())
    else
      none
  else
    some (false, ())
noncomputable def hd {R : Type} : Hand R := handNil
noncomputable def pg : Prog PO := { nt := 18, np := 2, tb := tabOf tab, hd := hd, cuts := cutsOf [], fin := endOf (tabOf tab) rs 2 pout }
noncomputable def q : FuncId → Bool := fun f => hasId [] f
theorem seg0 (x0 : List UInt8) (x1 : List UInt8) : arun (pg) 5000 [.code c0] (mk pin (x0, x1, ())) = F0 x0 x1 := by kernel_rfl
noncomputable def impl : PI → Option PO := fun x => F0 x.1 x.2.1
theorem impl_eq (x0 : List UInt8) (x1 : List UInt8) : impl (x0, x1, ()) = F0 x0 x1 := rfl
theorem con : Con Tryz.prog 199 2 rs.length 2 pin pout impl := by
  refine con_of_run' (nt := 18) (c := c0) tabGood Tryz.func199 (by kernel_rfl) (by kernel_rfl) (by kernel_rfl) (by kernel_rfl) (by kernel_rfl) (by kernel_rfl) (by kernel_rfl) ?_
  intro w0 O y hnp
  generalize hPost : (fun (a' : Act) (w' : World) => ∃ μ' S' st', Rel 18 w0 O μ' S' st' a' w' ∧ endOf (tabOf tab) rs 2 pout st' = some y) = Post
  have fin : ∀ (μ : Id → Option Value) (S : Nat → Prop) (st : St) (a : Act) (w : World), Rel 18 w0 O μ S st a w → endOf (tabOf tab) rs 2 pout st = some y → Post a w := fun μ S st a w h he => by rw [← hPost]; exact ⟨μ, S, st, h, he⟩
  have hp : Parts Tryz.prog 199 (pg) [] := ⟨tab_ok tabGood rfl, handNil_ok, rfl⟩
  exact good_first (hp) (runOK_of (hp) hnp trivial fin) (fun x => (seg0 x.1 x.2.1))
end internal_stringslite_HasPrefix

/-! ### strings.HasPrefix -/
namespace strings_HasPrefix
noncomputable abbrev c0 : Code := (Tryz.f180.body).getD .skip
noncomputable abbrev pin : Tpl := ⟨[⟨0, false, [.d .str]⟩, ⟨1, false, [.d .str]⟩], []⟩
noncomputable abbrev pout : Tpl := ⟨[⟨0, false, [.d .bool]⟩], []⟩
noncomputable abbrev PI := (List UInt8) × (List UInt8) × Unit
noncomputable abbrev PO := Bool × Unit
noncomputable abbrev rs : List ResultVar := [.tmp 4]
noncomputable def F0 (Ginternal_stringslite_HasPrefix : internal_stringslite_HasPrefix.PI → Option internal_stringslite_HasPrefix.PO) (x0 : List UInt8) (x1 : List UInt8) : Option PO :=
  Option.bind (Ginternal_stringslite_HasPrefix (x0, x1, ())) fun y0 =>
  some (y0.1, ())
noncomputable def hd {R : Type} (Ginternal_stringslite_HasPrefix : internal_stringslite_HasPrefix.PI → Option internal_stringslite_HasPrefix.PO) : Hand R := (handAt 199 [7] true ⟨2, 1, 2, internal_stringslite_HasPrefix.pin, internal_stringslite_HasPrefix.pout, Ginternal_stringslite_HasPrefix⟩ handNil)
noncomputable def pg (Ginternal_stringslite_HasPrefix : internal_stringslite_HasPrefix.PI → Option internal_stringslite_HasPrefix.PO) : Prog PO := { nt := 8, np := 2, tb := tabOf tab, hd := hd Ginternal_stringslite_HasPrefix, cuts := cutsOf [], fin := endOf (tabOf tab) rs 2 pout }
noncomputable def q : FuncId → Bool := fun f => hasId [199] f
theorem seg0 (Ginternal_stringslite_HasPrefix : internal_stringslite_HasPrefix.PI → Option internal_stringslite_HasPrefix.PO) (x0 : List UInt8) (x1 : List UInt8) : arun (pg Ginternal_stringslite_HasPrefix) 5000 [.code c0] (mk pin (x0, x1, ())) = F0 Ginternal_stringslite_HasPrefix x0 x1 := by kernel_rfl
noncomputable def impl : PI → Option PO := fun x => F0 internal_stringslite_HasPrefix.impl x.1 x.2.1
theorem impl_eq (x0 : List UInt8) (x1 : List UInt8) : impl (x0, x1, ()) = F0 internal_stringslite_HasPrefix.impl x0 x1 := rfl
theorem con : Con Tryz.prog 180 2 rs.length 2 pin pout impl := by
  refine con_of_run' (nt := 8) (c := c0) tabGood Tryz.func180 (by kernel_rfl) (by kernel_rfl) (by kernel_rfl) (by kernel_rfl) (by kernel_rfl) (by kernel_rfl) (by kernel_rfl) ?_
  intro w0 O y hnp
  generalize hPost : (fun (a' : Act) (w' : World) => ∃ μ' S' st', Rel 8 w0 O μ' S' st' a' w' ∧ endOf (tabOf tab) rs 2 pout st' = some y) = Post
  have fin : ∀ (μ : Id → Option Value) (S : Nat → Prop) (st : St) (a : Act) (w : World), Rel 8 w0 O μ S st a w → endOf (tabOf tab) rs 2 pout st = some y → Post a w := fun μ S st a w h he => by rw [← hPost]; exact ⟨μ, S, st, h, he⟩
  have hp : Parts Tryz.prog 180 (pg internal_stringslite_HasPrefix.impl) [] := ⟨tab_ok tabGood rfl, (handAt_ok internal_stringslite_HasPrefix.con handNil_ok), rfl⟩
  exact good_first (hp) (runOK_of (hp) hnp trivial fin) (fun x => (seg0 internal_stringslite_HasPrefix.impl x.1 x.2.1))
end strings_HasPrefix

/-! ### (*loop.example/wholecheck/impl.scan).take -/
namespace impl_scan_take
noncomputable abbrev c0 : Code := (Tryz.f153.body).getD .skip
noncomputable abbrev pin : Tpl := ⟨[⟨0, false, [.ptr 500001 0]⟩, ⟨1, false, [.d .str]⟩], [(500001, .box [.d (.sl .str), .d .str, .d (.int .i64), .row 500002]), (500002, .row 52 true (.prod (.int .i64) (.prod (.int .i64) (.prod (.int .i64) (.last (.int .i64))))))]⟩
noncomputable abbrev pout : Tpl := ⟨[⟨0, false, [.d .bool]⟩, ⟨1, false, [.ptr 500001 0]⟩], [(500001, .box [.d (.sl .str), .d .str, .d (.int .i64), .row 500002]), (500002, .row 52 true (.prod (.int .i64) (.prod (.int .i64) (.prod (.int .i64) (.last (.int .i64))))))]⟩
noncomputable abbrev p1 : Tpl := ⟨[⟨0, false, [.ptr 500001 0]⟩, ⟨1, false, [.d .str]⟩], [(500001, .box [.d (.sl .str), .d .str, .d (.int .i64), .row 500002]), (500002, .row 52 true (.prod (.int .i64) (.prod (.int .i64) (.prod (.int .i64) (.last (.int .i64))))))]⟩
noncomputable def T1 : List Item := (find 1 c0 []).getD []
noncomputable abbrev PI := (List UInt8) × (List (List UInt8)) × (List UInt8) × Int × (List (Int × Int × Int × Int)) × Unit
noncomputable abbrev PO := Bool × (List (List UInt8)) × (List UInt8) × Int × (List (Int × Int × Int × Int)) × Unit
noncomputable abbrev P1 := (List UInt8) × (List (List UInt8)) × (List UInt8) × Int × (List (Int × Int × Int × Int)) × Unit
noncomputable abbrev rs : List ResultVar := [.tmp 4]
noncomputable def F0 (J1 : P1 → Option PO) (x1 : List UInt8) (c1_0 : List (List UInt8)) (c1_1 : List UInt8) (c1_2 : Int) (s2 : List (Int × Int × Int × Int)) : Option PO :=
  J1 (x1, c1_0, c1_1, c1_2, s2, ())
noncomputable def F1 (Gstrings_HasPrefix : strings_HasPrefix.PI → Option strings_HasPrefix.PO) (t1 : List UInt8) (c1_0 : List (List UInt8)) (c1_1 : List UInt8) (c1_2 : Int) (s2 : List (Int × Int × Int × Int)) : Option PO :=
  bif decide (0 ≤ c1_2) && decide (c1_2 ≤ (c1_1.length : Int)) && decide ((c1_1.length : Int) ≤ (c1_1.length : Int)) then
    Option.bind (Gstrings_HasPrefix ((c1_1.take (c1_1.length : Int).toNat).drop c1_2.toNat, t1, ())) fun y0 =>
    bif !y0.1 then
      some (false, c1_0, c1_1, c1_2, s2, ())
    else
      some (true, c1_0, c1_1, wI (c1_2 + (t1.length : Int)), s2, ())
  else
    none
noncomputable def hd {R : Type} (Gstrings_HasPrefix : strings_HasPrefix.PI → Option strings_HasPrefix.PO) : Hand R := (handAt 180 [15] true ⟨2, 1, 2, strings_HasPrefix.pin, strings_HasPrefix.pout, Gstrings_HasPrefix⟩ handNil)
noncomputable def pg (Gstrings_HasPrefix : strings_HasPrefix.PI → Option strings_HasPrefix.PO) (J1 : List Item → P1 → Option PO) : Prog PO := { nt := 26, np := 2, tb := tabOf tab, hd := hd Gstrings_HasPrefix, cuts := cutsOf [(1, cut p1 J1)], fin := endOf (tabOf tab) rs 2 pout }
noncomputable def q : FuncId → Bool := fun f => hasId [180] f
theorem seg0 (Gstrings_HasPrefix : strings_HasPrefix.PI → Option strings_HasPrefix.PO) (J1 : List Item → P1 → Option PO) (x1 : List UInt8) (c1_0 : List (List UInt8)) (c1_1 : List UInt8) (c1_2 : Int) (s2 : List (Int × Int × Int × Int)) : arun (pg Gstrings_HasPrefix J1) 5000 [.code c0] (mk pin (x1, c1_0, c1_1, c1_2, s2, ())) = F0 (J1 T1) x1 c1_0 c1_1 c1_2 s2 := by kernel_rfl
theorem seg1 (Gstrings_HasPrefix : strings_HasPrefix.PI → Option strings_HasPrefix.PO) (J1 : List Item → P1 → Option PO) (t1 : List UInt8) (c1_0 : List (List UInt8)) (c1_1 : List UInt8) (c1_2 : Int) (s2 : List (Int × Int × Int × Int)) : arunQ (pg Gstrings_HasPrefix J1) q [] [] 5000 T1 (mk p1 (t1, c1_0, c1_1, c1_2, s2, ())) = List.replicate (arunQ (pg Gstrings_HasPrefix J1) q [] [] 5000 T1 (mk p1 (t1, c1_0, c1_1, c1_2, s2, ()))).length (F1 Gstrings_HasPrefix t1 c1_0 c1_1 c1_2 s2) := by kernel_rfl
noncomputable def L1 : P1 → Option PO := fun x => F1 strings_HasPrefix.impl x.1 x.2.1 x.2.2.1 x.2.2.2.1 x.2.2.2.2.1
noncomputable def impl : PI → Option PO := fun x => F0 L1 x.1 x.2.1 x.2.2.1 x.2.2.2.1 x.2.2.2.2.1
theorem L1_eq (t1 : List UInt8) (c1_0 : List (List UInt8)) (c1_1 : List UInt8) (c1_2 : Int) (s2 : List (Int × Int × Int × Int)) : L1 (t1, c1_0, c1_1, c1_2, s2, ()) = F1 strings_HasPrefix.impl t1 c1_0 c1_1 c1_2 s2 := rfl
theorem impl_eq (x1 : List UInt8) (c1_0 : List (List UInt8)) (c1_1 : List UInt8) (c1_2 : Int) (s2 : List (Int × Int × Int × Int)) : impl (x1, c1_0, c1_1, c1_2, s2, ()) = F0 L1 x1 c1_0 c1_1 c1_2 s2 := rfl
theorem con : Con Tryz.prog 153 2 rs.length 2 pin pout impl := by
  refine con_of_run' (nt := 26) (c := c0) tabGood Tryz.func153 (by kernel_rfl) (by kernel_rfl) (by kernel_rfl) (by kernel_rfl) (by kernel_rfl) (by kernel_rfl) (by kernel_rfl) ?_
  intro w0 O y hnp
  generalize hPost : (fun (a' : Act) (w' : World) => ∃ μ' S' st', Rel 26 w0 O μ' S' st' a' w' ∧ endOf (tabOf tab) rs 2 pout st' = some y) = Post
  have fin : ∀ (μ : Id → Option Value) (S : Nat → Prop) (st : St) (a : Act) (w : World), Rel 26 w0 O μ S st a w → endOf (tabOf tab) rs 2 pout st = some y → Post a w := fun μ S st a w h he => by rw [← hPost]; exact ⟨μ, S, st, h, he⟩
  have hp : ∀ (J1 : List Item → P1 → Option PO), Parts Tryz.prog 153 (pg strings_HasPrefix.impl J1) [(1, cut p1 J1)] := fun J1 => ⟨tab_ok tabGood rfl, (handAt_ok strings_HasPrefix.con handNil_ok), rfl⟩
  have g1 : Good Tryz.prog 26 w0 O Post y T1 p1 L1 := good_quiet (hs := hd strings_HasPrefix.impl) (cv' := hd strings_HasPrefix.impl) (Checked.mixed Tryz.checked) (hp (atT T1 (fun _ => none))) (handAt_D strings_HasPrefix.con (by rfl) rfl handNil_D) (handAt_nat handNil_nat) (handAt_nat handNil_nat) (runOK_of (hp (atT T1 (fun _ => none))) hnp ⟨cutOK_at (p := p1) (T := T1) (J := fun _ => none) good_none, trivial⟩ fin) (fun x => all_same ⟨_, (seg1 strings_HasPrefix.impl (atT T1 (fun _ => none)) x.1 x.2.1 x.2.2.1 x.2.2.2.1 x.2.2.2.2.1)⟩)
  exact good_first (hp (atT T1 L1)) (runOK_of (hp (atT T1 L1)) hnp ⟨cutOK_at g1, trivial⟩ fin) (fun x => (seg0 strings_HasPrefix.impl (atT T1 L1) x.1 x.2.1 x.2.2.1 x.2.2.2.1 x.2.2.2.2.1).trans (by simp only [atT_self] <;> rfl))
end impl_scan_take
end Go.Proofs.YtfjnckjkpkhbdaaGreatDoorB
