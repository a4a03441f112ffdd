/- PRINTED BY A PROGRAM OF THIS CLAIM'S AUTHOR (wip/gen): functions of the given program, their parts, their contracts. -/
import Derived.Test.YtfjnckjkpkhbdaaGreatDoorB34
import Derived.Test.YtfjnckjkpkhbdaaGreatDoorB39
import Derived.Test.YtfjnckjkpkhbdaaGreatDoorChecked
import Derived.Test.YtfjnckjkpkhbdaaGreatDoorLFnLists
set_option linter.unusedVariables false
set_option linter.unusedSimpArgs false
set_option maxRecDepth 100000
namespace Go.Proofs.YtfjnckjkpkhbdaaGreatDoorB
open Go
def tab : Tab := [(3, { kind := .scalar, zero := [.d (.int .i64) (0 : Int)], bytes := 8, data := some (.int .i64), eqf := none }),
  (4, { kind := .scalar, zero := [.d .bool false], bytes := 1, data := some .bool, eqf := none }),
  (5, { kind := .scalar, zero := [.d (.int .u8) (0 : Int)], bytes := 1, data := some (.int .u8), eqf := none }),
  (9, { kind := .scalar, zero := [.d .str ([] : List UInt8)], bytes := 16, data := some .str, eqf := none }),
  (22, { kind := .slice 9, zero := [.nilS], bytes := 24, data := some (.sl .str), eqf := none }),
  (42, { kind := .slice 5, zero := [.nilS], bytes := 24, data := some (.sl (.int .u8)), eqf := none }),
  (53, { kind := .slice 3, zero := [.nilS], bytes := 24, data := some (.sl (.int .i64)), eqf := none }),
  (86, { kind := .iface, zero := [.nilif], bytes := 16, data := none, eqf := none }),
  (145, { kind := .struct [(0, 1), (1, 1)], zero := [.nilS, .d (.int .i64) (0 : Int)], bytes := 32, data := some (.prod (.sl (.int .u8)) (.last (.int .i64))), eqf := none })]
theorem tabGood : tabB Tryz.prog tab = true := by kernel_rfl

/-! ### loop.example/wholecheck/spec.l40Open -/
namespace spec_l40Open
noncomputable abbrev c0 : Code := (Tryz.f51.body).getD .skip
noncomputable abbrev pin : Tpl := ⟨[⟨0, false, [.d (.sl (.int .u8))]⟩], []⟩
noncomputable abbrev pout : Tpl := ⟨[⟨0, false, [.ptr 600001 0]⟩], [(600001, .box [.d (.sl (.int .u8)), .d (.int .i64)])]⟩
noncomputable abbrev PI := (List Int) × Unit
noncomputable abbrev PO := (List Int) × Int × Unit
noncomputable abbrev rs : List ResultVar := [.tmp 2]
noncomputable def F0 (x0 : List Int) : Option PO :=
  bif decide ((x0.length : Int) > 2000) then
    bif decide (2000 ≤ (x0.length : Int)) then
      some ((x0.take 2000).drop 0, 0, ())
    else
      none
  else
    some (x0, 0, ())
noncomputable def hd {R : Type} : Hand R := handNil
noncomputable def pg : Prog PO := { nt := 11, np := 0, tb := tabOf tab, hd := hd, cuts := cutsOf [], fin := endOf (tabOf tab) rs 0 pout }
noncomputable def q : FuncId → Bool := fun f => hasId [] f
theorem seg0 (x0 : List Int) : arun (pg) 5000 [.code c0] (mk pin (x0, ())) = F0 x0 := by kernel_rfl
noncomputable def impl : PI → Option PO := fun x => F0 x.1
theorem impl_eq (x0 : List Int) : impl (x0, ()) = F0 x0 := rfl
theorem con : Con Tryz.prog 51 1 rs.length 0 pin pout impl := by
  refine con_of_run' (nt := 11) (c := c0) tabGood Tryz.func51 (by kernel_rfl) (by kernel_rfl) (by kernel_rfl) (by kernel_rfl) (by kernel_rfl) (by kernel_rfl) (by kernel_rfl) ?_
  intro w0 O y hnp
  generalize hPost : (fun (a' : Act) (w' : World) => ∃ μ' S' st', Rel 11 w0 O μ' S' st' a' w' ∧ endOf (tabOf tab) rs 0 pout st' = some y) = Post
  have fin : ∀ (μ : Id → Option Value) (S : Nat → Prop) (st : St) (a : Act) (w : World), Rel 11 w0 O μ S st a w → endOf (tabOf tab) rs 0 pout st = some y → Post a w := fun μ S st a w h he => by rw [← hPost]; exact ⟨μ, S, st, h, he⟩
  have hp : Parts Tryz.prog 51 (pg) [] := ⟨tab_ok tabGood rfl, handNil_ok, rfl⟩
  exact good_first (hp) (runOK_of (hp) hnp trivial fin) (fun x => (seg0 x.1))
end spec_l40Open

/-! ### (*loop.example/wholecheck/spec.l40Rd).pick -/
namespace spec_l40Rd_pick
noncomputable abbrev c0 : Code := (Tryz.f53.body).getD .skip
noncomputable abbrev pin : Tpl := ⟨[⟨0, false, [.ptr 500001 0]⟩, ⟨1, false, [.d (.int .i64)]⟩], [(500001, .box [.d (.sl (.int .u8)), .d (.int .i64)])]⟩
noncomputable abbrev pout : Tpl := ⟨[⟨0, false, [.d (.int .i64)]⟩, ⟨1, false, [.ptr 500001 0]⟩], [(500001, .box [.d (.sl (.int .u8)), .d (.int .i64)])]⟩
noncomputable abbrev p4 : Tpl := ⟨[⟨0, false, [.ptr 500001 0]⟩, ⟨1, false, [.d (.int .i64)]⟩], [(500001, .box [.d (.sl (.int .u8)), .d (.int .i64)])]⟩
noncomputable def T4 : List Item := (find 4 c0 []).getD []
noncomputable abbrev p7 : Tpl := ⟨[⟨0, false, [.ptr 500001 0]⟩, ⟨1, false, [.d (.int .i64)]⟩, ⟨5, false, [.d (.int .i64)]⟩], [(500001, .box [.d (.sl (.int .u8)), .d (.int .i64)])]⟩
noncomputable def T7 : List Item := (find 7 c0 []).getD []
noncomputable abbrev PI := Int × (List Int) × Int × Unit
noncomputable abbrev PO := Int × (List Int) × Int × Unit
noncomputable abbrev P4 := Int × (List Int) × Int × Unit
noncomputable abbrev P7 := Int × Int × (List Int) × Int × Unit
noncomputable abbrev rs : List ResultVar := [.tmp 4]
noncomputable def F0 (J4 : P4 → Option PO) (x1 : Int) (c1_0 : List Int) (c1_1 : Int) : Option PO :=
  bif decide (x1 < 1) then
    some (0, c1_0, wI (c1_1 + 1), ())
  else
    bif (c1_0.length : Int) == 0 then
      some (0, c1_0, wI (c1_1 + 1), ())
    else
      J4 (x1, c1_0, wI (c1_1 + 1), ())
noncomputable def F4 (J7 : P7 → Option PO) (t1 : Int) (c1_0 : List Int) (c1_1 : Int) : Option PO :=
  bif decide (wI (c1_1 - 1) < (c1_0.length : Int)) then
    bif inb (wI (c1_1 - 1)) c1_0.length then
      bif decide (t1 = 0) then
        none
      else
        some (Int.tmod (wI (c1_0.getD (wI (c1_1 - 1)).toNat 0)) t1, c1_0, c1_1, ())
    else
      none
  else
    J7 (t1, wI (c1_1 - 1), c1_0, c1_1, ())
noncomputable def F7 (t1 : Int) (t5 : Int) (c1_0 : List Int) (c1_1 : Int) : Option PO :=
  bif decide ((c1_0.length : Int) = 0) then
    none
  else
    bif inb (Int.tmod t5 (c1_0.length : Int)) c1_0.length then
      bif decide ((c1_0.length : Int) = 0) then
        none
      else
        bif inb (Int.tmod (wI ((wI (t5 * 7)) + 3)) (c1_0.length : Int)) c1_0.length then
          bif decide ((c1_0.length : Int) = 0) then
            none
          else
            bif decide (t1 = 0) then
              none
            else
              some (Int.tmod (xorI .i64 (wI ((wI ((wI ((wI ((wI (c1_0.getD (Int.tmod t5 (c1_0.length : Int)).toNat 0)) * 131)) + (wI ((wI (c1_0.getD (Int.tmod (wI ((wI (t5 * 7)) + 3)) (c1_0.length : Int)).toNat 0)) * 1117)))) + (wI (t5 * 29)))) + (wI ((wI (Int.tdiv t5 (c1_0.length : Int))) * 53)))) (wI (Int.tdiv (wI ((wI ((wI ((wI ((wI (c1_0.getD (Int.tmod t5 (c1_0.length : Int)).toNat 0)) * 131)) + (wI ((wI (c1_0.getD (Int.tmod (wI ((wI (t5 * 7)) + 3)) (c1_0.length : Int)).toNat 0)) * 1117)))) + (wI (t5 * 29)))) + (wI ((wI (Int.tdiv t5 (c1_0.length : Int))) * 53)))) 64))) t1, c1_0, c1_1, ())
        else
          none
    else
      none
noncomputable def hd {R : Type} : Hand R := handNil
noncomputable def pg (J4 : List Item → P4 → Option PO) (J7 : List Item → P7 → Option PO) : Prog PO := { nt := 99, np := 2, tb := tabOf tab, hd := hd, cuts := cutsOf [(4, cut p4 J4), (7, cut p7 J7)], fin := endOf (tabOf tab) rs 2 pout }
noncomputable def q : FuncId → Bool := fun f => hasId [] f
theorem seg0 (J4 : List Item → P4 → Option PO) (J7 : List Item → P7 → Option PO) (x1 : Int) (c1_0 : List Int) (c1_1 : Int) : arun (pg J4 J7) 5000 [.code c0] (mk pin (x1, c1_0, c1_1, ())) = F0 (J4 T4) x1 c1_0 c1_1 := by kernel_rfl
theorem seg4 (J4 : List Item → P4 → Option PO) (J7 : List Item → P7 → Option PO) (t1 : Int) (c1_0 : List Int) (c1_1 : Int) : arun1 (pg J4 J7) 5000 T4 (mk p4 (t1, c1_0, c1_1, ())) = F4 (J7 T7) t1 c1_0 c1_1 := by kernel_rfl
theorem seg7 (J4 : List Item → P4 → Option PO) (J7 : List Item → P7 → Option PO) (t1 : Int) (t5 : Int) (c1_0 : List Int) (c1_1 : Int) : arunQ (pg J4 J7) q [] [] 5000 T7 (mk p7 (t1, t5, c1_0, c1_1, ())) = List.replicate (arunQ (pg J4 J7) q [] [] 5000 T7 (mk p7 (t1, t5, c1_0, c1_1, ()))).length (F7 t1 t5 c1_0 c1_1) := by kernel_rfl
noncomputable def L7 : P7 → Option PO := fun x => F7 x.1 x.2.1 x.2.2.1 x.2.2.2.1
noncomputable def L4 : P4 → Option PO := fun x => F4 L7 x.1 x.2.1 x.2.2.1
noncomputable def impl : PI → Option PO := fun x => F0 L4 x.1 x.2.1 x.2.2.1
theorem L7_eq (t1 : Int) (t5 : Int) (c1_0 : List Int) (c1_1 : Int) : L7 (t1, t5, c1_0, c1_1, ()) = F7 t1 t5 c1_0 c1_1 := rfl
theorem L4_eq (t1 : Int) (c1_0 : List Int) (c1_1 : Int) : L4 (t1, c1_0, c1_1, ()) = F4 (L7) t1 c1_0 c1_1 := rfl
theorem impl_eq (x1 : Int) (c1_0 : List Int) (c1_1 : Int) : impl (x1, c1_0, c1_1, ()) = F0 L4 x1 c1_0 c1_1 := rfl
theorem con : Con Tryz.prog 53 2 rs.length 2 pin pout impl := by
  refine con_of_run' (nt := 99) (c := c0) tabGood Tryz.func53 (by kernel_rfl) (by kernel_rfl) (by kernel_rfl) (by kernel_rfl) (by kernel_rfl) (by kernel_rfl) (by kernel_rfl) ?_
  intro w0 O y hnp
  generalize hPost : (fun (a' : Act) (w' : World) => ∃ μ' S' st', Rel 99 w0 O μ' S' st' a' w' ∧ endOf (tabOf tab) rs 2 pout st' = some y) = Post
  have fin : ∀ (μ : Id → Option Value) (S : Nat → Prop) (st : St) (a : Act) (w : World), Rel 99 w0 O μ S st a w → endOf (tabOf tab) rs 2 pout st = some y → Post a w := fun μ S st a w h he => by rw [← hPost]; exact ⟨μ, S, st, h, he⟩
  have hp : ∀ (J4 : List Item → P4 → Option PO), ∀ (J7 : List Item → P7 → Option PO), Parts Tryz.prog 53 (pg J4 J7) [(4, cut p4 J4), (7, cut p7 J7)] := fun J4 J7 => ⟨tab_ok tabGood rfl, handNil_ok, rfl⟩
  have g7 : Good Tryz.prog 99 w0 O Post y T7 p7 L7 := good_quiet (hs := hd) (cv' := hd) (Checked.mixed Tryz.checked) (hp (atT T4 (fun _ => none)) (atT T7 (fun _ => none))) handNil_D handNil_nat handNil_nat (runOK_of (hp (atT T4 (fun _ => none)) (atT T7 (fun _ => none))) hnp ⟨cutOK_at (p := p4) (T := T4) (J := fun _ => none) good_none, cutOK_at (p := p7) (T := T7) (J := fun _ => none) good_none, trivial⟩ fin) (fun x => all_same ⟨_, (seg7 (atT T4 (fun _ => none)) (atT T7 (fun _ => none)) x.1 x.2.1 x.2.2.1 x.2.2.2.1)⟩)
  have g4 : Good Tryz.prog 99 w0 O Post y T4 p4 L4 := good_part (hp (atT T4 (fun _ => none)) (atT T7 L7)) (runOK_of (hp (atT T4 (fun _ => none)) (atT T7 L7)) hnp ⟨cutOK_at (p := p4) (T := T4) (J := fun _ => none) good_none, cutOK_at g7, trivial⟩ fin) (fun x => (seg4 (atT T4 (fun _ => none)) (atT T7 L7) x.1 x.2.1 x.2.2.1).trans (by simp only [atT_self] <;> rfl))
  exact good_first (hp (atT T4 L4) (atT T7 (fun _ => none))) (runOK_of (hp (atT T4 L4) (atT T7 (fun _ => none))) hnp ⟨cutOK_at g4, cutOK_at (p := p7) (T := T7) (J := fun _ => none) good_none, trivial⟩ fin) (fun x => (seg0 (atT T4 L4) (atT T7 (fun _ => none)) x.1 x.2.1 x.2.2.1).trans (by simp only [atT_self] <;> rfl))
end spec_l40Rd_pick

/-! ### (*loop.example/wholecheck/spec.l40Rd).num -/
namespace spec_l40Rd_num
noncomputable abbrev c0 : Code := (Tryz.f73.body).getD .skip
noncomputable abbrev pin : Tpl := ⟨[⟨0, false, [.ptr 500001 0]⟩, ⟨1, false, [.d (.sl (.int .i64))]⟩], [(500001, .box [.d (.sl (.int .u8)), .d (.int .i64)])]⟩
noncomputable abbrev pout : Tpl := ⟨[⟨0, false, [.d (.int .i64)]⟩, ⟨1, false, [.ptr 500001 0]⟩], [(500001, .box [.d (.sl (.int .u8)), .d (.int .i64)])]⟩
noncomputable abbrev PI := (List Int) × (List Int) × Int × Unit
noncomputable abbrev PO := Int × (List Int) × Int × Unit
noncomputable abbrev rs : List ResultVar := [.tmp 4]
noncomputable def F0 (Gspec_l40Rd_pick : spec_l40Rd_pick.PI → Option spec_l40Rd_pick.PO) (x1 : List Int) (c1_0 : List Int) (c1_1 : Int) : Option PO :=
  Option.bind (Gspec_l40Rd_pick ((x1.length : Int), c1_0, c1_1, ())) fun y0 =>
  bif inb y0.1 x1.length then
    some (x1.getD y0.1.toNat 0, y0.2.1, y0.2.2.1, ())
  else
    none
noncomputable def hd {R : Type} (Gspec_l40Rd_pick : spec_l40Rd_pick.PI → Option spec_l40Rd_pick.PO) : Hand R := (handAt 53 [9] false ⟨2, 1, 2, spec_l40Rd_pick.pin, spec_l40Rd_pick.pout, Gspec_l40Rd_pick⟩ handNil)
noncomputable def pg (Gspec_l40Rd_pick : spec_l40Rd_pick.PI → Option spec_l40Rd_pick.PO) : Prog PO := { nt := 12, np := 2, tb := tabOf tab, hd := hd Gspec_l40Rd_pick, cuts := cutsOf [], fin := endOf (tabOf tab) rs 2 pout }
noncomputable def q : FuncId → Bool := fun f => hasId [] f
theorem seg0 (Gspec_l40Rd_pick : spec_l40Rd_pick.PI → Option spec_l40Rd_pick.PO) (x1 : List Int) (c1_0 : List Int) (c1_1 : Int) : arun (pg Gspec_l40Rd_pick) 5000 [.code c0] (mk pin (x1, c1_0, c1_1, ())) = F0 Gspec_l40Rd_pick x1 c1_0 c1_1 := by kernel_rfl
noncomputable def impl : PI → Option PO := fun x => F0 spec_l40Rd_pick.impl x.1 x.2.1 x.2.2.1
theorem impl_eq (x1 : List Int) (c1_0 : List Int) (c1_1 : Int) : impl (x1, c1_0, c1_1, ()) = F0 spec_l40Rd_pick.impl x1 c1_0 c1_1 := rfl
theorem con : Con Tryz.prog 73 2 rs.length 2 pin pout impl := by
  refine con_of_run' (nt := 12) (c := c0) tabGood Tryz.func73 (by kernel_rfl) (by kernel_rfl) (by kernel_rfl) (by kernel_rfl) (by kernel_rfl) (by kernel_rfl) (by kernel_rfl) ?_
  intro w0 O y hnp
  generalize hPost : (fun (a' : Act) (w' : World) => ∃ μ' S' st', Rel 12 w0 O μ' S' st' a' w' ∧ endOf (tabOf tab) rs 2 pout st' = some y) = Post
  have fin : ∀ (μ : Id → Option Value) (S : Nat → Prop) (st : St) (a : Act) (w : World), Rel 12 w0 O μ S st a w → endOf (tabOf tab) rs 2 pout st = some y → Post a w := fun μ S st a w h he => by rw [← hPost]; exact ⟨μ, S, st, h, he⟩
  have hp : Parts Tryz.prog 73 (pg spec_l40Rd_pick.impl) [] := ⟨tab_ok tabGood rfl, (handAt_ok spec_l40Rd_pick.con handNil_ok), rfl⟩
  exact good_first (hp) (runOK_of (hp) hnp trivial fin) (fun x => (seg0 spec_l40Rd_pick.impl x.1 x.2.1 x.2.2.1))
end spec_l40Rd_num

/-! ### loop.example/wholecheck/spec.DrawListText -/
namespace spec_DrawListText
noncomputable abbrev c0 : Code := (Tryz.f24.body).getD .skip
noncomputable abbrev pin : Tpl := ⟨[⟨0, false, [.d (.sl (.int .u8))]⟩], []⟩
noncomputable abbrev pout : Tpl := ⟨[⟨0, false, [.row 600001]⟩], [(600001, .row 3 false (.int .i64))]⟩
noncomputable abbrev p4 : Tpl := ⟨[⟨3, false, [.ptr 3000000 0]⟩, ⟨4, false, [.row 3000001]⟩, ⟨5, false, [.d (.int .i64)]⟩], [(3000000, .box [.d (.sl (.int .u8)), .d (.int .i64)]), (3000001, .row 3 false (.int .i64))]⟩
noncomputable def T4 : List Item := (find 4 c0 []).getD []
noncomputable abbrev PI := (List Int) × Unit
noncomputable abbrev PO := (List Int) × Unit
noncomputable abbrev P4 := Int × (List Int) × Int × (List Int) × Unit
noncomputable abbrev rs : List ResultVar := [.tmp 2]
noncomputable def F0 (J4 : P4 → Option PO) (Gspec_l40Open : spec_l40Open.PI → Option spec_l40Open.PO) (Gspec_l40Rd_pick : spec_l40Rd_pick.PI → Option spec_l40Rd_pick.PO) (x0 : List Int) : Option PO :=
  Option.bind (Gspec_l40Open (x0, ())) fun y0 =>
  Option.bind (Gspec_l40Rd_pick (6, y0.1, y0.2.1, ())) fun y1 =>
  J4 (y1.1, y1.2.1, y1.2.2.1, ([] : List Int), ())
noncomputable def F4 (J4 : P4 → Option PO) (Gspec_l40Rd_num : spec_l40Rd_num.PI → Option spec_l40Rd_num.PO) (Gspec_l40Rd_pick : spec_l40Rd_pick.PI → Option spec_l40Rd_pick.PO) (t5 : Int) (b0_0 : List Int) (b0_1 : Int) (r1 : List Int) : Option PO :=
  bif decide (t5 > 0) then
    Option.bind (Gspec_l40Rd_pick (100, b0_0, b0_1, ())) fun y2 =>
    Option.bind (Gspec_l40Rd_num (([0, 1, 5, (-3), 9999, y2.1] : List Int), y2.2.1, y2.2.2.1, ())) fun y3 =>
    bif decide ((r1.length + ([y3.1] : List Int).length) * 8 ≤ 140737488355328) then
      J4 (wI (t5 - 1), y3.2.1, y3.2.2.1, r1 ++ ([y3.1] : List Int), ())
    else
      none
  else
    Option.bind (Gspec_l40Rd_pick (20, b0_0, b0_1, ())) fun y4 =>
    bif y4.1 == 0 then
      bif decide ((r1.length + ([10000] : List Int).length) * 8 ≤ 140737488355328) then
        some (r1 ++ ([10000] : List Int), ())
      else
        none
    else
      some (r1, ())
noncomputable def hd {R : Type} (Gspec_l40Open : spec_l40Open.PI → Option spec_l40Open.PO) (Gspec_l40Rd_num : spec_l40Rd_num.PI → Option spec_l40Rd_num.PO) (Gspec_l40Rd_pick : spec_l40Rd_pick.PI → Option spec_l40Rd_pick.PO) : Hand R := (handAt 73 [20] false ⟨2, 1, 2, spec_l40Rd_num.pin, spec_l40Rd_num.pout, Gspec_l40Rd_num⟩ (handAt 53 [10, 18, 24] false ⟨2, 1, 2, spec_l40Rd_pick.pin, spec_l40Rd_pick.pout, Gspec_l40Rd_pick⟩ (handAt 51 [7] false ⟨1, 1, 0, spec_l40Open.pin, spec_l40Open.pout, Gspec_l40Open⟩ handNil)))
noncomputable def pg (Gspec_l40Open : spec_l40Open.PI → Option spec_l40Open.PO) (Gspec_l40Rd_num : spec_l40Rd_num.PI → Option spec_l40Rd_num.PO) (Gspec_l40Rd_pick : spec_l40Rd_pick.PI → Option spec_l40Rd_pick.PO) (J4 : List Item → P4 → Option PO) : Prog PO := { nt := 30, np := 1, tb := tabOf tab, hd := hd Gspec_l40Open Gspec_l40Rd_num Gspec_l40Rd_pick, cuts := cutsOf [(4, cut p4 J4)], fin := endOf (tabOf tab) rs 1 pout }
noncomputable def q : FuncId → Bool := fun f => hasId [] f
theorem seg0 (Gspec_l40Open : spec_l40Open.PI → Option spec_l40Open.PO) (Gspec_l40Rd_num : spec_l40Rd_num.PI → Option spec_l40Rd_num.PO) (Gspec_l40Rd_pick : spec_l40Rd_pick.PI → Option spec_l40Rd_pick.PO) (J4 : List Item → P4 → Option PO) (x0 : List Int) : arun (pg Gspec_l40Open Gspec_l40Rd_num Gspec_l40Rd_pick J4) 5000 [.code c0] (mk pin (x0, ())) = F0 (J4 T4) Gspec_l40Open Gspec_l40Rd_pick x0 := by kernel_rfl
theorem seg4 (Gspec_l40Open : spec_l40Open.PI → Option spec_l40Open.PO) (Gspec_l40Rd_num : spec_l40Rd_num.PI → Option spec_l40Rd_num.PO) (Gspec_l40Rd_pick : spec_l40Rd_pick.PI → Option spec_l40Rd_pick.PO) (J4 : List Item → P4 → Option PO) (t5 : Int) (b0_0 : List Int) (b0_1 : Int) (r1 : List Int) : arun1 (pg Gspec_l40Open Gspec_l40Rd_num Gspec_l40Rd_pick J4) 5000 T4 (mk p4 (t5, b0_0, b0_1, r1, ())) = F4 (J4 T4) Gspec_l40Rd_num Gspec_l40Rd_pick t5 b0_0 b0_1 r1 := by kernel_rfl
noncomputable def L4 : P4 → Option PO := lfp fun J4 x => F4 J4 spec_l40Rd_num.impl spec_l40Rd_pick.impl x.1 x.2.1 x.2.2.1 x.2.2.2.1
noncomputable def impl : PI → Option PO := fun x => F0 L4 spec_l40Open.impl spec_l40Rd_pick.impl x.1
theorem F4_le {J4 J4' : P4 → Option PO} (h4 : OLe J4 J4') {Gspec_l40Rd_num : spec_l40Rd_num.PI → Option spec_l40Rd_num.PO} {Gspec_l40Rd_pick : spec_l40Rd_pick.PI → Option spec_l40Rd_pick.PO} (t5 : Int) (b0_0 : List Int) (b0_1 : Int) (r1 : List Int) : OptLe (F4 J4 Gspec_l40Rd_num Gspec_l40Rd_pick t5 b0_0 b0_1 r1) (F4 J4' Gspec_l40Rd_num Gspec_l40Rd_pick t5 b0_0 b0_1 r1) := by unfold F4; exact .cond (.bind (.refl _) fun _ => .bind (.refl _) fun _ => .cond (.of h4 _) (.refl _)) (.refl _)
theorem L4_mono : OMono fun J4 (x : P4) => F4 J4 spec_l40Rd_num.impl spec_l40Rd_pick.impl x.1 x.2.1 x.2.2.1 x.2.2.2.1 := fun J J' h4 x => F4_le h4 x.1 x.2.1 x.2.2.1 x.2.2.2.1
theorem L4_eq (t5 : Int) (b0_0 : List Int) (b0_1 : Int) (r1 : List Int) : L4 (t5, b0_0, b0_1, r1, ()) = F4 (L4) spec_l40Rd_num.impl spec_l40Rd_pick.impl t5 b0_0 b0_1 r1 := congrFun (lfp_eq (L4_mono)) _
theorem impl_eq (x0 : List Int) : impl (x0, ()) = F0 L4 spec_l40Open.impl spec_l40Rd_pick.impl x0 := rfl
theorem con : Con Tryz.prog 24 1 rs.length 1 pin pout impl := by
  refine con_of_run' (nt := 30) (c := c0) tabGood Tryz.func24 (by kernel_rfl) (by kernel_rfl) (by kernel_rfl) (by kernel_rfl) (by kernel_rfl) (by kernel_rfl) (by kernel_rfl) ?_
  intro w0 O y hnp
  generalize hPost : (fun (a' : Act) (w' : World) => ∃ μ' S' st', Rel 30 w0 O μ' S' st' a' w' ∧ endOf (tabOf tab) rs 1 pout st' = some y) = Post
  have fin : ∀ (μ : Id → Option Value) (S : Nat → Prop) (st : St) (a : Act) (w : World), Rel 30 w0 O μ S st a w → endOf (tabOf tab) rs 1 pout st = some y → Post a w := fun μ S st a w h he => by rw [← hPost]; exact ⟨μ, S, st, h, he⟩
  have hp : ∀ (J4 : List Item → P4 → Option PO), Parts Tryz.prog 24 (pg spec_l40Open.impl spec_l40Rd_num.impl spec_l40Rd_pick.impl J4) [(4, cut p4 J4)] := fun J4 => ⟨tab_ok tabGood rfl, (handAt_ok spec_l40Rd_num.con (handAt_ok spec_l40Rd_pick.con (handAt_ok spec_l40Open.con handNil_ok))), rfl⟩
  have g4 : Good Tryz.prog 30 w0 O Post y T4 p4 L4 := good_lfp fun J4 h4 => good_part (hp (atT T4 J4)) (runOK_of (hp (atT T4 J4)) hnp ⟨cutOK_at h4, trivial⟩ fin) (fun x => (seg4 spec_l40Open.impl spec_l40Rd_num.impl spec_l40Rd_pick.impl (atT T4 J4) x.1 x.2.1 x.2.2.1 x.2.2.2.1).trans (by simp only [atT_self] <;> rfl))
  exact good_first (hp (atT T4 L4)) (runOK_of (hp (atT T4 L4)) hnp ⟨cutOK_at g4, trivial⟩ fin) (fun x => (seg0 spec_l40Open.impl spec_l40Rd_num.impl spec_l40Rd_pick.impl (atT T4 L4) x.1).trans (by simp only [atT_self] <;> rfl))
end spec_DrawListText

/-! ### loop.example/wholecheck/impl.in -/
namespace impl_in
noncomputable abbrev c0 : Code := (Tryz.f74.body).getD .skip
noncomputable abbrev pin : Tpl := ⟨[⟨0, false, [.d (.int .i64)]⟩, ⟨1, false, [.d (.int .i64)]⟩, ⟨2, false, [.d (.int .i64)]⟩], []⟩
noncomputable abbrev pout : Tpl := ⟨[⟨0, false, [.d .bool]⟩], []⟩
noncomputable abbrev PI := Int × Int × Int × Unit
noncomputable abbrev PO := Bool × Unit
noncomputable abbrev rs : List ResultVar := [.tmp 6]
noncomputable def F0 (x0 : Int) (x1 : Int) (x2 : Int) : Option PO :=
  bif decide (x0 ≥ x1) then
    some (decide (x0 ≤ x2), ())
  else
    some (false, ())
noncomputable def hd {R : Type} : Hand R := handNil
noncomputable def pg : Prog PO := { nt := 15, np := 3, tb := tabOf tab, hd := hd, cuts := cutsOf [], fin := endOf (tabOf tab) rs 3 pout }
noncomputable def q : FuncId → Bool := fun f => hasId [] f
theorem seg0 (x0 : Int) (x1 : Int) (x2 : Int) : arun (pg) 5000 [.code c0] (mk pin (x0, x1, x2, ())) = F0 x0 x1 x2 := by kernel_rfl
noncomputable def impl : PI → Option PO := fun x => F0 x.1 x.2.1 x.2.2.1
theorem impl_eq (x0 : Int) (x1 : Int) (x2 : Int) : impl (x0, x1, x2, ()) = F0 x0 x1 x2 := rfl
theorem con : Con Tryz.prog 74 3 rs.length 3 pin pout impl := by
  refine con_of_run' (nt := 15) (c := c0) tabGood Tryz.func74 (by kernel_rfl) (by kernel_rfl) (by kernel_rfl) (by kernel_rfl) (by kernel_rfl) (by kernel_rfl) (by kernel_rfl) ?_
  intro w0 O y hnp
  generalize hPost : (fun (a' : Act) (w' : World) => ∃ μ' S' st', Rel 15 w0 O μ' S' st' a' w' ∧ endOf (tabOf tab) rs 3 pout st' = some y) = Post
  have fin : ∀ (μ : Id → Option Value) (S : Nat → Prop) (st : St) (a : Act) (w : World), Rel 15 w0 O μ S st a w → endOf (tabOf tab) rs 3 pout st = some y → Post a w := fun μ S st a w h he => by rw [← hPost]; exact ⟨μ, S, st, h, he⟩
  have hp : Parts Tryz.prog 74 (pg) [] := ⟨tab_ok tabGood rfl, handNil_ok, rfl⟩
  exact good_first (hp) (runOK_of (hp) hnp trivial fin) (fun x => (seg0 x.1 x.2.1 x.2.2.1))
end impl_in

/-! ### loop.example/wholecheck/impl.ListText -/
namespace impl_ListText
noncomputable abbrev c0 : Code := (Tryz.f25.body).getD .skip
noncomputable abbrev pin : Tpl := ⟨[⟨0, false, [.d (.sl (.int .i64))]⟩], []⟩
noncomputable abbrev pout : Tpl := ⟨[⟨0, false, [.d .str]⟩], []⟩
noncomputable abbrev p5 : Tpl := ⟨[⟨3, false, [.row 3000000]⟩, ⟨10, false, [.d (.sl (.int .i64))]⟩, ⟨11, false, [.d (.int .i64)]⟩, ⟨12, false, [.d (.int .i64)]⟩], [(3000000, .row 9 true .str)]⟩
noncomputable def T5 : List Item := (find 5 c0 []).getD []
noncomputable abbrev PI := (List Int) × Unit
noncomputable abbrev PO := (List UInt8) × Unit
noncomputable abbrev P5 := (List Int) × Int × Int × (List (List UInt8)) × Unit
noncomputable abbrev rs : List ResultVar := [.tmp 2]
noncomputable def F0 (J5 : P5 → Option PO) (Gimpl_in : impl_in.PI → Option impl_in.PO) (x0 : List Int) : Option PO :=
  Option.bind (Gimpl_in ((x0.length : Int), 1, 400, ())) fun y0 =>
  bif !y0.1 then
    some (([45] : List UInt8), ())
  else
    J5 (x0, (x0.length : Int), 0, [], ())
noncomputable def F5 (J5 : P5 → Option PO) (Gimpl_in : impl_in.PI → Option impl_in.PO) (Glib_Itoa : lib_Itoa.PI → Option lib_Itoa.PO) (Glib_Join : lib_Join.PI → Option lib_Join.PO) (t10 : List Int) (t11 : Int) (t12 : Int) (r0 : List (List UInt8)) : Option PO :=
  bif decide (t12 < t11) then
    bif inb t12 t10.length then
      Option.bind (Gimpl_in (t10.getD t12.toNat 0, (-9999), 9999, ())) fun y1 =>
      bif !y1.1 then
        some (([45] : List UInt8), ())
      else
        Option.bind (Glib_Itoa (t10.getD t12.toNat 0, ())) fun y2 =>
        bif decide ((r0.length + ([y2.1] : List (List UInt8)).length) * 16 ≤ 140737488355328) then
          J5 (t10, t11, wI (t12 + 1), r0 ++ ([y2.1] : List (List UInt8)), ())
        else
          none
    else
      none
  else
    Option.bind (Glib_Join (r0, ([32] : List UInt8), ())) fun y3 =>
    some (y3.1, ())
noncomputable def hd {R : Type} (Gimpl_in : impl_in.PI → Option impl_in.PO) (Glib_Itoa : lib_Itoa.PI → Option lib_Itoa.PO) (Glib_Join : lib_Join.PI → Option lib_Join.PO) : Hand R := (handAt 75 [26] true ⟨2, 1, 0, lib_Join.pin, lib_Join.pout, Glib_Join⟩ (handAt 74 [8, 17] true ⟨3, 1, 3, impl_in.pin, impl_in.pout, Gimpl_in⟩ (handAt 45 [21] true ⟨1, 1, 0, lib_Itoa.pin, lib_Itoa.pout, Glib_Itoa⟩ handNil)))
noncomputable def pg (Gimpl_in : impl_in.PI → Option impl_in.PO) (Glib_Itoa : lib_Itoa.PI → Option lib_Itoa.PO) (Glib_Join : lib_Join.PI → Option lib_Join.PO) (J5 : List Item → P5 → Option PO) : Prog PO := { nt := 27, np := 1, tb := tabOf tab, hd := hd Gimpl_in Glib_Itoa Glib_Join, cuts := cutsOf [(5, cut p5 J5)], fin := endOf (tabOf tab) rs 1 pout }
noncomputable def q : FuncId → Bool := fun f => hasId [45, 74, 75] f
theorem seg0 (Gimpl_in : impl_in.PI → Option impl_in.PO) (Glib_Itoa : lib_Itoa.PI → Option lib_Itoa.PO) (Glib_Join : lib_Join.PI → Option lib_Join.PO) (J5 : List Item → P5 → Option PO) (x0 : List Int) : arun (pg Gimpl_in Glib_Itoa Glib_Join J5) 5000 [.code c0] (mk pin (x0, ())) = F0 (J5 T5) Gimpl_in x0 := by kernel_rfl
theorem seg5 (Gimpl_in : impl_in.PI → Option impl_in.PO) (Glib_Itoa : lib_Itoa.PI → Option lib_Itoa.PO) (Glib_Join : lib_Join.PI → Option lib_Join.PO) (J5 : List Item → P5 → Option PO) (t10 : List Int) (t11 : Int) (t12 : Int) (r0 : List (List UInt8)) : arun1 (pg Gimpl_in Glib_Itoa Glib_Join J5) 5000 T5 (mk p5 (t10, t11, t12, r0, ())) = F5 (J5 T5) Gimpl_in Glib_Itoa Glib_Join t10 t11 t12 r0 := by kernel_rfl
noncomputable def L5 : P5 → Option PO := lfp fun J5 x => F5 J5 impl_in.impl lib_Itoa.impl lib_Join.impl x.1 x.2.1 x.2.2.1 x.2.2.2.1
noncomputable def impl : PI → Option PO := fun x => F0 L5 impl_in.impl x.1
theorem F5_le {J5 J5' : P5 → Option PO} (h5 : OLe J5 J5') {Gimpl_in : impl_in.PI → Option impl_in.PO} {Glib_Itoa : lib_Itoa.PI → Option lib_Itoa.PO} {Glib_Join : lib_Join.PI → Option lib_Join.PO} (t10 : List Int) (t11 : Int) (t12 : Int) (r0 : List (List UInt8)) : OptLe (F5 J5 Gimpl_in Glib_Itoa Glib_Join t10 t11 t12 r0) (F5 J5' Gimpl_in Glib_Itoa Glib_Join t10 t11 t12 r0) := by unfold F5; exact .cond (.cond (.bind (.refl _) fun _ => .cond (.refl _) (.bind (.refl _) fun _ => .cond (.of h5 _) (.refl _))) (.refl _)) (.refl _)
theorem L5_mono : OMono fun J5 (x : P5) => F5 J5 impl_in.impl lib_Itoa.impl lib_Join.impl x.1 x.2.1 x.2.2.1 x.2.2.2.1 := fun J J' h5 x => F5_le h5 x.1 x.2.1 x.2.2.1 x.2.2.2.1
theorem L5_eq (t10 : List Int) (t11 : Int) (t12 : Int) (r0 : List (List UInt8)) : L5 (t10, t11, t12, r0, ()) = F5 (L5) impl_in.impl lib_Itoa.impl lib_Join.impl t10 t11 t12 r0 := congrFun (lfp_eq (L5_mono)) _
theorem impl_eq (x0 : List Int) : impl (x0, ()) = F0 L5 impl_in.impl x0 := rfl
theorem con : Con Tryz.prog 25 1 rs.length 1 pin pout impl := by
  refine con_of_run' (nt := 27) (c := c0) tabGood Tryz.func25 (by kernel_rfl) (by kernel_rfl) (by kernel_rfl) (by kernel_rfl) (by kernel_rfl) (by kernel_rfl) (by kernel_rfl) ?_
  intro w0 O y hnp
  generalize hPost : (fun (a' : Act) (w' : World) => ∃ μ' S' st', Rel 27 w0 O μ' S' st' a' w' ∧ endOf (tabOf tab) rs 1 pout st' = some y) = Post
  have fin : ∀ (μ : Id → Option Value) (S : Nat → Prop) (st : St) (a : Act) (w : World), Rel 27 w0 O μ S st a w → endOf (tabOf tab) rs 1 pout st = some y → Post a w := fun μ S st a w h he => by rw [← hPost]; exact ⟨μ, S, st, h, he⟩
  have hp : ∀ (J5 : List Item → P5 → Option PO), Parts Tryz.prog 25 (pg impl_in.impl lib_Itoa.impl lib_Join.impl J5) [(5, cut p5 J5)] := fun J5 => ⟨tab_ok tabGood rfl, (handAt_ok lib_Join.con (handAt_ok impl_in.con (handAt_ok lib_Itoa.con handNil_ok))), rfl⟩
  have g5 : Good Tryz.prog 27 w0 O Post y T5 p5 L5 := good_lfp fun J5 h5 => good_part (hp (atT T5 J5)) (runOK_of (hp (atT T5 J5)) hnp ⟨cutOK_at h5, trivial⟩ fin) (fun x => (seg5 impl_in.impl lib_Itoa.impl lib_Join.impl (atT T5 J5) x.1 x.2.1 x.2.2.1 x.2.2.2.1).trans (by simp only [atT_self] <;> rfl))
  exact good_first (hp (atT T5 L5)) (runOK_of (hp (atT T5 L5)) hnp ⟨cutOK_at g5, trivial⟩ fin) (fun x => (seg0 impl_in.impl lib_Itoa.impl lib_Join.impl (atT T5 L5) x.1).trans (by simp only [atT_self] <;> rfl))
end impl_ListText

/-! ### loop.example/wholecheck/spec.l1In -/
namespace spec_l1In
noncomputable abbrev c0 : Code := (Tryz.f107.body).getD .skip
noncomputable abbrev pin : Tpl := ⟨[⟨0, false, [.d (.int .i64)]⟩, ⟨1, false, [.d (.int .i64)]⟩, ⟨2, false, [.d (.int .i64)]⟩], []⟩
noncomputable abbrev pout : Tpl := ⟨[⟨0, false, [.d .bool]⟩], []⟩
noncomputable abbrev PI := Int × Int × Int × Unit
noncomputable abbrev PO := Bool × Unit
noncomputable abbrev rs : List ResultVar := [.tmp 6]
noncomputable def F0 (x0 : Int) (x1 : Int) (x2 : Int) : Option PO :=
  bif decide (x0 ≥ x1) then
    some (decide (x0 ≤ x2), ())
  else
    some (false, ())
noncomputable def hd {R : Type} : Hand R := handNil
noncomputable def pg : Prog PO := { nt := 15, np := 3, tb := tabOf tab, hd := hd, cuts := cutsOf [], fin := endOf (tabOf tab) rs 3 pout }
noncomputable def q : FuncId → Bool := fun f => hasId [] f
theorem seg0 (x0 : Int) (x1 : Int) (x2 : Int) : arun (pg) 5000 [.code c0] (mk pin (x0, x1, x2, ())) = F0 x0 x1 x2 := by kernel_rfl
noncomputable def impl : PI → Option PO := fun x => F0 x.1 x.2.1 x.2.2.1
theorem impl_eq (x0 : Int) (x1 : Int) (x2 : Int) : impl (x0, x1, x2, ()) = F0 x0 x1 x2 := rfl
theorem con : Con Tryz.prog 107 3 rs.length 3 pin pout impl := by
  refine con_of_run' (nt := 15) (c := c0) tabGood Tryz.func107 (by kernel_rfl) (by kernel_rfl) (by kernel_rfl) (by kernel_rfl) (by kernel_rfl) (by kernel_rfl) (by kernel_rfl) ?_
  intro w0 O y hnp
  generalize hPost : (fun (a' : Act) (w' : World) => ∃ μ' S' st', Rel 15 w0 O μ' S' st' a' w' ∧ endOf (tabOf tab) rs 3 pout st' = some y) = Post
  have fin : ∀ (μ : Id → Option Value) (S : Nat → Prop) (st : St) (a : Act) (w : World), Rel 15 w0 O μ S st a w → endOf (tabOf tab) rs 3 pout st = some y → Post a w := fun μ S st a w h he => by rw [← hPost]; exact ⟨μ, S, st, h, he⟩
  have hp : Parts Tryz.prog 107 (pg) [] := ⟨tab_ok tabGood rfl, handNil_ok, rfl⟩
  exact good_first (hp) (runOK_of (hp) hnp trivial fin) (fun x => (seg0 x.1 x.2.1 x.2.2.1))
end spec_l1In

/-! ### loop.example/wholecheck/spec.l31Numbers -/
namespace spec_l31Numbers
noncomputable abbrev c0 : Code := (Tryz.f76.body).getD .skip
noncomputable abbrev pin : Tpl := ⟨[⟨0, false, [.d (.sl (.int .i64))]⟩], []⟩
noncomputable abbrev pout : Tpl := ⟨[⟨0, false, [.d .bool]⟩], []⟩
noncomputable abbrev p2 : Tpl := ⟨[⟨0, false, [.d (.sl (.int .i64))]⟩, ⟨3, false, [.d (.int .i64)]⟩], []⟩
noncomputable def T2 : List Item := (find 2 c0 []).getD []
noncomputable abbrev PI := (List Int) × Unit
noncomputable abbrev PO := Bool × Unit
noncomputable abbrev P2 := (List Int) × Int × Unit
noncomputable abbrev rs : List ResultVar := [.tmp 2]
noncomputable def F0 (J2 : P2 → Option PO) (x0 : List Int) : Option PO :=
  J2 (x0, 0, ())
noncomputable def F2 (J2 : P2 → Option PO) (Gspec_l1In : spec_l1In.PI → Option spec_l1In.PO) (t0 : List Int) (t3 : Int) : Option PO :=
  bif decide (t3 < (t0.length : Int)) then
    bif inb t3 t0.length then
      Option.bind (Gspec_l1In (t0.getD t3.toNat 0, (-9999), 9999, ())) fun y0 =>
      bif !y0.1 then
        some (false, ())
      else
        J2 (t0, wI (t3 + 1), ())
    else
      none
  else
    some (true, ())
noncomputable def hd {R : Type} (Gspec_l1In : spec_l1In.PI → Option spec_l1In.PO) : Hand R := (handAt 107 [14] true ⟨3, 1, 3, spec_l1In.pin, spec_l1In.pout, Gspec_l1In⟩ handNil)
noncomputable def pg (Gspec_l1In : spec_l1In.PI → Option spec_l1In.PO) (J2 : List Item → P2 → Option PO) : Prog PO := { nt := 16, np := 1, tb := tabOf tab, hd := hd Gspec_l1In, cuts := cutsOf [(2, cut p2 J2)], fin := endOf (tabOf tab) rs 1 pout }
noncomputable def q : FuncId → Bool := fun f => hasId [107] f
theorem seg0 (Gspec_l1In : spec_l1In.PI → Option spec_l1In.PO) (J2 : List Item → P2 → Option PO) (x0 : List Int) : arun (pg Gspec_l1In J2) 5000 [.code c0] (mk pin (x0, ())) = F0 (J2 T2) x0 := by kernel_rfl
theorem seg2 (Gspec_l1In : spec_l1In.PI → Option spec_l1In.PO) (J2 : List Item → P2 → Option PO) (t0 : List Int) (t3 : Int) : arun1 (pg Gspec_l1In J2) 5000 T2 (mk p2 (t0, t3, ())) = F2 (J2 T2) Gspec_l1In t0 t3 := by kernel_rfl
noncomputable def L2 : P2 → Option PO := lfp fun J2 x => F2 J2 spec_l1In.impl x.1 x.2.1
noncomputable def impl : PI → Option PO := fun x => F0 L2 x.1
theorem F2_le {J2 J2' : P2 → Option PO} (h2 : OLe J2 J2') {Gspec_l1In : spec_l1In.PI → Option spec_l1In.PO} (t0 : List Int) (t3 : Int) : OptLe (F2 J2 Gspec_l1In t0 t3) (F2 J2' Gspec_l1In t0 t3) := by unfold F2; exact .cond (.cond (.bind (.refl _) fun _ => .cond (.refl _) (.of h2 _)) (.refl _)) (.refl _)
theorem L2_mono : OMono fun J2 (x : P2) => F2 J2 spec_l1In.impl x.1 x.2.1 := fun J J' h2 x => F2_le h2 x.1 x.2.1
theorem L2_eq (t0 : List Int) (t3 : Int) : L2 (t0, t3, ()) = F2 (L2) spec_l1In.impl t0 t3 := congrFun (lfp_eq (L2_mono)) _
theorem impl_eq (x0 : List Int) : impl (x0, ()) = F0 L2 x0 := rfl
theorem con : Con Tryz.prog 76 1 rs.length 1 pin pout impl := by
  refine con_of_run' (nt := 16) (c := c0) tabGood Tryz.func76 (by kernel_rfl) (by kernel_rfl) (by kernel_rfl) (by kernel_rfl) (by kernel_rfl) (by kernel_rfl) (by kernel_rfl) ?_
  intro w0 O y hnp
  generalize hPost : (fun (a' : Act) (w' : World) => ∃ μ' S' st', Rel 16 w0 O μ' S' st' a' w' ∧ endOf (tabOf tab) rs 1 pout st' = some y) = Post
  have fin : ∀ (μ : Id → Option Value) (S : Nat → Prop) (st : St) (a : Act) (w : World), Rel 16 w0 O μ S st a w → endOf (tabOf tab) rs 1 pout st = some y → Post a w := fun μ S st a w h he => by rw [← hPost]; exact ⟨μ, S, st, h, he⟩
  have hp : ∀ (J2 : List Item → P2 → Option PO), Parts Tryz.prog 76 (pg spec_l1In.impl J2) [(2, cut p2 J2)] := fun J2 => ⟨tab_ok tabGood rfl, (handAt_ok spec_l1In.con handNil_ok), rfl⟩
  have g2 : Good Tryz.prog 16 w0 O Post y T2 p2 L2 := good_lfp fun J2 h2 => good_part (hp (atT T2 J2)) (runOK_of (hp (atT T2 J2)) hnp ⟨cutOK_at h2, trivial⟩ fin) (fun x => (seg2 spec_l1In.impl (atT T2 J2) x.1 x.2.1).trans (by simp only [atT_self] <;> rfl))
  exact good_first (hp (atT T2 L2)) (runOK_of (hp (atT T2 L2)) hnp ⟨cutOK_at g2, trivial⟩ fin) (fun x => (seg0 spec_l1In.impl (atT T2 L2) x.1).trans (by simp only [atT_self] <;> rfl))
end spec_l31Numbers

/-! ### loop.example/wholecheck/spec.l40Dec -/
namespace spec_l40Dec
noncomputable abbrev c0 : Code := (Tryz.f39.body).getD .skip
noncomputable abbrev pin : Tpl := ⟨[⟨0, false, [.d (.int .i64)]⟩], []⟩
noncomputable abbrev pout : Tpl := ⟨[⟨0, false, [.d .str]⟩], []⟩
noncomputable abbrev p6 : Tpl := ⟨[⟨0, false, [.d (.int .i64)]⟩, ⟨3, false, [.d .str]⟩], []⟩
noncomputable def T6 : List Item := (find 6 c0 []).getD []
noncomputable abbrev PI := Int × Unit
noncomputable abbrev PO := (List UInt8) × Unit
noncomputable abbrev P6 := Int × (List UInt8) × Unit
noncomputable abbrev rs : List ResultVar := [.tmp 2]
noncomputable def F0 (J6 : P6 → Option PO) (Gspec_l40Dec : PI → Option PO) (x0 : Int) : Option PO :=
  bif decide (x0 < (-9223372036854775807)) then
    some (([45, 57, 50, 50, 51, 51, 55, 50, 48, 51, 54, 56, 53, 52, 55, 55, 53, 56, 48, 56] : List UInt8), ())
  else
    bif decide (x0 < 0) then
      Option.bind (Gspec_l40Dec (wI (0 - x0), ())) fun y0 =>
      bif decide (([45] : List UInt8).length + y0.1.length ≤ 140737488355328) then
        some (([45] : List UInt8) ++ y0.1, ())
      else
        none
    else
      J6 (x0, [], ())
noncomputable def F6 (J6 : P6 → Option PO) (t0 : Int) (t3 : List UInt8) : Option PO :=
  bif decide (t0 > 9) then
    bif decide ((strOf ([IntKind.u8.wrap (wI (48 + (Int.tmod t0 10)))] : List Int)).length + t3.length ≤ 140737488355328) then
      J6 (wI (Int.tdiv t0 10), (strOf ([IntKind.u8.wrap (wI (48 + (Int.tmod t0 10)))] : List Int)) ++ t3, ())
    else
      none
  else
    bif decide ((strOf ([IntKind.u8.wrap (wI (48 + t0))] : List Int)).length + t3.length ≤ 140737488355328) then
      some ((strOf ([IntKind.u8.wrap (wI (48 + t0))] : List Int)) ++ t3, ())
    else
      none
noncomputable def hd {R : Type} (Gspec_l40Dec : PI → Option PO) : Hand R := (handAt 39 [10] true ⟨1, 1, 0, pin, pout, Gspec_l40Dec⟩ handNil)
noncomputable def pg (Gspec_l40Dec : PI → Option PO) (J6 : List Item → P6 → Option PO) : Prog PO := { nt := 31, np := 0, tb := tabOf tab, hd := hd Gspec_l40Dec, cuts := cutsOf [(6, cut p6 J6)], fin := endOf (tabOf tab) rs 0 pout }
noncomputable def q : FuncId → Bool := fun f => hasId [39] f
theorem seg0 (Gspec_l40Dec : PI → Option PO) (J6 : List Item → P6 → Option PO) (x0 : Int) : arun (pg Gspec_l40Dec J6) 5000 [.code c0] (mk pin (x0, ())) = F0 (J6 T6) Gspec_l40Dec x0 := by kernel_rfl
theorem seg6 (Gspec_l40Dec : PI → Option PO) (J6 : List Item → P6 → Option PO) (t0 : Int) (t3 : List UInt8) : arun1 (pg Gspec_l40Dec J6) 5000 T6 (mk p6 (t0, t3, ())) = F6 (J6 T6) t0 t3 := by kernel_rfl
noncomputable def L6 (Gself : PI → Option PO) : P6 → Option PO := lfp fun J6 x => F6 J6 x.1 x.2.1
noncomputable def step (Gself : PI → Option PO) : PI → Option PO := fun x => F0 (L6 Gself) Gself x.1
noncomputable def impl : PI → Option PO := lfp step
theorem F6_le {J6 J6' : P6 → Option PO} (h6 : OLe J6 J6') (t0 : Int) (t3 : List UInt8) : OptLe (F6 J6 t0 t3) (F6 J6' t0 t3) := by unfold F6; exact .cond (.cond (.of h6 _) (.refl _)) (.refl _)
theorem F0_le {J6 J6' : P6 → Option PO} (h6 : OLe J6 J6') {Gself Gself' : PI → Option PO} (hG : OLe Gself Gself') (x0 : Int) : OptLe (F0 J6 Gself x0) (F0 J6' Gself' x0) := by unfold F0; exact .cond (.refl _) (.cond (.bind (.of hG _) fun _ => .refl _) (.of h6 _))
theorem L6_mono (Gself : PI → Option PO) : OMono fun J6 (x : P6) => F6 J6 x.1 x.2.1 := fun J J' h6 x => F6_le h6 x.1 x.2.1
theorem L6_eq (Gself : PI → Option PO) (t0 : Int) (t3 : List UInt8) : L6 Gself (t0, t3, ()) = F6 (L6 Gself) t0 t3 := congrFun (lfp_eq (L6_mono Gself)) _
theorem L6_le {Gself Gself' : PI → Option PO} (hG : OLe Gself Gself') : OLe (L6 Gself) (L6 Gself') := lfp_le (L6_mono Gself') fun J x => F6_le (fun _ _ h => h) x.1 x.2.1
theorem step_mono : OMono step := fun G G' hG x => F0_le (L6_le hG) hG x.1
theorem impl_eq (x0 : Int) : impl (x0, ()) = F0 (L6 impl) impl x0 := congrFun (lfp_eq step_mono) _
theorem con_step (Gself : PI → Option PO) (hself : Con Tryz.prog 39 1 rs.length 0 pin pout Gself) : Con Tryz.prog 39 1 rs.length 0 pin pout (step Gself) := by
  refine con_of_run' (nt := 31) (c := c0) tabGood Tryz.func39 (by kernel_rfl) (by kernel_rfl) (by kernel_rfl) (by kernel_rfl) (by kernel_rfl) (by kernel_rfl) (by kernel_rfl) ?_
  intro w0 O y hnp
  generalize hPost : (fun (a' : Act) (w' : World) => ∃ μ' S' st', Rel 31 w0 O μ' S' st' a' w' ∧ endOf (tabOf tab) rs 0 pout st' = some y) = Post
  have fin : ∀ (μ : Id → Option Value) (S : Nat → Prop) (st : St) (a : Act) (w : World), Rel 31 w0 O μ S st a w → endOf (tabOf tab) rs 0 pout st = some y → Post a w := fun μ S st a w h he => by rw [← hPost]; exact ⟨μ, S, st, h, he⟩
  have hp : ∀ (J6 : List Item → P6 → Option PO), Parts Tryz.prog 39 (pg Gself J6) [(6, cut p6 J6)] := fun J6 => ⟨tab_ok tabGood rfl, (handAt_ok hself handNil_ok), rfl⟩
  have g6 : Good Tryz.prog 31 w0 O Post y T6 p6 (L6 Gself) := good_lfp fun J6 h6 => good_part (hp (atT T6 J6)) (runOK_of (hp (atT T6 J6)) hnp ⟨cutOK_at h6, trivial⟩ fin) (fun x => (seg6 Gself (atT T6 J6) x.1 x.2.1).trans (by simp only [atT_self] <;> rfl))
  exact good_first (hp (atT T6 (L6 Gself))) (runOK_of (hp (atT T6 (L6 Gself))) hnp ⟨cutOK_at g6, trivial⟩ fin) (fun x => (seg0 Gself (atT T6 (L6 Gself)) x.1).trans (by simp only [atT_self] <;> rfl))
theorem con : Con Tryz.prog 39 1 rs.length 0 pin pout impl := con_lfp (c := c0) Tryz.func39 (by kernel_rfl) (by kernel_rfl) (by kernel_rfl) con_step
end spec_l40Dec

/-! ### loop.example/wholecheck/spec.l31Row -/
namespace spec_l31Row
noncomputable abbrev c0 : Code := (Tryz.f77.body).getD .skip
noncomputable abbrev pin : Tpl := ⟨[⟨0, false, [.d (.sl (.int .i64))]⟩], []⟩
noncomputable abbrev pout : Tpl := ⟨[⟨0, false, [.d .str]⟩], []⟩
noncomputable abbrev p3 : Tpl := ⟨[⟨0, false, [.d (.sl (.int .i64))]⟩, ⟨3, false, [.d .str]⟩, ⟨4, false, [.d (.int .i64)]⟩], []⟩
noncomputable def T3 : List Item := (find 3 c0 []).getD []
noncomputable abbrev PI := (List Int) × Unit
noncomputable abbrev PO := (List UInt8) × Unit
noncomputable abbrev P3 := (List Int) × (List UInt8) × Int × Unit
noncomputable abbrev rs : List ResultVar := [.tmp 2]
noncomputable def F0 (J3 : P3 → Option PO) (x0 : List Int) : Option PO :=
  J3 (x0, [], 0, ())
noncomputable def F3 (J3 : P3 → Option PO) (Gspec_l40Dec : spec_l40Dec.PI → Option spec_l40Dec.PO) (t0 : List Int) (t3 : List UInt8) (t4 : Int) : Option PO :=
  bif decide (t4 < (t0.length : Int)) then
    bif decide (t3.length + ([32] : List UInt8).length ≤ 140737488355328) then
      bif inb t4 t0.length then
        Option.bind (Gspec_l40Dec (t0.getD t4.toNat 0, ())) fun y0 =>
        bif decide ((t3 ++ ([32] : List UInt8)).length + y0.1.length ≤ 140737488355328) then
          J3 (t0, (t3 ++ ([32] : List UInt8)) ++ y0.1, wI (t4 + 1), ())
        else
          none
      else
        none
    else
      none
  else
    some (t3, ())
noncomputable def hd {R : Type} (Gspec_l40Dec : spec_l40Dec.PI → Option spec_l40Dec.PO) : Hand R := (handAt 39 [17] true ⟨1, 1, 0, spec_l40Dec.pin, spec_l40Dec.pout, Gspec_l40Dec⟩ handNil)
noncomputable def pg (Gspec_l40Dec : spec_l40Dec.PI → Option spec_l40Dec.PO) (J3 : List Item → P3 → Option PO) : Prog PO := { nt := 20, np := 1, tb := tabOf tab, hd := hd Gspec_l40Dec, cuts := cutsOf [(3, cut p3 J3)], fin := endOf (tabOf tab) rs 1 pout }
noncomputable def q : FuncId → Bool := fun f => hasId [39] f
theorem seg0 (Gspec_l40Dec : spec_l40Dec.PI → Option spec_l40Dec.PO) (J3 : List Item → P3 → Option PO) (x0 : List Int) : arun (pg Gspec_l40Dec J3) 5000 [.code c0] (mk pin (x0, ())) = F0 (J3 T3) x0 := by kernel_rfl
theorem seg3 (Gspec_l40Dec : spec_l40Dec.PI → Option spec_l40Dec.PO) (J3 : List Item → P3 → Option PO) (t0 : List Int) (t3 : List UInt8) (t4 : Int) : arun1 (pg Gspec_l40Dec J3) 5000 T3 (mk p3 (t0, t3, t4, ())) = F3 (J3 T3) Gspec_l40Dec t0 t3 t4 := by kernel_rfl
noncomputable def L3 : P3 → Option PO := lfp fun J3 x => F3 J3 spec_l40Dec.impl x.1 x.2.1 x.2.2.1
noncomputable def impl : PI → Option PO := fun x => F0 L3 x.1
theorem F3_le {J3 J3' : P3 → Option PO} (h3 : OLe J3 J3') {Gspec_l40Dec : spec_l40Dec.PI → Option spec_l40Dec.PO} (t0 : List Int) (t3 : List UInt8) (t4 : Int) : OptLe (F3 J3 Gspec_l40Dec t0 t3 t4) (F3 J3' Gspec_l40Dec t0 t3 t4) := by unfold F3; exact .cond (.cond (.cond (.bind (.refl _) fun _ => .cond (.of h3 _) (.refl _)) (.refl _)) (.refl _)) (.refl _)
theorem L3_mono : OMono fun J3 (x : P3) => F3 J3 spec_l40Dec.impl x.1 x.2.1 x.2.2.1 := fun J J' h3 x => F3_le h3 x.1 x.2.1 x.2.2.1
theorem L3_eq (t0 : List Int) (t3 : List UInt8) (t4 : Int) : L3 (t0, t3, t4, ()) = F3 (L3) spec_l40Dec.impl t0 t3 t4 := congrFun (lfp_eq (L3_mono)) _
theorem impl_eq (x0 : List Int) : impl (x0, ()) = F0 L3 x0 := rfl
theorem con : Con Tryz.prog 77 1 rs.length 1 pin pout impl := by
  refine con_of_run' (nt := 20) (c := c0) tabGood Tryz.func77 (by kernel_rfl) (by kernel_rfl) (by kernel_rfl) (by kernel_rfl) (by kernel_rfl) (by kernel_rfl) (by kernel_rfl) ?_
  intro w0 O y hnp
  generalize hPost : (fun (a' : Act) (w' : World) => ∃ μ' S' st', Rel 20 w0 O μ' S' st' a' w' ∧ endOf (tabOf tab) rs 1 pout st' = some y) = Post
  have fin : ∀ (μ : Id → Option Value) (S : Nat → Prop) (st : St) (a : Act) (w : World), Rel 20 w0 O μ S st a w → endOf (tabOf tab) rs 1 pout st = some y → Post a w := fun μ S st a w h he => by rw [← hPost]; exact ⟨μ, S, st, h, he⟩
  have hp : ∀ (J3 : List Item → P3 → Option PO), Parts Tryz.prog 77 (pg spec_l40Dec.impl J3) [(3, cut p3 J3)] := fun J3 => ⟨tab_ok tabGood rfl, (handAt_ok spec_l40Dec.con handNil_ok), rfl⟩
  have g3 : Good Tryz.prog 20 w0 O Post y T3 p3 L3 := good_lfp fun J3 h3 => good_part (hp (atT T3 J3)) (runOK_of (hp (atT T3 J3)) hnp ⟨cutOK_at h3, trivial⟩ fin) (fun x => (seg3 spec_l40Dec.impl (atT T3 J3) x.1 x.2.1 x.2.2.1).trans (by simp only [atT_self] <;> rfl))
  exact good_first (hp (atT T3 L3)) (runOK_of (hp (atT T3 L3)) hnp ⟨cutOK_at g3, trivial⟩ fin) (fun x => (seg0 spec_l40Dec.impl (atT T3 L3) x.1).trans (by simp only [atT_self] <;> rfl))
end spec_l31Row

/-! ### loop.example/wholecheck/spec.ListText -/
namespace spec_ListText
noncomputable abbrev c0 : Code := (Tryz.f26.body).getD .skip
noncomputable abbrev pin : Tpl := ⟨[⟨0, false, [.d (.sl (.int .i64))]⟩], []⟩
noncomputable abbrev pout : Tpl := ⟨[⟨0, false, [.d .str]⟩], []⟩
noncomputable abbrev PI := (List Int) × Unit
noncomputable abbrev PO := (List UInt8) × Unit
noncomputable abbrev rs : List ResultVar := [.tmp 2]
noncomputable def F0 (Gspec_l31Numbers : spec_l31Numbers.PI → Option spec_l31Numbers.PO) (Gspec_l31Row : spec_l31Row.PI → Option spec_l31Row.PO) (x0 : List Int) : Option PO :=
  bif (x0.length : Int) == 0 then
    some (([45] : List UInt8), ())
  else
    bif decide ((x0.length : Int) > 400) then
      some (([45] : List UInt8), ())
    else
      Option.bind (Gspec_l31Numbers (x0, ())) fun y0 =>
      bif !y0.1 then
        some (([45] : List UInt8), ())
      else
        Option.bind (Gspec_l31Row (x0, ())) fun y1 =>
        bif decide (1 ≤ (y1.1.length : Int)) && decide ((y1.1.length : Int) ≤ (y1.1.length : Int)) then
          some ((y1.1.take (y1.1.length : Int).toNat).drop 1, ())
        else
          none
noncomputable def hd {R : Type} (Gspec_l31Numbers : spec_l31Numbers.PI → Option spec_l31Numbers.PO) (Gspec_l31Row : spec_l31Row.PI → Option spec_l31Row.PO) : Hand R := (handAt 77 [17] true ⟨1, 1, 1, spec_l31Row.pin, spec_l31Row.pout, Gspec_l31Row⟩ (handAt 76 [13] true ⟨1, 1, 1, spec_l31Numbers.pin, spec_l31Numbers.pout, Gspec_l31Numbers⟩ handNil))
noncomputable def pg (Gspec_l31Numbers : spec_l31Numbers.PI → Option spec_l31Numbers.PO) (Gspec_l31Row : spec_l31Row.PI → Option spec_l31Row.PO) : Prog PO := { nt := 19, np := 1, tb := tabOf tab, hd := hd Gspec_l31Numbers Gspec_l31Row, cuts := cutsOf [], fin := endOf (tabOf tab) rs 1 pout }
noncomputable def q : FuncId → Bool := fun f => hasId [76, 77] f
theorem seg0 (Gspec_l31Numbers : spec_l31Numbers.PI → Option spec_l31Numbers.PO) (Gspec_l31Row : spec_l31Row.PI → Option spec_l31Row.PO) (x0 : List Int) : arun (pg Gspec_l31Numbers Gspec_l31Row) 5000 [.code c0] (mk pin (x0, ())) = F0 Gspec_l31Numbers Gspec_l31Row x0 := by kernel_rfl
noncomputable def impl : PI → Option PO := fun x => F0 spec_l31Numbers.impl spec_l31Row.impl x.1
theorem impl_eq (x0 : List Int) : impl (x0, ()) = F0 spec_l31Numbers.impl spec_l31Row.impl x0 := rfl
theorem con : Con Tryz.prog 26 1 rs.length 1 pin pout impl := by
  refine con_of_run' (nt := 19) (c := c0) tabGood Tryz.func26 (by kernel_rfl) (by kernel_rfl) (by kernel_rfl) (by kernel_rfl) (by kernel_rfl) (by kernel_rfl) (by kernel_rfl) ?_
  intro w0 O y hnp
  generalize hPost : (fun (a' : Act) (w' : World) => ∃ μ' S' st', Rel 19 w0 O μ' S' st' a' w' ∧ endOf (tabOf tab) rs 1 pout st' = some y) = Post
  have fin : ∀ (μ : Id → Option Value) (S : Nat → Prop) (st : St) (a : Act) (w : World), Rel 19 w0 O μ S st a w → endOf (tabOf tab) rs 1 pout st = some y → Post a w := fun μ S st a w h he => by rw [← hPost]; exact ⟨μ, S, st, h, he⟩
  have hp : Parts Tryz.prog 26 (pg spec_l31Numbers.impl spec_l31Row.impl) [] := ⟨tab_ok tabGood rfl, (handAt_ok spec_l31Row.con (handAt_ok spec_l31Numbers.con handNil_ok)), rfl⟩
  exact good_first (hp) (runOK_of (hp) hnp trivial fin) (fun x => (seg0 spec_l31Numbers.impl spec_l31Row.impl x.1))
end spec_ListText

/-! ### loop.example/wholecheck/impl.numberText -/
namespace impl_numberText
noncomputable abbrev c0 : Code := (Tryz.f79.body).getD .skip
noncomputable abbrev pin : Tpl := ⟨[⟨0, false, [.d .str]⟩], []⟩
noncomputable abbrev pout : Tpl := ⟨[⟨0, false, [.d (.int .i64)]⟩, ⟨1, false, [.d .bool]⟩], []⟩
noncomputable abbrev PI := (List UInt8) × Unit
noncomputable abbrev PO := Int × Bool × Unit
noncomputable abbrev rs : List ResultVar := [.tmp 2, .tmp 3]
noncomputable def F0 (Gimpl_in : impl_in.PI → Option impl_in.PO) (Glib_Atoi : lib_Atoi.PI → Option lib_Atoi.PO) (Glib_Itoa : lib_Itoa.PI → Option lib_Itoa.PO) (x0 : List UInt8) : Option PO :=
  Option.bind (Glib_Atoi (x0, ())) fun y0 =>
  bif y0.2.1 then
    Option.bind (Glib_Itoa (y0.1, ())) fun y1 =>
    bif y1.1 == x0 then
      Option.bind (Gimpl_in (y0.1, (-9999), 9999, ())) fun y2 =>
      some (y0.1, y2.1, ())
    else
      some (y0.1, false, ())
  else
    some (y0.1, false, ())
noncomputable def hd {R : Type} (Gimpl_in : impl_in.PI → Option impl_in.PO) (Glib_Atoi : lib_Atoi.PI → Option lib_Atoi.PO) (Glib_Itoa : lib_Itoa.PI → Option lib_Itoa.PO) : Hand R := (handAt 123 [8] true ⟨1, 2, 0, lib_Atoi.pin, lib_Atoi.pout, Glib_Atoi⟩ (handAt 74 [22] true ⟨3, 1, 3, impl_in.pin, impl_in.pout, Gimpl_in⟩ (handAt 45 [16] true ⟨1, 1, 0, lib_Itoa.pin, lib_Itoa.pout, Glib_Itoa⟩ handNil)))
noncomputable def pg (Gimpl_in : impl_in.PI → Option impl_in.PO) (Glib_Atoi : lib_Atoi.PI → Option lib_Atoi.PO) (Glib_Itoa : lib_Itoa.PI → Option lib_Itoa.PO) : Prog PO := { nt := 24, np := 1, tb := tabOf tab, hd := hd Gimpl_in Glib_Atoi Glib_Itoa, cuts := cutsOf [], fin := endOf (tabOf tab) rs 1 pout }
noncomputable def q : FuncId → Bool := fun f => hasId [45, 74, 123] f
theorem seg0 (Gimpl_in : impl_in.PI → Option impl_in.PO) (Glib_Atoi : lib_Atoi.PI → Option lib_Atoi.PO) (Glib_Itoa : lib_Itoa.PI → Option lib_Itoa.PO) (x0 : List UInt8) : arun (pg Gimpl_in Glib_Atoi Glib_Itoa) 5000 [.code c0] (mk pin (x0, ())) = F0 Gimpl_in Glib_Atoi Glib_Itoa x0 := by kernel_rfl
noncomputable def impl : PI → Option PO := fun x => F0 impl_in.impl lib_Atoi.impl lib_Itoa.impl x.1
theorem impl_eq (x0 : List UInt8) : impl (x0, ()) = F0 impl_in.impl lib_Atoi.impl lib_Itoa.impl x0 := rfl
theorem con : Con Tryz.prog 79 1 rs.length 1 pin pout impl := by
  refine con_of_run' (nt := 24) (c := c0) tabGood Tryz.func79 (by kernel_rfl) (by kernel_rfl) (by kernel_rfl) (by kernel_rfl) (by kernel_rfl) (by kernel_rfl) (by kernel_rfl) ?_
  intro w0 O y hnp
  generalize hPost : (fun (a' : Act) (w' : World) => ∃ μ' S' st', Rel 24 w0 O μ' S' st' a' w' ∧ endOf (tabOf tab) rs 1 pout st' = some y) = Post
  have fin : ∀ (μ : Id → Option Value) (S : Nat → Prop) (st : St) (a : Act) (w : World), Rel 24 w0 O μ S st a w → endOf (tabOf tab) rs 1 pout st = some y → Post a w := fun μ S st a w h he => by rw [← hPost]; exact ⟨μ, S, st, h, he⟩
  have hp : Parts Tryz.prog 79 (pg impl_in.impl lib_Atoi.impl lib_Itoa.impl) [] := ⟨tab_ok tabGood rfl, (handAt_ok lib_Atoi.con (handAt_ok impl_in.con (handAt_ok lib_Itoa.con handNil_ok))), rfl⟩
  exact good_first (hp) (runOK_of (hp) hnp trivial fin) (fun x => (seg0 impl_in.impl lib_Atoi.impl lib_Itoa.impl x.1))
end impl_numberText

/-! ### loop.example/wholecheck/impl.clone[int] -/
namespace impl_clone_of
noncomputable abbrev c0 : Code := (Tryz.f80.body).getD .skip
noncomputable abbrev pin : Tpl := ⟨[⟨0, false, [.d (.sl (.int .i64))]⟩], []⟩
noncomputable abbrev pout : Tpl := ⟨[⟨0, false, [.row 600001]⟩], [(600001, .row 3 false (.int .i64))]⟩
noncomputable abbrev PI := (List Int) × Unit
noncomputable abbrev PO := (List Int) × Unit
noncomputable abbrev rs : List ResultVar := [.tmp 2]
noncomputable def F0 (x0 : List Int) : Option PO :=
  bif (x0.length : Int) == 0 then
    some ([], ())
  else
    bif decide (0 ≤ (x0.length : Int)) && decide ((x0.length : Int) ≤ (x0.length : Int)) && decide ((x0.length : Int) * 8 ≤ 140737488355328) then
      some (x0.take (List.replicate (x0.length : Int).toNat 0 : List Int).length ++ (List.replicate (x0.length : Int).toNat 0 : List Int).drop x0.length, ())
    else
      none
noncomputable def hd {R : Type} : Hand R := handNil
noncomputable def pg : Prog PO := { nt := 14, np := 1, tb := tabOf tab, hd := hd, cuts := cutsOf [], fin := endOf (tabOf tab) rs 1 pout }
noncomputable def q : FuncId → Bool := fun f => hasId [] f
theorem seg0 (x0 : List Int) : arun (pg) 5000 [.code c0] (mk pin (x0, ())) = F0 x0 := by kernel_rfl
noncomputable def impl : PI → Option PO := fun x => F0 x.1
theorem impl_eq (x0 : List Int) : impl (x0, ()) = F0 x0 := rfl
theorem con : Con Tryz.prog 80 1 rs.length 1 pin pout impl := by
  refine con_of_run' (nt := 14) (c := c0) tabGood Tryz.func80 (by kernel_rfl) (by kernel_rfl) (by kernel_rfl) (by kernel_rfl) (by kernel_rfl) (by kernel_rfl) (by kernel_rfl) ?_
  intro w0 O y hnp
  generalize hPost : (fun (a' : Act) (w' : World) => ∃ μ' S' st', Rel 14 w0 O μ' S' st' a' w' ∧ endOf (tabOf tab) rs 1 pout st' = some y) = Post
  have fin : ∀ (μ : Id → Option Value) (S : Nat → Prop) (st : St) (a : Act) (w : World), Rel 14 w0 O μ S st a w → endOf (tabOf tab) rs 1 pout st = some y → Post a w := fun μ S st a w h he => by rw [← hPost]; exact ⟨μ, S, st, h, he⟩
  have hp : Parts Tryz.prog 80 (pg) [] := ⟨tab_ok tabGood rfl, handNil_ok, rfl⟩
  exact good_first (hp) (runOK_of (hp) hnp trivial fin) (fun x => (seg0 x.1))
end impl_clone_of

/-! ### loop.example/wholecheck/impl.ReadList -/
namespace impl_ReadList
noncomputable abbrev c0 : Code := (Tryz.f27.body).getD .skip
noncomputable abbrev pin : Tpl := ⟨[⟨0, false, [.d .str]⟩], []⟩
noncomputable abbrev pout : Tpl := ⟨[⟨0, false, [.row 600001]⟩, ⟨1, false, [.d .bool]⟩], [(600001, .row 3 false (.int .i64))]⟩
noncomputable abbrev p5 : Tpl := ⟨[⟨4, false, [.row 3000000]⟩, ⟨12, false, [.d (.sl .str)]⟩, ⟨13, false, [.d (.int .i64)]⟩, ⟨14, false, [.d (.int .i64)]⟩], [(3000000, .row 3 true (.int .i64))]⟩
noncomputable def T5 : List Item := (find 5 c0 []).getD []
noncomputable abbrev PI := (List UInt8) × Unit
noncomputable abbrev PO := Bool × (List Int) × Unit
noncomputable abbrev P5 := (List (List UInt8)) × Int × Int × (List Int) × Unit
noncomputable abbrev rs : List ResultVar := [.tmp 2, .tmp 3]
noncomputable def F0 (J5 : P5 → Option PO) (Glib_Split : lib_Split.PI → Option lib_Split.PO) (x0 : List UInt8) : Option PO :=
  bif x0 == ([45] : List UInt8) then
    some (true, [], ())
  else
    Option.bind (Glib_Split (x0, ([32] : List UInt8), ())) fun y0 =>
    J5 (y0.1, (y0.1.length : Int), 0, [], ())
noncomputable def F5 (J5 : P5 → Option PO) (Gimpl_clone_of : impl_clone_of.PI → Option impl_clone_of.PO) (Gimpl_numberText : impl_numberText.PI → Option impl_numberText.PO) (t12 : List (List UInt8)) (t13 : Int) (t14 : Int) (r0 : List Int) : Option PO :=
  bif decide (t14 < t13) then
    bif inb t14 t12.length then
      Option.bind (Gimpl_numberText (t12.getD t14.toNat [], ())) fun y1 =>
      bif !y1.2.1 then
        some (false, [], ())
      else
        bif (r0.length : Int) == 400 then
          some (false, [], ())
        else
          bif decide ((r0.length + ([y1.1] : List Int).length) * 8 ≤ 140737488355328) then
            J5 (t12, t13, wI (t14 + 1), r0 ++ ([y1.1] : List Int), ())
          else
            none
    else
      none
  else
    Option.bind (Gimpl_clone_of (r0, ())) fun y2 =>
    some (true, y2.1, ())
noncomputable def hd {R : Type} (Gimpl_clone_of : impl_clone_of.PI → Option impl_clone_of.PO) (Gimpl_numberText : impl_numberText.PI → Option impl_numberText.PO) (Glib_Split : lib_Split.PI → Option lib_Split.PO) : Hand R := (handAt 80 [36] true ⟨1, 1, 1, impl_clone_of.pin, impl_clone_of.pout, Gimpl_clone_of⟩ (handAt 79 [20] true ⟨1, 2, 1, impl_numberText.pin, impl_numberText.pout, Gimpl_numberText⟩ (handAt 78 [12] false ⟨2, 1, 0, lib_Split.pin, lib_Split.pout, Glib_Split⟩ handNil)))
noncomputable def pg (Gimpl_clone_of : impl_clone_of.PI → Option impl_clone_of.PO) (Gimpl_numberText : impl_numberText.PI → Option impl_numberText.PO) (Glib_Split : lib_Split.PI → Option lib_Split.PO) (J5 : List Item → P5 → Option PO) : Prog PO := { nt := 37, np := 1, tb := tabOf tab, hd := hd Gimpl_clone_of Gimpl_numberText Glib_Split, cuts := cutsOf [(5, cut p5 J5)], fin := endOf (tabOf tab) rs 1 pout }
noncomputable def q : FuncId → Bool := fun f => hasId [79] f
theorem seg0 (Gimpl_clone_of : impl_clone_of.PI → Option impl_clone_of.PO) (Gimpl_numberText : impl_numberText.PI → Option impl_numberText.PO) (Glib_Split : lib_Split.PI → Option lib_Split.PO) (J5 : List Item → P5 → Option PO) (x0 : List UInt8) : arun (pg Gimpl_clone_of Gimpl_numberText Glib_Split J5) 5000 [.code c0] (mk pin (x0, ())) = F0 (J5 T5) Glib_Split x0 := by kernel_rfl
theorem seg5 (Gimpl_clone_of : impl_clone_of.PI → Option impl_clone_of.PO) (Gimpl_numberText : impl_numberText.PI → Option impl_numberText.PO) (Glib_Split : lib_Split.PI → Option lib_Split.PO) (J5 : List Item → P5 → Option PO) (t12 : List (List UInt8)) (t13 : Int) (t14 : Int) (r0 : List Int) : arun1 (pg Gimpl_clone_of Gimpl_numberText Glib_Split J5) 5000 T5 (mk p5 (t12, t13, t14, r0, ())) = F5 (J5 T5) Gimpl_clone_of Gimpl_numberText t12 t13 t14 r0 := by kernel_rfl
noncomputable def L5 : P5 → Option PO := lfp fun J5 x => F5 J5 impl_clone_of.impl impl_numberText.impl x.1 x.2.1 x.2.2.1 x.2.2.2.1
noncomputable def impl : PI → Option PO := fun x => F0 L5 lib_Split.impl x.1
theorem F5_le {J5 J5' : P5 → Option PO} (h5 : OLe J5 J5') {Gimpl_clone_of : impl_clone_of.PI → Option impl_clone_of.PO} {Gimpl_numberText : impl_numberText.PI → Option impl_numberText.PO} (t12 : List (List UInt8)) (t13 : Int) (t14 : Int) (r0 : List Int) : OptLe (F5 J5 Gimpl_clone_of Gimpl_numberText t12 t13 t14 r0) (F5 J5' Gimpl_clone_of Gimpl_numberText t12 t13 t14 r0) := by unfold F5; exact .cond (.cond (.bind (.refl _) fun _ => .cond (.refl _) (.cond (.refl _) (.cond (.of h5 _) (.refl _)))) (.refl _)) (.refl _)
theorem L5_mono : OMono fun J5 (x : P5) => F5 J5 impl_clone_of.impl impl_numberText.impl x.1 x.2.1 x.2.2.1 x.2.2.2.1 := fun J J' h5 x => F5_le h5 x.1 x.2.1 x.2.2.1 x.2.2.2.1
theorem L5_eq (t12 : List (List UInt8)) (t13 : Int) (t14 : Int) (r0 : List Int) : L5 (t12, t13, t14, r0, ()) = F5 (L5) impl_clone_of.impl impl_numberText.impl t12 t13 t14 r0 := congrFun (lfp_eq (L5_mono)) _
theorem impl_eq (x0 : List UInt8) : impl (x0, ()) = F0 L5 lib_Split.impl x0 := rfl
theorem con : Con Tryz.prog 27 1 rs.length 1 pin pout impl := by
  refine con_of_run' (nt := 37) (c := c0) tabGood Tryz.func27 (by kernel_rfl) (by kernel_rfl) (by kernel_rfl) (by kernel_rfl) (by kernel_rfl) (by kernel_rfl) (by kernel_rfl) ?_
  intro w0 O y hnp
  generalize hPost : (fun (a' : Act) (w' : World) => ∃ μ' S' st', Rel 37 w0 O μ' S' st' a' w' ∧ endOf (tabOf tab) rs 1 pout st' = some y) = Post
  have fin : ∀ (μ : Id → Option Value) (S : Nat → Prop) (st : St) (a : Act) (w : World), Rel 37 w0 O μ S st a w → endOf (tabOf tab) rs 1 pout st = some y → Post a w := fun μ S st a w h he => by rw [← hPost]; exact ⟨μ, S, st, h, he⟩
  have hp : ∀ (J5 : List Item → P5 → Option PO), Parts Tryz.prog 27 (pg impl_clone_of.impl impl_numberText.impl lib_Split.impl J5) [(5, cut p5 J5)] := fun J5 => ⟨tab_ok tabGood rfl, (handAt_ok impl_clone_of.con (handAt_ok impl_numberText.con (handAt_ok lib_Split.con handNil_ok))), rfl⟩
  have g5 : Good Tryz.prog 37 w0 O Post y T5 p5 L5 := good_lfp fun J5 h5 => good_part (hp (atT T5 J5)) (runOK_of (hp (atT T5 J5)) hnp ⟨cutOK_at h5, trivial⟩ fin) (fun x => (seg5 impl_clone_of.impl impl_numberText.impl lib_Split.impl (atT T5 J5) x.1 x.2.1 x.2.2.1 x.2.2.2.1).trans (by simp only [atT_self] <;> rfl))
  exact good_first (hp (atT T5 L5)) (runOK_of (hp (atT T5 L5)) hnp ⟨cutOK_at g5, trivial⟩ fin) (fun x => (seg0 impl_clone_of.impl impl_numberText.impl lib_Split.impl (atT T5 L5) x.1).trans (by simp only [atT_self] <;> rfl))
end impl_ReadList

/-! ### (*loop.example/wholecheck/spec.l40Rd).of -/
namespace spec_l40Rd_of
noncomputable abbrev c0 : Code := (Tryz.f103.body).getD .skip
noncomputable abbrev pin : Tpl := ⟨[⟨0, false, [.ptr 500001 0]⟩, ⟨1, false, [.d (.sl .str)]⟩], [(500001, .box [.d (.sl (.int .u8)), .d (.int .i64)])]⟩
noncomputable abbrev pout : Tpl := ⟨[⟨0, false, [.d .str]⟩, ⟨1, false, [.ptr 500001 0]⟩], [(500001, .box [.d (.sl (.int .u8)), .d (.int .i64)])]⟩
noncomputable abbrev PI := (List (List UInt8)) × (List Int) × Int × Unit
noncomputable abbrev PO := (List UInt8) × (List Int) × Int × Unit
noncomputable abbrev rs : List ResultVar := [.tmp 4]
noncomputable def F0 (Gspec_l40Rd_pick : spec_l40Rd_pick.PI → Option spec_l40Rd_pick.PO) (x1 : List (List UInt8)) (c1_0 : List Int) (c1_1 : Int) : Option PO :=
  Option.bind (Gspec_l40Rd_pick ((x1.length : Int), c1_0, c1_1, ())) fun y0 =>
  bif inb y0.1 x1.length then
    some (x1.getD y0.1.toNat [], y0.2.1, y0.2.2.1, ())
  else
    none
noncomputable def hd {R : Type} (Gspec_l40Rd_pick : spec_l40Rd_pick.PI → Option spec_l40Rd_pick.PO) : Hand R := (handAt 53 [9] false ⟨2, 1, 2, spec_l40Rd_pick.pin, spec_l40Rd_pick.pout, Gspec_l40Rd_pick⟩ handNil)
noncomputable def pg (Gspec_l40Rd_pick : spec_l40Rd_pick.PI → Option spec_l40Rd_pick.PO) : Prog PO := { nt := 12, np := 2, tb := tabOf tab, hd := hd Gspec_l40Rd_pick, cuts := cutsOf [], fin := endOf (tabOf tab) rs 2 pout }
noncomputable def q : FuncId → Bool := fun f => hasId [] f
theorem seg0 (Gspec_l40Rd_pick : spec_l40Rd_pick.PI → Option spec_l40Rd_pick.PO) (x1 : List (List UInt8)) (c1_0 : List Int) (c1_1 : Int) : arun (pg Gspec_l40Rd_pick) 5000 [.code c0] (mk pin (x1, c1_0, c1_1, ())) = F0 Gspec_l40Rd_pick x1 c1_0 c1_1 := by kernel_rfl
noncomputable def impl : PI → Option PO := fun x => F0 spec_l40Rd_pick.impl x.1 x.2.1 x.2.2.1
theorem impl_eq (x1 : List (List UInt8)) (c1_0 : List Int) (c1_1 : Int) : impl (x1, c1_0, c1_1, ()) = F0 spec_l40Rd_pick.impl x1 c1_0 c1_1 := rfl
theorem con : Con Tryz.prog 103 2 rs.length 2 pin pout impl := by
  refine con_of_run' (nt := 12) (c := c0) tabGood Tryz.func103 (by kernel_rfl) (by kernel_rfl) (by kernel_rfl) (by kernel_rfl) (by kernel_rfl) (by kernel_rfl) (by kernel_rfl) ?_
  intro w0 O y hnp
  generalize hPost : (fun (a' : Act) (w' : World) => ∃ μ' S' st', Rel 12 w0 O μ' S' st' a' w' ∧ endOf (tabOf tab) rs 2 pout st' = some y) = Post
  have fin : ∀ (μ : Id → Option Value) (S : Nat → Prop) (st : St) (a : Act) (w : World), Rel 12 w0 O μ S st a w → endOf (tabOf tab) rs 2 pout st = some y → Post a w := fun μ S st a w h he => by rw [← hPost]; exact ⟨μ, S, st, h, he⟩
  have hp : Parts Tryz.prog 103 (pg spec_l40Rd_pick.impl) [] := ⟨tab_ok tabGood rfl, (handAt_ok spec_l40Rd_pick.con handNil_ok), rfl⟩
  exact good_first (hp) (runOK_of (hp) hnp trivial fin) (fun x => (seg0 spec_l40Rd_pick.impl x.1 x.2.1 x.2.2.1))
end spec_l40Rd_of

/-! ### loop.example/wholecheck/spec.l30Spoil -/
namespace spec_l30Spoil
noncomputable abbrev c0 : Code := (Tryz.f70.body).getD .skip
noncomputable abbrev pin : Tpl := ⟨[⟨0, false, [.ptr 500001 0]⟩, ⟨1, false, [.d .str]⟩], [(500001, .box [.d (.sl (.int .u8)), .d (.int .i64)])]⟩
noncomputable abbrev pout : Tpl := ⟨[⟨0, false, [.d .str]⟩, ⟨1, false, [.ptr 500001 0]⟩], [(500001, .box [.d (.sl (.int .u8)), .d (.int .i64)])]⟩
noncomputable abbrev p3 : Tpl := ⟨[⟨0, false, [.ptr 500001 0]⟩, ⟨1, false, [.d .str]⟩], [(500001, .box [.d (.sl (.int .u8)), .d (.int .i64)])]⟩
noncomputable def T3 : List Item := (find 3 c0 []).getD []
noncomputable abbrev p4 : Tpl := ⟨[⟨0, false, [.ptr 500001 0]⟩, ⟨1, false, [.d .str]⟩, ⟨5, false, [.d (.int .i64)]⟩], [(500001, .box [.d (.sl (.int .u8)), .d (.int .i64)])]⟩
noncomputable def T4 : List Item := (find 4 c0 []).getD []
noncomputable abbrev PI := (List UInt8) × (List Int) × Int × Unit
noncomputable abbrev PO := (List UInt8) × (List Int) × Int × Unit
noncomputable abbrev P3 := (List UInt8) × (List Int) × Int × Unit
noncomputable abbrev P4 := (List UInt8) × Int × (List Int) × Int × Unit
noncomputable abbrev rs : List ResultVar := [.tmp 4]
noncomputable def F0 (J3 : P3 → Option PO) (Gspec_l40Rd_pick : spec_l40Rd_pick.PI → Option spec_l40Rd_pick.PO) (x1 : List UInt8) (c1_0 : List Int) (c1_1 : Int) : Option PO :=
  bif (x1.length : Int) == 0 then
    some (x1, c1_0, c1_1, ())
  else
    Option.bind (Gspec_l40Rd_pick (3, c1_0, c1_1, ())) fun y0 =>
    bif decide (y0.1 > 0) then
      some (x1, y0.2.1, y0.2.2.1, ())
    else
      J3 (x1, y0.2.1, y0.2.2.1, ())
noncomputable def F3 (J4 : P4 → Option PO) (Gspec_l40Rd_pick : spec_l40Rd_pick.PI → Option spec_l40Rd_pick.PO) (t1 : List UInt8) (c1_0 : List Int) (c1_1 : Int) : Option PO :=
  Option.bind (Gspec_l40Rd_pick ((t1.length : Int), c1_0, c1_1, ())) fun y1 =>
  J4 (t1, y1.1, y1.2.1, y1.2.2.1, ())
noncomputable def F4 (Gspec_l40Rd_of : spec_l40Rd_of.PI → Option spec_l40Rd_of.PO) (Gspec_l40Rd_pick : spec_l40Rd_pick.PI → Option spec_l40Rd_pick.PO) (t1 : List UInt8) (t5 : Int) (c1_0 : List Int) (c1_1 : Int) : Option PO :=
  bif decide (0 ≤ t5) && decide (t5 ≤ (t1.length : Int)) then
    Option.bind (Gspec_l40Rd_of (([[], ([32] : List UInt8), ([40] : List UInt8), ([41] : List UInt8), ([120] : List UInt8), ([10] : List UInt8), ([48] : List UInt8), ([45] : List UInt8), ([59] : List UInt8), ([61] : List UInt8)] : List (List UInt8)), c1_0, c1_1, ())) fun y2 =>
    bif decide (((t1.take t5.toNat).drop 0).length + y2.1.length ≤ 140737488355328) then
      Option.bind (Gspec_l40Rd_pick (2, y2.2.1, y2.2.2.1, ())) fun y3 =>
      bif decide (0 ≤ wI (t5 + y3.1)) && decide (wI (t5 + y3.1) ≤ (t1.length : Int)) && decide ((t1.length : Int) ≤ (t1.length : Int)) then
        bif decide ((((t1.take t5.toNat).drop 0) ++ y2.1).length + ((t1.take (t1.length : Int).toNat).drop (wI (t5 + y3.1)).toNat).length ≤ 140737488355328) then
          some ((((t1.take t5.toNat).drop 0) ++ y2.1) ++ ((t1.take (t1.length : Int).toNat).drop (wI (t5 + y3.1)).toNat), y3.2.1, y3.2.2.1, ())
        else
          none
      else
        none
    else
      none
  else
    none
noncomputable def hd {R : Type} (Gspec_l40Rd_of : spec_l40Rd_of.PI → Option spec_l40Rd_of.PO) (Gspec_l40Rd_pick : spec_l40Rd_pick.PI → Option spec_l40Rd_pick.PO) : Hand R := (handAt 103 [24] false ⟨2, 1, 2, spec_l40Rd_of.pin, spec_l40Rd_of.pout, Gspec_l40Rd_of⟩ (handAt 53 [11, 18, 29] false ⟨2, 1, 2, spec_l40Rd_pick.pin, spec_l40Rd_pick.pout, Gspec_l40Rd_pick⟩ handNil))
noncomputable def pg (Gspec_l40Rd_of : spec_l40Rd_of.PI → Option spec_l40Rd_of.PO) (Gspec_l40Rd_pick : spec_l40Rd_pick.PI → Option spec_l40Rd_pick.PO) (J3 : List Item → P3 → Option PO) (J4 : List Item → P4 → Option PO) : Prog PO := { nt := 33, np := 2, tb := tabOf tab, hd := hd Gspec_l40Rd_of Gspec_l40Rd_pick, cuts := cutsOf [(3, cut p3 J3), (4, cut p4 J4)], fin := endOf (tabOf tab) rs 2 pout }
noncomputable def q : FuncId → Bool := fun f => hasId [] f
theorem seg0 (Gspec_l40Rd_of : spec_l40Rd_of.PI → Option spec_l40Rd_of.PO) (Gspec_l40Rd_pick : spec_l40Rd_pick.PI → Option spec_l40Rd_pick.PO) (J3 : List Item → P3 → Option PO) (J4 : List Item → P4 → Option PO) (x1 : List UInt8) (c1_0 : List Int) (c1_1 : Int) : arun (pg Gspec_l40Rd_of Gspec_l40Rd_pick J3 J4) 5000 [.code c0] (mk pin (x1, c1_0, c1_1, ())) = F0 (J3 T3) Gspec_l40Rd_pick x1 c1_0 c1_1 := by kernel_rfl
theorem seg3 (Gspec_l40Rd_of : spec_l40Rd_of.PI → Option spec_l40Rd_of.PO) (Gspec_l40Rd_pick : spec_l40Rd_pick.PI → Option spec_l40Rd_pick.PO) (J3 : List Item → P3 → Option PO) (J4 : List Item → P4 → Option PO) (t1 : List UInt8) (c1_0 : List Int) (c1_1 : Int) : arun1 (pg Gspec_l40Rd_of Gspec_l40Rd_pick J3 J4) 5000 T3 (mk p3 (t1, c1_0, c1_1, ())) = F3 (J4 T4) Gspec_l40Rd_pick t1 c1_0 c1_1 := by kernel_rfl
theorem seg4 (Gspec_l40Rd_of : spec_l40Rd_of.PI → Option spec_l40Rd_of.PO) (Gspec_l40Rd_pick : spec_l40Rd_pick.PI → Option spec_l40Rd_pick.PO) (J3 : List Item → P3 → Option PO) (J4 : List Item → P4 → Option PO) (t1 : List UInt8) (t5 : Int) (c1_0 : List Int) (c1_1 : Int) : arunE (pg Gspec_l40Rd_of Gspec_l40Rd_pick J3 J4) 5000 T4 (mk p4 (t1, t5, c1_0, c1_1, ())) = List.replicate (arunE (pg Gspec_l40Rd_of Gspec_l40Rd_pick J3 J4) 5000 T4 (mk p4 (t1, t5, c1_0, c1_1, ()))).length (F4 Gspec_l40Rd_of Gspec_l40Rd_pick t1 t5 c1_0 c1_1) := by kernel_rfl
noncomputable def L4 : P4 → Option PO := fun x => F4 spec_l40Rd_of.impl spec_l40Rd_pick.impl x.1 x.2.1 x.2.2.1 x.2.2.2.1
noncomputable def L3 : P3 → Option PO := fun x => F3 L4 spec_l40Rd_pick.impl x.1 x.2.1 x.2.2.1
noncomputable def impl : PI → Option PO := fun x => F0 L3 spec_l40Rd_pick.impl x.1 x.2.1 x.2.2.1
theorem L4_eq (t1 : List UInt8) (t5 : Int) (c1_0 : List Int) (c1_1 : Int) : L4 (t1, t5, c1_0, c1_1, ()) = F4 spec_l40Rd_of.impl spec_l40Rd_pick.impl t1 t5 c1_0 c1_1 := rfl
theorem L3_eq (t1 : List UInt8) (c1_0 : List Int) (c1_1 : Int) : L3 (t1, c1_0, c1_1, ()) = F3 (L4) spec_l40Rd_pick.impl t1 c1_0 c1_1 := rfl
theorem impl_eq (x1 : List UInt8) (c1_0 : List Int) (c1_1 : Int) : impl (x1, c1_0, c1_1, ()) = F0 L3 spec_l40Rd_pick.impl x1 c1_0 c1_1 := rfl
theorem con : Con Tryz.prog 70 2 rs.length 2 pin pout impl := by
  refine con_of_run' (nt := 33) (c := c0) tabGood Tryz.func70 (by kernel_rfl) (by kernel_rfl) (by kernel_rfl) (by kernel_rfl) (by kernel_rfl) (by kernel_rfl) (by kernel_rfl) ?_
  intro w0 O y hnp
  generalize hPost : (fun (a' : Act) (w' : World) => ∃ μ' S' st', Rel 33 w0 O μ' S' st' a' w' ∧ endOf (tabOf tab) rs 2 pout st' = some y) = Post
  have fin : ∀ (μ : Id → Option Value) (S : Nat → Prop) (st : St) (a : Act) (w : World), Rel 33 w0 O μ S st a w → endOf (tabOf tab) rs 2 pout st = some y → Post a w := fun μ S st a w h he => by rw [← hPost]; exact ⟨μ, S, st, h, he⟩
  have hp : ∀ (J3 : List Item → P3 → Option PO), ∀ (J4 : List Item → P4 → Option PO), Parts Tryz.prog 70 (pg spec_l40Rd_of.impl spec_l40Rd_pick.impl J3 J4) [(3, cut p3 J3), (4, cut p4 J4)] := fun J3 J4 => ⟨tab_ok tabGood rfl, (handAt_ok spec_l40Rd_of.con (handAt_ok spec_l40Rd_pick.con handNil_ok)), rfl⟩
  have g4 : Good Tryz.prog 33 w0 O Post y T4 p4 L4 := good_orders (hs := hd spec_l40Rd_of.impl spec_l40Rd_pick.impl) (cv' := hd spec_l40Rd_of.impl spec_l40Rd_pick.impl) (Checked.mixed Tryz.checked) (hp (atT T3 (fun _ => none)) (atT T4 (fun _ => none))) (handAt_ok spec_l40Rd_of.con (handAt_ok spec_l40Rd_pick.con handNil_ok)) (handAt_nat (handAt_nat handNil_nat)) (handAt_nat (handAt_nat handNil_nat)) (runOK_of (hp (atT T3 (fun _ => none)) (atT T4 (fun _ => none))) hnp ⟨cutOK_at (p := p3) (T := T3) (J := fun _ => none) good_none, cutOK_at (p := p4) (T := T4) (J := fun _ => none) good_none, trivial⟩ fin) (fun x => all_same ⟨_, (seg4 spec_l40Rd_of.impl spec_l40Rd_pick.impl (atT T3 (fun _ => none)) (atT T4 (fun _ => none)) x.1 x.2.1 x.2.2.1 x.2.2.2.1)⟩)
  have g3 : Good Tryz.prog 33 w0 O Post y T3 p3 L3 := good_part (hp (atT T3 (fun _ => none)) (atT T4 L4)) (runOK_of (hp (atT T3 (fun _ => none)) (atT T4 L4)) hnp ⟨cutOK_at (p := p3) (T := T3) (J := fun _ => none) good_none, cutOK_at g4, trivial⟩ fin) (fun x => (seg3 spec_l40Rd_of.impl spec_l40Rd_pick.impl (atT T3 (fun _ => none)) (atT T4 L4) x.1 x.2.1 x.2.2.1).trans (by simp only [atT_self] <;> rfl))
  exact good_first (hp (atT T3 L3) (atT T4 (fun _ => none))) (runOK_of (hp (atT T3 L3) (atT T4 (fun _ => none))) hnp ⟨cutOK_at g3, cutOK_at (p := p4) (T := T4) (J := fun _ => none) good_none, trivial⟩ fin) (fun x => (seg0 spec_l40Rd_of.impl spec_l40Rd_pick.impl (atT T3 L3) (atT T4 (fun _ => none)) x.1 x.2.1 x.2.2.1).trans (by simp only [atT_self] <;> rfl))
end spec_l30Spoil

/-! ### loop.example/wholecheck/spec.DrawReadList -/
namespace spec_DrawReadList
noncomputable abbrev c0 : Code := (Tryz.f28.body).getD .skip
noncomputable abbrev pin : Tpl := ⟨[⟨0, false, [.d (.sl (.int .u8))]⟩], []⟩
noncomputable abbrev pout : Tpl := ⟨[⟨0, false, [.d .str]⟩], []⟩
noncomputable abbrev PI := (List Int) × Unit
noncomputable abbrev PO := (List UInt8) × Unit
noncomputable abbrev rs : List ResultVar := [.tmp 2]
noncomputable def F0 (Gspec_DrawListText : spec_DrawListText.PI → Option spec_DrawListText.PO) (Gspec_ListText : spec_ListText.PI → Option spec_ListText.PO) (Gspec_l30Spoil : spec_l30Spoil.PI → Option spec_l30Spoil.PO) (Gspec_l40Open : spec_l40Open.PI → Option spec_l40Open.PO) (x0 : List Int) : Option PO :=
  Option.bind (Gspec_l40Open (x0, ())) fun y0 =>
  Option.bind (Gspec_DrawListText (x0, ())) fun y1 =>
  Option.bind (Gspec_ListText (y1.1, ())) fun y2 =>
  Option.bind (Gspec_l30Spoil (y2.1, y0.1, y0.2.1, ())) fun y3 =>
  some (y3.1, ())
noncomputable def hd {R : Type} (Gspec_DrawListText : spec_DrawListText.PI → Option spec_DrawListText.PO) (Gspec_ListText : spec_ListText.PI → Option spec_ListText.PO) (Gspec_l30Spoil : spec_l30Spoil.PI → Option spec_l30Spoil.PO) (Gspec_l40Open : spec_l40Open.PI → Option spec_l40Open.PO) : Hand R := (handAt 70 [8] false ⟨2, 1, 2, spec_l30Spoil.pin, spec_l30Spoil.pout, Gspec_l30Spoil⟩ (handAt 51 [4] false ⟨1, 1, 0, spec_l40Open.pin, spec_l40Open.pout, Gspec_l40Open⟩ (handAt 26 [7] true ⟨1, 1, 1, spec_ListText.pin, spec_ListText.pout, Gspec_ListText⟩ (handAt 24 [6] true ⟨1, 1, 1, spec_DrawListText.pin, spec_DrawListText.pout, Gspec_DrawListText⟩ handNil))))
noncomputable def pg (Gspec_DrawListText : spec_DrawListText.PI → Option spec_DrawListText.PO) (Gspec_ListText : spec_ListText.PI → Option spec_ListText.PO) (Gspec_l30Spoil : spec_l30Spoil.PI → Option spec_l30Spoil.PO) (Gspec_l40Open : spec_l40Open.PI → Option spec_l40Open.PO) : Prog PO := { nt := 9, np := 1, tb := tabOf tab, hd := hd Gspec_DrawListText Gspec_ListText Gspec_l30Spoil Gspec_l40Open, cuts := cutsOf [], fin := endOf (tabOf tab) rs 1 pout }
noncomputable def q : FuncId → Bool := fun f => hasId [26] f
theorem seg0 (Gspec_DrawListText : spec_DrawListText.PI → Option spec_DrawListText.PO) (Gspec_ListText : spec_ListText.PI → Option spec_ListText.PO) (Gspec_l30Spoil : spec_l30Spoil.PI → Option spec_l30Spoil.PO) (Gspec_l40Open : spec_l40Open.PI → Option spec_l40Open.PO) (x0 : List Int) : arun (pg Gspec_DrawListText Gspec_ListText Gspec_l30Spoil Gspec_l40Open) 5000 [.code c0] (mk pin (x0, ())) = F0 Gspec_DrawListText Gspec_ListText Gspec_l30Spoil Gspec_l40Open x0 := by kernel_rfl
noncomputable def impl : PI → Option PO := fun x => F0 spec_DrawListText.impl spec_ListText.impl spec_l30Spoil.impl spec_l40Open.impl x.1
theorem impl_eq (x0 : List Int) : impl (x0, ()) = F0 spec_DrawListText.impl spec_ListText.impl spec_l30Spoil.impl spec_l40Open.impl x0 := rfl
theorem con : Con Tryz.prog 28 1 rs.length 1 pin pout impl := by
  refine con_of_run' (nt := 9) (c := c0) tabGood Tryz.func28 (by kernel_rfl) (by kernel_rfl) (by kernel_rfl) (by kernel_rfl) (by kernel_rfl) (by kernel_rfl) (by kernel_rfl) ?_
  intro w0 O y hnp
  generalize hPost : (fun (a' : Act) (w' : World) => ∃ μ' S' st', Rel 9 w0 O μ' S' st' a' w' ∧ endOf (tabOf tab) rs 1 pout st' = some y) = Post
  have fin : ∀ (μ : Id → Option Value) (S : Nat → Prop) (st : St) (a : Act) (w : World), Rel 9 w0 O μ S st a w → endOf (tabOf tab) rs 1 pout st = some y → Post a w := fun μ S st a w h he => by rw [← hPost]; exact ⟨μ, S, st, h, he⟩
  have hp : Parts Tryz.prog 28 (pg spec_DrawListText.impl spec_ListText.impl spec_l30Spoil.impl spec_l40Open.impl) [] := ⟨tab_ok tabGood rfl, (handAt_ok spec_l30Spoil.con (handAt_ok spec_l40Open.con (handAt_ok spec_ListText.con (handAt_ok spec_DrawListText.con handNil_ok)))), rfl⟩
  exact good_first (hp) (runOK_of (hp) hnp trivial fin) (fun x => (seg0 spec_DrawListText.impl spec_ListText.impl spec_l30Spoil.impl spec_l40Open.impl x.1))
end spec_DrawReadList

/-! ### loop.example/wholecheck/spec.l40Cut -/
namespace spec_l40Cut
noncomputable abbrev c0 : Code := (Tryz.f82.body).getD .skip
noncomputable abbrev pin : Tpl := ⟨[⟨0, false, [.d .str]⟩, ⟨1, false, [.d (.int .u8)]⟩], []⟩
noncomputable abbrev pout : Tpl := ⟨[⟨0, false, [.row 600001]⟩], [(600001, .row 9 false .str)]⟩
noncomputable abbrev p4 : Tpl := ⟨[⟨0, false, [.d .str]⟩, ⟨1, false, [.d (.int .u8)]⟩, ⟨5, false, [.row 3000000]⟩, ⟨6, false, [.d (.int .i64)]⟩, ⟨7, false, [.d (.int .i64)]⟩], [(3000000, .row 9 false .str)]⟩
noncomputable def T4 : List Item := (find 4 c0 []).getD []
noncomputable abbrev PI := (List UInt8) × Int × Unit
noncomputable abbrev PO := (List (List UInt8)) × Unit
noncomputable abbrev P4 := (List UInt8) × Int × Int × Int × (List (List UInt8)) × Unit
noncomputable abbrev rs : List ResultVar := [.tmp 4]
noncomputable def F0 (J4 : P4 → Option PO) (x0 : List UInt8) (x1 : Int) : Option PO :=
  J4 (x0, x1, 0, 0, ([] : List (List UInt8)), ())
noncomputable def F4 (J4 : P4 → Option PO) (t0 : List UInt8) (t1 : Int) (t6 : Int) (t7 : Int) (r0 : List (List UInt8)) : Option PO :=
  bif decide (t7 ≤ (t0.length : Int)) then
    bif t7 == (t0.length : Int) then
      bif decide (0 ≤ t6) && decide (t6 ≤ t7) && decide (t7 ≤ (t0.length : Int)) then
        bif decide ((r0.length + ([(t0.take t7.toNat).drop t6.toNat] : List (List UInt8)).length) * 16 ≤ 140737488355328) then
          J4 (t0, t1, wI (t7 + 1), wI (t7 + 1), r0 ++ ([(t0.take t7.toNat).drop t6.toNat] : List (List UInt8)), ())
        else
          none
      else
        none
    else
      bif inb t7 t0.length then
        bif ((t0.getD t7.toNat 0).toNat : Int) == t1 then
          bif decide (0 ≤ t6) && decide (t6 ≤ t7) && decide (t7 ≤ (t0.length : Int)) then
            bif decide ((r0.length + ([(t0.take t7.toNat).drop t6.toNat] : List (List UInt8)).length) * 16 ≤ 140737488355328) then
              J4 (t0, t1, wI (t7 + 1), wI (t7 + 1), r0 ++ ([(t0.take t7.toNat).drop t6.toNat] : List (List UInt8)), ())
            else
              none
          else
            none
        else
          J4 (t0, t1, t6, wI (t7 + 1), r0, ())
      else
        none
  else
    some (r0, ())
noncomputable def hd {R : Type} : Hand R := handNil
noncomputable def pg (J4 : List Item → P4 → Option PO) : Prog PO := { nt := 36, np := 2, tb := tabOf tab, hd := hd, cuts := cutsOf [(4, cut p4 J4)], fin := endOf (tabOf tab) rs 2 pout }
noncomputable def q : FuncId → Bool := fun f => hasId [] f
theorem seg0 (J4 : List Item → P4 → Option PO) (x0 : List UInt8) (x1 : Int) : arun (pg J4) 5000 [.code c0] (mk pin (x0, x1, ())) = F0 (J4 T4) x0 x1 := by kernel_rfl
theorem seg4 (J4 : List Item → P4 → Option PO) (t0 : List UInt8) (t1 : Int) (t6 : Int) (t7 : Int) (r0 : List (List UInt8)) : arun1 (pg J4) 5000 T4 (mk p4 (t0, t1, t6, t7, r0, ())) = F4 (J4 T4) t0 t1 t6 t7 r0 := by kernel_rfl
noncomputable def L4 : P4 → Option PO := lfp fun J4 x => F4 J4 x.1 x.2.1 x.2.2.1 x.2.2.2.1 x.2.2.2.2.1
noncomputable def impl : PI → Option PO := fun x => F0 L4 x.1 x.2.1
theorem F4_le {J4 J4' : P4 → Option PO} (h4 : OLe J4 J4') (t0 : List UInt8) (t1 : Int) (t6 : Int) (t7 : Int) (r0 : List (List UInt8)) : OptLe (F4 J4 t0 t1 t6 t7 r0) (F4 J4' t0 t1 t6 t7 r0) := by unfold F4; exact .cond (.cond (.cond (.cond (.of h4 _) (.refl _)) (.refl _)) (.cond (.cond (.cond (.cond (.of h4 _) (.refl _)) (.refl _)) (.of h4 _)) (.refl _))) (.refl _)
theorem L4_mono : OMono fun J4 (x : P4) => F4 J4 x.1 x.2.1 x.2.2.1 x.2.2.2.1 x.2.2.2.2.1 := fun J J' h4 x => F4_le h4 x.1 x.2.1 x.2.2.1 x.2.2.2.1 x.2.2.2.2.1
theorem L4_eq (t0 : List UInt8) (t1 : Int) (t6 : Int) (t7 : Int) (r0 : List (List UInt8)) : L4 (t0, t1, t6, t7, r0, ()) = F4 (L4) t0 t1 t6 t7 r0 := congrFun (lfp_eq (L4_mono)) _
theorem impl_eq (x0 : List UInt8) (x1 : Int) : impl (x0, x1, ()) = F0 L4 x0 x1 := rfl
theorem con : Con Tryz.prog 82 2 rs.length 2 pin pout impl := by
  refine con_of_run' (nt := 36) (c := c0) tabGood Tryz.func82 (by kernel_rfl) (by kernel_rfl) (by kernel_rfl) (by kernel_rfl) (by kernel_rfl) (by kernel_rfl) (by kernel_rfl) ?_
  intro w0 O y hnp
  generalize hPost : (fun (a' : Act) (w' : World) => ∃ μ' S' st', Rel 36 w0 O μ' S' st' a' w' ∧ endOf (tabOf tab) rs 2 pout st' = some y) = Post
  have fin : ∀ (μ : Id → Option Value) (S : Nat → Prop) (st : St) (a : Act) (w : World), Rel 36 w0 O μ S st a w → endOf (tabOf tab) rs 2 pout st = some y → Post a w := fun μ S st a w h he => by rw [← hPost]; exact ⟨μ, S, st, h, he⟩
  have hp : ∀ (J4 : List Item → P4 → Option PO), Parts Tryz.prog 82 (pg J4) [(4, cut p4 J4)] := fun J4 => ⟨tab_ok tabGood rfl, handNil_ok, rfl⟩
  have g4 : Good Tryz.prog 36 w0 O Post y T4 p4 L4 := good_lfp fun J4 h4 => good_part (hp (atT T4 J4)) (runOK_of (hp (atT T4 J4)) hnp ⟨cutOK_at h4, trivial⟩ fin) (fun x => (seg4 (atT T4 J4) x.1 x.2.1 x.2.2.1 x.2.2.2.1 x.2.2.2.2.1).trans (by simp only [atT_self] <;> rfl))
  exact good_first (hp (atT T4 L4)) (runOK_of (hp (atT T4 L4)) hnp ⟨cutOK_at g4, trivial⟩ fin) (fun x => (seg0 (atT T4 L4) x.1 x.2.1).trans (by simp only [atT_self] <;> rfl))
end spec_l40Cut

/-! ### loop.example/wholecheck/spec.l40Num -/
namespace spec_l40Num
noncomputable abbrev c0 : Code := (Tryz.f124.body).getD .skip
noncomputable abbrev pin : Tpl := ⟨[⟨0, false, [.d .str]⟩], []⟩
noncomputable abbrev pout : Tpl := ⟨[⟨0, false, [.d (.int .i64)]⟩, ⟨1, false, [.d .bool]⟩], []⟩
noncomputable abbrev p2 : Tpl := ⟨[⟨0, false, [.d .str]⟩, ⟨4, false, [.d .bool]⟩], []⟩
noncomputable def T2 : List Item := (find 2 c0 []).getD []
noncomputable abbrev p4 : Tpl := ⟨[⟨0, false, [.d .str]⟩, ⟨4, false, [.d .bool]⟩], []⟩
noncomputable def T4 : List Item := (find 4 c0 []).getD []
noncomputable abbrev p6 : Tpl := ⟨[⟨0, false, [.d .str]⟩, ⟨4, false, [.d .bool]⟩], []⟩
noncomputable def T6 : List Item := (find 6 c0 []).getD []
noncomputable abbrev p8 : Tpl := ⟨[⟨0, false, [.d .str]⟩, ⟨4, false, [.d .bool]⟩, ⟨5, false, [.d (.int .i64)]⟩, ⟨6, false, [.d (.int .i64)]⟩], []⟩
noncomputable def T8 : List Item := (find 8 c0 []).getD []
noncomputable abbrev p12 : Tpl := ⟨[⟨0, false, [.d .str]⟩, ⟨4, false, [.d .bool]⟩, ⟨5, false, [.d (.int .i64)]⟩, ⟨6, false, [.d (.int .i64)]⟩], []⟩
noncomputable def T12 : List Item := (find 12 c0 []).getD []
noncomputable abbrev PI := (List UInt8) × Unit
noncomputable abbrev PO := Int × Bool × Unit
noncomputable abbrev P2 := (List UInt8) × Bool × Unit
noncomputable abbrev P4 := (List UInt8) × Bool × Unit
noncomputable abbrev P6 := (List UInt8) × Bool × Unit
noncomputable abbrev P8 := (List UInt8) × Bool × Int × Int × Unit
noncomputable abbrev P12 := (List UInt8) × Bool × Int × Int × Unit
noncomputable abbrev rs : List ResultVar := [.tmp 2, .tmp 3]
noncomputable def F0 (J2 : P2 → Option PO) (x0 : List UInt8) : Option PO :=
  bif decide ((x0.length : Int) > 0) then
    bif inb 0 x0.length then
      J2 (x0, ((x0.getD 0 0).toNat : Int) == 45, ())
    else
      none
  else
    J2 (x0, false, ())
noncomputable def F2 (J4 : P4 → Option PO) (t0 : List UInt8) (t4 : Bool) : Option PO :=
  bif t4 then
    bif decide (1 ≤ (t0.length : Int)) && decide ((t0.length : Int) ≤ (t0.length : Int)) then
      J4 ((t0.take (t0.length : Int).toNat).drop 1, t4, ())
    else
      none
  else
    J4 (t0, t4, ())
noncomputable def F4 (J6 : P6 → Option PO) (t0 : List UInt8) (t4 : Bool) : Option PO :=
  bif (t0.length : Int) == 0 then
    some (0, false, ())
  else
    bif decide ((t0.length : Int) > 17) then
      some (0, false, ())
    else
      bif inb 0 t0.length then
        bif ((t0.getD 0 0).toNat : Int) == 48 then
          bif decide ((t0.length : Int) > 1) then
            some (0, false, ())
          else
            bif t4 then
              some (0, false, ())
            else
              J6 (t0, t4, ())
        else
          J6 (t0, t4, ())
      else
        none
noncomputable def F6 (J8 : P8 → Option PO) (t0 : List UInt8) (t4 : Bool) : Option PO :=
  J8 (t0, t4, 0, 0, ())
noncomputable def F8 (J12 : P12 → Option PO) (t0 : List UInt8) (t4 : Bool) (t5 : Int) (t6 : Int) : Option PO :=
  bif decide (t6 < (t0.length : Int)) then
    bif inb t6 t0.length then
      bif decide (((t0.getD t6.toNat 0).toNat : Int) < 48) then
        some (0, false, ())
      else
        bif inb t6 t0.length then
          bif decide (((t0.getD t6.toNat 0).toNat : Int) > 57) then
            some (0, false, ())
          else
            J12 (t0, t4, t5, t6, ())
        else
          none
    else
      none
  else
    bif t4 then
      some (wI (0 - t5), true, ())
    else
      some (t5, true, ())
noncomputable def F12 (J8 : P8 → Option PO) (t0 : List UInt8) (t4 : Bool) (t5 : Int) (t6 : Int) : Option PO :=
  bif inb t6 t0.length then
    J8 (t0, t4, wI ((wI (t5 * 10)) + (wI (IntKind.u8.wrap (((t0.getD t6.toNat 0).toNat : Int) - 48)))), wI (t6 + 1), ())
  else
    none
noncomputable def hd {R : Type} : Hand R := handNil
noncomputable def pg (J2 : List Item → P2 → Option PO) (J4 : List Item → P4 → Option PO) (J6 : List Item → P6 → Option PO) (J8 : List Item → P8 → Option PO) (J12 : List Item → P12 → Option PO) : Prog PO := { nt := 67, np := 0, tb := tabOf tab, hd := hd, cuts := cutsOf [(2, cut p2 J2), (4, cut p4 J4), (6, cut p6 J6), (8, cut p8 J8), (12, cut p12 J12)], fin := endOf (tabOf tab) rs 0 pout }
noncomputable def q : FuncId → Bool := fun f => hasId [] f
theorem seg0 (J2 : List Item → P2 → Option PO) (J4 : List Item → P4 → Option PO) (J6 : List Item → P6 → Option PO) (J8 : List Item → P8 → Option PO) (J12 : List Item → P12 → Option PO) (x0 : List UInt8) : arun (pg J2 J4 J6 J8 J12) 5000 [.code c0] (mk pin (x0, ())) = F0 (J2 T2) x0 := by kernel_rfl
theorem seg2 (J2 : List Item → P2 → Option PO) (J4 : List Item → P4 → Option PO) (J6 : List Item → P6 → Option PO) (J8 : List Item → P8 → Option PO) (J12 : List Item → P12 → Option PO) (t0 : List UInt8) (t4 : Bool) : arun1 (pg J2 J4 J6 J8 J12) 5000 T2 (mk p2 (t0, t4, ())) = F2 (J4 T4) t0 t4 := by kernel_rfl
theorem seg4 (J2 : List Item → P2 → Option PO) (J4 : List Item → P4 → Option PO) (J6 : List Item → P6 → Option PO) (J8 : List Item → P8 → Option PO) (J12 : List Item → P12 → Option PO) (t0 : List UInt8) (t4 : Bool) : arun1 (pg J2 J4 J6 J8 J12) 5000 T4 (mk p4 (t0, t4, ())) = F4 (J6 T6) t0 t4 := by kernel_rfl
theorem seg6 (J2 : List Item → P2 → Option PO) (J4 : List Item → P4 → Option PO) (J6 : List Item → P6 → Option PO) (J8 : List Item → P8 → Option PO) (J12 : List Item → P12 → Option PO) (t0 : List UInt8) (t4 : Bool) : arun1 (pg J2 J4 J6 J8 J12) 5000 T6 (mk p6 (t0, t4, ())) = F6 (J8 T8) t0 t4 := by kernel_rfl
theorem seg8 (J2 : List Item → P2 → Option PO) (J4 : List Item → P4 → Option PO) (J6 : List Item → P6 → Option PO) (J8 : List Item → P8 → Option PO) (J12 : List Item → P12 → Option PO) (t0 : List UInt8) (t4 : Bool) (t5 : Int) (t6 : Int) : arun1 (pg J2 J4 J6 J8 J12) 5000 T8 (mk p8 (t0, t4, t5, t6, ())) = F8 (J12 T12) t0 t4 t5 t6 := by kernel_rfl
theorem seg12 (J2 : List Item → P2 → Option PO) (J4 : List Item → P4 → Option PO) (J6 : List Item → P6 → Option PO) (J8 : List Item → P8 → Option PO) (J12 : List Item → P12 → Option PO) (t0 : List UInt8) (t4 : Bool) (t5 : Int) (t6 : Int) : arun1 (pg J2 J4 J6 J8 J12) 5000 T12 (mk p12 (t0, t4, t5, t6, ())) = F12 (J8 T8) t0 t4 t5 t6 := by kernel_rfl
noncomputable def L12 (J8 : P8 → Option PO) : P12 → Option PO := fun x => F12 J8 x.1 x.2.1 x.2.2.1 x.2.2.2.1
noncomputable def L8 : P8 → Option PO := lfp fun J8 x => F8 (L12 J8) x.1 x.2.1 x.2.2.1 x.2.2.2.1
noncomputable def L6 : P6 → Option PO := fun x => F6 L8 x.1 x.2.1
noncomputable def L4 : P4 → Option PO := fun x => F4 L6 x.1 x.2.1
noncomputable def L2 : P2 → Option PO := fun x => F2 L4 x.1 x.2.1
noncomputable def impl : PI → Option PO := fun x => F0 L2 x.1
theorem F12_le {J8 J8' : P8 → Option PO} (h8 : OLe J8 J8') (t0 : List UInt8) (t4 : Bool) (t5 : Int) (t6 : Int) : OptLe (F12 J8 t0 t4 t5 t6) (F12 J8' t0 t4 t5 t6) := by unfold F12; exact .cond (.of h8 _) (.refl _)
theorem F8_le {J12 J12' : P12 → Option PO} (h12 : OLe J12 J12') (t0 : List UInt8) (t4 : Bool) (t5 : Int) (t6 : Int) : OptLe (F8 J12 t0 t4 t5 t6) (F8 J12' t0 t4 t5 t6) := by unfold F8; exact .cond (.cond (.cond (.refl _) (.cond (.cond (.refl _) (.of h12 _)) (.refl _))) (.refl _)) (.refl _)
theorem L12_eq (J8 : P8 → Option PO) (t0 : List UInt8) (t4 : Bool) (t5 : Int) (t6 : Int) : L12 J8 (t0, t4, t5, t6, ()) = F12 J8 t0 t4 t5 t6 := rfl
theorem L12_le {J8 J8' : P8 → Option PO} (h8 : OLe J8 J8') : OLe (L12 J8) (L12 J8') := fun x => F12_le h8 x.1 x.2.1 x.2.2.1 x.2.2.2.1
theorem L8_mono : OMono fun J8 (x : P8) => F8 (L12 J8) x.1 x.2.1 x.2.2.1 x.2.2.2.1 := fun J J' h8 x => F8_le (L12_le h8) x.1 x.2.1 x.2.2.1 x.2.2.2.1
theorem L8_eq (t0 : List UInt8) (t4 : Bool) (t5 : Int) (t6 : Int) : L8 (t0, t4, t5, t6, ()) = F8 (L12 (L8)) t0 t4 t5 t6 := congrFun (lfp_eq (L8_mono)) _
theorem L6_eq (t0 : List UInt8) (t4 : Bool) : L6 (t0, t4, ()) = F6 (L8) t0 t4 := rfl
theorem L4_eq (t0 : List UInt8) (t4 : Bool) : L4 (t0, t4, ()) = F4 (L6) t0 t4 := rfl
theorem L2_eq (t0 : List UInt8) (t4 : Bool) : L2 (t0, t4, ()) = F2 (L4) t0 t4 := rfl
theorem impl_eq (x0 : List UInt8) : impl (x0, ()) = F0 L2 x0 := rfl
theorem con : Con Tryz.prog 124 1 rs.length 0 pin pout impl := by
  refine con_of_run' (nt := 67) (c := c0) tabGood Tryz.func124 (by kernel_rfl) (by kernel_rfl) (by kernel_rfl) (by kernel_rfl) (by kernel_rfl) (by kernel_rfl) (by kernel_rfl) ?_
  intro w0 O y hnp
  generalize hPost : (fun (a' : Act) (w' : World) => ∃ μ' S' st', Rel 67 w0 O μ' S' st' a' w' ∧ endOf (tabOf tab) rs 0 pout st' = some y) = Post
  have fin : ∀ (μ : Id → Option Value) (S : Nat → Prop) (st : St) (a : Act) (w : World), Rel 67 w0 O μ S st a w → endOf (tabOf tab) rs 0 pout st = some y → Post a w := fun μ S st a w h he => by rw [← hPost]; exact ⟨μ, S, st, h, he⟩
  have hp : ∀ (J2 : List Item → P2 → Option PO), ∀ (J4 : List Item → P4 → Option PO), ∀ (J6 : List Item → P6 → Option PO), ∀ (J8 : List Item → P8 → Option PO), ∀ (J12 : List Item → P12 → Option PO), Parts Tryz.prog 124 (pg J2 J4 J6 J8 J12) [(2, cut p2 J2), (4, cut p4 J4), (6, cut p6 J6), (8, cut p8 J8), (12, cut p12 J12)] := fun J2 J4 J6 J8 J12 => ⟨tab_ok tabGood rfl, handNil_ok, rfl⟩
  have g12 : ∀ (J8 : P8 → Option PO), Good Tryz.prog 67 w0 O Post y T8 p8 J8 → Good Tryz.prog 67 w0 O Post y T12 p12 (L12 J8) := fun J8 h8 => good_part (hp (atT T2 (fun _ => none)) (atT T4 (fun _ => none)) (atT T6 (fun _ => none)) (atT T8 J8) (atT T12 (fun _ => none))) (runOK_of (hp (atT T2 (fun _ => none)) (atT T4 (fun _ => none)) (atT T6 (fun _ => none)) (atT T8 J8) (atT T12 (fun _ => none))) hnp ⟨cutOK_at (p := p2) (T := T2) (J := fun _ => none) good_none, cutOK_at (p := p4) (T := T4) (J := fun _ => none) good_none, cutOK_at (p := p6) (T := T6) (J := fun _ => none) good_none, cutOK_at h8, cutOK_at (p := p12) (T := T12) (J := fun _ => none) good_none, trivial⟩ fin) (fun x => (seg12 (atT T2 (fun _ => none)) (atT T4 (fun _ => none)) (atT T6 (fun _ => none)) (atT T8 J8) (atT T12 (fun _ => none)) x.1 x.2.1 x.2.2.1 x.2.2.2.1).trans (by simp only [atT_self] <;> rfl))
  have g8 : Good Tryz.prog 67 w0 O Post y T8 p8 L8 := good_lfp fun J8 h8 => good_part (hp (atT T2 (fun _ => none)) (atT T4 (fun _ => none)) (atT T6 (fun _ => none)) (atT T8 (fun _ => none)) (atT T12 (L12 J8))) (runOK_of (hp (atT T2 (fun _ => none)) (atT T4 (fun _ => none)) (atT T6 (fun _ => none)) (atT T8 (fun _ => none)) (atT T12 (L12 J8))) hnp ⟨cutOK_at (p := p2) (T := T2) (J := fun _ => none) good_none, cutOK_at (p := p4) (T := T4) (J := fun _ => none) good_none, cutOK_at (p := p6) (T := T6) (J := fun _ => none) good_none, cutOK_at (p := p8) (T := T8) (J := fun _ => none) good_none, cutOK_at (g12 J8 h8), trivial⟩ fin) (fun x => (seg8 (atT T2 (fun _ => none)) (atT T4 (fun _ => none)) (atT T6 (fun _ => none)) (atT T8 (fun _ => none)) (atT T12 (L12 J8)) x.1 x.2.1 x.2.2.1 x.2.2.2.1).trans (by simp only [atT_self] <;> rfl))
  have g6 : Good Tryz.prog 67 w0 O Post y T6 p6 L6 := good_part (hp (atT T2 (fun _ => none)) (atT T4 (fun _ => none)) (atT T6 (fun _ => none)) (atT T8 L8) (atT T12 (fun _ => none))) (runOK_of (hp (atT T2 (fun _ => none)) (atT T4 (fun _ => none)) (atT T6 (fun _ => none)) (atT T8 L8) (atT T12 (fun _ => none))) hnp ⟨cutOK_at (p := p2) (T := T2) (J := fun _ => none) good_none, cutOK_at (p := p4) (T := T4) (J := fun _ => none) good_none, cutOK_at (p := p6) (T := T6) (J := fun _ => none) good_none, cutOK_at g8, cutOK_at (p := p12) (T := T12) (J := fun _ => none) good_none, trivial⟩ fin) (fun x => (seg6 (atT T2 (fun _ => none)) (atT T4 (fun _ => none)) (atT T6 (fun _ => none)) (atT T8 L8) (atT T12 (fun _ => none)) x.1 x.2.1).trans (by simp only [atT_self] <;> rfl))
  have g4 : Good Tryz.prog 67 w0 O Post y T4 p4 L4 := good_part (hp (atT T2 (fun _ => none)) (atT T4 (fun _ => none)) (atT T6 L6) (atT T8 (fun _ => none)) (atT T12 (fun _ => none))) (runOK_of (hp (atT T2 (fun _ => none)) (atT T4 (fun _ => none)) (atT T6 L6) (atT T8 (fun _ => none)) (atT T12 (fun _ => none))) hnp ⟨cutOK_at (p := p2) (T := T2) (J := fun _ => none) good_none, cutOK_at (p := p4) (T := T4) (J := fun _ => none) good_none, cutOK_at g6, cutOK_at (p := p8) (T := T8) (J := fun _ => none) good_none, cutOK_at (p := p12) (T := T12) (J := fun _ => none) good_none, trivial⟩ fin) (fun x => (seg4 (atT T2 (fun _ => none)) (atT T4 (fun _ => none)) (atT T6 L6) (atT T8 (fun _ => none)) (atT T12 (fun _ => none)) x.1 x.2.1).trans (by simp only [atT_self] <;> rfl))
  have g2 : Good Tryz.prog 67 w0 O Post y T2 p2 L2 := good_part (hp (atT T2 (fun _ => none)) (atT T4 L4) (atT T6 (fun _ => none)) (atT T8 (fun _ => none)) (atT T12 (fun _ => none))) (runOK_of (hp (atT T2 (fun _ => none)) (atT T4 L4) (atT T6 (fun _ => none)) (atT T8 (fun _ => none)) (atT T12 (fun _ => none))) hnp ⟨cutOK_at (p := p2) (T := T2) (J := fun _ => none) good_none, cutOK_at g4, cutOK_at (p := p6) (T := T6) (J := fun _ => none) good_none, cutOK_at (p := p8) (T := T8) (J := fun _ => none) good_none, cutOK_at (p := p12) (T := T12) (J := fun _ => none) good_none, trivial⟩ fin) (fun x => (seg2 (atT T2 (fun _ => none)) (atT T4 L4) (atT T6 (fun _ => none)) (atT T8 (fun _ => none)) (atT T12 (fun _ => none)) x.1 x.2.1).trans (by simp only [atT_self] <;> rfl))
  exact good_first (hp (atT T2 L2) (atT T4 (fun _ => none)) (atT T6 (fun _ => none)) (atT T8 (fun _ => none)) (atT T12 (fun _ => none))) (runOK_of (hp (atT T2 L2) (atT T4 (fun _ => none)) (atT T6 (fun _ => none)) (atT T8 (fun _ => none)) (atT T12 (fun _ => none))) hnp ⟨cutOK_at g2, cutOK_at (p := p4) (T := T4) (J := fun _ => none) good_none, cutOK_at (p := p6) (T := T6) (J := fun _ => none) good_none, cutOK_at (p := p8) (T := T8) (J := fun _ => none) good_none, cutOK_at (p := p12) (T := T12) (J := fun _ => none) good_none, trivial⟩ fin) (fun x => (seg0 (atT T2 L2) (atT T4 (fun _ => none)) (atT T6 (fun _ => none)) (atT T8 (fun _ => none)) (atT T12 (fun _ => none)) x.1).trans (by simp only [atT_self] <;> rfl))
end spec_l40Num

/-! ### loop.example/wholecheck/spec.l31Read -/
namespace spec_l31Read
noncomputable abbrev c0 : Code := (Tryz.f81.body).getD .skip
noncomputable abbrev pin : Tpl := ⟨[⟨0, false, [.d (.sl .str)]⟩], []⟩
noncomputable abbrev pout : Tpl := ⟨[⟨0, false, [.row 600001]⟩, ⟨1, false, [.d .bool]⟩], [(600001, .row 3 false (.int .i64))]⟩
noncomputable abbrev p3 : Tpl := ⟨[⟨0, false, [.d (.sl .str)]⟩, ⟨4, false, [.row 3000000]⟩, ⟨5, false, [.d (.int .i64)]⟩], [(3000000, .row 3 false (.int .i64))]⟩
noncomputable def T3 : List Item := (find 3 c0 []).getD []
noncomputable abbrev PI := (List (List UInt8)) × Unit
noncomputable abbrev PO := Bool × (List Int) × Unit
noncomputable abbrev P3 := (List (List UInt8)) × Int × (List Int) × Unit
noncomputable abbrev rs : List ResultVar := [.tmp 2, .tmp 3]
noncomputable def F0 (J3 : P3 → Option PO) (x0 : List (List UInt8)) : Option PO :=
  J3 (x0, 0, ([] : List Int), ())
noncomputable def F3 (J3 : P3 → Option PO) (Gspec_l31Numbers : spec_l31Numbers.PI → Option spec_l31Numbers.PO) (Gspec_l40Num : spec_l40Num.PI → Option spec_l40Num.PO) (t0 : List (List UInt8)) (t5 : Int) (r0 : List Int) : Option PO :=
  bif decide (t5 < (t0.length : Int)) then
    bif inb t5 t0.length then
      Option.bind (Gspec_l40Num (t0.getD t5.toNat [], ())) fun y0 =>
      bif !y0.2.1 then
        some (false, [], ())
      else
        Option.bind (Gspec_l31Numbers (([y0.1] : List Int), ())) fun y1 =>
        bif !y1.1 then
          some (false, [], ())
        else
          bif decide ((r0.length + ([y0.1] : List Int).length) * 8 ≤ 140737488355328) then
            J3 (t0, wI (t5 + 1), r0 ++ ([y0.1] : List Int), ())
          else
            none
    else
      none
  else
    some (true, r0, ())
noncomputable def hd {R : Type} (Gspec_l31Numbers : spec_l31Numbers.PI → Option spec_l31Numbers.PO) (Gspec_l40Num : spec_l40Num.PI → Option spec_l40Num.PO) : Hand R := (handAt 124 [20] true ⟨1, 2, 0, spec_l40Num.pin, spec_l40Num.pout, Gspec_l40Num⟩ (handAt 76 [28] true ⟨1, 1, 1, spec_l31Numbers.pin, spec_l31Numbers.pout, Gspec_l31Numbers⟩ handNil))
noncomputable def pg (Gspec_l31Numbers : spec_l31Numbers.PI → Option spec_l31Numbers.PO) (Gspec_l40Num : spec_l40Num.PI → Option spec_l40Num.PO) (J3 : List Item → P3 → Option PO) : Prog PO := { nt := 36, np := 1, tb := tabOf tab, hd := hd Gspec_l31Numbers Gspec_l40Num, cuts := cutsOf [(3, cut p3 J3)], fin := endOf (tabOf tab) rs 1 pout }
noncomputable def q : FuncId → Bool := fun f => hasId [76, 124] f
theorem seg0 (Gspec_l31Numbers : spec_l31Numbers.PI → Option spec_l31Numbers.PO) (Gspec_l40Num : spec_l40Num.PI → Option spec_l40Num.PO) (J3 : List Item → P3 → Option PO) (x0 : List (List UInt8)) : arun (pg Gspec_l31Numbers Gspec_l40Num J3) 5000 [.code c0] (mk pin (x0, ())) = F0 (J3 T3) x0 := by kernel_rfl
theorem seg3 (Gspec_l31Numbers : spec_l31Numbers.PI → Option spec_l31Numbers.PO) (Gspec_l40Num : spec_l40Num.PI → Option spec_l40Num.PO) (J3 : List Item → P3 → Option PO) (t0 : List (List UInt8)) (t5 : Int) (r0 : List Int) : arun1 (pg Gspec_l31Numbers Gspec_l40Num J3) 5000 T3 (mk p3 (t0, t5, r0, ())) = F3 (J3 T3) Gspec_l31Numbers Gspec_l40Num t0 t5 r0 := by kernel_rfl
noncomputable def L3 : P3 → Option PO := lfp fun J3 x => F3 J3 spec_l31Numbers.impl spec_l40Num.impl x.1 x.2.1 x.2.2.1
noncomputable def impl : PI → Option PO := fun x => F0 L3 x.1
theorem F3_le {J3 J3' : P3 → Option PO} (h3 : OLe J3 J3') {Gspec_l31Numbers : spec_l31Numbers.PI → Option spec_l31Numbers.PO} {Gspec_l40Num : spec_l40Num.PI → Option spec_l40Num.PO} (t0 : List (List UInt8)) (t5 : Int) (r0 : List Int) : OptLe (F3 J3 Gspec_l31Numbers Gspec_l40Num t0 t5 r0) (F3 J3' Gspec_l31Numbers Gspec_l40Num t0 t5 r0) := by unfold F3; exact .cond (.cond (.bind (.refl _) fun _ => .cond (.refl _) (.bind (.refl _) fun _ => .cond (.refl _) (.cond (.of h3 _) (.refl _)))) (.refl _)) (.refl _)
theorem L3_mono : OMono fun J3 (x : P3) => F3 J3 spec_l31Numbers.impl spec_l40Num.impl x.1 x.2.1 x.2.2.1 := fun J J' h3 x => F3_le h3 x.1 x.2.1 x.2.2.1
theorem L3_eq (t0 : List (List UInt8)) (t5 : Int) (r0 : List Int) : L3 (t0, t5, r0, ()) = F3 (L3) spec_l31Numbers.impl spec_l40Num.impl t0 t5 r0 := congrFun (lfp_eq (L3_mono)) _
theorem impl_eq (x0 : List (List UInt8)) : impl (x0, ()) = F0 L3 x0 := rfl
theorem con : Con Tryz.prog 81 1 rs.length 1 pin pout impl := by
  refine con_of_run' (nt := 36) (c := c0) tabGood Tryz.func81 (by kernel_rfl) (by kernel_rfl) (by kernel_rfl) (by kernel_rfl) (by kernel_rfl) (by kernel_rfl) (by kernel_rfl) ?_
  intro w0 O y hnp
  generalize hPost : (fun (a' : Act) (w' : World) => ∃ μ' S' st', Rel 36 w0 O μ' S' st' a' w' ∧ endOf (tabOf tab) rs 1 pout st' = some y) = Post
  have fin : ∀ (μ : Id → Option Value) (S : Nat → Prop) (st : St) (a : Act) (w : World), Rel 36 w0 O μ S st a w → endOf (tabOf tab) rs 1 pout st = some y → Post a w := fun μ S st a w h he => by rw [← hPost]; exact ⟨μ, S, st, h, he⟩
  have hp : ∀ (J3 : List Item → P3 → Option PO), Parts Tryz.prog 81 (pg spec_l31Numbers.impl spec_l40Num.impl J3) [(3, cut p3 J3)] := fun J3 => ⟨tab_ok tabGood rfl, (handAt_ok spec_l40Num.con (handAt_ok spec_l31Numbers.con handNil_ok)), rfl⟩
  have g3 : Good Tryz.prog 36 w0 O Post y T3 p3 L3 := good_lfp fun J3 h3 => good_part (hp (atT T3 J3)) (runOK_of (hp (atT T3 J3)) hnp ⟨cutOK_at h3, trivial⟩ fin) (fun x => (seg3 spec_l31Numbers.impl spec_l40Num.impl (atT T3 J3) x.1 x.2.1 x.2.2.1).trans (by simp only [atT_self] <;> rfl))
  exact good_first (hp (atT T3 L3)) (runOK_of (hp (atT T3 L3)) hnp ⟨cutOK_at g3, trivial⟩ fin) (fun x => (seg0 spec_l31Numbers.impl spec_l40Num.impl (atT T3 L3) x.1).trans (by simp only [atT_self] <;> rfl))
end spec_l31Read

/-! ### loop.example/wholecheck/spec.ReadList -/
namespace spec_ReadList
noncomputable abbrev c0 : Code := (Tryz.f29.body).getD .skip
noncomputable abbrev pin : Tpl := ⟨[⟨0, false, [.d .str]⟩], []⟩
noncomputable abbrev pout : Tpl := ⟨[⟨0, false, [.row 600001]⟩, ⟨1, false, [.d .bool]⟩], [(600001, .row 3 false (.int .i64))]⟩
noncomputable abbrev PI := (List UInt8) × Unit
noncomputable abbrev PO := Bool × (List Int) × Unit
noncomputable abbrev rs : List ResultVar := [.tmp 2, .tmp 3]
noncomputable def F0 (Gspec_l31Read : spec_l31Read.PI → Option spec_l31Read.PO) (Gspec_l40Cut : spec_l40Cut.PI → Option spec_l40Cut.PO) (x0 : List UInt8) : Option PO :=
  bif x0 == ([45] : List UInt8) then
    some (true, [], ())
  else
    Option.bind (Gspec_l40Cut (x0, 32, ())) fun y0 =>
    Option.bind (Gspec_l31Read (y0.1, ())) fun y1 =>
    bif !y1.1 then
      some (false, [], ())
    else
      bif decide ((y1.2.1.length : Int) > 400) then
        some (false, [], ())
      else
        some (true, y1.2.1, ())
noncomputable def hd {R : Type} (Gspec_l31Read : spec_l31Read.PI → Option spec_l31Read.PO) (Gspec_l40Cut : spec_l40Cut.PI → Option spec_l40Cut.PO) : Hand R := (handAt 82 [10] true ⟨2, 1, 2, spec_l40Cut.pin, spec_l40Cut.pout, Gspec_l40Cut⟩ (handAt 81 [11] true ⟨1, 2, 1, spec_l31Read.pin, spec_l31Read.pout, Gspec_l31Read⟩ handNil))
noncomputable def pg (Gspec_l31Read : spec_l31Read.PI → Option spec_l31Read.PO) (Gspec_l40Cut : spec_l40Cut.PI → Option spec_l40Cut.PO) : Prog PO := { nt := 22, np := 1, tb := tabOf tab, hd := hd Gspec_l31Read Gspec_l40Cut, cuts := cutsOf [], fin := endOf (tabOf tab) rs 1 pout }
noncomputable def q : FuncId → Bool := fun f => hasId [] f
theorem seg0 (Gspec_l31Read : spec_l31Read.PI → Option spec_l31Read.PO) (Gspec_l40Cut : spec_l40Cut.PI → Option spec_l40Cut.PO) (x0 : List UInt8) : arun (pg Gspec_l31Read Gspec_l40Cut) 5000 [.code c0] (mk pin (x0, ())) = F0 Gspec_l31Read Gspec_l40Cut x0 := by kernel_rfl
noncomputable def impl : PI → Option PO := fun x => F0 spec_l31Read.impl spec_l40Cut.impl x.1
theorem impl_eq (x0 : List UInt8) : impl (x0, ()) = F0 spec_l31Read.impl spec_l40Cut.impl x0 := rfl
theorem con : Con Tryz.prog 29 1 rs.length 1 pin pout impl := by
  refine con_of_run' (nt := 22) (c := c0) tabGood Tryz.func29 (by kernel_rfl) (by kernel_rfl) (by kernel_rfl) (by kernel_rfl) (by kernel_rfl) (by kernel_rfl) (by kernel_rfl) ?_
  intro w0 O y hnp
  generalize hPost : (fun (a' : Act) (w' : World) => ∃ μ' S' st', Rel 22 w0 O μ' S' st' a' w' ∧ endOf (tabOf tab) rs 1 pout st' = some y) = Post
  have fin : ∀ (μ : Id → Option Value) (S : Nat → Prop) (st : St) (a : Act) (w : World), Rel 22 w0 O μ S st a w → endOf (tabOf tab) rs 1 pout st = some y → Post a w := fun μ S st a w h he => by rw [← hPost]; exact ⟨μ, S, st, h, he⟩
  have hp : Parts Tryz.prog 29 (pg spec_l31Read.impl spec_l40Cut.impl) [] := ⟨tab_ok tabGood rfl, (handAt_ok spec_l40Cut.con (handAt_ok spec_l31Read.con handNil_ok)), rfl⟩
  exact good_first (hp) (runOK_of (hp) hnp trivial fin) (fun x => (seg0 spec_l31Read.impl spec_l40Cut.impl x.1))
end spec_ReadList

/-! ### loop.example/wholecheck/spec.l30Names -/
namespace spec_l30Names
noncomputable abbrev c0 : Code := (Tryz.f52.body).getD .skip
noncomputable abbrev pin : Tpl := ⟨[⟨0, false, [.ptr 500001 0]⟩, ⟨1, false, [.d (.int .i64)]⟩], [(500001, .box [.d (.sl (.int .u8)), .d (.int .i64)])]⟩
noncomputable abbrev pout : Tpl := ⟨[⟨0, false, [.row 600001]⟩, ⟨1, false, [.ptr 500001 0]⟩], [(600001, .row 9 false .str), (500001, .box [.d (.sl (.int .u8)), .d (.int .i64)])]⟩
noncomputable abbrev p3 : Tpl := ⟨[⟨0, false, [.ptr 500001 0]⟩, ⟨1, false, [.d (.int .i64)]⟩, ⟨5, false, [.row 3000000]⟩, ⟨6, false, [.d (.int .i64)]⟩], [(500001, .box [.d (.sl (.int .u8)), .d (.int .i64)]), (3000000, .row 9 false .str)]⟩
noncomputable def T3 : List Item := (find 3 c0 []).getD []
noncomputable abbrev PI := Int × (List Int) × Int × Unit
noncomputable abbrev PO := (List (List UInt8)) × (List Int) × Int × Unit
noncomputable abbrev P3 := Int × Int × (List Int) × Int × (List (List UInt8)) × Unit
noncomputable abbrev rs : List ResultVar := [.tmp 4]
noncomputable def F0 (J3 : P3 → Option PO) (x1 : Int) (c1_0 : List Int) (c1_1 : Int) : Option PO :=
  J3 (x1, 0, c1_0, c1_1, ([] : List (List UInt8)), ())
noncomputable def F3 (J3 : P3 → Option PO) (Gspec_l40Rd_of : spec_l40Rd_of.PI → Option spec_l40Rd_of.PO) (Gspec_l40Rd_pick : spec_l40Rd_pick.PI → Option spec_l40Rd_pick.PO) (t1 : Int) (t6 : Int) (c1_0 : List Int) (c1_1 : Int) (r0 : List (List UInt8)) : Option PO :=
  bif decide (t6 < t1) then
    bif inb (Int.tmod t6 5) ([([120] : List UInt8), ([121] : List UInt8), ([116, 117, 114, 110] : List UInt8), ([100, 111, 111, 114] : List UInt8), ([99, 111, 117, 110, 116] : List UInt8)] : List (List UInt8)).length then
      bif decide ((r0.length + ([([([120] : List UInt8), ([121] : List UInt8), ([116, 117, 114, 110] : List UInt8), ([100, 111, 111, 114] : List UInt8), ([99, 111, 117, 110, 116] : List UInt8)] : List (List UInt8)).getD (Int.tmod t6 5).toNat []] : List (List UInt8)).length) * 16 ≤ 140737488355328) then
        J3 (t1, wI (t6 + 1), c1_0, c1_1, r0 ++ ([([([120] : List UInt8), ([121] : List UInt8), ([116, 117, 114, 110] : List UInt8), ([100, 111, 111, 114] : List UInt8), ([99, 111, 117, 110, 116] : List UInt8)] : List (List UInt8)).getD (Int.tmod t6 5).toNat []] : List (List UInt8)), ())
      else
        none
    else
      none
  else
    bif decide (t1 > 0) then
      Option.bind (Gspec_l40Rd_pick (20, c1_0, c1_1, ())) fun y0 =>
      bif y0.1 == 0 then
        Option.bind (Gspec_l40Rd_pick (t1, y0.2.1, y0.2.2.1, ())) fun y1 =>
        Option.bind (Gspec_l40Rd_of (([[], ([88] : List UInt8), ([120] : List UInt8), ([97, 98, 99, 100, 101, 102, 103, 104, 105] : List UInt8), ([97, 49] : List UInt8)] : List (List UInt8)), y1.2.1, y1.2.2.1, ())) fun y2 =>
        bif inb y1.1 r0.length then
          some (r0.set y1.1.toNat y2.1, y2.2.1, y2.2.2.1, ())
        else
          none
      else
        some (r0, y0.2.1, y0.2.2.1, ())
    else
      some (r0, c1_0, c1_1, ())
noncomputable def hd {R : Type} (Gspec_l40Rd_of : spec_l40Rd_of.PI → Option spec_l40Rd_of.PO) (Gspec_l40Rd_pick : spec_l40Rd_pick.PI → Option spec_l40Rd_pick.PO) : Hand R := (handAt 103 [34] false ⟨2, 1, 2, spec_l40Rd_of.pin, spec_l40Rd_of.pout, Gspec_l40Rd_of⟩ (handAt 53 [25, 31] false ⟨2, 1, 2, spec_l40Rd_pick.pin, spec_l40Rd_pick.pout, Gspec_l40Rd_pick⟩ handNil))
noncomputable def pg (Gspec_l40Rd_of : spec_l40Rd_of.PI → Option spec_l40Rd_of.PO) (Gspec_l40Rd_pick : spec_l40Rd_pick.PI → Option spec_l40Rd_pick.PO) (J3 : List Item → P3 → Option PO) : Prog PO := { nt := 37, np := 2, tb := tabOf tab, hd := hd Gspec_l40Rd_of Gspec_l40Rd_pick, cuts := cutsOf [(3, cut p3 J3)], fin := endOf (tabOf tab) rs 2 pout }
noncomputable def q : FuncId → Bool := fun f => hasId [] f
theorem seg0 (Gspec_l40Rd_of : spec_l40Rd_of.PI → Option spec_l40Rd_of.PO) (Gspec_l40Rd_pick : spec_l40Rd_pick.PI → Option spec_l40Rd_pick.PO) (J3 : List Item → P3 → Option PO) (x1 : Int) (c1_0 : List Int) (c1_1 : Int) : arun (pg Gspec_l40Rd_of Gspec_l40Rd_pick J3) 5000 [.code c0] (mk pin (x1, c1_0, c1_1, ())) = F0 (J3 T3) x1 c1_0 c1_1 := by kernel_rfl
theorem seg3 (Gspec_l40Rd_of : spec_l40Rd_of.PI → Option spec_l40Rd_of.PO) (Gspec_l40Rd_pick : spec_l40Rd_pick.PI → Option spec_l40Rd_pick.PO) (J3 : List Item → P3 → Option PO) (t1 : Int) (t6 : Int) (c1_0 : List Int) (c1_1 : Int) (r0 : List (List UInt8)) : arun1 (pg Gspec_l40Rd_of Gspec_l40Rd_pick J3) 5000 T3 (mk p3 (t1, t6, c1_0, c1_1, r0, ())) = F3 (J3 T3) Gspec_l40Rd_of Gspec_l40Rd_pick t1 t6 c1_0 c1_1 r0 := by kernel_rfl
noncomputable def L3 : P3 → Option PO := lfp fun J3 x => F3 J3 spec_l40Rd_of.impl spec_l40Rd_pick.impl x.1 x.2.1 x.2.2.1 x.2.2.2.1 x.2.2.2.2.1
noncomputable def impl : PI → Option PO := fun x => F0 L3 x.1 x.2.1 x.2.2.1
theorem F3_le {J3 J3' : P3 → Option PO} (h3 : OLe J3 J3') {Gspec_l40Rd_of : spec_l40Rd_of.PI → Option spec_l40Rd_of.PO} {Gspec_l40Rd_pick : spec_l40Rd_pick.PI → Option spec_l40Rd_pick.PO} (t1 : Int) (t6 : Int) (c1_0 : List Int) (c1_1 : Int) (r0 : List (List UInt8)) : OptLe (F3 J3 Gspec_l40Rd_of Gspec_l40Rd_pick t1 t6 c1_0 c1_1 r0) (F3 J3' Gspec_l40Rd_of Gspec_l40Rd_pick t1 t6 c1_0 c1_1 r0) := by unfold F3; exact .cond (.cond (.cond (.of h3 _) (.refl _)) (.refl _)) (.refl _)
theorem L3_mono : OMono fun J3 (x : P3) => F3 J3 spec_l40Rd_of.impl spec_l40Rd_pick.impl x.1 x.2.1 x.2.2.1 x.2.2.2.1 x.2.2.2.2.1 := fun J J' h3 x => F3_le h3 x.1 x.2.1 x.2.2.1 x.2.2.2.1 x.2.2.2.2.1
theorem L3_eq (t1 : Int) (t6 : Int) (c1_0 : List Int) (c1_1 : Int) (r0 : List (List UInt8)) : L3 (t1, t6, c1_0, c1_1, r0, ()) = F3 (L3) spec_l40Rd_of.impl spec_l40Rd_pick.impl t1 t6 c1_0 c1_1 r0 := congrFun (lfp_eq (L3_mono)) _
theorem impl_eq (x1 : Int) (c1_0 : List Int) (c1_1 : Int) : impl (x1, c1_0, c1_1, ()) = F0 L3 x1 c1_0 c1_1 := rfl
theorem con : Con Tryz.prog 52 2 rs.length 2 pin pout impl := by
  refine con_of_run' (nt := 37) (c := c0) tabGood Tryz.func52 (by kernel_rfl) (by kernel_rfl) (by kernel_rfl) (by kernel_rfl) (by kernel_rfl) (by kernel_rfl) (by kernel_rfl) ?_
  intro w0 O y hnp
  generalize hPost : (fun (a' : Act) (w' : World) => ∃ μ' S' st', Rel 37 w0 O μ' S' st' a' w' ∧ endOf (tabOf tab) rs 2 pout st' = some y) = Post
  have fin : ∀ (μ : Id → Option Value) (S : Nat → Prop) (st : St) (a : Act) (w : World), Rel 37 w0 O μ S st a w → endOf (tabOf tab) rs 2 pout st = some y → Post a w := fun μ S st a w h he => by rw [← hPost]; exact ⟨μ, S, st, h, he⟩
  have hp : ∀ (J3 : List Item → P3 → Option PO), Parts Tryz.prog 52 (pg spec_l40Rd_of.impl spec_l40Rd_pick.impl J3) [(3, cut p3 J3)] := fun J3 => ⟨tab_ok tabGood rfl, (handAt_ok spec_l40Rd_of.con (handAt_ok spec_l40Rd_pick.con handNil_ok)), rfl⟩
  have g3 : Good Tryz.prog 37 w0 O Post y T3 p3 L3 := good_lfp fun J3 h3 => good_part (hp (atT T3 J3)) (runOK_of (hp (atT T3 J3)) hnp ⟨cutOK_at h3, trivial⟩ fin) (fun x => (seg3 spec_l40Rd_of.impl spec_l40Rd_pick.impl (atT T3 J3) x.1 x.2.1 x.2.2.1 x.2.2.2.1 x.2.2.2.2.1).trans (by simp only [atT_self] <;> rfl))
  exact good_first (hp (atT T3 L3)) (runOK_of (hp (atT T3 L3)) hnp ⟨cutOK_at g3, trivial⟩ fin) (fun x => (seg0 spec_l40Rd_of.impl spec_l40Rd_pick.impl (atT T3 L3) x.1 x.2.1 x.2.2.1).trans (by simp only [atT_self] <;> rfl))
end spec_l30Names

/-! ### loop.example/wholecheck/spec.l1Number -/
namespace spec_l1Number
noncomputable abbrev c0 : Code := (Tryz.f113.body).getD .skip
noncomputable abbrev pin : Tpl := ⟨[⟨0, false, [.ptr 500001 0]⟩], [(500001, .box [.d (.sl (.int .u8)), .d (.int .i64)])]⟩
noncomputable abbrev pout : Tpl := ⟨[⟨0, false, [.d (.int .i64)]⟩, ⟨1, false, [.ptr 500001 0]⟩], [(500001, .box [.d (.sl (.int .u8)), .d (.int .i64)])]⟩
noncomputable abbrev PI := (List Int) × Int × Unit
noncomputable abbrev PO := Int × (List Int) × Int × Unit
noncomputable abbrev rs : List ResultVar := [.tmp 2]
noncomputable def F0 (Gspec_l40Rd_num : spec_l40Rd_num.PI → Option spec_l40Rd_num.PO) (Gspec_l40Rd_pick : spec_l40Rd_pick.PI → Option spec_l40Rd_pick.PO) (c1_0 : List Int) (c1_1 : Int) : Option PO :=
  Option.bind (Gspec_l40Rd_pick (4, c1_0, c1_1, ())) fun y0 =>
  Option.bind (Gspec_l40Rd_pick (4, y0.2.1, y0.2.2.1, ())) fun y1 =>
  Option.bind (Gspec_l40Rd_pick (7, y1.2.1, y1.2.2.1, ())) fun y2 =>
  Option.bind (Gspec_l40Rd_pick (200, y2.2.1, y2.2.2.1, ())) fun y3 =>
  Option.bind (Gspec_l40Rd_pick (4, y3.2.1, y3.2.2.1, ())) fun y4 =>
  bif inb y4.1 ([9999, (-9999), 5000, 100] : List Int).length then
    Option.bind (Gspec_l40Rd_num (([y0.1, y1.1, wI (y2.1 - 3), 1, 0, wI (y3.1 - 100), ([9999, (-9999), 5000, 100] : List Int).getD y4.1.toNat 0] : List Int), y4.2.1, y4.2.2.1, ())) fun y5 =>
    some (y5.1, y5.2.1, y5.2.2.1, ())
  else
    none
noncomputable def hd {R : Type} (Gspec_l40Rd_num : spec_l40Rd_num.PI → Option spec_l40Rd_num.PO) (Gspec_l40Rd_pick : spec_l40Rd_pick.PI → Option spec_l40Rd_pick.PO) : Hand R := (handAt 73 [20] false ⟨2, 1, 2, spec_l40Rd_num.pin, spec_l40Rd_num.pout, Gspec_l40Rd_num⟩ (handAt 53 [5, 7, 9, 12, 16] false ⟨2, 1, 2, spec_l40Rd_pick.pin, spec_l40Rd_pick.pout, Gspec_l40Rd_pick⟩ handNil))
noncomputable def pg (Gspec_l40Rd_num : spec_l40Rd_num.PI → Option spec_l40Rd_num.PO) (Gspec_l40Rd_pick : spec_l40Rd_pick.PI → Option spec_l40Rd_pick.PO) : Prog PO := { nt := 21, np := 1, tb := tabOf tab, hd := hd Gspec_l40Rd_num Gspec_l40Rd_pick, cuts := cutsOf [], fin := endOf (tabOf tab) rs 1 pout }
noncomputable def q : FuncId → Bool := fun f => hasId [] f
theorem seg0 (Gspec_l40Rd_num : spec_l40Rd_num.PI → Option spec_l40Rd_num.PO) (Gspec_l40Rd_pick : spec_l40Rd_pick.PI → Option spec_l40Rd_pick.PO) (c1_0 : List Int) (c1_1 : Int) : arun (pg Gspec_l40Rd_num Gspec_l40Rd_pick) 5000 [.code c0] (mk pin (c1_0, c1_1, ())) = F0 Gspec_l40Rd_num Gspec_l40Rd_pick c1_0 c1_1 := by kernel_rfl
noncomputable def impl : PI → Option PO := fun x => F0 spec_l40Rd_num.impl spec_l40Rd_pick.impl x.1 x.2.1
theorem impl_eq (c1_0 : List Int) (c1_1 : Int) : impl (c1_0, c1_1, ()) = F0 spec_l40Rd_num.impl spec_l40Rd_pick.impl c1_0 c1_1 := rfl
theorem con : Con Tryz.prog 113 1 rs.length 1 pin pout impl := by
  refine con_of_run' (nt := 21) (c := c0) tabGood Tryz.func113 (by kernel_rfl) (by kernel_rfl) (by kernel_rfl) (by kernel_rfl) (by kernel_rfl) (by kernel_rfl) (by kernel_rfl) ?_
  intro w0 O y hnp
  generalize hPost : (fun (a' : Act) (w' : World) => ∃ μ' S' st', Rel 21 w0 O μ' S' st' a' w' ∧ endOf (tabOf tab) rs 1 pout st' = some y) = Post
  have fin : ∀ (μ : Id → Option Value) (S : Nat → Prop) (st : St) (a : Act) (w : World), Rel 21 w0 O μ S st a w → endOf (tabOf tab) rs 1 pout st = some y → Post a w := fun μ S st a w h he => by rw [← hPost]; exact ⟨μ, S, st, h, he⟩
  have hp : Parts Tryz.prog 113 (pg spec_l40Rd_num.impl spec_l40Rd_pick.impl) [] := ⟨tab_ok tabGood rfl, (handAt_ok spec_l40Rd_num.con (handAt_ok spec_l40Rd_pick.con handNil_ok)), rfl⟩
  exact good_first (hp) (runOK_of (hp) hnp trivial fin) (fun x => (seg0 spec_l40Rd_num.impl spec_l40Rd_pick.impl x.1 x.2.1))
end spec_l1Number

/-! ### loop.example/wholecheck/spec.l1Numbers -/
namespace spec_l1Numbers
noncomputable abbrev c0 : Code := (Tryz.f83.body).getD .skip
noncomputable abbrev pin : Tpl := ⟨[⟨0, false, [.ptr 500001 0]⟩, ⟨1, false, [.d (.int .i64)]⟩], [(500001, .box [.d (.sl (.int .u8)), .d (.int .i64)])]⟩
noncomputable abbrev pout : Tpl := ⟨[⟨0, false, [.row 600001]⟩, ⟨1, false, [.ptr 500001 0]⟩], [(600001, .row 3 false (.int .i64)), (500001, .box [.d (.sl (.int .u8)), .d (.int .i64)])]⟩
noncomputable abbrev p3 : Tpl := ⟨[⟨0, false, [.ptr 500001 0]⟩, ⟨1, false, [.d (.int .i64)]⟩, ⟨5, false, [.row 3000000]⟩, ⟨6, false, [.d (.int .i64)]⟩], [(500001, .box [.d (.sl (.int .u8)), .d (.int .i64)]), (3000000, .row 3 false (.int .i64))]⟩
noncomputable def T3 : List Item := (find 3 c0 []).getD []
noncomputable abbrev PI := Int × (List Int) × Int × Unit
noncomputable abbrev PO := (List Int) × (List Int) × Int × Unit
noncomputable abbrev P3 := Int × Int × (List Int) × Int × (List Int) × Unit
noncomputable abbrev rs : List ResultVar := [.tmp 4]
noncomputable def F0 (J3 : P3 → Option PO) (x1 : Int) (c1_0 : List Int) (c1_1 : Int) : Option PO :=
  J3 (x1, 0, c1_0, c1_1, ([] : List Int), ())
noncomputable def F3 (J3 : P3 → Option PO) (Gspec_l1Number : spec_l1Number.PI → Option spec_l1Number.PO) (Gspec_l40Rd_num : spec_l40Rd_num.PI → Option spec_l40Rd_num.PO) (Gspec_l40Rd_pick : spec_l40Rd_pick.PI → Option spec_l40Rd_pick.PO) (t1 : Int) (t6 : Int) (c1_0 : List Int) (c1_1 : Int) (r0 : List Int) : Option PO :=
  bif decide (t6 < t1) then
    Option.bind (Gspec_l1Number (c1_0, c1_1, ())) fun y0 =>
    bif decide ((r0.length + ([y0.1] : List Int).length) * 8 ≤ 140737488355328) then
      J3 (t1, wI (t6 + 1), y0.2.1, y0.2.2.1, r0 ++ ([y0.1] : List Int), ())
    else
      none
  else
    bif decide (t1 > 0) then
      Option.bind (Gspec_l40Rd_pick (30, c1_0, c1_1, ())) fun y1 =>
      bif y1.1 == 0 then
        Option.bind (Gspec_l40Rd_num (([10000, (-10000)] : List Int), y1.2.1, y1.2.2.1, ())) fun y2 =>
        bif inb 0 r0.length then
          some (r0.set 0 y2.1, y2.2.1, y2.2.2.1, ())
        else
          none
      else
        some (r0, y1.2.1, y1.2.2.1, ())
    else
      some (r0, c1_0, c1_1, ())
noncomputable def hd {R : Type} (Gspec_l1Number : spec_l1Number.PI → Option spec_l1Number.PO) (Gspec_l40Rd_num : spec_l40Rd_num.PI → Option spec_l40Rd_num.PO) (Gspec_l40Rd_pick : spec_l40Rd_pick.PI → Option spec_l40Rd_pick.PO) : Hand R := (handAt 113 [15] false ⟨1, 1, 1, spec_l1Number.pin, spec_l1Number.pout, Gspec_l1Number⟩ (handAt 73 [28] false ⟨2, 1, 2, spec_l40Rd_num.pin, spec_l40Rd_num.pout, Gspec_l40Rd_num⟩ (handAt 53 [22] false ⟨2, 1, 2, spec_l40Rd_pick.pin, spec_l40Rd_pick.pout, Gspec_l40Rd_pick⟩ handNil)))
noncomputable def pg (Gspec_l1Number : spec_l1Number.PI → Option spec_l1Number.PO) (Gspec_l40Rd_num : spec_l40Rd_num.PI → Option spec_l40Rd_num.PO) (Gspec_l40Rd_pick : spec_l40Rd_pick.PI → Option spec_l40Rd_pick.PO) (J3 : List Item → P3 → Option PO) : Prog PO := { nt := 31, np := 2, tb := tabOf tab, hd := hd Gspec_l1Number Gspec_l40Rd_num Gspec_l40Rd_pick, cuts := cutsOf [(3, cut p3 J3)], fin := endOf (tabOf tab) rs 2 pout }
noncomputable def q : FuncId → Bool := fun f => hasId [] f
theorem seg0 (Gspec_l1Number : spec_l1Number.PI → Option spec_l1Number.PO) (Gspec_l40Rd_num : spec_l40Rd_num.PI → Option spec_l40Rd_num.PO) (Gspec_l40Rd_pick : spec_l40Rd_pick.PI → Option spec_l40Rd_pick.PO) (J3 : List Item → P3 → Option PO) (x1 : Int) (c1_0 : List Int) (c1_1 : Int) : arun (pg Gspec_l1Number Gspec_l40Rd_num Gspec_l40Rd_pick J3) 5000 [.code c0] (mk pin (x1, c1_0, c1_1, ())) = F0 (J3 T3) x1 c1_0 c1_1 := by kernel_rfl
theorem seg3 (Gspec_l1Number : spec_l1Number.PI → Option spec_l1Number.PO) (Gspec_l40Rd_num : spec_l40Rd_num.PI → Option spec_l40Rd_num.PO) (Gspec_l40Rd_pick : spec_l40Rd_pick.PI → Option spec_l40Rd_pick.PO) (J3 : List Item → P3 → Option PO) (t1 : Int) (t6 : Int) (c1_0 : List Int) (c1_1 : Int) (r0 : List Int) : arun1 (pg Gspec_l1Number Gspec_l40Rd_num Gspec_l40Rd_pick J3) 5000 T3 (mk p3 (t1, t6, c1_0, c1_1, r0, ())) = F3 (J3 T3) Gspec_l1Number Gspec_l40Rd_num Gspec_l40Rd_pick t1 t6 c1_0 c1_1 r0 := by kernel_rfl
noncomputable def L3 : P3 → Option PO := lfp fun J3 x => F3 J3 spec_l1Number.impl spec_l40Rd_num.impl spec_l40Rd_pick.impl x.1 x.2.1 x.2.2.1 x.2.2.2.1 x.2.2.2.2.1
noncomputable def impl : PI → Option PO := fun x => F0 L3 x.1 x.2.1 x.2.2.1
theorem F3_le {J3 J3' : P3 → Option PO} (h3 : OLe J3 J3') {Gspec_l1Number : spec_l1Number.PI → Option spec_l1Number.PO} {Gspec_l40Rd_num : spec_l40Rd_num.PI → Option spec_l40Rd_num.PO} {Gspec_l40Rd_pick : spec_l40Rd_pick.PI → Option spec_l40Rd_pick.PO} (t1 : Int) (t6 : Int) (c1_0 : List Int) (c1_1 : Int) (r0 : List Int) : OptLe (F3 J3 Gspec_l1Number Gspec_l40Rd_num Gspec_l40Rd_pick t1 t6 c1_0 c1_1 r0) (F3 J3' Gspec_l1Number Gspec_l40Rd_num Gspec_l40Rd_pick t1 t6 c1_0 c1_1 r0) := by unfold F3; exact .cond (.bind (.refl _) fun _ => .cond (.of h3 _) (.refl _)) (.refl _)
theorem L3_mono : OMono fun J3 (x : P3) => F3 J3 spec_l1Number.impl spec_l40Rd_num.impl spec_l40Rd_pick.impl x.1 x.2.1 x.2.2.1 x.2.2.2.1 x.2.2.2.2.1 := fun J J' h3 x => F3_le h3 x.1 x.2.1 x.2.2.1 x.2.2.2.1 x.2.2.2.2.1
theorem L3_eq (t1 : Int) (t6 : Int) (c1_0 : List Int) (c1_1 : Int) (r0 : List Int) : L3 (t1, t6, c1_0, c1_1, r0, ()) = F3 (L3) spec_l1Number.impl spec_l40Rd_num.impl spec_l40Rd_pick.impl t1 t6 c1_0 c1_1 r0 := congrFun (lfp_eq (L3_mono)) _
theorem impl_eq (x1 : Int) (c1_0 : List Int) (c1_1 : Int) : impl (x1, c1_0, c1_1, ()) = F0 L3 x1 c1_0 c1_1 := rfl
theorem con : Con Tryz.prog 83 2 rs.length 2 pin pout impl := by
  refine con_of_run' (nt := 31) (c := c0) tabGood Tryz.func83 (by kernel_rfl) (by kernel_rfl) (by kernel_rfl) (by kernel_rfl) (by kernel_rfl) (by kernel_rfl) (by kernel_rfl) ?_
  intro w0 O y hnp
  generalize hPost : (fun (a' : Act) (w' : World) => ∃ μ' S' st', Rel 31 w0 O μ' S' st' a' w' ∧ endOf (tabOf tab) rs 2 pout st' = some y) = Post
  have fin : ∀ (μ : Id → Option Value) (S : Nat → Prop) (st : St) (a : Act) (w : World), Rel 31 w0 O μ S st a w → endOf (tabOf tab) rs 2 pout st = some y → Post a w := fun μ S st a w h he => by rw [← hPost]; exact ⟨μ, S, st, h, he⟩
  have hp : ∀ (J3 : List Item → P3 → Option PO), Parts Tryz.prog 83 (pg spec_l1Number.impl spec_l40Rd_num.impl spec_l40Rd_pick.impl J3) [(3, cut p3 J3)] := fun J3 => ⟨tab_ok tabGood rfl, (handAt_ok spec_l1Number.con (handAt_ok spec_l40Rd_num.con (handAt_ok spec_l40Rd_pick.con handNil_ok))), rfl⟩
  have g3 : Good Tryz.prog 31 w0 O Post y T3 p3 L3 := good_lfp fun J3 h3 => good_part (hp (atT T3 J3)) (runOK_of (hp (atT T3 J3)) hnp ⟨cutOK_at h3, trivial⟩ fin) (fun x => (seg3 spec_l1Number.impl spec_l40Rd_num.impl spec_l40Rd_pick.impl (atT T3 J3) x.1 x.2.1 x.2.2.1 x.2.2.2.1 x.2.2.2.2.1).trans (by simp only [atT_self] <;> rfl))
  exact good_first (hp (atT T3 L3)) (runOK_of (hp (atT T3 L3)) hnp ⟨cutOK_at g3, trivial⟩ fin) (fun x => (seg0 spec_l1Number.impl spec_l40Rd_num.impl spec_l40Rd_pick.impl (atT T3 L3) x.1 x.2.1 x.2.2.1).trans (by simp only [atT_self] <;> rfl))
end spec_l1Numbers

/-! ### loop.example/wholecheck/spec.DrawStateText -/
namespace spec_DrawStateText
noncomputable abbrev c0 : Code := (Tryz.f30.body).getD .skip
noncomputable abbrev pin : Tpl := ⟨[⟨0, false, [.d (.sl (.int .u8))]⟩], []⟩
noncomputable abbrev pout : Tpl := ⟨[⟨0, false, [.row 600001]⟩, ⟨1, false, [.row 600002]⟩], [(600001, .row 9 false .str), (600002, .row 3 false (.int .i64))]⟩
noncomputable abbrev PI := (List Int) × Unit
noncomputable abbrev PO := (List (List UInt8)) × (List Int) × Unit
noncomputable abbrev rs : List ResultVar := [.tmp 2, .tmp 3]
noncomputable def F0 (Gspec_l1Numbers : spec_l1Numbers.PI → Option spec_l1Numbers.PO) (Gspec_l30Names : spec_l30Names.PI → Option spec_l30Names.PO) (Gspec_l40Open : spec_l40Open.PI → Option spec_l40Open.PO) (Gspec_l40Rd_num : spec_l40Rd_num.PI → Option spec_l40Rd_num.PO) (x0 : List Int) : Option PO :=
  Option.bind (Gspec_l40Open (x0, ())) fun y0 =>
  Option.bind (Gspec_l40Rd_num (([1, 2, 3, 0] : List Int), y0.1, y0.2.1, ())) fun y1 =>
  Option.bind (Gspec_l30Names (y1.1, y1.2.1, y1.2.2.1, ())) fun y2 =>
  Option.bind (Gspec_l40Rd_num (([y1.1, y1.1, y1.1, wI (y1.1 + 1)] : List Int), y2.2.1, y2.2.2.1, ())) fun y3 =>
  Option.bind (Gspec_l1Numbers (y3.1, y3.2.1, y3.2.2.1, ())) fun y4 =>
  some (y2.1, y4.1, ())
noncomputable def hd {R : Type} (Gspec_l1Numbers : spec_l1Numbers.PI → Option spec_l1Numbers.PO) (Gspec_l30Names : spec_l30Names.PI → Option spec_l30Names.PO) (Gspec_l40Open : spec_l40Open.PI → Option spec_l40Open.PO) (Gspec_l40Rd_num : spec_l40Rd_num.PI → Option spec_l40Rd_num.PO) : Hand R := (handAt 83 [23] false ⟨2, 1, 2, spec_l1Numbers.pin, spec_l1Numbers.pout, Gspec_l1Numbers⟩ (handAt 73 [10, 22] false ⟨2, 1, 2, spec_l40Rd_num.pin, spec_l40Rd_num.pout, Gspec_l40Rd_num⟩ (handAt 52 [13] false ⟨2, 1, 2, spec_l30Names.pin, spec_l30Names.pout, Gspec_l30Names⟩ (handAt 51 [7] false ⟨1, 1, 0, spec_l40Open.pin, spec_l40Open.pout, Gspec_l40Open⟩ handNil))))
noncomputable def pg (Gspec_l1Numbers : spec_l1Numbers.PI → Option spec_l1Numbers.PO) (Gspec_l30Names : spec_l30Names.PI → Option spec_l30Names.PO) (Gspec_l40Open : spec_l40Open.PI → Option spec_l40Open.PO) (Gspec_l40Rd_num : spec_l40Rd_num.PI → Option spec_l40Rd_num.PO) : Prog PO := { nt := 24, np := 1, tb := tabOf tab, hd := hd Gspec_l1Numbers Gspec_l30Names Gspec_l40Open Gspec_l40Rd_num, cuts := cutsOf [], fin := endOf (tabOf tab) rs 1 pout }
noncomputable def q : FuncId → Bool := fun f => hasId [] f
theorem seg0 (Gspec_l1Numbers : spec_l1Numbers.PI → Option spec_l1Numbers.PO) (Gspec_l30Names : spec_l30Names.PI → Option spec_l30Names.PO) (Gspec_l40Open : spec_l40Open.PI → Option spec_l40Open.PO) (Gspec_l40Rd_num : spec_l40Rd_num.PI → Option spec_l40Rd_num.PO) (x0 : List Int) : arun (pg Gspec_l1Numbers Gspec_l30Names Gspec_l40Open Gspec_l40Rd_num) 5000 [.code c0] (mk pin (x0, ())) = F0 Gspec_l1Numbers Gspec_l30Names Gspec_l40Open Gspec_l40Rd_num x0 := by kernel_rfl
noncomputable def impl : PI → Option PO := fun x => F0 spec_l1Numbers.impl spec_l30Names.impl spec_l40Open.impl spec_l40Rd_num.impl x.1
theorem impl_eq (x0 : List Int) : impl (x0, ()) = F0 spec_l1Numbers.impl spec_l30Names.impl spec_l40Open.impl spec_l40Rd_num.impl x0 := rfl
theorem con : Con Tryz.prog 30 1 rs.length 1 pin pout impl := by
  refine con_of_run' (nt := 24) (c := c0) tabGood Tryz.func30 (by kernel_rfl) (by kernel_rfl) (by kernel_rfl) (by kernel_rfl) (by kernel_rfl) (by kernel_rfl) (by kernel_rfl) ?_
  intro w0 O y hnp
  generalize hPost : (fun (a' : Act) (w' : World) => ∃ μ' S' st', Rel 24 w0 O μ' S' st' a' w' ∧ endOf (tabOf tab) rs 1 pout st' = some y) = Post
  have fin : ∀ (μ : Id → Option Value) (S : Nat → Prop) (st : St) (a : Act) (w : World), Rel 24 w0 O μ S st a w → endOf (tabOf tab) rs 1 pout st = some y → Post a w := fun μ S st a w h he => by rw [← hPost]; exact ⟨μ, S, st, h, he⟩
  have hp : Parts Tryz.prog 30 (pg spec_l1Numbers.impl spec_l30Names.impl spec_l40Open.impl spec_l40Rd_num.impl) [] := ⟨tab_ok tabGood rfl, (handAt_ok spec_l1Numbers.con (handAt_ok spec_l40Rd_num.con (handAt_ok spec_l30Names.con (handAt_ok spec_l40Open.con handNil_ok)))), rfl⟩
  exact good_first (hp) (runOK_of (hp) hnp trivial fin) (fun x => (seg0 spec_l1Numbers.impl spec_l30Names.impl spec_l40Open.impl spec_l40Rd_num.impl x.1))
end spec_DrawStateText

/-! ### loop.example/wholecheck/laws.wcInts -/
namespace laws_wcInts
noncomputable abbrev c0 : Code := (Tryz.f31.body).getD .skip
noncomputable abbrev pin : Tpl := ⟨[⟨0, false, [.d (.sl (.int .i64))]⟩, ⟨1, false, [.d (.sl (.int .i64))]⟩], []⟩
noncomputable abbrev pout : Tpl := ⟨[⟨0, false, [.d .bool]⟩], []⟩
noncomputable abbrev p4 : Tpl := ⟨[⟨1, false, [.d (.sl (.int .i64))]⟩, ⟨12, false, [.d (.sl (.int .i64))]⟩, ⟨13, false, [.d (.int .i64)]⟩, ⟨14, false, [.d (.int .i64)]⟩], []⟩
noncomputable def T4 : List Item := (find 4 c0 []).getD []
noncomputable abbrev PI := (List Int) × (List Int) × Unit
noncomputable abbrev PO := Bool × Unit
noncomputable abbrev P4 := (List Int) × (List Int) × Int × Int × Unit
noncomputable abbrev rs : List ResultVar := [.tmp 4]
noncomputable def F0 (J4 : P4 → Option PO) (x0 : List Int) (x1 : List Int) : Option PO :=
  bif (x0.length : Int) != (x1.length : Int) then
    some (false, ())
  else
    J4 (x1, x0, (x0.length : Int), 0, ())
noncomputable def F4 (J4 : P4 → Option PO) (t1 : List Int) (t12 : List Int) (t13 : Int) (t14 : Int) : Option PO :=
  bif decide (t14 < t13) then
    bif inb t14 t12.length then
      bif inb t14 t1.length then
        bif t1.getD t14.toNat 0 != t12.getD t14.toNat 0 then
          some (false, ())
        else
          J4 (t1, t12, t13, wI (t14 + 1), ())
      else
        none
    else
      none
  else
    some (true, ())
noncomputable def hd {R : Type} : Hand R := handNil
noncomputable def pg (J4 : List Item → P4 → Option PO) : Prog PO := { nt := 26, np := 2, tb := tabOf tab, hd := hd, cuts := cutsOf [(4, cut p4 J4)], fin := endOf (tabOf tab) rs 2 pout }
noncomputable def q : FuncId → Bool := fun f => hasId [] f
theorem seg0 (J4 : List Item → P4 → Option PO) (x0 : List Int) (x1 : List Int) : arun (pg J4) 5000 [.code c0] (mk pin (x0, x1, ())) = F0 (J4 T4) x0 x1 := by kernel_rfl
theorem seg4 (J4 : List Item → P4 → Option PO) (t1 : List Int) (t12 : List Int) (t13 : Int) (t14 : Int) : arun1 (pg J4) 5000 T4 (mk p4 (t1, t12, t13, t14, ())) = F4 (J4 T4) t1 t12 t13 t14 := by kernel_rfl
noncomputable def L4 : P4 → Option PO := lfp fun J4 x => F4 J4 x.1 x.2.1 x.2.2.1 x.2.2.2.1
noncomputable def impl : PI → Option PO := fun x => F0 L4 x.1 x.2.1
theorem F4_le {J4 J4' : P4 → Option PO} (h4 : OLe J4 J4') (t1 : List Int) (t12 : List Int) (t13 : Int) (t14 : Int) : OptLe (F4 J4 t1 t12 t13 t14) (F4 J4' t1 t12 t13 t14) := by unfold F4; exact .cond (.cond (.cond (.cond (.refl _) (.of h4 _)) (.refl _)) (.refl _)) (.refl _)
theorem L4_mono : OMono fun J4 (x : P4) => F4 J4 x.1 x.2.1 x.2.2.1 x.2.2.2.1 := fun J J' h4 x => F4_le h4 x.1 x.2.1 x.2.2.1 x.2.2.2.1
theorem L4_eq (t1 : List Int) (t12 : List Int) (t13 : Int) (t14 : Int) : L4 (t1, t12, t13, t14, ()) = F4 (L4) t1 t12 t13 t14 := congrFun (lfp_eq (L4_mono)) _
theorem impl_eq (x0 : List Int) (x1 : List Int) : impl (x0, x1, ()) = F0 L4 x0 x1 := rfl
theorem con : Con Tryz.prog 31 2 rs.length 2 pin pout impl := by
  refine con_of_run' (nt := 26) (c := c0) tabGood Tryz.func31 (by kernel_rfl) (by kernel_rfl) (by kernel_rfl) (by kernel_rfl) (by kernel_rfl) (by kernel_rfl) (by kernel_rfl) ?_
  intro w0 O y hnp
  generalize hPost : (fun (a' : Act) (w' : World) => ∃ μ' S' st', Rel 26 w0 O μ' S' st' a' w' ∧ endOf (tabOf tab) rs 2 pout st' = some y) = Post
  have fin : ∀ (μ : Id → Option Value) (S : Nat → Prop) (st : St) (a : Act) (w : World), Rel 26 w0 O μ S st a w → endOf (tabOf tab) rs 2 pout st = some y → Post a w := fun μ S st a w h he => by rw [← hPost]; exact ⟨μ, S, st, h, he⟩
  have hp : ∀ (J4 : List Item → P4 → Option PO), Parts Tryz.prog 31 (pg J4) [(4, cut p4 J4)] := fun J4 => ⟨tab_ok tabGood rfl, handNil_ok, rfl⟩
  have g4 : Good Tryz.prog 26 w0 O Post y T4 p4 L4 := good_lfp fun J4 h4 => good_part (hp (atT T4 J4)) (runOK_of (hp (atT T4 J4)) hnp ⟨cutOK_at h4, trivial⟩ fin) (fun x => (seg4 (atT T4 J4) x.1 x.2.1 x.2.2.1 x.2.2.2.1).trans (by simp only [atT_self] <;> rfl))
  exact good_first (hp (atT T4 L4)) (runOK_of (hp (atT T4 L4)) hnp ⟨cutOK_at g4, trivial⟩ fin) (fun x => (seg0 (atT T4 L4) x.1 x.2.1).trans (by simp only [atT_self] <;> rfl))
end laws_wcInts

/-! ### loop.example/wholecheck/impl.nameOk -/
namespace impl_nameOk
noncomputable abbrev c0 : Code := (Tryz.f58.body).getD .skip
noncomputable abbrev pin : Tpl := ⟨[⟨0, false, [.d .str]⟩], []⟩
noncomputable abbrev pout : Tpl := ⟨[⟨0, false, [.d .bool]⟩], []⟩
noncomputable abbrev PI := (List UInt8) × Unit
noncomputable abbrev PO := Bool × Unit
noncomputable abbrev rs : List ResultVar := [.tmp 2]
noncomputable def F0 (Gimpl_in : impl_in.PI → Option impl_in.PO) (Glib_Trim : lib_Trim.PI → Option lib_Trim.PO) (x0 : List UInt8) : Option PO :=
  Option.bind (Gimpl_in ((x0.length : Int), 1, 8, ())) fun y0 =>
  bif y0.1 then
    Option.bind (Glib_Trim (x0, ([97, 98, 99, 100, 101, 102, 103, 104, 105, 106, 107, 108, 109, 110, 111, 112, 113, 114, 115, 116, 117, 118, 119, 120, 121, 122] : List UInt8), ())) fun y1 =>
    some (y1.1 == [], ())
  else
    some (false, ())
noncomputable def hd {R : Type} (Gimpl_in : impl_in.PI → Option impl_in.PO) (Glib_Trim : lib_Trim.PI → Option lib_Trim.PO) : Hand R := (handAt 105 [8] true ⟨2, 1, 0, lib_Trim.pin, lib_Trim.pout, Glib_Trim⟩ (handAt 74 [5] true ⟨3, 1, 3, impl_in.pin, impl_in.pout, Gimpl_in⟩ handNil))
noncomputable def pg (Gimpl_in : impl_in.PI → Option impl_in.PO) (Glib_Trim : lib_Trim.PI → Option lib_Trim.PO) : Prog PO := { nt := 11, np := 1, tb := tabOf tab, hd := hd Gimpl_in Glib_Trim, cuts := cutsOf [], fin := endOf (tabOf tab) rs 1 pout }
noncomputable def q : FuncId → Bool := fun f => hasId [74, 105] f
theorem seg0 (Gimpl_in : impl_in.PI → Option impl_in.PO) (Glib_Trim : lib_Trim.PI → Option lib_Trim.PO) (x0 : List UInt8) : arun (pg Gimpl_in Glib_Trim) 5000 [.code c0] (mk pin (x0, ())) = F0 Gimpl_in Glib_Trim x0 := by kernel_rfl
noncomputable def impl : PI → Option PO := fun x => F0 impl_in.impl lib_Trim.impl x.1
theorem impl_eq (x0 : List UInt8) : impl (x0, ()) = F0 impl_in.impl lib_Trim.impl x0 := rfl
theorem con : Con Tryz.prog 58 1 rs.length 1 pin pout impl := by
  refine con_of_run' (nt := 11) (c := c0) tabGood Tryz.func58 (by kernel_rfl) (by kernel_rfl) (by kernel_rfl) (by kernel_rfl) (by kernel_rfl) (by kernel_rfl) (by kernel_rfl) ?_
  intro w0 O y hnp
  generalize hPost : (fun (a' : Act) (w' : World) => ∃ μ' S' st', Rel 11 w0 O μ' S' st' a' w' ∧ endOf (tabOf tab) rs 1 pout st' = some y) = Post
  have fin : ∀ (μ : Id → Option Value) (S : Nat → Prop) (st : St) (a : Act) (w : World), Rel 11 w0 O μ S st a w → endOf (tabOf tab) rs 1 pout st = some y → Post a w := fun μ S st a w h he => by rw [← hPost]; exact ⟨μ, S, st, h, he⟩
  have hp : Parts Tryz.prog 58 (pg impl_in.impl lib_Trim.impl) [] := ⟨tab_ok tabGood rfl, (handAt_ok lib_Trim.con (handAt_ok impl_in.con handNil_ok)), rfl⟩
  exact good_first (hp) (runOK_of (hp) hnp trivial fin) (fun x => (seg0 impl_in.impl lib_Trim.impl x.1))
end impl_nameOk

/-! ### slices.Index[[]string,string] -/
namespace slices_Index_of
noncomputable abbrev c0 : Code := (Tryz.f106.body).getD .skip
noncomputable abbrev pin : Tpl := ⟨[⟨0, false, [.d (.sl .str)]⟩, ⟨1, false, [.d .str]⟩], []⟩
noncomputable abbrev pout : Tpl := ⟨[⟨0, false, [.d (.int .i64)]⟩], []⟩
noncomputable abbrev p2 : Tpl := ⟨[⟨0, false, [.d (.sl .str)]⟩, ⟨1, false, [.d .str]⟩, ⟨7, false, [.d (.int .i64)]⟩, ⟨8, false, [.d (.int .i64)]⟩], []⟩
noncomputable def T2 : List Item := (find 2 c0 []).getD []
noncomputable abbrev PI := (List (List UInt8)) × (List UInt8) × Unit
noncomputable abbrev PO := Int × Unit
noncomputable abbrev P2 := (List (List UInt8)) × (List UInt8) × Int × Int × Unit
noncomputable abbrev rs : List ResultVar := [.tmp 4]
noncomputable def F0 (J2 : P2 → Option PO) (x0 : List (List UInt8)) (x1 : List UInt8) : Option PO :=
  J2 (x0, x1, (x0.length : Int), 0, ())
noncomputable def F2 (J2 : P2 → Option PO) (t0 : List (List UInt8)) (t1 : List UInt8) (t7 : Int) (t8 : Int) : Option PO :=
  bif decide (t8 < t7) then
    bif inb t8 t0.length then
      bif t1 == (t0.getD t8.toNat []) then
        some (t8, ())
      else
        J2 (t0, t1, t7, wI (t8 + 1), ())
    else
      none
  else
    some ((-1), ())
noncomputable def hd {R : Type} : Hand R := handNil
noncomputable def pg (J2 : List Item → P2 → Option PO) : Prog PO := { nt := 19, np := 2, tb := tabOf tab, hd := hd, cuts := cutsOf [(2, cut p2 J2)], fin := endOf (tabOf tab) rs 2 pout }
noncomputable def q : FuncId → Bool := fun f => hasId [] f
theorem seg0 (J2 : List Item → P2 → Option PO) (x0 : List (List UInt8)) (x1 : List UInt8) : arun (pg J2) 5000 [.code c0] (mk pin (x0, x1, ())) = F0 (J2 T2) x0 x1 := by kernel_rfl
theorem seg2 (J2 : List Item → P2 → Option PO) (t0 : List (List UInt8)) (t1 : List UInt8) (t7 : Int) (t8 : Int) : arun1 (pg J2) 5000 T2 (mk p2 (t0, t1, t7, t8, ())) = F2 (J2 T2) t0 t1 t7 t8 := by kernel_rfl
noncomputable def L2 : P2 → Option PO := lfp fun J2 x => F2 J2 x.1 x.2.1 x.2.2.1 x.2.2.2.1
noncomputable def impl : PI → Option PO := fun x => F0 L2 x.1 x.2.1
theorem F2_le {J2 J2' : P2 → Option PO} (h2 : OLe J2 J2') (t0 : List (List UInt8)) (t1 : List UInt8) (t7 : Int) (t8 : Int) : OptLe (F2 J2 t0 t1 t7 t8) (F2 J2' t0 t1 t7 t8) := by unfold F2; exact .cond (.cond (.cond (.refl _) (.of h2 _)) (.refl _)) (.refl _)
theorem L2_mono : OMono fun J2 (x : P2) => F2 J2 x.1 x.2.1 x.2.2.1 x.2.2.2.1 := fun J J' h2 x => F2_le h2 x.1 x.2.1 x.2.2.1 x.2.2.2.1
theorem L2_eq (t0 : List (List UInt8)) (t1 : List UInt8) (t7 : Int) (t8 : Int) : L2 (t0, t1, t7, t8, ()) = F2 (L2) t0 t1 t7 t8 := congrFun (lfp_eq (L2_mono)) _
theorem impl_eq (x0 : List (List UInt8)) (x1 : List UInt8) : impl (x0, x1, ()) = F0 L2 x0 x1 := rfl
theorem con : Con Tryz.prog 106 2 rs.length 2 pin pout impl := by
  refine con_of_run' (nt := 19) (c := c0) tabGood Tryz.func106 (by kernel_rfl) (by kernel_rfl) (by kernel_rfl) (by kernel_rfl) (by kernel_rfl) (by kernel_rfl) (by kernel_rfl) ?_
  intro w0 O y hnp
  generalize hPost : (fun (a' : Act) (w' : World) => ∃ μ' S' st', Rel 19 w0 O μ' S' st' a' w' ∧ endOf (tabOf tab) rs 2 pout st' = some y) = Post
  have fin : ∀ (μ : Id → Option Value) (S : Nat → Prop) (st : St) (a : Act) (w : World), Rel 19 w0 O μ S st a w → endOf (tabOf tab) rs 2 pout st = some y → Post a w := fun μ S st a w h he => by rw [← hPost]; exact ⟨μ, S, st, h, he⟩
  have hp : ∀ (J2 : List Item → P2 → Option PO), Parts Tryz.prog 106 (pg J2) [(2, cut p2 J2)] := fun J2 => ⟨tab_ok tabGood rfl, handNil_ok, rfl⟩
  have g2 : Good Tryz.prog 19 w0 O Post y T2 p2 L2 := good_lfp fun J2 h2 => good_part (hp (atT T2 J2)) (runOK_of (hp (atT T2 J2)) hnp ⟨cutOK_at h2, trivial⟩ fin) (fun x => (seg2 (atT T2 J2) x.1 x.2.1 x.2.2.1 x.2.2.2.1).trans (by simp only [atT_self] <;> rfl))
  exact good_first (hp (atT T2 L2)) (runOK_of (hp (atT T2 L2)) hnp ⟨cutOK_at g2, trivial⟩ fin) (fun x => (seg0 (atT T2 L2) x.1 x.2.1).trans (by simp only [atT_self] <;> rfl))
end slices_Index_of

/-! ### slices.Contains[[]string,string] -/
namespace slices_Contains_of
noncomputable abbrev c0 : Code := (Tryz.f59.body).getD .skip
noncomputable abbrev pin : Tpl := ⟨[⟨0, false, [.d (.sl .str)]⟩, ⟨1, false, [.d .str]⟩], []⟩
noncomputable abbrev pout : Tpl := ⟨[⟨0, false, [.d .bool]⟩], []⟩
noncomputable abbrev PI := (List (List UInt8)) × (List UInt8) × Unit
noncomputable abbrev PO := Bool × Unit
noncomputable abbrev rs : List ResultVar := [.tmp 4]
noncomputable def F0 (Gslices_Index_of : slices_Index_of.PI → Option slices_Index_of.PO) (x0 : List (List UInt8)) (x1 : List UInt8) : Option PO :=
  Option.bind (Gslices_Index_of (x0, x1, ())) fun y0 =>
  some (decide (y0.1 ≥ 0), ())
noncomputable def hd {R : Type} (Gslices_Index_of : slices_Index_of.PI → Option slices_Index_of.PO) : Hand R := (handAt 106 [7] true ⟨2, 1, 2, slices_Index_of.pin, slices_Index_of.pout, Gslices_Index_of⟩ handNil)
noncomputable def pg (Gslices_Index_of : slices_Index_of.PI → Option slices_Index_of.PO) : Prog PO := { nt := 9, np := 2, tb := tabOf tab, hd := hd Gslices_Index_of, cuts := cutsOf [], fin := endOf (tabOf tab) rs 2 pout }
noncomputable def q : FuncId → Bool := fun f => hasId [106] f
theorem seg0 (Gslices_Index_of : slices_Index_of.PI → Option slices_Index_of.PO) (x0 : List (List UInt8)) (x1 : List UInt8) : arun (pg Gslices_Index_of) 5000 [.code c0] (mk pin (x0, x1, ())) = F0 Gslices_Index_of x0 x1 := by kernel_rfl
noncomputable def impl : PI → Option PO := fun x => F0 slices_Index_of.impl x.1 x.2.1
theorem impl_eq (x0 : List (List UInt8)) (x1 : List UInt8) : impl (x0, x1, ()) = F0 slices_Index_of.impl x0 x1 := rfl
theorem con : Con Tryz.prog 59 2 rs.length 2 pin pout impl := by
  refine con_of_run' (nt := 9) (c := c0) tabGood Tryz.func59 (by kernel_rfl) (by kernel_rfl) (by kernel_rfl) (by kernel_rfl) (by kernel_rfl) (by kernel_rfl) (by kernel_rfl) ?_
  intro w0 O y hnp
  generalize hPost : (fun (a' : Act) (w' : World) => ∃ μ' S' st', Rel 9 w0 O μ' S' st' a' w' ∧ endOf (tabOf tab) rs 2 pout st' = some y) = Post
  have fin : ∀ (μ : Id → Option Value) (S : Nat → Prop) (st : St) (a : Act) (w : World), Rel 9 w0 O μ S st a w → endOf (tabOf tab) rs 2 pout st = some y → Post a w := fun μ S st a w h he => by rw [← hPost]; exact ⟨μ, S, st, h, he⟩
  have hp : Parts Tryz.prog 59 (pg slices_Index_of.impl) [] := ⟨tab_ok tabGood rfl, (handAt_ok slices_Index_of.con handNil_ok), rfl⟩
  exact good_first (hp) (runOK_of (hp) hnp trivial fin) (fun x => (seg0 slices_Index_of.impl x.1 x.2.1))
end slices_Contains_of

/-! ### loop.example/wholecheck/impl.NamesValid -/
namespace impl_NamesValid
noncomputable abbrev c0 : Code := (Tryz.f16.body).getD .skip
noncomputable abbrev pin : Tpl := ⟨[⟨0, false, [.d (.sl .str)]⟩], []⟩
noncomputable abbrev pout : Tpl := ⟨[⟨0, false, [.d .bool]⟩], []⟩
noncomputable abbrev p4 : Tpl := ⟨[⟨0, false, [.d (.sl .str)]⟩, ⟨8, false, [.d (.sl .str)]⟩, ⟨9, false, [.d (.int .i64)]⟩, ⟨10, false, [.d (.int .i64)]⟩], []⟩
noncomputable def T4 : List Item := (find 4 c0 []).getD []
noncomputable abbrev PI := (List (List UInt8)) × Unit
noncomputable abbrev PO := Bool × Unit
noncomputable abbrev P4 := (List (List UInt8)) × (List (List UInt8)) × Int × Int × Unit
noncomputable abbrev rs : List ResultVar := [.tmp 2]
noncomputable def F0 (J4 : P4 → Option PO) (x0 : List (List UInt8)) : Option PO :=
  bif decide ((x0.length : Int) > 5) then
    some (false, ())
  else
    J4 (x0, x0, (x0.length : Int), 0, ())
noncomputable def F4 (J4 : P4 → Option PO) (Gimpl_nameOk : impl_nameOk.PI → Option impl_nameOk.PO) (Gslices_Contains_of : slices_Contains_of.PI → Option slices_Contains_of.PO) (t0 : List (List UInt8)) (t8 : List (List UInt8)) (t9 : Int) (t10 : Int) : Option PO :=
  bif decide (t10 < t9) then
    bif inb t10 t8.length then
      Option.bind (Gimpl_nameOk (t8.getD t10.toNat [], ())) fun y0 =>
      bif !y0.1 then
        some (false, ())
      else
        bif decide (0 ≤ t10) && decide (t10 ≤ (t0.length : Int)) then
          Option.bind (Gslices_Contains_of ((t0.take t10.toNat).drop 0, t8.getD t10.toNat [], ())) fun y1 =>
          bif y1.1 then
            some (false, ())
          else
            J4 (t0, t8, t9, wI (t10 + 1), ())
        else
          none
    else
      none
  else
    some (true, ())
noncomputable def hd {R : Type} (Gimpl_nameOk : impl_nameOk.PI → Option impl_nameOk.PO) (Gslices_Contains_of : slices_Contains_of.PI → Option slices_Contains_of.PO) : Hand R := (handAt 59 [23] true ⟨2, 1, 2, slices_Contains_of.pin, slices_Contains_of.pout, Gslices_Contains_of⟩ (handAt 58 [16] true ⟨1, 1, 1, impl_nameOk.pin, impl_nameOk.pout, Gimpl_nameOk⟩ handNil))
noncomputable def pg (Gimpl_nameOk : impl_nameOk.PI → Option impl_nameOk.PO) (Gslices_Contains_of : slices_Contains_of.PI → Option slices_Contains_of.PO) (J4 : List Item → P4 → Option PO) : Prog PO := { nt := 26, np := 1, tb := tabOf tab, hd := hd Gimpl_nameOk Gslices_Contains_of, cuts := cutsOf [(4, cut p4 J4)], fin := endOf (tabOf tab) rs 1 pout }
noncomputable def q : FuncId → Bool := fun f => hasId [58, 59] f
theorem seg0 (Gimpl_nameOk : impl_nameOk.PI → Option impl_nameOk.PO) (Gslices_Contains_of : slices_Contains_of.PI → Option slices_Contains_of.PO) (J4 : List Item → P4 → Option PO) (x0 : List (List UInt8)) : arun (pg Gimpl_nameOk Gslices_Contains_of J4) 5000 [.code c0] (mk pin (x0, ())) = F0 (J4 T4) x0 := by kernel_rfl
theorem seg4 (Gimpl_nameOk : impl_nameOk.PI → Option impl_nameOk.PO) (Gslices_Contains_of : slices_Contains_of.PI → Option slices_Contains_of.PO) (J4 : List Item → P4 → Option PO) (t0 : List (List UInt8)) (t8 : List (List UInt8)) (t9 : Int) (t10 : Int) : arun1 (pg Gimpl_nameOk Gslices_Contains_of J4) 5000 T4 (mk p4 (t0, t8, t9, t10, ())) = F4 (J4 T4) Gimpl_nameOk Gslices_Contains_of t0 t8 t9 t10 := by kernel_rfl
noncomputable def L4 : P4 → Option PO := lfp fun J4 x => F4 J4 impl_nameOk.impl slices_Contains_of.impl x.1 x.2.1 x.2.2.1 x.2.2.2.1
noncomputable def impl : PI → Option PO := fun x => F0 L4 x.1
theorem F4_le {J4 J4' : P4 → Option PO} (h4 : OLe J4 J4') {Gimpl_nameOk : impl_nameOk.PI → Option impl_nameOk.PO} {Gslices_Contains_of : slices_Contains_of.PI → Option slices_Contains_of.PO} (t0 : List (List UInt8)) (t8 : List (List UInt8)) (t9 : Int) (t10 : Int) : OptLe (F4 J4 Gimpl_nameOk Gslices_Contains_of t0 t8 t9 t10) (F4 J4' Gimpl_nameOk Gslices_Contains_of t0 t8 t9 t10) := by unfold F4; exact .cond (.cond (.bind (.refl _) fun _ => .cond (.refl _) (.cond (.bind (.refl _) fun _ => .cond (.refl _) (.of h4 _)) (.refl _))) (.refl _)) (.refl _)
theorem L4_mono : OMono fun J4 (x : P4) => F4 J4 impl_nameOk.impl slices_Contains_of.impl x.1 x.2.1 x.2.2.1 x.2.2.2.1 := fun J J' h4 x => F4_le h4 x.1 x.2.1 x.2.2.1 x.2.2.2.1
theorem L4_eq (t0 : List (List UInt8)) (t8 : List (List UInt8)) (t9 : Int) (t10 : Int) : L4 (t0, t8, t9, t10, ()) = F4 (L4) impl_nameOk.impl slices_Contains_of.impl t0 t8 t9 t10 := congrFun (lfp_eq (L4_mono)) _
theorem impl_eq (x0 : List (List UInt8)) : impl (x0, ()) = F0 L4 x0 := rfl
theorem con : Con Tryz.prog 16 1 rs.length 1 pin pout impl := by
  refine con_of_run' (nt := 26) (c := c0) tabGood Tryz.func16 (by kernel_rfl) (by kernel_rfl) (by kernel_rfl) (by kernel_rfl) (by kernel_rfl) (by kernel_rfl) (by kernel_rfl) ?_
  intro w0 O y hnp
  generalize hPost : (fun (a' : Act) (w' : World) => ∃ μ' S' st', Rel 26 w0 O μ' S' st' a' w' ∧ endOf (tabOf tab) rs 1 pout st' = some y) = Post
  have fin : ∀ (μ : Id → Option Value) (S : Nat → Prop) (st : St) (a : Act) (w : World), Rel 26 w0 O μ S st a w → endOf (tabOf tab) rs 1 pout st = some y → Post a w := fun μ S st a w h he => by rw [← hPost]; exact ⟨μ, S, st, h, he⟩
  have hp : ∀ (J4 : List Item → P4 → Option PO), Parts Tryz.prog 16 (pg impl_nameOk.impl slices_Contains_of.impl J4) [(4, cut p4 J4)] := fun J4 => ⟨tab_ok tabGood rfl, (handAt_ok slices_Contains_of.con (handAt_ok impl_nameOk.con handNil_ok)), rfl⟩
  have g4 : Good Tryz.prog 26 w0 O Post y T4 p4 L4 := good_lfp fun J4 h4 => good_part (hp (atT T4 J4)) (runOK_of (hp (atT T4 J4)) hnp ⟨cutOK_at h4, trivial⟩ fin) (fun x => (seg4 impl_nameOk.impl slices_Contains_of.impl (atT T4 J4) x.1 x.2.1 x.2.2.1 x.2.2.2.1).trans (by simp only [atT_self] <;> rfl))
  exact good_first (hp (atT T4 L4)) (runOK_of (hp (atT T4 L4)) hnp ⟨cutOK_at g4, trivial⟩ fin) (fun x => (seg0 impl_nameOk.impl slices_Contains_of.impl (atT T4 L4) x.1).trans (by simp only [atT_self] <;> rfl))
end impl_NamesValid

/-! ### loop.example/wholecheck/impl.StateText -/
namespace impl_StateText
noncomputable abbrev c0 : Code := (Tryz.f32.body).getD .skip
noncomputable abbrev pin : Tpl := ⟨[⟨0, false, [.d (.sl .str)]⟩, ⟨1, false, [.d (.sl (.int .i64))]⟩], []⟩
noncomputable abbrev pout : Tpl := ⟨[⟨0, false, [.d .str]⟩], []⟩
noncomputable abbrev p3 : Tpl := ⟨[⟨0, false, [.d (.sl .str)]⟩, ⟨1, false, [.d (.sl (.int .i64))]⟩], []⟩
noncomputable def T3 : List Item := (find 3 c0 []).getD []
noncomputable abbrev p5 : Tpl := ⟨[⟨0, false, [.d (.sl .str)]⟩, ⟨5, false, [.row 3000000]⟩, ⟨23, false, [.d (.sl (.int .i64))]⟩, ⟨24, false, [.d (.int .i64)]⟩, ⟨25, false, [.d (.int .i64)]⟩], [(3000000, .row 9 true .str)]⟩
noncomputable def T5 : List Item := (find 5 c0 []).getD []
noncomputable abbrev p9 : Tpl := ⟨[⟨0, false, [.d (.sl .str)]⟩, ⟨5, false, [.row 3000000]⟩, ⟨6, false, [.d (.int .i64)]⟩, ⟨7, false, [.d (.int .i64)]⟩, ⟨23, false, [.d (.sl (.int .i64))]⟩, ⟨24, false, [.d (.int .i64)]⟩, ⟨25, false, [.d (.int .i64)]⟩], [(3000000, .row 9 true .str)]⟩
noncomputable def T9 : List Item := (find 9 c0 []).getD []
noncomputable abbrev PI := (List (List UInt8)) × (List Int) × Unit
noncomputable abbrev PO := (List UInt8) × Unit
noncomputable abbrev P3 := (List (List UInt8)) × (List Int) × Unit
noncomputable abbrev P5 := (List (List UInt8)) × (List Int) × Int × Int × (List (List UInt8)) × Unit
noncomputable abbrev P9 := (List (List UInt8)) × Int × Int × (List Int) × Int × Int × (List (List UInt8)) × Unit
noncomputable abbrev rs : List ResultVar := [.tmp 4]
noncomputable def F0 (J3 : P3 → Option PO) (Gimpl_NamesValid : impl_NamesValid.PI → Option impl_NamesValid.PO) (x0 : List (List UInt8)) (x1 : List Int) : Option PO :=
  Option.bind (Gimpl_NamesValid (x0, ())) fun y0 =>
  bif !y0.1 then
    some (([45] : List UInt8), ())
  else
    bif (x0.length : Int) != (x1.length : Int) then
      some (([45] : List UInt8), ())
    else
      bif (x1.length : Int) == 0 then
        some (([45] : List UInt8), ())
      else
        J3 (x0, x1, ())
noncomputable def F3 (J5 : P5 → Option PO) (t0 : List (List UInt8)) (t1 : List Int) : Option PO :=
  J5 (t0, t1, (t1.length : Int), 0, [], ())
noncomputable def F5 (J9 : P9 → Option PO) (Gimpl_in : impl_in.PI → Option impl_in.PO) (Glib_Join : lib_Join.PI → Option lib_Join.PO) (t0 : List (List UInt8)) (t23 : List Int) (t24 : Int) (t25 : Int) (r0 : List (List UInt8)) : Option PO :=
  bif decide (t25 < t24) then
    bif inb t25 t23.length then
      Option.bind (Gimpl_in (t23.getD t25.toNat 0, (-9999), 9999, ())) fun y1 =>
      bif !y1.1 then
        some (([45] : List UInt8), ())
      else
        J9 (t0, t25, t23.getD t25.toNat 0, t23, t24, t25, r0, ())
    else
      none
  else
    Option.bind (Glib_Join (r0, ([32] : List UInt8), ())) fun y2 =>
    some (y2.1, ())
noncomputable def F9 (J5 : P5 → Option PO) (Glib_Itoa : lib_Itoa.PI → Option lib_Itoa.PO) (t0 : List (List UInt8)) (t6 : Int) (t7 : Int) (t23 : List Int) (t24 : Int) (t25 : Int) (r0 : List (List UInt8)) : Option PO :=
  bif inb t6 t0.length then
    bif decide ((t0.getD t6.toNat []).length + ([61] : List UInt8).length ≤ 140737488355328) then
      Option.bind (Glib_Itoa (t7, ())) fun y3 =>
      bif decide (((t0.getD t6.toNat []) ++ ([61] : List UInt8)).length + y3.1.length ≤ 140737488355328) then
        bif decide ((r0.length + ([((t0.getD t6.toNat []) ++ ([61] : List UInt8)) ++ y3.1] : List (List UInt8)).length) * 16 ≤ 140737488355328) then
          J5 (t0, t23, t24, wI (t25 + 1), r0 ++ ([((t0.getD t6.toNat []) ++ ([61] : List UInt8)) ++ y3.1] : List (List UInt8)), ())
        else
          none
      else
        none
    else
      none
  else
    none
noncomputable def F9o1 (J5 : P5 → Option PO) (Glib_Itoa : lib_Itoa.PI → Option lib_Itoa.PO) (t0 : List (List UInt8)) (t6 : Int) (t7 : Int) (t23 : List Int) (t24 : Int) (t25 : Int) (r0 : List (List UInt8)) : Option PO :=
  bif inb t6 t0.length then
    Option.bind (Glib_Itoa (t7, ())) fun y3 =>
    bif decide ((t0.getD t6.toNat []).length + ([61] : List UInt8).length ≤ 140737488355328) then
      bif decide (((t0.getD t6.toNat []) ++ ([61] : List UInt8)).length + y3.1.length ≤ 140737488355328) then
        bif decide ((r0.length + ([((t0.getD t6.toNat []) ++ ([61] : List UInt8)) ++ y3.1] : List (List UInt8)).length) * 16 ≤ 140737488355328) then
          J5 (t0, t23, t24, wI (t25 + 1), r0 ++ ([((t0.getD t6.toNat []) ++ ([61] : List UInt8)) ++ y3.1] : List (List UInt8)), ())
        else
          none
      else
        none
    else
      none
  else
    none
theorem F9o1_le (J5 : P5 → Option PO) (Glib_Itoa : lib_Itoa.PI → Option lib_Itoa.PO) (t0 : List (List UInt8)) (t6 : Int) (t7 : Int) (t23 : List Int) (t24 : Int) (t25 : Int) (r0 : List (List UInt8)) : OptLe (F9 J5 Glib_Itoa t0 t6 t7 t23 t24 t25 r0) (F9o1 J5 Glib_Itoa t0 t6 t7 t23 t24 t25 r0) := by
  intro y h; unfold F9 at h; unfold F9o1
  have e0 := (cond_some h).1; replace h := (cond_some h).2
  have e1 := (cond_some h).1; replace h := (cond_some h).2
  obtain ⟨y3, e2, h⟩ := Option.bind_eq_some_iff.1 h
  have e3 := (cond_some h).1; replace h := (cond_some h).2
  have e4 := (cond_some h).1; replace h := (cond_some h).2
  simp only [e0, e1, e2, e3, e4, cond_true, cond_false, Option.bind_some]; exact h
noncomputable def hd {R : Type} (Gimpl_NamesValid : impl_NamesValid.PI → Option impl_NamesValid.PO) (Gimpl_in : impl_in.PI → Option impl_in.PO) (Glib_Itoa : lib_Itoa.PI → Option lib_Itoa.PO) (Glib_Join : lib_Join.PI → Option lib_Join.PO) : Hand R := (handAt 75 [46] true ⟨2, 1, 0, lib_Join.pin, lib_Join.pout, Glib_Join⟩ (handAt 74 [31] true ⟨3, 1, 3, impl_in.pin, impl_in.pout, Gimpl_in⟩ (handAt 45 [40] true ⟨1, 1, 0, lib_Itoa.pin, lib_Itoa.pout, Glib_Itoa⟩ (handAt 16 [9] true ⟨1, 1, 1, impl_NamesValid.pin, impl_NamesValid.pout, Gimpl_NamesValid⟩ handNil))))
noncomputable def pg (Gimpl_NamesValid : impl_NamesValid.PI → Option impl_NamesValid.PO) (Gimpl_in : impl_in.PI → Option impl_in.PO) (Glib_Itoa : lib_Itoa.PI → Option lib_Itoa.PO) (Glib_Join : lib_Join.PI → Option lib_Join.PO) (J3 : List Item → P3 → Option PO) (J5 : List Item → P5 → Option PO) (J9 : List Item → P9 → Option PO) : Prog PO := { nt := 47, np := 2, tb := tabOf tab, hd := hd Gimpl_NamesValid Gimpl_in Glib_Itoa Glib_Join, cuts := cutsOf [(3, cut p3 J3), (5, cut p5 J5), (9, cut p9 J9)], fin := endOf (tabOf tab) rs 2 pout }
noncomputable def q : FuncId → Bool := fun f => hasId [16, 45, 74, 75] f
theorem seg0 (Gimpl_NamesValid : impl_NamesValid.PI → Option impl_NamesValid.PO) (Gimpl_in : impl_in.PI → Option impl_in.PO) (Glib_Itoa : lib_Itoa.PI → Option lib_Itoa.PO) (Glib_Join : lib_Join.PI → Option lib_Join.PO) (J3 : List Item → P3 → Option PO) (J5 : List Item → P5 → Option PO) (J9 : List Item → P9 → Option PO) (x0 : List (List UInt8)) (x1 : List Int) : arun (pg Gimpl_NamesValid Gimpl_in Glib_Itoa Glib_Join J3 J5 J9) 5000 [.code c0] (mk pin (x0, x1, ())) = F0 (J3 T3) Gimpl_NamesValid x0 x1 := by kernel_rfl
theorem seg3 (Gimpl_NamesValid : impl_NamesValid.PI → Option impl_NamesValid.PO) (Gimpl_in : impl_in.PI → Option impl_in.PO) (Glib_Itoa : lib_Itoa.PI → Option lib_Itoa.PO) (Glib_Join : lib_Join.PI → Option lib_Join.PO) (J3 : List Item → P3 → Option PO) (J5 : List Item → P5 → Option PO) (J9 : List Item → P9 → Option PO) (t0 : List (List UInt8)) (t1 : List Int) : arun1 (pg Gimpl_NamesValid Gimpl_in Glib_Itoa Glib_Join J3 J5 J9) 5000 T3 (mk p3 (t0, t1, ())) = F3 (J5 T5) t0 t1 := by kernel_rfl
theorem seg5 (Gimpl_NamesValid : impl_NamesValid.PI → Option impl_NamesValid.PO) (Gimpl_in : impl_in.PI → Option impl_in.PO) (Glib_Itoa : lib_Itoa.PI → Option lib_Itoa.PO) (Glib_Join : lib_Join.PI → Option lib_Join.PO) (J3 : List Item → P3 → Option PO) (J5 : List Item → P5 → Option PO) (J9 : List Item → P9 → Option PO) (t0 : List (List UInt8)) (t23 : List Int) (t24 : Int) (t25 : Int) (r0 : List (List UInt8)) : arun1 (pg Gimpl_NamesValid Gimpl_in Glib_Itoa Glib_Join J3 J5 J9) 5000 T5 (mk p5 (t0, t23, t24, t25, r0, ())) = F5 (J9 T9) Gimpl_in Glib_Join t0 t23 t24 t25 r0 := by kernel_rfl
theorem seg9 (Gimpl_NamesValid : impl_NamesValid.PI → Option impl_NamesValid.PO) (Gimpl_in : impl_in.PI → Option impl_in.PO) (Glib_Itoa : lib_Itoa.PI → Option lib_Itoa.PO) (Glib_Join : lib_Join.PI → Option lib_Join.PO) (J3 : List Item → P3 → Option PO) (J5 : List Item → P5 → Option PO) (J9 : List Item → P9 → Option PO) (t0 : List (List UInt8)) (t6 : Int) (t7 : Int) (t23 : List Int) (t24 : Int) (t25 : Int) (r0 : List (List UInt8)) : arunE (pg Gimpl_NamesValid Gimpl_in Glib_Itoa Glib_Join J3 J5 J9) 5000 T9 (mk p9 (t0, t6, t7, t23, t24, t25, r0, ())) = [F9 (J5 T5) Glib_Itoa t0 t6 t7 t23 t24 t25 r0, F9o1 (J5 T5) Glib_Itoa t0 t6 t7 t23 t24 t25 r0] := by kernel_rfl
noncomputable def L9 (J5 : P5 → Option PO) : P9 → Option PO := fun x => F9 J5 lib_Itoa.impl x.1 x.2.1 x.2.2.1 x.2.2.2.1 x.2.2.2.2.1 x.2.2.2.2.2.1 x.2.2.2.2.2.2.1
noncomputable def L5 : P5 → Option PO := lfp fun J5 x => F5 (L9 J5) impl_in.impl lib_Join.impl x.1 x.2.1 x.2.2.1 x.2.2.2.1 x.2.2.2.2.1
noncomputable def L3 : P3 → Option PO := fun x => F3 L5 x.1 x.2.1
noncomputable def impl : PI → Option PO := fun x => F0 L3 impl_NamesValid.impl x.1 x.2.1
theorem F9_le {J5 J5' : P5 → Option PO} (h5 : OLe J5 J5') {Glib_Itoa : lib_Itoa.PI → Option lib_Itoa.PO} (t0 : List (List UInt8)) (t6 : Int) (t7 : Int) (t23 : List Int) (t24 : Int) (t25 : Int) (r0 : List (List UInt8)) : OptLe (F9 J5 Glib_Itoa t0 t6 t7 t23 t24 t25 r0) (F9 J5' Glib_Itoa t0 t6 t7 t23 t24 t25 r0) := by unfold F9; exact .cond (.cond (.bind (.refl _) fun _ => .cond (.cond (.of h5 _) (.refl _)) (.refl _)) (.refl _)) (.refl _)
theorem F5_le {J9 J9' : P9 → Option PO} (h9 : OLe J9 J9') {Gimpl_in : impl_in.PI → Option impl_in.PO} {Glib_Join : lib_Join.PI → Option lib_Join.PO} (t0 : List (List UInt8)) (t23 : List Int) (t24 : Int) (t25 : Int) (r0 : List (List UInt8)) : OptLe (F5 J9 Gimpl_in Glib_Join t0 t23 t24 t25 r0) (F5 J9' Gimpl_in Glib_Join t0 t23 t24 t25 r0) := by unfold F5; exact .cond (.cond (.bind (.refl _) fun _ => .cond (.refl _) (.of h9 _)) (.refl _)) (.refl _)
theorem L9_eq (J5 : P5 → Option PO) (t0 : List (List UInt8)) (t6 : Int) (t7 : Int) (t23 : List Int) (t24 : Int) (t25 : Int) (r0 : List (List UInt8)) : L9 J5 (t0, t6, t7, t23, t24, t25, r0, ()) = F9 J5 lib_Itoa.impl t0 t6 t7 t23 t24 t25 r0 := rfl
theorem L9_le {J5 J5' : P5 → Option PO} (h5 : OLe J5 J5') : OLe (L9 J5) (L9 J5') := fun x => F9_le h5 x.1 x.2.1 x.2.2.1 x.2.2.2.1 x.2.2.2.2.1 x.2.2.2.2.2.1 x.2.2.2.2.2.2.1
theorem L5_mono : OMono fun J5 (x : P5) => F5 (L9 J5) impl_in.impl lib_Join.impl x.1 x.2.1 x.2.2.1 x.2.2.2.1 x.2.2.2.2.1 := fun J J' h5 x => F5_le (L9_le h5) x.1 x.2.1 x.2.2.1 x.2.2.2.1 x.2.2.2.2.1
theorem L5_eq (t0 : List (List UInt8)) (t23 : List Int) (t24 : Int) (t25 : Int) (r0 : List (List UInt8)) : L5 (t0, t23, t24, t25, r0, ()) = F5 (L9 (L5)) impl_in.impl lib_Join.impl t0 t23 t24 t25 r0 := congrFun (lfp_eq (L5_mono)) _
theorem L3_eq (t0 : List (List UInt8)) (t1 : List Int) : L3 (t0, t1, ()) = F3 (L5) t0 t1 := rfl
theorem impl_eq (x0 : List (List UInt8)) (x1 : List Int) : impl (x0, x1, ()) = F0 L3 impl_NamesValid.impl x0 x1 := rfl
theorem con : Con Tryz.prog 32 2 rs.length 2 pin pout impl := by
  refine con_of_run' (nt := 47) (c := c0) tabGood Tryz.func32 (by kernel_rfl) (by kernel_rfl) (by kernel_rfl) (by kernel_rfl) (by kernel_rfl) (by kernel_rfl) (by kernel_rfl) ?_
  intro w0 O y hnp
  generalize hPost : (fun (a' : Act) (w' : World) => ∃ μ' S' st', Rel 47 w0 O μ' S' st' a' w' ∧ endOf (tabOf tab) rs 2 pout st' = some y) = Post
  have fin : ∀ (μ : Id → Option Value) (S : Nat → Prop) (st : St) (a : Act) (w : World), Rel 47 w0 O μ S st a w → endOf (tabOf tab) rs 2 pout st = some y → Post a w := fun μ S st a w h he => by rw [← hPost]; exact ⟨μ, S, st, h, he⟩
  have hp : ∀ (J3 : List Item → P3 → Option PO), ∀ (J5 : List Item → P5 → Option PO), ∀ (J9 : List Item → P9 → Option PO), Parts Tryz.prog 32 (pg impl_NamesValid.impl impl_in.impl lib_Itoa.impl lib_Join.impl J3 J5 J9) [(3, cut p3 J3), (5, cut p5 J5), (9, cut p9 J9)] := fun J3 J5 J9 => ⟨tab_ok tabGood rfl, (handAt_ok lib_Join.con (handAt_ok impl_in.con (handAt_ok lib_Itoa.con (handAt_ok impl_NamesValid.con handNil_ok)))), rfl⟩
  have g9 : ∀ (J5 : P5 → Option PO), Good Tryz.prog 47 w0 O Post y T5 p5 J5 → Good Tryz.prog 47 w0 O Post y T9 p9 (L9 J5) := fun J5 h5 => good_orders (hs := hd impl_NamesValid.impl impl_in.impl lib_Itoa.impl lib_Join.impl) (cv' := hd impl_NamesValid.impl impl_in.impl lib_Itoa.impl lib_Join.impl) (Checked.mixed Tryz.checked) (hp (atT T3 (fun _ => none)) (atT T5 J5) (atT T9 (fun _ => none))) (handAt_ok lib_Join.con (handAt_ok impl_in.con (handAt_ok lib_Itoa.con (handAt_ok impl_NamesValid.con handNil_ok)))) (handAt_nat (handAt_nat (handAt_nat (handAt_nat handNil_nat)))) (handAt_nat (handAt_nat (handAt_nat (handAt_nat handNil_nat)))) (runOK_of (hp (atT T3 (fun _ => none)) (atT T5 J5) (atT T9 (fun _ => none))) hnp ⟨cutOK_at (p := p3) (T := T3) (J := fun _ => none) good_none, cutOK_at h5, cutOK_at (p := p9) (T := T9) (J := fun _ => none) good_none, trivial⟩ fin) (fun x => all_of (L := [F9 J5 lib_Itoa.impl x.1 x.2.1 x.2.2.1 x.2.2.2.1 x.2.2.2.2.1 x.2.2.2.2.2.1 x.2.2.2.2.2.2.1, F9o1 J5 lib_Itoa.impl x.1 x.2.1 x.2.2.1 x.2.2.2.1 x.2.2.2.2.1 x.2.2.2.2.2.1 x.2.2.2.2.2.2.1]) ((seg9 impl_NamesValid.impl impl_in.impl lib_Itoa.impl lib_Join.impl (atT T3 (fun _ => none)) (atT T5 J5) (atT T9 (fun _ => none)) x.1 x.2.1 x.2.2.1 x.2.2.2.1 x.2.2.2.2.1 x.2.2.2.2.2.1 x.2.2.2.2.2.2.1).trans (by simp only [atT_self] <;> rfl)) (all_cons (fun _ h => h) (all_cons (F9o1_le J5 lib_Itoa.impl x.1 x.2.1 x.2.2.1 x.2.2.2.1 x.2.2.2.2.1 x.2.2.2.2.2.1 x.2.2.2.2.2.2.1) all_nil)))
  have g5 : Good Tryz.prog 47 w0 O Post y T5 p5 L5 := good_lfp fun J5 h5 => good_part (hp (atT T3 (fun _ => none)) (atT T5 (fun _ => none)) (atT T9 (L9 J5))) (runOK_of (hp (atT T3 (fun _ => none)) (atT T5 (fun _ => none)) (atT T9 (L9 J5))) hnp ⟨cutOK_at (p := p3) (T := T3) (J := fun _ => none) good_none, cutOK_at (p := p5) (T := T5) (J := fun _ => none) good_none, cutOK_at (g9 J5 h5), trivial⟩ fin) (fun x => (seg5 impl_NamesValid.impl impl_in.impl lib_Itoa.impl lib_Join.impl (atT T3 (fun _ => none)) (atT T5 (fun _ => none)) (atT T9 (L9 J5)) x.1 x.2.1 x.2.2.1 x.2.2.2.1 x.2.2.2.2.1).trans (by simp only [atT_self] <;> rfl))
  have g3 : Good Tryz.prog 47 w0 O Post y T3 p3 L3 := good_part (hp (atT T3 (fun _ => none)) (atT T5 L5) (atT T9 (fun _ => none))) (runOK_of (hp (atT T3 (fun _ => none)) (atT T5 L5) (atT T9 (fun _ => none))) hnp ⟨cutOK_at (p := p3) (T := T3) (J := fun _ => none) good_none, cutOK_at g5, cutOK_at (p := p9) (T := T9) (J := fun _ => none) good_none, trivial⟩ fin) (fun x => (seg3 impl_NamesValid.impl impl_in.impl lib_Itoa.impl lib_Join.impl (atT T3 (fun _ => none)) (atT T5 L5) (atT T9 (fun _ => none)) x.1 x.2.1).trans (by simp only [atT_self] <;> rfl))
  exact good_first (hp (atT T3 L3) (atT T5 (fun _ => none)) (atT T9 (fun _ => none))) (runOK_of (hp (atT T3 L3) (atT T5 (fun _ => none)) (atT T9 (fun _ => none))) hnp ⟨cutOK_at g3, cutOK_at (p := p5) (T := T5) (J := fun _ => none) good_none, cutOK_at (p := p9) (T := T9) (J := fun _ => none) good_none, trivial⟩ fin) (fun x => (seg0 impl_NamesValid.impl impl_in.impl lib_Itoa.impl lib_Join.impl (atT T3 L3) (atT T5 (fun _ => none)) (atT T9 (fun _ => none)) x.1 x.2.1).trans (by simp only [atT_self] <;> rfl))
end impl_StateText

/-! ### loop.example/wholecheck/spec.l30Name -/
namespace spec_l30Name
noncomputable abbrev c0 : Code := (Tryz.f60.body).getD .skip
noncomputable abbrev pin : Tpl := ⟨[⟨0, false, [.d .str]⟩], []⟩
noncomputable abbrev pout : Tpl := ⟨[⟨0, false, [.d .bool]⟩], []⟩
noncomputable abbrev p2 : Tpl := ⟨[⟨0, false, [.d .str]⟩, ⟨3, false, [.d (.int .i64)]⟩], []⟩
noncomputable def T2 : List Item := (find 2 c0 []).getD []
noncomputable abbrev PI := (List UInt8) × Unit
noncomputable abbrev PO := Bool × Unit
noncomputable abbrev P2 := (List UInt8) × Int × Unit
noncomputable abbrev rs : List ResultVar := [.tmp 2]
noncomputable def F0 (J2 : P2 → Option PO) (x0 : List UInt8) : Option PO :=
  J2 (x0, 0, ())
noncomputable def F2 (J2 : P2 → Option PO) (Gspec_l1In : spec_l1In.PI → Option spec_l1In.PO) (t0 : List UInt8) (t3 : Int) : Option PO :=
  bif decide (t3 < (t0.length : Int)) then
    bif inb t3 t0.length then
      bif decide (((t0.getD t3.toNat 0).toNat : Int) < 97) then
        some (false, ())
      else
        bif inb t3 t0.length then
          bif decide (((t0.getD t3.toNat 0).toNat : Int) > 122) then
            some (false, ())
          else
            J2 (t0, wI (t3 + 1), ())
        else
          none
    else
      none
  else
    Option.bind (Gspec_l1In ((t0.length : Int), 1, 8, ())) fun y0 =>
    some (y0.1, ())
noncomputable def hd {R : Type} (Gspec_l1In : spec_l1In.PI → Option spec_l1In.PO) : Hand R := (handAt 107 [22] true ⟨3, 1, 3, spec_l1In.pin, spec_l1In.pout, Gspec_l1In⟩ handNil)
noncomputable def pg (Gspec_l1In : spec_l1In.PI → Option spec_l1In.PO) (J2 : List Item → P2 → Option PO) : Prog PO := { nt := 23, np := 1, tb := tabOf tab, hd := hd Gspec_l1In, cuts := cutsOf [(2, cut p2 J2)], fin := endOf (tabOf tab) rs 1 pout }
noncomputable def q : FuncId → Bool := fun f => hasId [107] f
theorem seg0 (Gspec_l1In : spec_l1In.PI → Option spec_l1In.PO) (J2 : List Item → P2 → Option PO) (x0 : List UInt8) : arun (pg Gspec_l1In J2) 5000 [.code c0] (mk pin (x0, ())) = F0 (J2 T2) x0 := by kernel_rfl
theorem seg2 (Gspec_l1In : spec_l1In.PI → Option spec_l1In.PO) (J2 : List Item → P2 → Option PO) (t0 : List UInt8) (t3 : Int) : arun1 (pg Gspec_l1In J2) 5000 T2 (mk p2 (t0, t3, ())) = F2 (J2 T2) Gspec_l1In t0 t3 := by kernel_rfl
noncomputable def L2 : P2 → Option PO := lfp fun J2 x => F2 J2 spec_l1In.impl x.1 x.2.1
noncomputable def impl : PI → Option PO := fun x => F0 L2 x.1
theorem F2_le {J2 J2' : P2 → Option PO} (h2 : OLe J2 J2') {Gspec_l1In : spec_l1In.PI → Option spec_l1In.PO} (t0 : List UInt8) (t3 : Int) : OptLe (F2 J2 Gspec_l1In t0 t3) (F2 J2' Gspec_l1In t0 t3) := by unfold F2; exact .cond (.cond (.cond (.refl _) (.cond (.cond (.refl _) (.of h2 _)) (.refl _))) (.refl _)) (.refl _)
theorem L2_mono : OMono fun J2 (x : P2) => F2 J2 spec_l1In.impl x.1 x.2.1 := fun J J' h2 x => F2_le h2 x.1 x.2.1
theorem L2_eq (t0 : List UInt8) (t3 : Int) : L2 (t0, t3, ()) = F2 (L2) spec_l1In.impl t0 t3 := congrFun (lfp_eq (L2_mono)) _
theorem impl_eq (x0 : List UInt8) : impl (x0, ()) = F0 L2 x0 := rfl
theorem con : Con Tryz.prog 60 1 rs.length 1 pin pout impl := by
  refine con_of_run' (nt := 23) (c := c0) tabGood Tryz.func60 (by kernel_rfl) (by kernel_rfl) (by kernel_rfl) (by kernel_rfl) (by kernel_rfl) (by kernel_rfl) (by kernel_rfl) ?_
  intro w0 O y hnp
  generalize hPost : (fun (a' : Act) (w' : World) => ∃ μ' S' st', Rel 23 w0 O μ' S' st' a' w' ∧ endOf (tabOf tab) rs 1 pout st' = some y) = Post
  have fin : ∀ (μ : Id → Option Value) (S : Nat → Prop) (st : St) (a : Act) (w : World), Rel 23 w0 O μ S st a w → endOf (tabOf tab) rs 1 pout st = some y → Post a w := fun μ S st a w h he => by rw [← hPost]; exact ⟨μ, S, st, h, he⟩
  have hp : ∀ (J2 : List Item → P2 → Option PO), Parts Tryz.prog 60 (pg spec_l1In.impl J2) [(2, cut p2 J2)] := fun J2 => ⟨tab_ok tabGood rfl, (handAt_ok spec_l1In.con handNil_ok), rfl⟩
  have g2 : Good Tryz.prog 23 w0 O Post y T2 p2 L2 := good_lfp fun J2 h2 => good_part (hp (atT T2 J2)) (runOK_of (hp (atT T2 J2)) hnp ⟨cutOK_at h2, trivial⟩ fin) (fun x => (seg2 spec_l1In.impl (atT T2 J2) x.1 x.2.1).trans (by simp only [atT_self] <;> rfl))
  exact good_first (hp (atT T2 L2)) (runOK_of (hp (atT T2 L2)) hnp ⟨cutOK_at g2, trivial⟩ fin) (fun x => (seg0 spec_l1In.impl (atT T2 L2) x.1).trans (by simp only [atT_self] <;> rfl))
end spec_l30Name

/-! ### loop.example/wholecheck/spec.l30At -/
namespace spec_l30At
noncomputable abbrev c0 : Code := (Tryz.f61.body).getD .skip
noncomputable abbrev pin : Tpl := ⟨[⟨0, false, [.d (.sl .str)]⟩, ⟨1, false, [.d .str]⟩], []⟩
noncomputable abbrev pout : Tpl := ⟨[⟨0, false, [.d (.int .i64)]⟩], []⟩
noncomputable abbrev p2 : Tpl := ⟨[⟨0, false, [.d (.sl .str)]⟩, ⟨1, false, [.d .str]⟩, ⟨5, false, [.d (.int .i64)]⟩], []⟩
noncomputable def T2 : List Item := (find 2 c0 []).getD []
noncomputable abbrev PI := (List (List UInt8)) × (List UInt8) × Unit
noncomputable abbrev PO := Int × Unit
noncomputable abbrev P2 := (List (List UInt8)) × (List UInt8) × Int × Unit
noncomputable abbrev rs : List ResultVar := [.tmp 4]
noncomputable def F0 (J2 : P2 → Option PO) (x0 : List (List UInt8)) (x1 : List UInt8) : Option PO :=
  J2 (x0, x1, 0, ())
noncomputable def F2 (J2 : P2 → Option PO) (t0 : List (List UInt8)) (t1 : List UInt8) (t5 : Int) : Option PO :=
  bif decide (t5 < (t0.length : Int)) then
    bif inb t5 t0.length then
      bif (t0.getD t5.toNat []) == t1 then
        some (t5, ())
      else
        J2 (t0, t1, wI (t5 + 1), ())
    else
      none
  else
    some ((-1), ())
noncomputable def hd {R : Type} : Hand R := handNil
noncomputable def pg (J2 : List Item → P2 → Option PO) : Prog PO := { nt := 19, np := 2, tb := tabOf tab, hd := hd, cuts := cutsOf [(2, cut p2 J2)], fin := endOf (tabOf tab) rs 2 pout }
noncomputable def q : FuncId → Bool := fun f => hasId [] f
theorem seg0 (J2 : List Item → P2 → Option PO) (x0 : List (List UInt8)) (x1 : List UInt8) : arun (pg J2) 5000 [.code c0] (mk pin (x0, x1, ())) = F0 (J2 T2) x0 x1 := by kernel_rfl
theorem seg2 (J2 : List Item → P2 → Option PO) (t0 : List (List UInt8)) (t1 : List UInt8) (t5 : Int) : arun1 (pg J2) 5000 T2 (mk p2 (t0, t1, t5, ())) = F2 (J2 T2) t0 t1 t5 := by kernel_rfl
noncomputable def L2 : P2 → Option PO := lfp fun J2 x => F2 J2 x.1 x.2.1 x.2.2.1
noncomputable def impl : PI → Option PO := fun x => F0 L2 x.1 x.2.1
theorem F2_le {J2 J2' : P2 → Option PO} (h2 : OLe J2 J2') (t0 : List (List UInt8)) (t1 : List UInt8) (t5 : Int) : OptLe (F2 J2 t0 t1 t5) (F2 J2' t0 t1 t5) := by unfold F2; exact .cond (.cond (.cond (.refl _) (.of h2 _)) (.refl _)) (.refl _)
theorem L2_mono : OMono fun J2 (x : P2) => F2 J2 x.1 x.2.1 x.2.2.1 := fun J J' h2 x => F2_le h2 x.1 x.2.1 x.2.2.1
theorem L2_eq (t0 : List (List UInt8)) (t1 : List UInt8) (t5 : Int) : L2 (t0, t1, t5, ()) = F2 (L2) t0 t1 t5 := congrFun (lfp_eq (L2_mono)) _
theorem impl_eq (x0 : List (List UInt8)) (x1 : List UInt8) : impl (x0, x1, ()) = F0 L2 x0 x1 := rfl
theorem con : Con Tryz.prog 61 2 rs.length 2 pin pout impl := by
  refine con_of_run' (nt := 19) (c := c0) tabGood Tryz.func61 (by kernel_rfl) (by kernel_rfl) (by kernel_rfl) (by kernel_rfl) (by kernel_rfl) (by kernel_rfl) (by kernel_rfl) ?_
  intro w0 O y hnp
  generalize hPost : (fun (a' : Act) (w' : World) => ∃ μ' S' st', Rel 19 w0 O μ' S' st' a' w' ∧ endOf (tabOf tab) rs 2 pout st' = some y) = Post
  have fin : ∀ (μ : Id → Option Value) (S : Nat → Prop) (st : St) (a : Act) (w : World), Rel 19 w0 O μ S st a w → endOf (tabOf tab) rs 2 pout st = some y → Post a w := fun μ S st a w h he => by rw [← hPost]; exact ⟨μ, S, st, h, he⟩
  have hp : ∀ (J2 : List Item → P2 → Option PO), Parts Tryz.prog 61 (pg J2) [(2, cut p2 J2)] := fun J2 => ⟨tab_ok tabGood rfl, handNil_ok, rfl⟩
  have g2 : Good Tryz.prog 19 w0 O Post y T2 p2 L2 := good_lfp fun J2 h2 => good_part (hp (atT T2 J2)) (runOK_of (hp (atT T2 J2)) hnp ⟨cutOK_at h2, trivial⟩ fin) (fun x => (seg2 (atT T2 J2) x.1 x.2.1 x.2.2.1).trans (by simp only [atT_self] <;> rfl))
  exact good_first (hp (atT T2 L2)) (runOK_of (hp (atT T2 L2)) hnp ⟨cutOK_at g2, trivial⟩ fin) (fun x => (seg0 (atT T2 L2) x.1 x.2.1).trans (by simp only [atT_self] <;> rfl))
end spec_l30At

/-! ### loop.example/wholecheck/spec.NamesValid -/
namespace spec_NamesValid
noncomputable abbrev c0 : Code := (Tryz.f17.body).getD .skip
noncomputable abbrev pin : Tpl := ⟨[⟨0, false, [.d (.sl .str)]⟩], []⟩
noncomputable abbrev pout : Tpl := ⟨[⟨0, false, [.d .bool]⟩], []⟩
noncomputable abbrev p2 : Tpl := ⟨[⟨0, false, [.d (.sl .str)]⟩, ⟨3, false, [.d (.int .i64)]⟩], []⟩
noncomputable def T2 : List Item := (find 2 c0 []).getD []
noncomputable abbrev p4 : Tpl := ⟨[⟨0, false, [.d (.sl .str)]⟩, ⟨3, false, [.d (.int .i64)]⟩], []⟩
noncomputable def T4 : List Item := (find 4 c0 []).getD []
noncomputable abbrev PI := (List (List UInt8)) × Unit
noncomputable abbrev PO := Bool × Unit
noncomputable abbrev P2 := (List (List UInt8)) × Int × Unit
noncomputable abbrev P4 := (List (List UInt8)) × Int × Unit
noncomputable abbrev rs : List ResultVar := [.tmp 2]
noncomputable def F0 (J2 : P2 → Option PO) (x0 : List (List UInt8)) : Option PO :=
  J2 (x0, 0, ())
noncomputable def F2 (J4 : P4 → Option PO) (t0 : List (List UInt8)) (t3 : Int) : Option PO :=
  bif decide (t3 < (t0.length : Int)) then
    J4 (t0, t3, ())
  else
    some (decide ((t0.length : Int) ≤ 5), ())
noncomputable def F4 (J2 : P2 → Option PO) (Gspec_l30At : spec_l30At.PI → Option spec_l30At.PO) (Gspec_l30Name : spec_l30Name.PI → Option spec_l30Name.PO) (t0 : List (List UInt8)) (t3 : Int) : Option PO :=
  bif inb t3 t0.length then
    Option.bind (Gspec_l30Name (t0.getD t3.toNat [], ())) fun y0 =>
    bif !y0.1 then
      some (false, ())
    else
      bif decide (0 ≤ t3) && decide (t3 ≤ (t0.length : Int)) then
        bif inb t3 t0.length then
          Option.bind (Gspec_l30At ((t0.take t3.toNat).drop 0, t0.getD t3.toNat [], ())) fun y1 =>
          bif decide (y1.1 ≥ 0) then
            some (false, ())
          else
            J2 (t0, wI (t3 + 1), ())
        else
          none
      else
        none
  else
    none
noncomputable def hd {R : Type} (Gspec_l30At : spec_l30At.PI → Option spec_l30At.PO) (Gspec_l30Name : spec_l30Name.PI → Option spec_l30Name.PO) : Hand R := (handAt 61 [24] true ⟨2, 1, 2, spec_l30At.pin, spec_l30At.pout, Gspec_l30At⟩ (handAt 60 [14] true ⟨1, 1, 1, spec_l30Name.pin, spec_l30Name.pout, Gspec_l30Name⟩ handNil))
noncomputable def pg (Gspec_l30At : spec_l30At.PI → Option spec_l30At.PO) (Gspec_l30Name : spec_l30Name.PI → Option spec_l30Name.PO) (J2 : List Item → P2 → Option PO) (J4 : List Item → P4 → Option PO) : Prog PO := { nt := 30, np := 1, tb := tabOf tab, hd := hd Gspec_l30At Gspec_l30Name, cuts := cutsOf [(2, cut p2 J2), (4, cut p4 J4)], fin := endOf (tabOf tab) rs 1 pout }
noncomputable def q : FuncId → Bool := fun f => hasId [60, 61] f
theorem seg0 (Gspec_l30At : spec_l30At.PI → Option spec_l30At.PO) (Gspec_l30Name : spec_l30Name.PI → Option spec_l30Name.PO) (J2 : List Item → P2 → Option PO) (J4 : List Item → P4 → Option PO) (x0 : List (List UInt8)) : arun (pg Gspec_l30At Gspec_l30Name J2 J4) 5000 [.code c0] (mk pin (x0, ())) = F0 (J2 T2) x0 := by kernel_rfl
theorem seg2 (Gspec_l30At : spec_l30At.PI → Option spec_l30At.PO) (Gspec_l30Name : spec_l30Name.PI → Option spec_l30Name.PO) (J2 : List Item → P2 → Option PO) (J4 : List Item → P4 → Option PO) (t0 : List (List UInt8)) (t3 : Int) : arun1 (pg Gspec_l30At Gspec_l30Name J2 J4) 5000 T2 (mk p2 (t0, t3, ())) = F2 (J4 T4) t0 t3 := by kernel_rfl
theorem seg4 (Gspec_l30At : spec_l30At.PI → Option spec_l30At.PO) (Gspec_l30Name : spec_l30Name.PI → Option spec_l30Name.PO) (J2 : List Item → P2 → Option PO) (J4 : List Item → P4 → Option PO) (t0 : List (List UInt8)) (t3 : Int) : arunQ (pg Gspec_l30At Gspec_l30Name J2 J4) q [] [] 5000 T4 (mk p4 (t0, t3, ())) = List.replicate (arunQ (pg Gspec_l30At Gspec_l30Name J2 J4) q [] [] 5000 T4 (mk p4 (t0, t3, ()))).length (F4 (J2 T2) Gspec_l30At Gspec_l30Name t0 t3) := by kernel_rfl
noncomputable def L4 (J2 : P2 → Option PO) : P4 → Option PO := fun x => F4 J2 spec_l30At.impl spec_l30Name.impl x.1 x.2.1
noncomputable def L2 : P2 → Option PO := lfp fun J2 x => F2 (L4 J2) x.1 x.2.1
noncomputable def impl : PI → Option PO := fun x => F0 L2 x.1
theorem F4_le {J2 J2' : P2 → Option PO} (h2 : OLe J2 J2') {Gspec_l30At : spec_l30At.PI → Option spec_l30At.PO} {Gspec_l30Name : spec_l30Name.PI → Option spec_l30Name.PO} (t0 : List (List UInt8)) (t3 : Int) : OptLe (F4 J2 Gspec_l30At Gspec_l30Name t0 t3) (F4 J2' Gspec_l30At Gspec_l30Name t0 t3) := by unfold F4; exact .cond (.bind (.refl _) fun _ => .cond (.refl _) (.cond (.cond (.bind (.refl _) fun _ => .cond (.refl _) (.of h2 _)) (.refl _)) (.refl _))) (.refl _)
theorem F2_le {J4 J4' : P4 → Option PO} (h4 : OLe J4 J4') (t0 : List (List UInt8)) (t3 : Int) : OptLe (F2 J4 t0 t3) (F2 J4' t0 t3) := by unfold F2; exact .cond (.of h4 _) (.refl _)
theorem L4_eq (J2 : P2 → Option PO) (t0 : List (List UInt8)) (t3 : Int) : L4 J2 (t0, t3, ()) = F4 J2 spec_l30At.impl spec_l30Name.impl t0 t3 := rfl
theorem L4_le {J2 J2' : P2 → Option PO} (h2 : OLe J2 J2') : OLe (L4 J2) (L4 J2') := fun x => F4_le h2 x.1 x.2.1
theorem L2_mono : OMono fun J2 (x : P2) => F2 (L4 J2) x.1 x.2.1 := fun J J' h2 x => F2_le (L4_le h2) x.1 x.2.1
theorem L2_eq (t0 : List (List UInt8)) (t3 : Int) : L2 (t0, t3, ()) = F2 (L4 (L2)) t0 t3 := congrFun (lfp_eq (L2_mono)) _
theorem impl_eq (x0 : List (List UInt8)) : impl (x0, ()) = F0 L2 x0 := rfl
theorem con : Con Tryz.prog 17 1 rs.length 1 pin pout impl := by
  refine con_of_run' (nt := 30) (c := c0) tabGood Tryz.func17 (by kernel_rfl) (by kernel_rfl) (by kernel_rfl) (by kernel_rfl) (by kernel_rfl) (by kernel_rfl) (by kernel_rfl) ?_
  intro w0 O y hnp
  generalize hPost : (fun (a' : Act) (w' : World) => ∃ μ' S' st', Rel 30 w0 O μ' S' st' a' w' ∧ endOf (tabOf tab) rs 1 pout st' = some y) = Post
  have fin : ∀ (μ : Id → Option Value) (S : Nat → Prop) (st : St) (a : Act) (w : World), Rel 30 w0 O μ S st a w → endOf (tabOf tab) rs 1 pout st = some y → Post a w := fun μ S st a w h he => by rw [← hPost]; exact ⟨μ, S, st, h, he⟩
  have hp : ∀ (J2 : List Item → P2 → Option PO), ∀ (J4 : List Item → P4 → Option PO), Parts Tryz.prog 17 (pg spec_l30At.impl spec_l30Name.impl J2 J4) [(2, cut p2 J2), (4, cut p4 J4)] := fun J2 J4 => ⟨tab_ok tabGood rfl, (handAt_ok spec_l30At.con (handAt_ok spec_l30Name.con handNil_ok)), rfl⟩
  have g4 : ∀ (J2 : P2 → Option PO), Good Tryz.prog 30 w0 O Post y T2 p2 J2 → Good Tryz.prog 30 w0 O Post y T4 p4 (L4 J2) := fun J2 h2 => good_quiet (hs := hd spec_l30At.impl spec_l30Name.impl) (cv' := hd spec_l30At.impl spec_l30Name.impl) (Checked.mixed Tryz.checked) (hp (atT T2 J2) (atT T4 (fun _ => none))) (handAt_D spec_l30At.con (by rfl) rfl (handAt_D spec_l30Name.con (by rfl) rfl handNil_D)) (handAt_nat (handAt_nat handNil_nat)) (handAt_nat (handAt_nat handNil_nat)) (runOK_of (hp (atT T2 J2) (atT T4 (fun _ => none))) hnp ⟨cutOK_at h2, cutOK_at (p := p4) (T := T4) (J := fun _ => none) good_none, trivial⟩ fin) (fun x => all_same ⟨_, (seg4 spec_l30At.impl spec_l30Name.impl (atT T2 J2) (atT T4 (fun _ => none)) x.1 x.2.1).trans (by simp only [atT_self] <;> rfl)⟩)
  have g2 : Good Tryz.prog 30 w0 O Post y T2 p2 L2 := good_lfp fun J2 h2 => good_part (hp (atT T2 (fun _ => none)) (atT T4 (L4 J2))) (runOK_of (hp (atT T2 (fun _ => none)) (atT T4 (L4 J2))) hnp ⟨cutOK_at (p := p2) (T := T2) (J := fun _ => none) good_none, cutOK_at (g4 J2 h2), trivial⟩ fin) (fun x => (seg2 spec_l30At.impl spec_l30Name.impl (atT T2 (fun _ => none)) (atT T4 (L4 J2)) x.1 x.2.1).trans (by simp only [atT_self] <;> rfl))
  exact good_first (hp (atT T2 L2) (atT T4 (fun _ => none))) (runOK_of (hp (atT T2 L2) (atT T4 (fun _ => none))) hnp ⟨cutOK_at g2, cutOK_at (p := p4) (T := T4) (J := fun _ => none) good_none, trivial⟩ fin) (fun x => (seg0 spec_l30At.impl spec_l30Name.impl (atT T2 L2) (atT T4 (fun _ => none)) x.1).trans (by simp only [atT_self] <;> rfl))
end spec_NamesValid

/-! ### loop.example/wholecheck/spec.StateText -/
namespace spec_StateText
noncomputable abbrev c0 : Code := (Tryz.f33.body).getD .skip
noncomputable abbrev pin : Tpl := ⟨[⟨0, false, [.d (.sl .str)]⟩, ⟨1, false, [.d (.sl (.int .i64))]⟩], []⟩
noncomputable abbrev pout : Tpl := ⟨[⟨0, false, [.d .str]⟩], []⟩
noncomputable abbrev p3 : Tpl := ⟨[⟨0, false, [.d (.sl .str)]⟩, ⟨1, false, [.d (.sl (.int .i64))]⟩], []⟩
noncomputable def T3 : List Item := (find 3 c0 []).getD []
noncomputable abbrev p5 : Tpl := ⟨[⟨0, false, [.d (.sl .str)]⟩, ⟨1, false, [.d (.sl (.int .i64))]⟩, ⟨5, false, [.d .str]⟩, ⟨6, false, [.d (.int .i64)]⟩], []⟩
noncomputable def T5 : List Item := (find 5 c0 []).getD []
noncomputable abbrev p9 : Tpl := ⟨[⟨0, false, [.d (.sl .str)]⟩, ⟨1, false, [.d (.sl (.int .i64))]⟩, ⟨5, false, [.d .str]⟩, ⟨6, false, [.d (.int .i64)]⟩], []⟩
noncomputable def T9 : List Item := (find 9 c0 []).getD []
noncomputable abbrev PI := (List (List UInt8)) × (List Int) × Unit
noncomputable abbrev PO := (List UInt8) × Unit
noncomputable abbrev P3 := (List (List UInt8)) × (List Int) × Unit
noncomputable abbrev P5 := (List (List UInt8)) × (List Int) × (List UInt8) × Int × Unit
noncomputable abbrev P9 := (List (List UInt8)) × (List Int) × (List UInt8) × Int × Unit
noncomputable abbrev rs : List ResultVar := [.tmp 4]
noncomputable def F0 (J3 : P3 → Option PO) (Gspec_NamesValid : spec_NamesValid.PI → Option spec_NamesValid.PO) (Gspec_l31Numbers : spec_l31Numbers.PI → Option spec_l31Numbers.PO) (x0 : List (List UInt8)) (x1 : List Int) : Option PO :=
  Option.bind (Gspec_NamesValid (x0, ())) fun y0 =>
  bif !y0.1 then
    some (([45] : List UInt8), ())
  else
    bif (x0.length : Int) != (x1.length : Int) then
      some (([45] : List UInt8), ())
    else
      bif (x1.length : Int) == 0 then
        some (([45] : List UInt8), ())
      else
        Option.bind (Gspec_l31Numbers (x1, ())) fun y1 =>
        bif !y1.1 then
          some (([45] : List UInt8), ())
        else
          J3 (x0, x1, ())
noncomputable def F3 (J5 : P5 → Option PO) (t0 : List (List UInt8)) (t1 : List Int) : Option PO :=
  J5 (t0, t1, [], 0, ())
noncomputable def F5 (J9 : P9 → Option PO) (t0 : List (List UInt8)) (t1 : List Int) (t5 : List UInt8) (t6 : Int) : Option PO :=
  bif decide (t6 < (t1.length : Int)) then
    bif decide (t6 > 0) then
      bif decide (t5.length + ([32] : List UInt8).length ≤ 140737488355328) then
        J9 (t0, t1, t5 ++ ([32] : List UInt8), t6, ())
      else
        none
    else
      J9 (t0, t1, t5, t6, ())
  else
    some (t5, ())
noncomputable def F9 (J5 : P5 → Option PO) (Gspec_l40Dec : spec_l40Dec.PI → Option spec_l40Dec.PO) (t0 : List (List UInt8)) (t1 : List Int) (t5 : List UInt8) (t6 : Int) : Option PO :=
  bif inb t6 t0.length then
    bif decide (t5.length + (t0.getD t6.toNat []).length ≤ 140737488355328) then
      bif decide ((t5 ++ (t0.getD t6.toNat [])).length + ([61] : List UInt8).length ≤ 140737488355328) then
        bif inb t6 t1.length then
          Option.bind (Gspec_l40Dec (t1.getD t6.toNat 0, ())) fun y2 =>
          bif decide (((t5 ++ (t0.getD t6.toNat [])) ++ ([61] : List UInt8)).length + y2.1.length ≤ 140737488355328) then
            J5 (t0, t1, ((t5 ++ (t0.getD t6.toNat [])) ++ ([61] : List UInt8)) ++ y2.1, wI (t6 + 1), ())
          else
            none
        else
          none
      else
        none
    else
      none
  else
    none
noncomputable def hd {R : Type} (Gspec_NamesValid : spec_NamesValid.PI → Option spec_NamesValid.PO) (Gspec_l31Numbers : spec_l31Numbers.PI → Option spec_l31Numbers.PO) (Gspec_l40Dec : spec_l40Dec.PI → Option spec_l40Dec.PO) : Hand R := (handAt 76 [24] true ⟨1, 1, 1, spec_l31Numbers.pin, spec_l31Numbers.pout, Gspec_l31Numbers⟩ (handAt 39 [48] true ⟨1, 1, 0, spec_l40Dec.pin, spec_l40Dec.pout, Gspec_l40Dec⟩ (handAt 17 [8] true ⟨1, 1, 1, spec_NamesValid.pin, spec_NamesValid.pout, Gspec_NamesValid⟩ handNil)))
noncomputable def pg (Gspec_NamesValid : spec_NamesValid.PI → Option spec_NamesValid.PO) (Gspec_l31Numbers : spec_l31Numbers.PI → Option spec_l31Numbers.PO) (Gspec_l40Dec : spec_l40Dec.PI → Option spec_l40Dec.PO) (J3 : List Item → P3 → Option PO) (J5 : List Item → P5 → Option PO) (J9 : List Item → P9 → Option PO) : Prog PO := { nt := 51, np := 2, tb := tabOf tab, hd := hd Gspec_NamesValid Gspec_l31Numbers Gspec_l40Dec, cuts := cutsOf [(3, cut p3 J3), (5, cut p5 J5), (9, cut p9 J9)], fin := endOf (tabOf tab) rs 2 pout }
noncomputable def q : FuncId → Bool := fun f => hasId [17, 39, 76] f
theorem seg0 (Gspec_NamesValid : spec_NamesValid.PI → Option spec_NamesValid.PO) (Gspec_l31Numbers : spec_l31Numbers.PI → Option spec_l31Numbers.PO) (Gspec_l40Dec : spec_l40Dec.PI → Option spec_l40Dec.PO) (J3 : List Item → P3 → Option PO) (J5 : List Item → P5 → Option PO) (J9 : List Item → P9 → Option PO) (x0 : List (List UInt8)) (x1 : List Int) : arun (pg Gspec_NamesValid Gspec_l31Numbers Gspec_l40Dec J3 J5 J9) 5000 [.code c0] (mk pin (x0, x1, ())) = F0 (J3 T3) Gspec_NamesValid Gspec_l31Numbers x0 x1 := by kernel_rfl
theorem seg3 (Gspec_NamesValid : spec_NamesValid.PI → Option spec_NamesValid.PO) (Gspec_l31Numbers : spec_l31Numbers.PI → Option spec_l31Numbers.PO) (Gspec_l40Dec : spec_l40Dec.PI → Option spec_l40Dec.PO) (J3 : List Item → P3 → Option PO) (J5 : List Item → P5 → Option PO) (J9 : List Item → P9 → Option PO) (t0 : List (List UInt8)) (t1 : List Int) : arun1 (pg Gspec_NamesValid Gspec_l31Numbers Gspec_l40Dec J3 J5 J9) 5000 T3 (mk p3 (t0, t1, ())) = F3 (J5 T5) t0 t1 := by kernel_rfl
theorem seg5 (Gspec_NamesValid : spec_NamesValid.PI → Option spec_NamesValid.PO) (Gspec_l31Numbers : spec_l31Numbers.PI → Option spec_l31Numbers.PO) (Gspec_l40Dec : spec_l40Dec.PI → Option spec_l40Dec.PO) (J3 : List Item → P3 → Option PO) (J5 : List Item → P5 → Option PO) (J9 : List Item → P9 → Option PO) (t0 : List (List UInt8)) (t1 : List Int) (t5 : List UInt8) (t6 : Int) : arun1 (pg Gspec_NamesValid Gspec_l31Numbers Gspec_l40Dec J3 J5 J9) 5000 T5 (mk p5 (t0, t1, t5, t6, ())) = F5 (J9 T9) t0 t1 t5 t6 := by kernel_rfl
theorem seg9 (Gspec_NamesValid : spec_NamesValid.PI → Option spec_NamesValid.PO) (Gspec_l31Numbers : spec_l31Numbers.PI → Option spec_l31Numbers.PO) (Gspec_l40Dec : spec_l40Dec.PI → Option spec_l40Dec.PO) (J3 : List Item → P3 → Option PO) (J5 : List Item → P5 → Option PO) (J9 : List Item → P9 → Option PO) (t0 : List (List UInt8)) (t1 : List Int) (t5 : List UInt8) (t6 : Int) : arunQ (pg Gspec_NamesValid Gspec_l31Numbers Gspec_l40Dec J3 J5 J9) q [] [] 5000 T9 (mk p9 (t0, t1, t5, t6, ())) = List.replicate (arunQ (pg Gspec_NamesValid Gspec_l31Numbers Gspec_l40Dec J3 J5 J9) q [] [] 5000 T9 (mk p9 (t0, t1, t5, t6, ()))).length (F9 (J5 T5) Gspec_l40Dec t0 t1 t5 t6) := by kernel_rfl
noncomputable def L9 (J5 : P5 → Option PO) : P9 → Option PO := fun x => F9 J5 spec_l40Dec.impl x.1 x.2.1 x.2.2.1 x.2.2.2.1
noncomputable def L5 : P5 → Option PO := lfp fun J5 x => F5 (L9 J5) x.1 x.2.1 x.2.2.1 x.2.2.2.1
noncomputable def L3 : P3 → Option PO := fun x => F3 L5 x.1 x.2.1
noncomputable def impl : PI → Option PO := fun x => F0 L3 spec_NamesValid.impl spec_l31Numbers.impl x.1 x.2.1
theorem F9_le {J5 J5' : P5 → Option PO} (h5 : OLe J5 J5') {Gspec_l40Dec : spec_l40Dec.PI → Option spec_l40Dec.PO} (t0 : List (List UInt8)) (t1 : List Int) (t5 : List UInt8) (t6 : Int) : OptLe (F9 J5 Gspec_l40Dec t0 t1 t5 t6) (F9 J5' Gspec_l40Dec t0 t1 t5 t6) := by unfold F9; exact .cond (.cond (.cond (.cond (.bind (.refl _) fun _ => .cond (.of h5 _) (.refl _)) (.refl _)) (.refl _)) (.refl _)) (.refl _)
theorem F5_le {J9 J9' : P9 → Option PO} (h9 : OLe J9 J9') (t0 : List (List UInt8)) (t1 : List Int) (t5 : List UInt8) (t6 : Int) : OptLe (F5 J9 t0 t1 t5 t6) (F5 J9' t0 t1 t5 t6) := by unfold F5; exact .cond (.cond (.cond (.of h9 _) (.refl _)) (.of h9 _)) (.refl _)
theorem L9_eq (J5 : P5 → Option PO) (t0 : List (List UInt8)) (t1 : List Int) (t5 : List UInt8) (t6 : Int) : L9 J5 (t0, t1, t5, t6, ()) = F9 J5 spec_l40Dec.impl t0 t1 t5 t6 := rfl
theorem L9_le {J5 J5' : P5 → Option PO} (h5 : OLe J5 J5') : OLe (L9 J5) (L9 J5') := fun x => F9_le h5 x.1 x.2.1 x.2.2.1 x.2.2.2.1
theorem L5_mono : OMono fun J5 (x : P5) => F5 (L9 J5) x.1 x.2.1 x.2.2.1 x.2.2.2.1 := fun J J' h5 x => F5_le (L9_le h5) x.1 x.2.1 x.2.2.1 x.2.2.2.1
theorem L5_eq (t0 : List (List UInt8)) (t1 : List Int) (t5 : List UInt8) (t6 : Int) : L5 (t0, t1, t5, t6, ()) = F5 (L9 (L5)) t0 t1 t5 t6 := congrFun (lfp_eq (L5_mono)) _
theorem L3_eq (t0 : List (List UInt8)) (t1 : List Int) : L3 (t0, t1, ()) = F3 (L5) t0 t1 := rfl
theorem impl_eq (x0 : List (List UInt8)) (x1 : List Int) : impl (x0, x1, ()) = F0 L3 spec_NamesValid.impl spec_l31Numbers.impl x0 x1 := rfl
theorem con : Con Tryz.prog 33 2 rs.length 2 pin pout impl := by
  refine con_of_run' (nt := 51) (c := c0) tabGood Tryz.func33 (by kernel_rfl) (by kernel_rfl) (by kernel_rfl) (by kernel_rfl) (by kernel_rfl) (by kernel_rfl) (by kernel_rfl) ?_
  intro w0 O y hnp
  generalize hPost : (fun (a' : Act) (w' : World) => ∃ μ' S' st', Rel 51 w0 O μ' S' st' a' w' ∧ endOf (tabOf tab) rs 2 pout st' = some y) = Post
  have fin : ∀ (μ : Id → Option Value) (S : Nat → Prop) (st : St) (a : Act) (w : World), Rel 51 w0 O μ S st a w → endOf (tabOf tab) rs 2 pout st = some y → Post a w := fun μ S st a w h he => by rw [← hPost]; exact ⟨μ, S, st, h, he⟩
  have hp : ∀ (J3 : List Item → P3 → Option PO), ∀ (J5 : List Item → P5 → Option PO), ∀ (J9 : List Item → P9 → Option PO), Parts Tryz.prog 33 (pg spec_NamesValid.impl spec_l31Numbers.impl spec_l40Dec.impl J3 J5 J9) [(3, cut p3 J3), (5, cut p5 J5), (9, cut p9 J9)] := fun J3 J5 J9 => ⟨tab_ok tabGood rfl, (handAt_ok spec_l31Numbers.con (handAt_ok spec_l40Dec.con (handAt_ok spec_NamesValid.con handNil_ok))), rfl⟩
  have g9 : ∀ (J5 : P5 → Option PO), Good Tryz.prog 51 w0 O Post y T5 p5 J5 → Good Tryz.prog 51 w0 O Post y T9 p9 (L9 J5) := fun J5 h5 => good_quiet (hs := hd spec_NamesValid.impl spec_l31Numbers.impl spec_l40Dec.impl) (cv' := hd spec_NamesValid.impl spec_l31Numbers.impl spec_l40Dec.impl) (Checked.mixed Tryz.checked) (hp (atT T3 (fun _ => none)) (atT T5 J5) (atT T9 (fun _ => none))) (handAt_D spec_l31Numbers.con (by rfl) rfl (handAt_D spec_l40Dec.con (by rfl) rfl (handAt_D spec_NamesValid.con (by rfl) rfl handNil_D))) (handAt_nat (handAt_nat (handAt_nat handNil_nat))) (handAt_nat (handAt_nat (handAt_nat handNil_nat))) (runOK_of (hp (atT T3 (fun _ => none)) (atT T5 J5) (atT T9 (fun _ => none))) hnp ⟨cutOK_at (p := p3) (T := T3) (J := fun _ => none) good_none, cutOK_at h5, cutOK_at (p := p9) (T := T9) (J := fun _ => none) good_none, trivial⟩ fin) (fun x => all_same ⟨_, (seg9 spec_NamesValid.impl spec_l31Numbers.impl spec_l40Dec.impl (atT T3 (fun _ => none)) (atT T5 J5) (atT T9 (fun _ => none)) x.1 x.2.1 x.2.2.1 x.2.2.2.1).trans (by simp only [atT_self] <;> rfl)⟩)
  have g5 : Good Tryz.prog 51 w0 O Post y T5 p5 L5 := good_lfp fun J5 h5 => good_part (hp (atT T3 (fun _ => none)) (atT T5 (fun _ => none)) (atT T9 (L9 J5))) (runOK_of (hp (atT T3 (fun _ => none)) (atT T5 (fun _ => none)) (atT T9 (L9 J5))) hnp ⟨cutOK_at (p := p3) (T := T3) (J := fun _ => none) good_none, cutOK_at (p := p5) (T := T5) (J := fun _ => none) good_none, cutOK_at (g9 J5 h5), trivial⟩ fin) (fun x => (seg5 spec_NamesValid.impl spec_l31Numbers.impl spec_l40Dec.impl (atT T3 (fun _ => none)) (atT T5 (fun _ => none)) (atT T9 (L9 J5)) x.1 x.2.1 x.2.2.1 x.2.2.2.1).trans (by simp only [atT_self] <;> rfl))
  have g3 : Good Tryz.prog 51 w0 O Post y T3 p3 L3 := good_part (hp (atT T3 (fun _ => none)) (atT T5 L5) (atT T9 (fun _ => none))) (runOK_of (hp (atT T3 (fun _ => none)) (atT T5 L5) (atT T9 (fun _ => none))) hnp ⟨cutOK_at (p := p3) (T := T3) (J := fun _ => none) good_none, cutOK_at g5, cutOK_at (p := p9) (T := T9) (J := fun _ => none) good_none, trivial⟩ fin) (fun x => (seg3 spec_NamesValid.impl spec_l31Numbers.impl spec_l40Dec.impl (atT T3 (fun _ => none)) (atT T5 L5) (atT T9 (fun _ => none)) x.1 x.2.1).trans (by simp only [atT_self] <;> rfl))
  exact good_first (hp (atT T3 L3) (atT T5 (fun _ => none)) (atT T9 (fun _ => none))) (runOK_of (hp (atT T3 L3) (atT T5 (fun _ => none)) (atT T9 (fun _ => none))) hnp ⟨cutOK_at g3, cutOK_at (p := p5) (T := T5) (J := fun _ => none) good_none, cutOK_at (p := p9) (T := T9) (J := fun _ => none) good_none, trivial⟩ fin) (fun x => (seg0 spec_NamesValid.impl spec_l31Numbers.impl spec_l40Dec.impl (atT T3 L3) (atT T5 (fun _ => none)) (atT T9 (fun _ => none)) x.1 x.2.1).trans (by simp only [atT_self] <;> rfl))
end spec_StateText

/-! ### loop.example/wholecheck/laws.FnLists -/
namespace laws_FnLists
noncomputable abbrev c0 : Code := (Tryz.f6.body).getD .skip
noncomputable abbrev pin : Tpl := ⟨[⟨0, false, [.d (.sl (.int .u8))]⟩], []⟩
noncomputable abbrev pout : Tpl := ⟨[⟨0, false, [.d .bool]⟩], []⟩
noncomputable abbrev PI := (List Int) × Unit
noncomputable abbrev PO := Bool × Unit
noncomputable abbrev rs : List ResultVar := [.tmp 2]
noncomputable def F0 (Gimpl_ListText : impl_ListText.PI → Option impl_ListText.PO) (Gimpl_ReadList : impl_ReadList.PI → Option impl_ReadList.PO) (Gimpl_StateText : impl_StateText.PI → Option impl_StateText.PO) (Glaws_wcInts : laws_wcInts.PI → Option laws_wcInts.PO) (Gspec_DrawListText : spec_DrawListText.PI → Option spec_DrawListText.PO) (Gspec_DrawReadList : spec_DrawReadList.PI → Option spec_DrawReadList.PO) (Gspec_DrawStateText : spec_DrawStateText.PI → Option spec_DrawStateText.PO) (Gspec_ListText : spec_ListText.PI → Option spec_ListText.PO) (Gspec_ReadList : spec_ReadList.PI → Option spec_ReadList.PO) (Gspec_StateText : spec_StateText.PI → Option spec_StateText.PO) (x0 : List Int) : Option PO :=
  bif decide ((x0.length : Int) > 1048576) then
    some (true, ())
  else
    Option.bind (Gspec_DrawListText (x0, ())) fun y0 =>
    Option.bind (Gimpl_ListText (y0.1, ())) fun y1 =>
    Option.bind (Gspec_ListText (y0.1, ())) fun y2 =>
    bif !(y1.1 == y2.1) then
      some (false, ())
    else
      Option.bind (Gimpl_ReadList (y1.1, ())) fun y3 =>
      Option.bind (Gspec_DrawReadList (x0, ())) fun y4 =>
      Option.bind (Gimpl_ReadList (y4.1, ())) fun y5 =>
      Option.bind (Gspec_ReadList (y4.1, ())) fun y6 =>
      Option.bind (Gspec_DrawStateText (x0, ())) fun y7 =>
      bif y3.1 then
        Option.bind (Glaws_wcInts (y3.2.1, y0.1, ())) fun y8 =>
        bif y8.1 then
          bif (y5.1 == y6.1) then
            Option.bind (Glaws_wcInts (y5.2.1, y6.2.1, ())) fun y9 =>
            bif y9.1 then
              Option.bind (Gimpl_StateText (y7.1, y7.2.1, ())) fun y10 =>
              Option.bind (Gspec_StateText (y7.1, y7.2.1, ())) fun y11 =>
              some (y10.1 == y11.1, ())
            else
              some (false, ())
          else
            some (false, ())
        else
          bif y1.1 == ([45] : List UInt8) then
            bif (y3.2.1.length : Int) == 0 then
              bif (y5.1 == y6.1) then
                Option.bind (Glaws_wcInts (y5.2.1, y6.2.1, ())) fun y12 =>
                bif y12.1 then
                  Option.bind (Gimpl_StateText (y7.1, y7.2.1, ())) fun y13 =>
                  Option.bind (Gspec_StateText (y7.1, y7.2.1, ())) fun y14 =>
                  some (y13.1 == y14.1, ())
                else
                  some (false, ())
              else
                some (false, ())
            else
              some (false, ())
          else
            some (false, ())
      else
        some (false, ())
noncomputable def hd {R : Type} (Gimpl_ListText : impl_ListText.PI → Option impl_ListText.PO) (Gimpl_ReadList : impl_ReadList.PI → Option impl_ReadList.PO) (Gimpl_StateText : impl_StateText.PI → Option impl_StateText.PO) (Glaws_wcInts : laws_wcInts.PI → Option laws_wcInts.PO) (Gspec_DrawListText : spec_DrawListText.PI → Option spec_DrawListText.PO) (Gspec_DrawReadList : spec_DrawReadList.PI → Option spec_DrawReadList.PO) (Gspec_DrawStateText : spec_DrawStateText.PI → Option spec_DrawStateText.PO) (Gspec_ListText : spec_ListText.PI → Option spec_ListText.PO) (Gspec_ReadList : spec_ReadList.PI → Option spec_ReadList.PO) (Gspec_StateText : spec_StateText.PI → Option spec_StateText.PO) : Hand R := (handAt 33 [78] true ⟨2, 1, 2, spec_StateText.pin, spec_StateText.pout, Gspec_StateText⟩ (handAt 32 [75] true ⟨2, 1, 2, impl_StateText.pin, impl_StateText.pout, Gimpl_StateText⟩ (handAt 31 [51, 70] true ⟨2, 1, 2, laws_wcInts.pin, laws_wcInts.pout, Glaws_wcInts⟩ (handAt 30 [44] true ⟨1, 2, 1, spec_DrawStateText.pin, spec_DrawStateText.pout, Gspec_DrawStateText⟩ (handAt 29 [39] true ⟨1, 2, 1, spec_ReadList.pin, spec_ReadList.pout, Gspec_ReadList⟩ (handAt 28 [31] true ⟨1, 1, 1, spec_DrawReadList.pin, spec_DrawReadList.pout, Gspec_DrawReadList⟩ (handAt 27 [27, 34] true ⟨1, 2, 1, impl_ReadList.pin, impl_ReadList.pout, Gimpl_ReadList⟩ (handAt 26 [23] true ⟨1, 1, 1, spec_ListText.pin, spec_ListText.pout, Gspec_ListText⟩ (handAt 25 [20] true ⟨1, 1, 1, impl_ListText.pin, impl_ListText.pout, Gimpl_ListText⟩ (handAt 24 [18] true ⟨1, 1, 1, spec_DrawListText.pin, spec_DrawListText.pout, Gspec_DrawListText⟩ handNil))))))))))
noncomputable def pg (Gimpl_ListText : impl_ListText.PI → Option impl_ListText.PO) (Gimpl_ReadList : impl_ReadList.PI → Option impl_ReadList.PO) (Gimpl_StateText : impl_StateText.PI → Option impl_StateText.PO) (Glaws_wcInts : laws_wcInts.PI → Option laws_wcInts.PO) (Gspec_DrawListText : spec_DrawListText.PI → Option spec_DrawListText.PO) (Gspec_DrawReadList : spec_DrawReadList.PI → Option spec_DrawReadList.PO) (Gspec_DrawStateText : spec_DrawStateText.PI → Option spec_DrawStateText.PO) (Gspec_ListText : spec_ListText.PI → Option spec_ListText.PO) (Gspec_ReadList : spec_ReadList.PI → Option spec_ReadList.PO) (Gspec_StateText : spec_StateText.PI → Option spec_StateText.PO) : Prog PO := { nt := 81, np := 1, tb := tabOf tab, hd := hd Gimpl_ListText Gimpl_ReadList Gimpl_StateText Glaws_wcInts Gspec_DrawListText Gspec_DrawReadList Gspec_DrawStateText Gspec_ListText Gspec_ReadList Gspec_StateText, cuts := cutsOf [], fin := endOf (tabOf tab) rs 1 pout }
noncomputable def q : FuncId → Bool := fun f => hasId [25, 26, 28, 31, 32, 33] f
theorem seg0 (Gimpl_ListText : impl_ListText.PI → Option impl_ListText.PO) (Gimpl_ReadList : impl_ReadList.PI → Option impl_ReadList.PO) (Gimpl_StateText : impl_StateText.PI → Option impl_StateText.PO) (Glaws_wcInts : laws_wcInts.PI → Option laws_wcInts.PO) (Gspec_DrawListText : spec_DrawListText.PI → Option spec_DrawListText.PO) (Gspec_DrawReadList : spec_DrawReadList.PI → Option spec_DrawReadList.PO) (Gspec_DrawStateText : spec_DrawStateText.PI → Option spec_DrawStateText.PO) (Gspec_ListText : spec_ListText.PI → Option spec_ListText.PO) (Gspec_ReadList : spec_ReadList.PI → Option spec_ReadList.PO) (Gspec_StateText : spec_StateText.PI → Option spec_StateText.PO) (x0 : List Int) : arun (pg Gimpl_ListText Gimpl_ReadList Gimpl_StateText Glaws_wcInts Gspec_DrawListText Gspec_DrawReadList Gspec_DrawStateText Gspec_ListText Gspec_ReadList Gspec_StateText) 5000 [.code c0] (mk pin (x0, ())) = F0 Gimpl_ListText Gimpl_ReadList Gimpl_StateText Glaws_wcInts Gspec_DrawListText Gspec_DrawReadList Gspec_DrawStateText Gspec_ListText Gspec_ReadList Gspec_StateText x0 := by kernel_rfl
noncomputable def impl : PI → Option PO := fun x => F0 impl_ListText.impl impl_ReadList.impl impl_StateText.impl laws_wcInts.impl spec_DrawListText.impl spec_DrawReadList.impl spec_DrawStateText.impl spec_ListText.impl spec_ReadList.impl spec_StateText.impl x.1
theorem impl_eq (x0 : List Int) : impl (x0, ()) = F0 impl_ListText.impl impl_ReadList.impl impl_StateText.impl laws_wcInts.impl spec_DrawListText.impl spec_DrawReadList.impl spec_DrawStateText.impl spec_ListText.impl spec_ReadList.impl spec_StateText.impl x0 := rfl
theorem con : Con Tryz.prog 6 1 rs.length 1 pin pout impl := by
  refine con_of_run' (nt := 81) (c := c0) tabGood Tryz.func6 (by kernel_rfl) (by kernel_rfl) (by kernel_rfl) (by kernel_rfl) (by kernel_rfl) (by kernel_rfl) (by kernel_rfl) ?_
  intro w0 O y hnp
  generalize hPost : (fun (a' : Act) (w' : World) => ∃ μ' S' st', Rel 81 w0 O μ' S' st' a' w' ∧ endOf (tabOf tab) rs 1 pout st' = some y) = Post
  have fin : ∀ (μ : Id → Option Value) (S : Nat → Prop) (st : St) (a : Act) (w : World), Rel 81 w0 O μ S st a w → endOf (tabOf tab) rs 1 pout st = some y → Post a w := fun μ S st a w h he => by rw [← hPost]; exact ⟨μ, S, st, h, he⟩
  have hp : Parts Tryz.prog 6 (pg impl_ListText.impl impl_ReadList.impl impl_StateText.impl laws_wcInts.impl spec_DrawListText.impl spec_DrawReadList.impl spec_DrawStateText.impl spec_ListText.impl spec_ReadList.impl spec_StateText.impl) [] := ⟨tab_ok tabGood rfl, (handAt_ok spec_StateText.con (handAt_ok impl_StateText.con (handAt_ok laws_wcInts.con (handAt_ok spec_DrawStateText.con (handAt_ok spec_ReadList.con (handAt_ok spec_DrawReadList.con (handAt_ok impl_ReadList.con (handAt_ok spec_ListText.con (handAt_ok impl_ListText.con (handAt_ok spec_DrawListText.con handNil_ok)))))))))), rfl⟩
  exact good_first (hp) (runOK_of (hp) hnp trivial fin) (fun x => (seg0 impl_ListText.impl impl_ReadList.impl impl_StateText.impl laws_wcInts.impl spec_DrawListText.impl spec_DrawReadList.impl spec_DrawStateText.impl spec_ListText.impl spec_ReadList.impl spec_StateText.impl x.1))
end laws_FnLists
end Go.Proofs.YtfjnckjkpkhbdaaGreatDoorB
