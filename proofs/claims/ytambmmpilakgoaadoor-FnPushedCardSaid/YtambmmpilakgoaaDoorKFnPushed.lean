/- PRINTED BY A PROGRAM OF THIS CLAIM'S AUTHOR (wip/gen): functions of the given program, their parts, their contracts. -/
import Derived.Test.YtambmmpilakgoaaDoorB34
import Derived.Test.YtambmmpilakgoaaDoorB39
import Derived.Test.YtambmmpilakgoaaDoorChecked
import Derived.Test.YtambmmpilakgoaaDoorLFnPushed
set_option linter.unusedVariables false
set_option linter.unusedSimpArgs false
set_option maxRecDepth 100000
namespace Go.Proofs.YtambmmpilakgoaaDoorB
open Go
def tab : Tab := [(3, { kind := .scalar, zero := [.d (.int .i64) (0 : Int)], bytes := 8, data := some (.int .i64), eqf := none }),
  (5, { kind := .scalar, zero := [.d (.int .u8) (0 : Int)], bytes := 1, data := some (.int .u8), eqf := none }),
  (9, { kind := .scalar, zero := [.d .str ([] : List UInt8)], bytes := 16, data := some .str, eqf := none }),
  (22, { kind := .slice 9, zero := [.nilS], bytes := 24, data := some (.sl .str), eqf := none }),
  (27, { kind := .slice 3, zero := [.nilS], bytes := 24, data := some (.sl (.int .i64)), eqf := none }),
  (41, { kind := .slice 5, zero := [.nilS], bytes := 24, data := some (.sl (.int .u8)), eqf := none }),
  (42, { kind := .slice 48, zero := [.nilS], bytes := 24, data := some (.sl (.prod (.int .i64) (.prod (.int .i64) (.prod (.int .i64) (.last (.int .i64)))))), eqf := none }),
  (48, { kind := .struct [(0, 1), (1, 1), (2, 1), (3, 1)], zero := [.d (.int .i64) (0 : Int), .d (.int .i64) (0 : Int), .d (.int .i64) (0 : Int), .d (.int .i64) (0 : Int)], bytes := 32, data := some (.prod (.int .i64) (.prod (.int .i64) (.prod (.int .i64) (.last (.int .i64))))), eqf := some [(.int .i64), (.int .i64), (.int .i64), (.int .i64)] }),
  (109, { kind := .struct [(0, 1), (1, 1)], zero := [.nilS, .nilS], bytes := 48, data := some (.prod (.sl (.prod (.int .i64) (.prod (.int .i64) (.prod (.int .i64) (.last (.int .i64)))))) (.last (.sl (.prod (.int .i64) (.prod (.int .i64) (.prod (.int .i64) (.last (.int .i64)))))))), eqf := none }),
  (113, { kind := .map (.int .i64) .str, zero := [.undef], bytes := 8, data := none, eqf := none }),
  (153, { kind := .map (.int .i64) (.int .i64), zero := [.undef], bytes := 8, data := none, eqf := none }),
  (187, { kind := .struct [(0, 1), (1, 1)], zero := [.nilS, .d (.int .i64) (0 : Int)], bytes := 32, data := some (.prod (.sl (.int .u8)) (.last (.int .i64))), eqf := none })]
theorem tabGood : tabB Tryd.prog tab = true := by kernel_rfl

/-! ### loop.example/wholecheck/spec.l40Open -/
namespace spec_l40Open
noncomputable abbrev c0 : Code := (Tryd.f113.body).getD .skip
noncomputable abbrev pin : Tpl := ⟨[⟨0, false, [.d (.sl (.int .u8))]⟩], []⟩
noncomputable abbrev pout : Tpl := ⟨[⟨0, false, [.ptr 600001 0]⟩], [(600001, .box [.d (.sl (.int .u8)), .d (.int .i64)])]⟩
noncomputable abbrev PI := (List Int) × Unit
noncomputable abbrev PO := (List Int) × Int × Unit
noncomputable abbrev rs : List ResultVar := [.tmp 2]
noncomputable def F0 (x0 : List Int) : Option PO :=
  bif decide ((x0.length : Int) > 2000) then
    bif decide (2000 ≤ (x0.length : Int)) then
      some ((x0.take 2000).drop 0, 0, ())
    else
      none
  else
    some (x0, 0, ())
noncomputable def hd {R : Type} : Hand R := handNil
noncomputable def pg : Prog PO := { nt := 11, np := 0, tb := tabOf tab, hd := hd, cuts := cutsOf [], fin := endOf (tabOf tab) rs 0 pout }
noncomputable def q : FuncId → Bool := fun f => hasId [] f
theorem seg0 (x0 : List Int) : arun (pg) 5000 [.code c0] (mk pin (x0, ())) = F0 x0 := by kernel_rfl
noncomputable def impl : PI → Option PO := fun x => F0 x.1
theorem impl_eq (x0 : List Int) : impl (x0, ()) = F0 x0 := rfl
theorem con : Con Tryd.prog 113 1 rs.length 0 pin pout impl := by
  refine con_of_run' (nt := 11) (c := c0) tabGood Tryd.func113 (by kernel_rfl) (by kernel_rfl) (by kernel_rfl) (by kernel_rfl) (by kernel_rfl) (by kernel_rfl) (by kernel_rfl) ?_
  intro w0 O y hnp
  generalize hPost : (fun (a' : Act) (w' : World) => ∃ μ' S' st', Rel 11 w0 O μ' S' st' a' w' ∧ endOf (tabOf tab) rs 0 pout st' = some y) = Post
  have fin : ∀ (μ : Id → Option Value) (S : Nat → Prop) (st : St) (a : Act) (w : World), Rel 11 w0 O μ S st a w → endOf (tabOf tab) rs 0 pout st = some y → Post a w := fun μ S st a w h he => by rw [← hPost]; exact ⟨μ, S, st, h, he⟩
  have hp : Parts Tryd.prog 113 (pg) [] := ⟨tab_ok tabGood rfl, handNil_ok, rfl⟩
  exact good_first (hp) (runOK_of (hp) hnp trivial fin) (fun x => (seg0 x.1))
end spec_l40Open

/-! ### (*loop.example/wholecheck/spec.l40Rd).pick -/
namespace spec_l40Rd_pick
noncomputable abbrev c0 : Code := (Tryd.f116.body).getD .skip
noncomputable abbrev pin : Tpl := ⟨[⟨0, false, [.ptr 500001 0]⟩, ⟨1, false, [.d (.int .i64)]⟩], [(500001, .box [.d (.sl (.int .u8)), .d (.int .i64)])]⟩
noncomputable abbrev pout : Tpl := ⟨[⟨0, false, [.d (.int .i64)]⟩, ⟨1, false, [.ptr 500001 0]⟩], [(500001, .box [.d (.sl (.int .u8)), .d (.int .i64)])]⟩
noncomputable abbrev p4 : Tpl := ⟨[⟨0, false, [.ptr 500001 0]⟩, ⟨1, false, [.d (.int .i64)]⟩], [(500001, .box [.d (.sl (.int .u8)), .d (.int .i64)])]⟩
noncomputable def T4 : List Item := (find 4 c0 []).getD []
noncomputable abbrev p7 : Tpl := ⟨[⟨0, false, [.ptr 500001 0]⟩, ⟨1, false, [.d (.int .i64)]⟩, ⟨5, false, [.d (.int .i64)]⟩], [(500001, .box [.d (.sl (.int .u8)), .d (.int .i64)])]⟩
noncomputable def T7 : List Item := (find 7 c0 []).getD []
noncomputable abbrev PI := Int × (List Int) × Int × Unit
noncomputable abbrev PO := Int × (List Int) × Int × Unit
noncomputable abbrev P4 := Int × (List Int) × Int × Unit
noncomputable abbrev P7 := Int × Int × (List Int) × Int × Unit
noncomputable abbrev rs : List ResultVar := [.tmp 4]
noncomputable def F0 (J4 : P4 → Option PO) (x1 : Int) (c1_0 : List Int) (c1_1 : Int) : Option PO :=
  bif decide (x1 < 1) then
    some (0, c1_0, wI (c1_1 + 1), ())
  else
    bif (c1_0.length : Int) == 0 then
      some (0, c1_0, wI (c1_1 + 1), ())
    else
      J4 (x1, c1_0, wI (c1_1 + 1), ())
noncomputable def F4 (J7 : P7 → Option PO) (t1 : Int) (c1_0 : List Int) (c1_1 : Int) : Option PO :=
  bif decide (wI (c1_1 - 1) < (c1_0.length : Int)) then
    bif inb (wI (c1_1 - 1)) c1_0.length then
      bif decide (t1 = 0) then
        none
      else
        some (Int.tmod (wI (c1_0.getD (wI (c1_1 - 1)).toNat 0)) t1, c1_0, c1_1, ())
    else
      none
  else
    J7 (t1, wI (c1_1 - 1), c1_0, c1_1, ())
noncomputable def F7 (t1 : Int) (t5 : Int) (c1_0 : List Int) (c1_1 : Int) : Option PO :=
  bif decide ((c1_0.length : Int) = 0) then
    none
  else
    bif inb (Int.tmod t5 (c1_0.length : Int)) c1_0.length then
      bif decide ((c1_0.length : Int) = 0) then
        none
      else
        bif inb (Int.tmod (wI ((wI (t5 * 7)) + 3)) (c1_0.length : Int)) c1_0.length then
          bif decide ((c1_0.length : Int) = 0) then
            none
          else
            bif decide (t1 = 0) then
              none
            else
              some (Int.tmod (xorI .i64 (wI ((wI ((wI ((wI ((wI (c1_0.getD (Int.tmod t5 (c1_0.length : Int)).toNat 0)) * 131)) + (wI ((wI (c1_0.getD (Int.tmod (wI ((wI (t5 * 7)) + 3)) (c1_0.length : Int)).toNat 0)) * 1117)))) + (wI (t5 * 29)))) + (wI ((wI (Int.tdiv t5 (c1_0.length : Int))) * 53)))) (wI (Int.tdiv (wI ((wI ((wI ((wI ((wI (c1_0.getD (Int.tmod t5 (c1_0.length : Int)).toNat 0)) * 131)) + (wI ((wI (c1_0.getD (Int.tmod (wI ((wI (t5 * 7)) + 3)) (c1_0.length : Int)).toNat 0)) * 1117)))) + (wI (t5 * 29)))) + (wI ((wI (Int.tdiv t5 (c1_0.length : Int))) * 53)))) 64))) t1, c1_0, c1_1, ())
        else
          none
    else
      none
noncomputable def hd {R : Type} : Hand R := handNil
noncomputable def pg (J4 : List Item → P4 → Option PO) (J7 : List Item → P7 → Option PO) : Prog PO := { nt := 99, np := 2, tb := tabOf tab, hd := hd, cuts := cutsOf [(4, cut p4 J4), (7, cut p7 J7)], fin := endOf (tabOf tab) rs 2 pout }
noncomputable def q : FuncId → Bool := fun f => hasId [] f
theorem seg0 (J4 : List Item → P4 → Option PO) (J7 : List Item → P7 → Option PO) (x1 : Int) (c1_0 : List Int) (c1_1 : Int) : arun (pg J4 J7) 5000 [.code c0] (mk pin (x1, c1_0, c1_1, ())) = F0 (J4 T4) x1 c1_0 c1_1 := by kernel_rfl
theorem seg4 (J4 : List Item → P4 → Option PO) (J7 : List Item → P7 → Option PO) (t1 : Int) (c1_0 : List Int) (c1_1 : Int) : arun1 (pg J4 J7) 5000 T4 (mk p4 (t1, c1_0, c1_1, ())) = F4 (J7 T7) t1 c1_0 c1_1 := by kernel_rfl
theorem seg7 (J4 : List Item → P4 → Option PO) (J7 : List Item → P7 → Option PO) (t1 : Int) (t5 : Int) (c1_0 : List Int) (c1_1 : Int) : arunQ (pg J4 J7) q [] [] 5000 T7 (mk p7 (t1, t5, c1_0, c1_1, ())) = List.replicate (arunQ (pg J4 J7) q [] [] 5000 T7 (mk p7 (t1, t5, c1_0, c1_1, ()))).length (F7 t1 t5 c1_0 c1_1) := by kernel_rfl
noncomputable def L7 : P7 → Option PO := fun x => F7 x.1 x.2.1 x.2.2.1 x.2.2.2.1
noncomputable def L4 : P4 → Option PO := fun x => F4 L7 x.1 x.2.1 x.2.2.1
noncomputable def impl : PI → Option PO := fun x => F0 L4 x.1 x.2.1 x.2.2.1
theorem L7_eq (t1 : Int) (t5 : Int) (c1_0 : List Int) (c1_1 : Int) : L7 (t1, t5, c1_0, c1_1, ()) = F7 t1 t5 c1_0 c1_1 := rfl
theorem L4_eq (t1 : Int) (c1_0 : List Int) (c1_1 : Int) : L4 (t1, c1_0, c1_1, ()) = F4 (L7) t1 c1_0 c1_1 := rfl
theorem impl_eq (x1 : Int) (c1_0 : List Int) (c1_1 : Int) : impl (x1, c1_0, c1_1, ()) = F0 L4 x1 c1_0 c1_1 := rfl
theorem con : Con Tryd.prog 116 2 rs.length 2 pin pout impl := by
  refine con_of_run' (nt := 99) (c := c0) tabGood Tryd.func116 (by kernel_rfl) (by kernel_rfl) (by kernel_rfl) (by kernel_rfl) (by kernel_rfl) (by kernel_rfl) (by kernel_rfl) ?_
  intro w0 O y hnp
  generalize hPost : (fun (a' : Act) (w' : World) => ∃ μ' S' st', Rel 99 w0 O μ' S' st' a' w' ∧ endOf (tabOf tab) rs 2 pout st' = some y) = Post
  have fin : ∀ (μ : Id → Option Value) (S : Nat → Prop) (st : St) (a : Act) (w : World), Rel 99 w0 O μ S st a w → endOf (tabOf tab) rs 2 pout st = some y → Post a w := fun μ S st a w h he => by rw [← hPost]; exact ⟨μ, S, st, h, he⟩
  have hp : ∀ (J4 : List Item → P4 → Option PO), ∀ (J7 : List Item → P7 → Option PO), Parts Tryd.prog 116 (pg J4 J7) [(4, cut p4 J4), (7, cut p7 J7)] := fun J4 J7 => ⟨tab_ok tabGood rfl, handNil_ok, rfl⟩
  have g7 : Good Tryd.prog 99 w0 O Post y T7 p7 L7 := good_quiet (hs := hd) (cv' := hd) (Checked.mixed Tryd.checked) (hp (atT T4 (fun _ => none)) (atT T7 (fun _ => none))) handNil_D handNil_nat handNil_nat (runOK_of (hp (atT T4 (fun _ => none)) (atT T7 (fun _ => none))) hnp ⟨cutOK_at (p := p4) (T := T4) (J := fun _ => none) good_none, cutOK_at (p := p7) (T := T7) (J := fun _ => none) good_none, trivial⟩ fin) (fun x => all_same ⟨_, (seg7 (atT T4 (fun _ => none)) (atT T7 (fun _ => none)) x.1 x.2.1 x.2.2.1 x.2.2.2.1)⟩)
  have g4 : Good Tryd.prog 99 w0 O Post y T4 p4 L4 := good_part (hp (atT T4 (fun _ => none)) (atT T7 L7)) (runOK_of (hp (atT T4 (fun _ => none)) (atT T7 L7)) hnp ⟨cutOK_at (p := p4) (T := T4) (J := fun _ => none) good_none, cutOK_at g7, trivial⟩ fin) (fun x => (seg4 (atT T4 (fun _ => none)) (atT T7 L7) x.1 x.2.1 x.2.2.1).trans (by simp only [atT_self] <;> rfl))
  exact good_first (hp (atT T4 L4) (atT T7 (fun _ => none))) (runOK_of (hp (atT T4 L4) (atT T7 (fun _ => none))) hnp ⟨cutOK_at g4, cutOK_at (p := p7) (T := T7) (J := fun _ => none) good_none, trivial⟩ fin) (fun x => (seg0 (atT T4 L4) (atT T7 (fun _ => none)) x.1 x.2.1 x.2.2.1).trans (by simp only [atT_self] <;> rfl))
end spec_l40Rd_pick

/-! ### (*loop.example/wholecheck/spec.l40Rd).num -/
namespace spec_l40Rd_num
noncomputable abbrev c0 : Code := (Tryd.f114.body).getD .skip
noncomputable abbrev pin : Tpl := ⟨[⟨0, false, [.ptr 500001 0]⟩, ⟨1, false, [.d (.sl (.int .i64))]⟩], [(500001, .box [.d (.sl (.int .u8)), .d (.int .i64)])]⟩
noncomputable abbrev pout : Tpl := ⟨[⟨0, false, [.d (.int .i64)]⟩, ⟨1, false, [.ptr 500001 0]⟩], [(500001, .box [.d (.sl (.int .u8)), .d (.int .i64)])]⟩
noncomputable abbrev PI := (List Int) × (List Int) × Int × Unit
noncomputable abbrev PO := Int × (List Int) × Int × Unit
noncomputable abbrev rs : List ResultVar := [.tmp 4]
noncomputable def F0 (Gspec_l40Rd_pick : spec_l40Rd_pick.PI → Option spec_l40Rd_pick.PO) (x1 : List Int) (c1_0 : List Int) (c1_1 : Int) : Option PO :=
  Option.bind (Gspec_l40Rd_pick ((x1.length : Int), c1_0, c1_1, ())) fun y0 =>
  bif inb y0.1 x1.length then
    some (x1.getD y0.1.toNat 0, y0.2.1, y0.2.2.1, ())
  else
    none
noncomputable def hd {R : Type} (Gspec_l40Rd_pick : spec_l40Rd_pick.PI → Option spec_l40Rd_pick.PO) : Hand R := (handAt 116 [9] false ⟨2, 1, 2, spec_l40Rd_pick.pin, spec_l40Rd_pick.pout, Gspec_l40Rd_pick⟩ handNil)
noncomputable def pg (Gspec_l40Rd_pick : spec_l40Rd_pick.PI → Option spec_l40Rd_pick.PO) : Prog PO := { nt := 12, np := 2, tb := tabOf tab, hd := hd Gspec_l40Rd_pick, cuts := cutsOf [], fin := endOf (tabOf tab) rs 2 pout }
noncomputable def q : FuncId → Bool := fun f => hasId [] f
theorem seg0 (Gspec_l40Rd_pick : spec_l40Rd_pick.PI → Option spec_l40Rd_pick.PO) (x1 : List Int) (c1_0 : List Int) (c1_1 : Int) : arun (pg Gspec_l40Rd_pick) 5000 [.code c0] (mk pin (x1, c1_0, c1_1, ())) = F0 Gspec_l40Rd_pick x1 c1_0 c1_1 := by kernel_rfl
noncomputable def impl : PI → Option PO := fun x => F0 spec_l40Rd_pick.impl x.1 x.2.1 x.2.2.1
theorem impl_eq (x1 : List Int) (c1_0 : List Int) (c1_1 : Int) : impl (x1, c1_0, c1_1, ()) = F0 spec_l40Rd_pick.impl x1 c1_0 c1_1 := rfl
theorem con : Con Tryd.prog 114 2 rs.length 2 pin pout impl := by
  refine con_of_run' (nt := 12) (c := c0) tabGood Tryd.func114 (by kernel_rfl) (by kernel_rfl) (by kernel_rfl) (by kernel_rfl) (by kernel_rfl) (by kernel_rfl) (by kernel_rfl) ?_
  intro w0 O y hnp
  generalize hPost : (fun (a' : Act) (w' : World) => ∃ μ' S' st', Rel 12 w0 O μ' S' st' a' w' ∧ endOf (tabOf tab) rs 2 pout st' = some y) = Post
  have fin : ∀ (μ : Id → Option Value) (S : Nat → Prop) (st : St) (a : Act) (w : World), Rel 12 w0 O μ S st a w → endOf (tabOf tab) rs 2 pout st = some y → Post a w := fun μ S st a w h he => by rw [← hPost]; exact ⟨μ, S, st, h, he⟩
  have hp : Parts Tryd.prog 114 (pg spec_l40Rd_pick.impl) [] := ⟨tab_ok tabGood rfl, (handAt_ok spec_l40Rd_pick.con handNil_ok), rfl⟩
  exact good_first (hp) (runOK_of (hp) hnp trivial fin) (fun x => (seg0 spec_l40Rd_pick.impl x.1 x.2.1 x.2.2.1))
end spec_l40Rd_num

/-! ### loop.example/wholecheck/spec.l20One -/
namespace spec_l20One
noncomputable abbrev c0 : Code := (Tryd.f73.body).getD .skip
noncomputable abbrev pin : Tpl := ⟨[⟨0, false, [.d (.int .i64)]⟩], []⟩
noncomputable abbrev pout : Tpl := ⟨[⟨0, false, [.d .bool]⟩], []⟩
noncomputable abbrev PI := Int × Unit
noncomputable abbrev PO := Bool × Unit
noncomputable abbrev rs : List ResultVar := [.tmp 2]
noncomputable def F0 (x0 : Int) : Option PO :=
  bif x0 == 2 then
    some (true, ())
  else
    some (x0 == 5, ())
noncomputable def hd {R : Type} : Hand R := handNil
noncomputable def pg : Prog PO := { nt := 9, np := 1, tb := tabOf tab, hd := hd, cuts := cutsOf [], fin := endOf (tabOf tab) rs 1 pout }
noncomputable def q : FuncId → Bool := fun f => hasId [] f
theorem seg0 (x0 : Int) : arun (pg) 5000 [.code c0] (mk pin (x0, ())) = F0 x0 := by kernel_rfl
noncomputable def impl : PI → Option PO := fun x => F0 x.1
theorem impl_eq (x0 : Int) : impl (x0, ()) = F0 x0 := rfl
theorem con : Con Tryd.prog 73 1 rs.length 1 pin pout impl := by
  refine con_of_run' (nt := 9) (c := c0) tabGood Tryd.func73 (by kernel_rfl) (by kernel_rfl) (by kernel_rfl) (by kernel_rfl) (by kernel_rfl) (by kernel_rfl) (by kernel_rfl) ?_
  intro w0 O y hnp
  generalize hPost : (fun (a' : Act) (w' : World) => ∃ μ' S' st', Rel 9 w0 O μ' S' st' a' w' ∧ endOf (tabOf tab) rs 1 pout st' = some y) = Post
  have fin : ∀ (μ : Id → Option Value) (S : Nat → Prop) (st : St) (a : Act) (w : World), Rel 9 w0 O μ S st a w → endOf (tabOf tab) rs 1 pout st = some y → Post a w := fun μ S st a w h he => by rw [← hPost]; exact ⟨μ, S, st, h, he⟩
  have hp : Parts Tryd.prog 73 (pg) [] := ⟨tab_ok tabGood rfl, handNil_ok, rfl⟩
  exact good_first (hp) (runOK_of (hp) hnp trivial fin) (fun x => (seg0 x.1))
end spec_l20One

/-! ### loop.example/wholecheck/spec.l20Draw -/
namespace spec_l20Draw
noncomputable abbrev c0 : Code := (Tryd.f156.body).getD .skip
noncomputable abbrev pin : Tpl := ⟨[⟨0, false, [.ptr 500001 0]⟩, ⟨1, false, [.d (.int .i64)]⟩, ⟨2, false, [.d (.int .i64)]⟩], [(500001, .box [.d (.sl (.int .u8)), .d (.int .i64)])]⟩
noncomputable abbrev pout : Tpl := ⟨[⟨0, false, [.row 600001]⟩, ⟨1, false, [.ptr 500001 0]⟩], [(600001, .row 48 false (.prod (.int .i64) (.prod (.int .i64) (.prod (.int .i64) (.last (.int .i64)))))), (500001, .box [.d (.sl (.int .u8)), .d (.int .i64)])]⟩
noncomputable abbrev p3 : Tpl := ⟨[⟨0, false, [.ptr 500001 0]⟩, ⟨1, false, [.d (.int .i64)]⟩, ⟨2, false, [.d (.int .i64)]⟩, ⟨7, false, [.row 3000000]⟩, ⟨8, false, [.d (.int .i64)]⟩], [(500001, .box [.d (.sl (.int .u8)), .d (.int .i64)]), (3000000, .row 48 false (.prod (.int .i64) (.prod (.int .i64) (.prod (.int .i64) (.last (.int .i64))))))]⟩
noncomputable def T3 : List Item := (find 3 c0 []).getD []
noncomputable abbrev p8 : Tpl := ⟨[⟨0, false, [.ptr 500001 0]⟩, ⟨1, false, [.d (.int .i64)]⟩, ⟨2, false, [.d (.int .i64)]⟩, ⟨7, false, [.row 3000000]⟩, ⟨8, false, [.d (.int .i64)]⟩, ⟨9, false, [.d (.int .i64)]⟩], [(500001, .box [.d (.sl (.int .u8)), .d (.int .i64)]), (3000000, .row 48 false (.prod (.int .i64) (.prod (.int .i64) (.prod (.int .i64) (.last (.int .i64))))))]⟩
noncomputable def T8 : List Item := (find 8 c0 []).getD []
noncomputable abbrev PI := Int × Int × (List Int) × Int × Unit
noncomputable abbrev PO := (List (Int × Int × Int × Int)) × (List Int) × Int × Unit
noncomputable abbrev P3 := Int × Int × Int × (List Int) × Int × (List (Int × Int × Int × Int)) × Unit
noncomputable abbrev P8 := Int × Int × Int × Int × (List Int) × Int × (List (Int × Int × Int × Int)) × Unit
noncomputable abbrev rs : List ResultVar := [.tmp 6]
noncomputable def F0 (J3 : P3 → Option PO) (Gspec_l40Rd_pick : spec_l40Rd_pick.PI → Option spec_l40Rd_pick.PO) (x1 : Int) (x2 : Int) (c1_0 : List Int) (c1_1 : Int) : Option PO :=
  Option.bind (Gspec_l40Rd_pick (7, c1_0, c1_1, ())) fun y0 =>
  J3 (x1, x2, wI (2 + y0.1), y0.2.1, y0.2.2.1, ([] : List (Int × Int × Int × Int)), ())
noncomputable def F3 (J8 : P8 → Option PO) (Gspec_l40Rd_num : spec_l40Rd_num.PI → Option spec_l40Rd_num.PO) (t1 : Int) (t2 : Int) (t8 : Int) (c1_0 : List Int) (c1_1 : Int) (r0 : List (Int × Int × Int × Int)) : Option PO :=
  bif decide (t8 > 0) then
    Option.bind (Gspec_l40Rd_num (([1, 1, 2, 3, 4, 5, 6, 7, 6, 7, 0] : List Int), c1_0, c1_1, ())) fun y1 =>
    bif decide (y1.1 ≥ 5) then
      bif t2 == 0 then
        J8 (t1, t2, t8, 3, y1.2.1, y1.2.2.1, r0, ())
      else
        J8 (t1, t2, t8, y1.1, y1.2.1, y1.2.2.1, r0, ())
    else
      J8 (t1, t2, t8, y1.1, y1.2.1, y1.2.2.1, r0, ())
  else
    some (r0, c1_0, c1_1, ())
noncomputable def F8 (J3 : P3 → Option PO) (Gspec_l20One : spec_l20One.PI → Option spec_l20One.PO) (Gspec_l40Rd_pick : spec_l40Rd_pick.PI → Option spec_l40Rd_pick.PO) (t1 : Int) (t2 : Int) (t8 : Int) (t9 : Int) (c1_0 : List Int) (c1_1 : Int) (r0 : List (Int × Int × Int × Int)) : Option PO :=
  bif (r0.length : Int) == 0 then
    Option.bind (Gspec_l40Rd_pick (t1, c1_0, c1_1, ())) fun y2 =>
    bif t1 == 0 then
      bif decide ((r0.length + ([(0, 0, 0, 0)] : List (Int × Int × Int × Int)).length) * 32 ≤ 140737488355328) then
        J3 (t1, t2, wI (t8 - 1), y2.2.1, y2.2.2.1, r0 ++ ([(0, 0, 0, 0)] : List (Int × Int × Int × Int)), ())
      else
        none
    else
      bif t9 == 0 then
        bif decide ((r0.length : Int) > 0) then
          bif decide ((r0.length + ([(0, 0, 0, 0)] : List (Int × Int × Int × Int)).length) * 32 ≤ 140737488355328) then
            J3 (t1, t2, wI (t8 - 1), y2.2.1, y2.2.2.1, r0 ++ ([(0, 0, 0, 0)] : List (Int × Int × Int × Int)), ())
          else
            none
        else
          bif decide ((r0.length + ([(1, y2.1, 0, 0)] : List (Int × Int × Int × Int)).length) * 32 ≤ 140737488355328) then
            J3 (t1, t2, wI (t8 - 1), y2.2.1, y2.2.2.1, r0 ++ ([(1, y2.1, 0, 0)] : List (Int × Int × Int × Int)), ())
          else
            none
      else
        bif decide ((r0.length + ([(1, y2.1, 0, 0)] : List (Int × Int × Int × Int)).length) * 32 ≤ 140737488355328) then
          J3 (t1, t2, wI (t8 - 1), y2.2.1, y2.2.2.1, r0 ++ ([(1, y2.1, 0, 0)] : List (Int × Int × Int × Int)), ())
        else
          none
  else
    bif decide (t9 ≤ 1) then
      Option.bind (Gspec_l40Rd_pick (t1, c1_0, c1_1, ())) fun y3 =>
      bif t1 == 0 then
        bif decide ((r0.length + ([(0, 0, 0, 0)] : List (Int × Int × Int × Int)).length) * 32 ≤ 140737488355328) then
          J3 (t1, t2, wI (t8 - 1), y3.2.1, y3.2.2.1, r0 ++ ([(0, 0, 0, 0)] : List (Int × Int × Int × Int)), ())
        else
          none
      else
        bif t9 == 0 then
          bif decide ((r0.length : Int) > 0) then
            bif decide ((r0.length + ([(0, 0, 0, 0)] : List (Int × Int × Int × Int)).length) * 32 ≤ 140737488355328) then
              J3 (t1, t2, wI (t8 - 1), y3.2.1, y3.2.2.1, r0 ++ ([(0, 0, 0, 0)] : List (Int × Int × Int × Int)), ())
            else
              none
          else
            bif decide ((r0.length + ([(1, y3.1, 0, 0)] : List (Int × Int × Int × Int)).length) * 32 ≤ 140737488355328) then
              J3 (t1, t2, wI (t8 - 1), y3.2.1, y3.2.2.1, r0 ++ ([(1, y3.1, 0, 0)] : List (Int × Int × Int × Int)), ())
            else
              none
        else
          bif decide ((r0.length + ([(1, y3.1, 0, 0)] : List (Int × Int × Int × Int)).length) * 32 ≤ 140737488355328) then
            J3 (t1, t2, wI (t8 - 1), y3.2.1, y3.2.2.1, r0 ++ ([(1, y3.1, 0, 0)] : List (Int × Int × Int × Int)), ())
          else
            none
    else
      Option.bind (Gspec_l40Rd_pick (2, c1_0, c1_1, ())) fun y4 =>
      Option.bind (Gspec_l40Rd_pick ((r0.length : Int), y4.2.1, y4.2.2.1, ())) fun y5 =>
      Option.bind (Gspec_l40Rd_pick ((r0.length : Int), y5.2.1, y5.2.2.1, ())) fun y6 =>
      Option.bind (Gspec_l20One (t9, ())) fun y7 =>
      bif y7.1 then
        bif decide (t9 ≥ 5) then
          bif decide ((r0.length + ([(t9, 0, wI ((wI ((r0.length : Int) - 1)) - (wI (y4.1 * y5.1))), wI ((wI ((r0.length : Int) - 1)) - (wI (y4.1 * y5.1))))] : List (Int × Int × Int × Int)).length) * 32 ≤ 140737488355328) then
            J3 (t1, wI (t2 - 1), wI (t8 - 1), y6.2.1, y6.2.2.1, r0 ++ ([(t9, 0, wI ((wI ((r0.length : Int) - 1)) - (wI (y4.1 * y5.1))), wI ((wI ((r0.length : Int) - 1)) - (wI (y4.1 * y5.1))))] : List (Int × Int × Int × Int)), ())
          else
            none
        else
          bif decide ((r0.length + ([(t9, 0, wI ((wI ((r0.length : Int) - 1)) - (wI (y4.1 * y5.1))), wI ((wI ((r0.length : Int) - 1)) - (wI (y4.1 * y5.1))))] : List (Int × Int × Int × Int)).length) * 32 ≤ 140737488355328) then
            J3 (t1, t2, wI (t8 - 1), y6.2.1, y6.2.2.1, r0 ++ ([(t9, 0, wI ((wI ((r0.length : Int) - 1)) - (wI (y4.1 * y5.1))), wI ((wI ((r0.length : Int) - 1)) - (wI (y4.1 * y5.1))))] : List (Int × Int × Int × Int)), ())
          else
            none
      else
        bif decide (t9 ≥ 5) then
          bif decide ((r0.length + ([(t9, 0, wI ((wI ((r0.length : Int) - 1)) - (wI (y4.1 * y5.1))), y6.1)] : List (Int × Int × Int × Int)).length) * 32 ≤ 140737488355328) then
            J3 (t1, wI (t2 - 1), wI (t8 - 1), y6.2.1, y6.2.2.1, r0 ++ ([(t9, 0, wI ((wI ((r0.length : Int) - 1)) - (wI (y4.1 * y5.1))), y6.1)] : List (Int × Int × Int × Int)), ())
          else
            none
        else
          bif decide ((r0.length + ([(t9, 0, wI ((wI ((r0.length : Int) - 1)) - (wI (y4.1 * y5.1))), y6.1)] : List (Int × Int × Int × Int)).length) * 32 ≤ 140737488355328) then
            J3 (t1, t2, wI (t8 - 1), y6.2.1, y6.2.2.1, r0 ++ ([(t9, 0, wI ((wI ((r0.length : Int) - 1)) - (wI (y4.1 * y5.1))), y6.1)] : List (Int × Int × Int × Int)), ())
          else
            none
noncomputable def hd {R : Type} (Gspec_l20One : spec_l20One.PI → Option spec_l20One.PO) (Gspec_l40Rd_num : spec_l40Rd_num.PI → Option spec_l40Rd_num.PO) (Gspec_l40Rd_pick : spec_l40Rd_pick.PI → Option spec_l40Rd_pick.PO) : Hand R := (handAt 116 [13, 39, 57, 61, 68] false ⟨2, 1, 2, spec_l40Rd_pick.pin, spec_l40Rd_pick.pout, Gspec_l40Rd_pick⟩ (handAt 114 [21] false ⟨2, 1, 2, spec_l40Rd_num.pin, spec_l40Rd_num.pout, Gspec_l40Rd_num⟩ (handAt 73 [71] true ⟨1, 1, 1, spec_l20One.pin, spec_l20One.pout, Gspec_l20One⟩ handNil)))
noncomputable def pg (Gspec_l20One : spec_l20One.PI → Option spec_l20One.PO) (Gspec_l40Rd_num : spec_l40Rd_num.PI → Option spec_l40Rd_num.PO) (Gspec_l40Rd_pick : spec_l40Rd_pick.PI → Option spec_l40Rd_pick.PO) (J3 : List Item → P3 → Option PO) (J8 : List Item → P8 → Option PO) : Prog PO := { nt := 84, np := 2, tb := tabOf tab, hd := hd Gspec_l20One Gspec_l40Rd_num Gspec_l40Rd_pick, cuts := cutsOf [(3, cut p3 J3), (8, cut p8 J8)], fin := endOf (tabOf tab) rs 2 pout }
noncomputable def q : FuncId → Bool := fun f => hasId [73] f
theorem seg0 (Gspec_l20One : spec_l20One.PI → Option spec_l20One.PO) (Gspec_l40Rd_num : spec_l40Rd_num.PI → Option spec_l40Rd_num.PO) (Gspec_l40Rd_pick : spec_l40Rd_pick.PI → Option spec_l40Rd_pick.PO) (J3 : List Item → P3 → Option PO) (J8 : List Item → P8 → Option PO) (x1 : Int) (x2 : Int) (c1_0 : List Int) (c1_1 : Int) : arun (pg Gspec_l20One Gspec_l40Rd_num Gspec_l40Rd_pick J3 J8) 5000 [.code c0] (mk pin (x1, x2, c1_0, c1_1, ())) = F0 (J3 T3) Gspec_l40Rd_pick x1 x2 c1_0 c1_1 := by kernel_rfl
theorem seg3 (Gspec_l20One : spec_l20One.PI → Option spec_l20One.PO) (Gspec_l40Rd_num : spec_l40Rd_num.PI → Option spec_l40Rd_num.PO) (Gspec_l40Rd_pick : spec_l40Rd_pick.PI → Option spec_l40Rd_pick.PO) (J3 : List Item → P3 → Option PO) (J8 : List Item → P8 → Option PO) (t1 : Int) (t2 : Int) (t8 : Int) (c1_0 : List Int) (c1_1 : Int) (r0 : List (Int × Int × Int × Int)) : arun1 (pg Gspec_l20One Gspec_l40Rd_num Gspec_l40Rd_pick J3 J8) 5000 T3 (mk p3 (t1, t2, t8, c1_0, c1_1, r0, ())) = F3 (J8 T8) Gspec_l40Rd_num t1 t2 t8 c1_0 c1_1 r0 := by kernel_rfl
theorem seg8 (Gspec_l20One : spec_l20One.PI → Option spec_l20One.PO) (Gspec_l40Rd_num : spec_l40Rd_num.PI → Option spec_l40Rd_num.PO) (Gspec_l40Rd_pick : spec_l40Rd_pick.PI → Option spec_l40Rd_pick.PO) (J3 : List Item → P3 → Option PO) (J8 : List Item → P8 → Option PO) (t1 : Int) (t2 : Int) (t8 : Int) (t9 : Int) (c1_0 : List Int) (c1_1 : Int) (r0 : List (Int × Int × Int × Int)) : arun1 (pg Gspec_l20One Gspec_l40Rd_num Gspec_l40Rd_pick J3 J8) 5000 T8 (mk p8 (t1, t2, t8, t9, c1_0, c1_1, r0, ())) = F8 (J3 T3) Gspec_l20One Gspec_l40Rd_pick t1 t2 t8 t9 c1_0 c1_1 r0 := by kernel_rfl
noncomputable def L8 (J3 : P3 → Option PO) : P8 → Option PO := fun x => F8 J3 spec_l20One.impl spec_l40Rd_pick.impl x.1 x.2.1 x.2.2.1 x.2.2.2.1 x.2.2.2.2.1 x.2.2.2.2.2.1 x.2.2.2.2.2.2.1
noncomputable def L3 : P3 → Option PO := lfp fun J3 x => F3 (L8 J3) spec_l40Rd_num.impl x.1 x.2.1 x.2.2.1 x.2.2.2.1 x.2.2.2.2.1 x.2.2.2.2.2.1
noncomputable def impl : PI → Option PO := fun x => F0 L3 spec_l40Rd_pick.impl x.1 x.2.1 x.2.2.1 x.2.2.2.1
theorem F8_le {J3 J3' : P3 → Option PO} (h3 : OLe J3 J3') {Gspec_l20One : spec_l20One.PI → Option spec_l20One.PO} {Gspec_l40Rd_pick : spec_l40Rd_pick.PI → Option spec_l40Rd_pick.PO} (t1 : Int) (t2 : Int) (t8 : Int) (t9 : Int) (c1_0 : List Int) (c1_1 : Int) (r0 : List (Int × Int × Int × Int)) : OptLe (F8 J3 Gspec_l20One Gspec_l40Rd_pick t1 t2 t8 t9 c1_0 c1_1 r0) (F8 J3' Gspec_l20One Gspec_l40Rd_pick t1 t2 t8 t9 c1_0 c1_1 r0) := by unfold F8; exact .cond (.bind (.refl _) fun _ => .cond (.cond (.of h3 _) (.refl _)) (.cond (.cond (.cond (.of h3 _) (.refl _)) (.cond (.of h3 _) (.refl _))) (.cond (.of h3 _) (.refl _)))) (.cond (.bind (.refl _) fun _ => .cond (.cond (.of h3 _) (.refl _)) (.cond (.cond (.cond (.of h3 _) (.refl _)) (.cond (.of h3 _) (.refl _))) (.cond (.of h3 _) (.refl _)))) (.bind (.refl _) fun _ => .bind (.refl _) fun _ => .bind (.refl _) fun _ => .bind (.refl _) fun _ => .cond (.cond (.cond (.of h3 _) (.refl _)) (.cond (.of h3 _) (.refl _))) (.cond (.cond (.of h3 _) (.refl _)) (.cond (.of h3 _) (.refl _)))))
theorem F3_le {J8 J8' : P8 → Option PO} (h8 : OLe J8 J8') {Gspec_l40Rd_num : spec_l40Rd_num.PI → Option spec_l40Rd_num.PO} (t1 : Int) (t2 : Int) (t8 : Int) (c1_0 : List Int) (c1_1 : Int) (r0 : List (Int × Int × Int × Int)) : OptLe (F3 J8 Gspec_l40Rd_num t1 t2 t8 c1_0 c1_1 r0) (F3 J8' Gspec_l40Rd_num t1 t2 t8 c1_0 c1_1 r0) := by unfold F3; exact .cond (.bind (.refl _) fun _ => .cond (.cond (.of h8 _) (.of h8 _)) (.of h8 _)) (.refl _)
theorem L8_eq (J3 : P3 → Option PO) (t1 : Int) (t2 : Int) (t8 : Int) (t9 : Int) (c1_0 : List Int) (c1_1 : Int) (r0 : List (Int × Int × Int × Int)) : L8 J3 (t1, t2, t8, t9, c1_0, c1_1, r0, ()) = F8 J3 spec_l20One.impl spec_l40Rd_pick.impl t1 t2 t8 t9 c1_0 c1_1 r0 := rfl
theorem L8_le {J3 J3' : P3 → Option PO} (h3 : OLe J3 J3') : OLe (L8 J3) (L8 J3') := fun x => F8_le h3 x.1 x.2.1 x.2.2.1 x.2.2.2.1 x.2.2.2.2.1 x.2.2.2.2.2.1 x.2.2.2.2.2.2.1
theorem L3_mono : OMono fun J3 (x : P3) => F3 (L8 J3) spec_l40Rd_num.impl x.1 x.2.1 x.2.2.1 x.2.2.2.1 x.2.2.2.2.1 x.2.2.2.2.2.1 := fun J J' h3 x => F3_le (L8_le h3) x.1 x.2.1 x.2.2.1 x.2.2.2.1 x.2.2.2.2.1 x.2.2.2.2.2.1
theorem L3_eq (t1 : Int) (t2 : Int) (t8 : Int) (c1_0 : List Int) (c1_1 : Int) (r0 : List (Int × Int × Int × Int)) : L3 (t1, t2, t8, c1_0, c1_1, r0, ()) = F3 (L8 (L3)) spec_l40Rd_num.impl t1 t2 t8 c1_0 c1_1 r0 := congrFun (lfp_eq (L3_mono)) _
theorem impl_eq (x1 : Int) (x2 : Int) (c1_0 : List Int) (c1_1 : Int) : impl (x1, x2, c1_0, c1_1, ()) = F0 L3 spec_l40Rd_pick.impl x1 x2 c1_0 c1_1 := rfl
theorem con : Con Tryd.prog 156 3 rs.length 2 pin pout impl := by
  refine con_of_run' (nt := 84) (c := c0) tabGood Tryd.func156 (by kernel_rfl) (by kernel_rfl) (by kernel_rfl) (by kernel_rfl) (by kernel_rfl) (by kernel_rfl) (by kernel_rfl) ?_
  intro w0 O y hnp
  generalize hPost : (fun (a' : Act) (w' : World) => ∃ μ' S' st', Rel 84 w0 O μ' S' st' a' w' ∧ endOf (tabOf tab) rs 2 pout st' = some y) = Post
  have fin : ∀ (μ : Id → Option Value) (S : Nat → Prop) (st : St) (a : Act) (w : World), Rel 84 w0 O μ S st a w → endOf (tabOf tab) rs 2 pout st = some y → Post a w := fun μ S st a w h he => by rw [← hPost]; exact ⟨μ, S, st, h, he⟩
  have hp : ∀ (J3 : List Item → P3 → Option PO), ∀ (J8 : List Item → P8 → Option PO), Parts Tryd.prog 156 (pg spec_l20One.impl spec_l40Rd_num.impl spec_l40Rd_pick.impl J3 J8) [(3, cut p3 J3), (8, cut p8 J8)] := fun J3 J8 => ⟨tab_ok tabGood rfl, (handAt_ok spec_l40Rd_pick.con (handAt_ok spec_l40Rd_num.con (handAt_ok spec_l20One.con handNil_ok))), rfl⟩
  have g8 : ∀ (J3 : P3 → Option PO), Good Tryd.prog 84 w0 O Post y T3 p3 J3 → Good Tryd.prog 84 w0 O Post y T8 p8 (L8 J3) := fun J3 h3 => good_part (hp (atT T3 J3) (atT T8 (fun _ => none))) (runOK_of (hp (atT T3 J3) (atT T8 (fun _ => none))) hnp ⟨cutOK_at h3, cutOK_at (p := p8) (T := T8) (J := fun _ => none) good_none, trivial⟩ fin) (fun x => (seg8 spec_l20One.impl spec_l40Rd_num.impl spec_l40Rd_pick.impl (atT T3 J3) (atT T8 (fun _ => none)) x.1 x.2.1 x.2.2.1 x.2.2.2.1 x.2.2.2.2.1 x.2.2.2.2.2.1 x.2.2.2.2.2.2.1).trans (by simp only [atT_self] <;> rfl))
  have g3 : Good Tryd.prog 84 w0 O Post y T3 p3 L3 := good_lfp fun J3 h3 => good_part (hp (atT T3 (fun _ => none)) (atT T8 (L8 J3))) (runOK_of (hp (atT T3 (fun _ => none)) (atT T8 (L8 J3))) hnp ⟨cutOK_at (p := p3) (T := T3) (J := fun _ => none) good_none, cutOK_at (g8 J3 h3), trivial⟩ fin) (fun x => (seg3 spec_l20One.impl spec_l40Rd_num.impl spec_l40Rd_pick.impl (atT T3 (fun _ => none)) (atT T8 (L8 J3)) x.1 x.2.1 x.2.2.1 x.2.2.2.1 x.2.2.2.2.1 x.2.2.2.2.2.1).trans (by simp only [atT_self] <;> rfl))
  exact good_first (hp (atT T3 L3) (atT T8 (fun _ => none))) (runOK_of (hp (atT T3 L3) (atT T8 (fun _ => none))) hnp ⟨cutOK_at g3, cutOK_at (p := p8) (T := T8) (J := fun _ => none) good_none, trivial⟩ fin) (fun x => (seg0 spec_l20One.impl spec_l40Rd_num.impl spec_l40Rd_pick.impl (atT T3 L3) (atT T8 (fun _ => none)) x.1 x.2.1 x.2.2.1 x.2.2.2.1).trans (by simp only [atT_self] <;> rfl))
end spec_l20Draw

/-! ### loop.example/wholecheck/spec.l20Any -/
namespace spec_l20Any
noncomputable abbrev c0 : Code := (Tryd.f115.body).getD .skip
noncomputable abbrev pin : Tpl := ⟨[⟨0, false, [.ptr 500001 0]⟩, ⟨1, false, [.d (.int .i64)]⟩, ⟨2, false, [.d (.int .i64)]⟩], [(500001, .box [.d (.sl (.int .u8)), .d (.int .i64)])]⟩
noncomputable abbrev pout : Tpl := ⟨[⟨0, false, [.row 600001]⟩, ⟨1, false, [.ptr 500001 0]⟩], [(600001, .row 48 false (.prod (.int .i64) (.prod (.int .i64) (.prod (.int .i64) (.last (.int .i64)))))), (500001, .box [.d (.sl (.int .u8)), .d (.int .i64)])]⟩
noncomputable abbrev PI := Int × Int × (List Int) × Int × Unit
noncomputable abbrev PO := (List (Int × Int × Int × Int)) × (List Int) × Int × Unit
noncomputable abbrev rs : List ResultVar := [.tmp 6]
noncomputable def F0 (Gspec_l20Draw : spec_l20Draw.PI → Option spec_l20Draw.PO) (Gspec_l40Rd_num : spec_l40Rd_num.PI → Option spec_l40Rd_num.PO) (Gspec_l40Rd_pick : spec_l40Rd_pick.PI → Option spec_l40Rd_pick.PO) (x1 : Int) (x2 : Int) (c1_0 : List Int) (c1_1 : Int) : Option PO :=
  Option.bind (Gspec_l20Draw (x1, x2, c1_0, c1_1, ())) fun y0 =>
  Option.bind (Gspec_l40Rd_pick (14, y0.2.1, y0.2.2.1, ())) fun y1 =>
  bif y1.1 == 0 then
    Option.bind (Gspec_l40Rd_pick ((y0.1.length : Int), y1.2.1, y1.2.2.1, ())) fun y2 =>
    bif inb y2.1 y0.1.length then
      Option.bind (Gspec_l40Rd_pick (4, y2.2.1, y2.2.2.1, ())) fun y3 =>
      bif y3.1 == 0 then
        Option.bind (Gspec_l40Rd_num (([(-1), 8, 2, 6] : List Int), y3.2.1, y3.2.2.1, ())) fun y4 =>
        bif inb y2.1 y0.1.length then
          some (y0.1.set y2.1.toNat (y4.1, (y0.1.getD y2.1.toNat (0, 0, 0, 0)).2), y4.2.1, y4.2.2.1, ())
        else
          none
      else
        bif y3.1 == 1 then
          Option.bind (Gspec_l40Rd_num (([x1, (-1), 1] : List Int), y3.2.1, y3.2.2.1, ())) fun y5 =>
          bif inb y2.1 y0.1.length then
            some (y0.1.set y2.1.toNat ((y0.1.getD y2.1.toNat (0, 0, 0, 0)).1, y5.1, (y0.1.getD y2.1.toNat (0, 0, 0, 0)).2.2), y5.2.1, y5.2.2.1, ())
          else
            none
        else
          bif y3.1 == 2 then
            Option.bind (Gspec_l40Rd_num (([y2.1, (-1)] : List Int), y3.2.1, y3.2.2.1, ())) fun y6 =>
            bif inb y2.1 y0.1.length then
              some (y0.1.set y2.1.toNat ((y0.1.getD y2.1.toNat (0, 0, 0, 0)).1, (y0.1.getD y2.1.toNat (0, 0, 0, 0)).2.1, y6.1, (y0.1.getD y2.1.toNat (0, 0, 0, 0)).2.2.2), y6.2.1, y6.2.2.1, ())
            else
              none
          else
            Option.bind (Gspec_l40Rd_num (([y2.1, (-1), 0] : List Int), y3.2.1, y3.2.2.1, ())) fun y7 =>
            bif inb y2.1 y0.1.length then
              some (y0.1.set y2.1.toNat ((y0.1.getD y2.1.toNat (0, 0, 0, 0)).1, (y0.1.getD y2.1.toNat (0, 0, 0, 0)).2.1, (y0.1.getD y2.1.toNat (0, 0, 0, 0)).2.2.1, y7.1), y7.2.1, y7.2.2.1, ())
            else
              none
    else
      none
  else
    some (y0.1, y1.2.1, y1.2.2.1, ())
noncomputable def hd {R : Type} (Gspec_l20Draw : spec_l20Draw.PI → Option spec_l20Draw.PO) (Gspec_l40Rd_num : spec_l40Rd_num.PI → Option spec_l40Rd_num.PO) (Gspec_l40Rd_pick : spec_l40Rd_pick.PI → Option spec_l40Rd_pick.PO) : Hand R := (handAt 156 [14] false ⟨3, 1, 2, spec_l20Draw.pin, spec_l20Draw.pout, Gspec_l20Draw⟩ (handAt 116 [16, 21, 27] false ⟨2, 1, 2, spec_l40Rd_pick.pin, spec_l40Rd_pick.pout, Gspec_l40Rd_pick⟩ (handAt 114 [32, 39, 46, 51] false ⟨2, 1, 2, spec_l40Rd_num.pin, spec_l40Rd_num.pout, Gspec_l40Rd_num⟩ handNil)))
noncomputable def pg (Gspec_l20Draw : spec_l20Draw.PI → Option spec_l20Draw.PO) (Gspec_l40Rd_num : spec_l40Rd_num.PI → Option spec_l40Rd_num.PO) (Gspec_l40Rd_pick : spec_l40Rd_pick.PI → Option spec_l40Rd_pick.PO) : Prog PO := { nt := 58, np := 3, tb := tabOf tab, hd := hd Gspec_l20Draw Gspec_l40Rd_num Gspec_l40Rd_pick, cuts := cutsOf [], fin := endOf (tabOf tab) rs 3 pout }
noncomputable def q : FuncId → Bool := fun f => hasId [] f
theorem seg0 (Gspec_l20Draw : spec_l20Draw.PI → Option spec_l20Draw.PO) (Gspec_l40Rd_num : spec_l40Rd_num.PI → Option spec_l40Rd_num.PO) (Gspec_l40Rd_pick : spec_l40Rd_pick.PI → Option spec_l40Rd_pick.PO) (x1 : Int) (x2 : Int) (c1_0 : List Int) (c1_1 : Int) : arun (pg Gspec_l20Draw Gspec_l40Rd_num Gspec_l40Rd_pick) 5000 [.code c0] (mk pin (x1, x2, c1_0, c1_1, ())) = F0 Gspec_l20Draw Gspec_l40Rd_num Gspec_l40Rd_pick x1 x2 c1_0 c1_1 := by kernel_rfl
noncomputable def impl : PI → Option PO := fun x => F0 spec_l20Draw.impl spec_l40Rd_num.impl spec_l40Rd_pick.impl x.1 x.2.1 x.2.2.1 x.2.2.2.1
theorem impl_eq (x1 : Int) (x2 : Int) (c1_0 : List Int) (c1_1 : Int) : impl (x1, x2, c1_0, c1_1, ()) = F0 spec_l20Draw.impl spec_l40Rd_num.impl spec_l40Rd_pick.impl x1 x2 c1_0 c1_1 := rfl
theorem con : Con Tryd.prog 115 3 rs.length 3 pin pout impl := by
  refine con_of_run' (nt := 58) (c := c0) tabGood Tryd.func115 (by kernel_rfl) (by kernel_rfl) (by kernel_rfl) (by kernel_rfl) (by kernel_rfl) (by kernel_rfl) (by kernel_rfl) ?_
  intro w0 O y hnp
  generalize hPost : (fun (a' : Act) (w' : World) => ∃ μ' S' st', Rel 58 w0 O μ' S' st' a' w' ∧ endOf (tabOf tab) rs 3 pout st' = some y) = Post
  have fin : ∀ (μ : Id → Option Value) (S : Nat → Prop) (st : St) (a : Act) (w : World), Rel 58 w0 O μ S st a w → endOf (tabOf tab) rs 3 pout st = some y → Post a w := fun μ S st a w h he => by rw [← hPost]; exact ⟨μ, S, st, h, he⟩
  have hp : Parts Tryd.prog 115 (pg spec_l20Draw.impl spec_l40Rd_num.impl spec_l40Rd_pick.impl) [] := ⟨tab_ok tabGood rfl, (handAt_ok spec_l20Draw.con (handAt_ok spec_l40Rd_pick.con (handAt_ok spec_l40Rd_num.con handNil_ok))), rfl⟩
  exact good_first (hp) (runOK_of (hp) hnp trivial fin) (fun x => (seg0 spec_l20Draw.impl spec_l40Rd_num.impl spec_l40Rd_pick.impl x.1 x.2.1 x.2.2.1 x.2.2.2.1))
end spec_l20Any

/-! ### loop.example/wholecheck/spec.DrawTimesValid -/
namespace spec_DrawTimesValid
noncomputable abbrev c0 : Code := (Tryd.f67.body).getD .skip
noncomputable abbrev pin : Tpl := ⟨[⟨0, false, [.d (.sl (.int .u8))]⟩], []⟩
noncomputable abbrev pout : Tpl := ⟨[⟨0, false, [.row 600001]⟩, ⟨1, false, [.d (.int .i64)]⟩], [(600001, .row 48 false (.prod (.int .i64) (.prod (.int .i64) (.prod (.int .i64) (.last (.int .i64))))))]⟩
noncomputable abbrev PI := (List Int) × Unit
noncomputable abbrev PO := Int × (List (Int × Int × Int × Int)) × Unit
noncomputable abbrev rs : List ResultVar := [.tmp 2, .tmp 3]
noncomputable def F0 (Gspec_l20Any : spec_l20Any.PI → Option spec_l20Any.PO) (Gspec_l40Open : spec_l40Open.PI → Option spec_l40Open.PO) (Gspec_l40Rd_num : spec_l40Rd_num.PI → Option spec_l40Rd_num.PO) (Gspec_l40Rd_pick : spec_l40Rd_pick.PI → Option spec_l40Rd_pick.PO) (x0 : List Int) : Option PO :=
  Option.bind (Gspec_l40Open (x0, ())) fun y0 =>
  Option.bind (Gspec_l40Rd_num (([1, 2, 3, 0, 4] : List Int), y0.1, y0.2.1, ())) fun y1 =>
  Option.bind (Gspec_l20Any (y1.1, 4, y1.2.1, y1.2.2.1, ())) fun y2 =>
  Option.bind (Gspec_l40Rd_pick (30, y2.2.1, y2.2.2.1, ())) fun y3 =>
  bif y3.1 == 0 then
    Option.bind (Gspec_l40Rd_num (([5, (-1)] : List Int), y3.2.1, y3.2.2.1, ())) fun y4 =>
    some (y4.1, y2.1, ())
  else
    some (y1.1, y2.1, ())
noncomputable def hd {R : Type} (Gspec_l20Any : spec_l20Any.PI → Option spec_l20Any.PO) (Gspec_l40Open : spec_l40Open.PI → Option spec_l40Open.PO) (Gspec_l40Rd_num : spec_l40Rd_num.PI → Option spec_l40Rd_num.PO) (Gspec_l40Rd_pick : spec_l40Rd_pick.PI → Option spec_l40Rd_pick.PO) : Hand R := (handAt 116 [16] false ⟨2, 1, 2, spec_l40Rd_pick.pin, spec_l40Rd_pick.pout, Gspec_l40Rd_pick⟩ (handAt 115 [14] false ⟨3, 1, 3, spec_l20Any.pin, spec_l20Any.pout, Gspec_l20Any⟩ (handAt 114 [11, 20] false ⟨2, 1, 2, spec_l40Rd_num.pin, spec_l40Rd_num.pout, Gspec_l40Rd_num⟩ (handAt 113 [8] false ⟨1, 1, 0, spec_l40Open.pin, spec_l40Open.pout, Gspec_l40Open⟩ handNil))))
noncomputable def pg (Gspec_l20Any : spec_l20Any.PI → Option spec_l20Any.PO) (Gspec_l40Open : spec_l40Open.PI → Option spec_l40Open.PO) (Gspec_l40Rd_num : spec_l40Rd_num.PI → Option spec_l40Rd_num.PO) (Gspec_l40Rd_pick : spec_l40Rd_pick.PI → Option spec_l40Rd_pick.PO) : Prog PO := { nt := 23, np := 1, tb := tabOf tab, hd := hd Gspec_l20Any Gspec_l40Open Gspec_l40Rd_num Gspec_l40Rd_pick, cuts := cutsOf [], fin := endOf (tabOf tab) rs 1 pout }
noncomputable def q : FuncId → Bool := fun f => hasId [] f
theorem seg0 (Gspec_l20Any : spec_l20Any.PI → Option spec_l20Any.PO) (Gspec_l40Open : spec_l40Open.PI → Option spec_l40Open.PO) (Gspec_l40Rd_num : spec_l40Rd_num.PI → Option spec_l40Rd_num.PO) (Gspec_l40Rd_pick : spec_l40Rd_pick.PI → Option spec_l40Rd_pick.PO) (x0 : List Int) : arun (pg Gspec_l20Any Gspec_l40Open Gspec_l40Rd_num Gspec_l40Rd_pick) 5000 [.code c0] (mk pin (x0, ())) = F0 Gspec_l20Any Gspec_l40Open Gspec_l40Rd_num Gspec_l40Rd_pick x0 := by kernel_rfl
noncomputable def impl : PI → Option PO := fun x => F0 spec_l20Any.impl spec_l40Open.impl spec_l40Rd_num.impl spec_l40Rd_pick.impl x.1
theorem impl_eq (x0 : List Int) : impl (x0, ()) = F0 spec_l20Any.impl spec_l40Open.impl spec_l40Rd_num.impl spec_l40Rd_pick.impl x0 := rfl
theorem con : Con Tryd.prog 67 1 rs.length 1 pin pout impl := by
  refine con_of_run' (nt := 23) (c := c0) tabGood Tryd.func67 (by kernel_rfl) (by kernel_rfl) (by kernel_rfl) (by kernel_rfl) (by kernel_rfl) (by kernel_rfl) (by kernel_rfl) ?_
  intro w0 O y hnp
  generalize hPost : (fun (a' : Act) (w' : World) => ∃ μ' S' st', Rel 23 w0 O μ' S' st' a' w' ∧ endOf (tabOf tab) rs 1 pout st' = some y) = Post
  have fin : ∀ (μ : Id → Option Value) (S : Nat → Prop) (st : St) (a : Act) (w : World), Rel 23 w0 O μ S st a w → endOf (tabOf tab) rs 1 pout st = some y → Post a w := fun μ S st a w h he => by rw [← hPost]; exact ⟨μ, S, st, h, he⟩
  have hp : Parts Tryd.prog 67 (pg spec_l20Any.impl spec_l40Open.impl spec_l40Rd_num.impl spec_l40Rd_pick.impl) [] := ⟨tab_ok tabGood rfl, (handAt_ok spec_l40Rd_pick.con (handAt_ok spec_l20Any.con (handAt_ok spec_l40Rd_num.con (handAt_ok spec_l40Open.con handNil_ok)))), rfl⟩
  exact good_first (hp) (runOK_of (hp) hnp trivial fin) (fun x => (seg0 spec_l20Any.impl spec_l40Open.impl spec_l40Rd_num.impl spec_l40Rd_pick.impl x.1))
end spec_DrawTimesValid

/-! ### loop.example/wholecheck/spec.DrawPushed -/
namespace spec_DrawPushed
noncomputable abbrev c0 : Code := (Tryd.f21.body).getD .skip
noncomputable abbrev pin : Tpl := ⟨[⟨0, false, [.d (.sl (.int .u8))]⟩], []⟩
noncomputable abbrev pout : Tpl := ⟨[⟨0, false, [.row 600001]⟩, ⟨1, false, [.d (.int .i64)]⟩], [(600001, .row 48 false (.prod (.int .i64) (.prod (.int .i64) (.prod (.int .i64) (.last (.int .i64))))))]⟩
noncomputable abbrev PI := (List Int) × Unit
noncomputable abbrev PO := Int × (List (Int × Int × Int × Int)) × Unit
noncomputable abbrev rs : List ResultVar := [.tmp 2, .tmp 3]
noncomputable def F0 (Gspec_DrawTimesValid : spec_DrawTimesValid.PI → Option spec_DrawTimesValid.PO) (x0 : List Int) : Option PO :=
  Option.bind (Gspec_DrawTimesValid (x0, ())) fun y0 =>
  some (y0.1, y0.2.1, ())
noncomputable def hd {R : Type} (Gspec_DrawTimesValid : spec_DrawTimesValid.PI → Option spec_DrawTimesValid.PO) : Hand R := (handAt 67 [5] true ⟨1, 2, 1, spec_DrawTimesValid.pin, spec_DrawTimesValid.pout, Gspec_DrawTimesValid⟩ handNil)
noncomputable def pg (Gspec_DrawTimesValid : spec_DrawTimesValid.PI → Option spec_DrawTimesValid.PO) : Prog PO := { nt := 8, np := 1, tb := tabOf tab, hd := hd Gspec_DrawTimesValid, cuts := cutsOf [], fin := endOf (tabOf tab) rs 1 pout }
noncomputable def q : FuncId → Bool := fun f => hasId [] f
theorem seg0 (Gspec_DrawTimesValid : spec_DrawTimesValid.PI → Option spec_DrawTimesValid.PO) (x0 : List Int) : arun (pg Gspec_DrawTimesValid) 5000 [.code c0] (mk pin (x0, ())) = F0 Gspec_DrawTimesValid x0 := by kernel_rfl
noncomputable def impl : PI → Option PO := fun x => F0 spec_DrawTimesValid.impl x.1
theorem impl_eq (x0 : List Int) : impl (x0, ()) = F0 spec_DrawTimesValid.impl x0 := rfl
theorem con : Con Tryd.prog 21 1 rs.length 1 pin pout impl := by
  refine con_of_run' (nt := 8) (c := c0) tabGood Tryd.func21 (by kernel_rfl) (by kernel_rfl) (by kernel_rfl) (by kernel_rfl) (by kernel_rfl) (by kernel_rfl) (by kernel_rfl) ?_
  intro w0 O y hnp
  generalize hPost : (fun (a' : Act) (w' : World) => ∃ μ' S' st', Rel 8 w0 O μ' S' st' a' w' ∧ endOf (tabOf tab) rs 1 pout st' = some y) = Post
  have fin : ∀ (μ : Id → Option Value) (S : Nat → Prop) (st : St) (a : Act) (w : World), Rel 8 w0 O μ S st a w → endOf (tabOf tab) rs 1 pout st = some y → Post a w := fun μ S st a w h he => by rw [← hPost]; exact ⟨μ, S, st, h, he⟩
  have hp : Parts Tryd.prog 21 (pg spec_DrawTimesValid.impl) [] := ⟨tab_ok tabGood rfl, (handAt_ok spec_DrawTimesValid.con handNil_ok), rfl⟩
  exact good_first (hp) (runOK_of (hp) hnp trivial fin) (fun x => (seg0 spec_DrawTimesValid.impl x.1))
end spec_DrawPushed

/-! ### loop.example/wholecheck/impl.in -/
namespace impl_in
noncomputable abbrev c0 : Code := (Tryd.f61.body).getD .skip
noncomputable abbrev pin : Tpl := ⟨[⟨0, false, [.d (.int .i64)]⟩, ⟨1, false, [.d (.int .i64)]⟩, ⟨2, false, [.d (.int .i64)]⟩], []⟩
noncomputable abbrev pout : Tpl := ⟨[⟨0, false, [.d .bool]⟩], []⟩
noncomputable abbrev PI := Int × Int × Int × Unit
noncomputable abbrev PO := Bool × Unit
noncomputable abbrev rs : List ResultVar := [.tmp 6]
noncomputable def F0 (x0 : Int) (x1 : Int) (x2 : Int) : Option PO :=
  bif decide (x0 ≥ x1) then
    some (decide (x0 ≤ x2), ())
  else
    some (false, ())
noncomputable def hd {R : Type} : Hand R := handNil
noncomputable def pg : Prog PO := { nt := 15, np := 3, tb := tabOf tab, hd := hd, cuts := cutsOf [], fin := endOf (tabOf tab) rs 3 pout }
noncomputable def q : FuncId → Bool := fun f => hasId [] f
theorem seg0 (x0 : Int) (x1 : Int) (x2 : Int) : arun (pg) 5000 [.code c0] (mk pin (x0, x1, x2, ())) = F0 x0 x1 x2 := by kernel_rfl
noncomputable def impl : PI → Option PO := fun x => F0 x.1 x.2.1 x.2.2.1
theorem impl_eq (x0 : Int) (x1 : Int) (x2 : Int) : impl (x0, x1, x2, ()) = F0 x0 x1 x2 := rfl
theorem con : Con Tryd.prog 61 3 rs.length 3 pin pout impl := by
  refine con_of_run' (nt := 15) (c := c0) tabGood Tryd.func61 (by kernel_rfl) (by kernel_rfl) (by kernel_rfl) (by kernel_rfl) (by kernel_rfl) (by kernel_rfl) (by kernel_rfl) ?_
  intro w0 O y hnp
  generalize hPost : (fun (a' : Act) (w' : World) => ∃ μ' S' st', Rel 15 w0 O μ' S' st' a' w' ∧ endOf (tabOf tab) rs 3 pout st' = some y) = Post
  have fin : ∀ (μ : Id → Option Value) (S : Nat → Prop) (st : St) (a : Act) (w : World), Rel 15 w0 O μ S st a w → endOf (tabOf tab) rs 3 pout st = some y → Post a w := fun μ S st a w h he => by rw [← hPost]; exact ⟨μ, S, st, h, he⟩
  have hp : Parts Tryd.prog 61 (pg) [] := ⟨tab_ok tabGood rfl, handNil_ok, rfl⟩
  exact good_first (hp) (runOK_of (hp) hnp trivial fin) (fun x => (seg0 x.1 x.2.1 x.2.2.1))
end impl_in

/-! ### loop.example/wholecheck/impl.TimesValid -/
namespace impl_TimesValid
noncomputable abbrev c0 : Code := (Tryd.f26.body).getD .skip
noncomputable abbrev pin : Tpl := ⟨[⟨0, false, [.d (.sl (.prod (.int .i64) (.prod (.int .i64) (.prod (.int .i64) (.last (.int .i64))))))]⟩, ⟨1, false, [.d (.int .i64)]⟩], []⟩
noncomputable abbrev pout : Tpl := ⟨[⟨0, false, [.d .bool]⟩], []⟩
noncomputable abbrev p3 : Tpl := ⟨[⟨0, false, [.d (.sl (.prod (.int .i64) (.prod (.int .i64) (.prod (.int .i64) (.last (.int .i64))))))]⟩, ⟨1, false, [.d (.int .i64)]⟩], []⟩
noncomputable def T3 : List Item := (find 3 c0 []).getD []
noncomputable abbrev p4 : Tpl := ⟨[⟨1, false, [.d (.int .i64)]⟩, ⟨17, false, [.d (.sl (.prod (.int .i64) (.prod (.int .i64) (.prod (.int .i64) (.last (.int .i64))))))]⟩, ⟨18, false, [.d (.int .i64)]⟩, ⟨19, false, [.d (.int .i64)]⟩], []⟩
noncomputable def T4 : List Item := (find 4 c0 []).getD []
noncomputable abbrev PI := (List (Int × Int × Int × Int)) × Int × Unit
noncomputable abbrev PO := Bool × Unit
noncomputable abbrev P3 := (List (Int × Int × Int × Int)) × Int × Unit
noncomputable abbrev P4 := Int × (List (Int × Int × Int × Int)) × Int × Int × Unit
noncomputable abbrev rs : List ResultVar := [.tmp 4]
noncomputable def F0 (J3 : P3 → Option PO) (Gimpl_in : impl_in.PI → Option impl_in.PO) (x0 : List (Int × Int × Int × Int)) (x1 : Int) : Option PO :=
  Option.bind (Gimpl_in (x1, 0, 4, ())) fun y0 =>
  bif !y0.1 then
    some (false, ())
  else
    Option.bind (Gimpl_in ((x0.length : Int), 1, 24, ())) fun y1 =>
    bif !y1.1 then
      some (false, ())
    else
      J3 (x0, x1, ())
noncomputable def F3 (J4 : P4 → Option PO) (t0 : List (Int × Int × Int × Int)) (t1 : Int) : Option PO :=
  J4 (t1, t0, (t0.length : Int), 0, ())
noncomputable def F4 (J4 : P4 → Option PO) (Gimpl_in : impl_in.PI → Option impl_in.PO) (t1 : Int) (t17 : List (Int × Int × Int × Int)) (t18 : Int) (t19 : Int) : Option PO :=
  bif decide (t19 < t18) then
    bif inb t19 t17.length then
      Option.bind (Gimpl_in ((t17.getD t19.toNat (0, 0, 0, 0)).1, 0, 7, ())) fun y2 =>
      bif (t17.getD t19.toNat (0, 0, 0, 0)).1 == 0 then
        bif !(((t17.getD t19.toNat (0, 0, 0, 0)).1 == 0) && (((t17.getD t19.toNat (0, 0, 0, 0)).2.1 == 0) && (((t17.getD t19.toNat (0, 0, 0, 0)).2.2.1 == 0) && ((t17.getD t19.toNat (0, 0, 0, 0)).2.2.2 == 0)))) then
          some (false, ())
        else
          J4 (t1, t17, t18, wI (t19 + 1), ())
      else
        bif (t17.getD t19.toNat (0, 0, 0, 0)).1 == 1 then
          Option.bind (Gimpl_in ((t17.getD t19.toNat (0, 0, 0, 0)).2.1, 0, wI (t1 - 1), ())) fun y3 =>
          bif y3.1 then
            bif (t17.getD t19.toNat (0, 0, 0, 0)).2.2.1 == 0 then
              bif !((t17.getD t19.toNat (0, 0, 0, 0)).2.2.2 == 0) then
                some (false, ())
              else
                J4 (t1, t17, t18, wI (t19 + 1), ())
            else
              some (false, ())
          else
            some (false, ())
        else
          bif y2.1 then
            bif (t17.getD t19.toNat (0, 0, 0, 0)).2.1 == 0 then
              Option.bind (Gimpl_in ((t17.getD t19.toNat (0, 0, 0, 0)).2.2.1, 0, wI (t19 - 1), ())) fun y4 =>
              bif y4.1 then
                Option.bind (Gimpl_in ((t17.getD t19.toNat (0, 0, 0, 0)).2.2.2, 0, wI (t19 - 1), ())) fun y5 =>
                bif y5.1 then
                  bif (t17.getD t19.toNat (0, 0, 0, 0)).2.2.1 == (t17.getD t19.toNat (0, 0, 0, 0)).2.2.2 then
                    J4 (t1, t17, t18, wI (t19 + 1), ())
                  else
                    bif (t17.getD t19.toNat (0, 0, 0, 0)).1 != 2 then
                      bif !((t17.getD t19.toNat (0, 0, 0, 0)).1 != 5) then
                        some (false, ())
                      else
                        J4 (t1, t17, t18, wI (t19 + 1), ())
                    else
                      some (false, ())
                else
                  some (false, ())
              else
                some (false, ())
            else
              some (false, ())
          else
            some (false, ())
    else
      none
  else
    some (true, ())
noncomputable def hd {R : Type} (Gimpl_in : impl_in.PI → Option impl_in.PO) : Hand R := (handAt 61 [9, 14, 26, 40, 47, 77] true ⟨3, 1, 3, impl_in.pin, impl_in.pout, Gimpl_in⟩ handNil)
noncomputable def pg (Gimpl_in : impl_in.PI → Option impl_in.PO) (J3 : List Item → P3 → Option PO) (J4 : List Item → P4 → Option PO) : Prog PO := { nt := 91, np := 2, tb := tabOf tab, hd := hd Gimpl_in, cuts := cutsOf [(3, cut p3 J3), (4, cut p4 J4)], fin := endOf (tabOf tab) rs 2 pout }
noncomputable def q : FuncId → Bool := fun f => hasId [61] f
theorem seg0 (Gimpl_in : impl_in.PI → Option impl_in.PO) (J3 : List Item → P3 → Option PO) (J4 : List Item → P4 → Option PO) (x0 : List (Int × Int × Int × Int)) (x1 : Int) : arun (pg Gimpl_in J3 J4) 5000 [.code c0] (mk pin (x0, x1, ())) = F0 (J3 T3) Gimpl_in x0 x1 := by kernel_rfl
theorem seg3 (Gimpl_in : impl_in.PI → Option impl_in.PO) (J3 : List Item → P3 → Option PO) (J4 : List Item → P4 → Option PO) (t0 : List (Int × Int × Int × Int)) (t1 : Int) : arun1 (pg Gimpl_in J3 J4) 5000 T3 (mk p3 (t0, t1, ())) = F3 (J4 T4) t0 t1 := by kernel_rfl
theorem seg4 (Gimpl_in : impl_in.PI → Option impl_in.PO) (J3 : List Item → P3 → Option PO) (J4 : List Item → P4 → Option PO) (t1 : Int) (t17 : List (Int × Int × Int × Int)) (t18 : Int) (t19 : Int) : arun1 (pg Gimpl_in J3 J4) 5000 T4 (mk p4 (t1, t17, t18, t19, ())) = F4 (J4 T4) Gimpl_in t1 t17 t18 t19 := by kernel_rfl
noncomputable def L4 : P4 → Option PO := lfp fun J4 x => F4 J4 impl_in.impl x.1 x.2.1 x.2.2.1 x.2.2.2.1
noncomputable def L3 : P3 → Option PO := fun x => F3 L4 x.1 x.2.1
noncomputable def impl : PI → Option PO := fun x => F0 L3 impl_in.impl x.1 x.2.1
theorem F4_le {J4 J4' : P4 → Option PO} (h4 : OLe J4 J4') {Gimpl_in : impl_in.PI → Option impl_in.PO} (t1 : Int) (t17 : List (Int × Int × Int × Int)) (t18 : Int) (t19 : Int) : OptLe (F4 J4 Gimpl_in t1 t17 t18 t19) (F4 J4' Gimpl_in t1 t17 t18 t19) := by unfold F4; exact .cond (.cond (.bind (.refl _) fun _ => .cond (.cond (.refl _) (.of h4 _)) (.cond (.bind (.refl _) fun _ => .cond (.cond (.cond (.refl _) (.of h4 _)) (.refl _)) (.refl _)) (.cond (.cond (.bind (.refl _) fun _ => .cond (.bind (.refl _) fun _ => .cond (.cond (.of h4 _) (.cond (.cond (.refl _) (.of h4 _)) (.refl _))) (.refl _)) (.refl _)) (.refl _)) (.refl _)))) (.refl _)) (.refl _)
theorem L4_mono : OMono fun J4 (x : P4) => F4 J4 impl_in.impl x.1 x.2.1 x.2.2.1 x.2.2.2.1 := fun J J' h4 x => F4_le h4 x.1 x.2.1 x.2.2.1 x.2.2.2.1
theorem L4_eq (t1 : Int) (t17 : List (Int × Int × Int × Int)) (t18 : Int) (t19 : Int) : L4 (t1, t17, t18, t19, ()) = F4 (L4) impl_in.impl t1 t17 t18 t19 := congrFun (lfp_eq (L4_mono)) _
theorem L3_eq (t0 : List (Int × Int × Int × Int)) (t1 : Int) : L3 (t0, t1, ()) = F3 (L4) t0 t1 := rfl
theorem impl_eq (x0 : List (Int × Int × Int × Int)) (x1 : Int) : impl (x0, x1, ()) = F0 L3 impl_in.impl x0 x1 := rfl
theorem con : Con Tryd.prog 26 2 rs.length 2 pin pout impl := by
  refine con_of_run' (nt := 91) (c := c0) tabGood Tryd.func26 (by kernel_rfl) (by kernel_rfl) (by kernel_rfl) (by kernel_rfl) (by kernel_rfl) (by kernel_rfl) (by kernel_rfl) ?_
  intro w0 O y hnp
  generalize hPost : (fun (a' : Act) (w' : World) => ∃ μ' S' st', Rel 91 w0 O μ' S' st' a' w' ∧ endOf (tabOf tab) rs 2 pout st' = some y) = Post
  have fin : ∀ (μ : Id → Option Value) (S : Nat → Prop) (st : St) (a : Act) (w : World), Rel 91 w0 O μ S st a w → endOf (tabOf tab) rs 2 pout st = some y → Post a w := fun μ S st a w h he => by rw [← hPost]; exact ⟨μ, S, st, h, he⟩
  have hp : ∀ (J3 : List Item → P3 → Option PO), ∀ (J4 : List Item → P4 → Option PO), Parts Tryd.prog 26 (pg impl_in.impl J3 J4) [(3, cut p3 J3), (4, cut p4 J4)] := fun J3 J4 => ⟨tab_ok tabGood rfl, (handAt_ok impl_in.con handNil_ok), rfl⟩
  have g4 : Good Tryd.prog 91 w0 O Post y T4 p4 L4 := good_lfp fun J4 h4 => good_part (hp (atT T3 (fun _ => none)) (atT T4 J4)) (runOK_of (hp (atT T3 (fun _ => none)) (atT T4 J4)) hnp ⟨cutOK_at (p := p3) (T := T3) (J := fun _ => none) good_none, cutOK_at h4, trivial⟩ fin) (fun x => (seg4 impl_in.impl (atT T3 (fun _ => none)) (atT T4 J4) x.1 x.2.1 x.2.2.1 x.2.2.2.1).trans (by simp only [atT_self] <;> rfl))
  have g3 : Good Tryd.prog 91 w0 O Post y T3 p3 L3 := good_part (hp (atT T3 (fun _ => none)) (atT T4 L4)) (runOK_of (hp (atT T3 (fun _ => none)) (atT T4 L4)) hnp ⟨cutOK_at (p := p3) (T := T3) (J := fun _ => none) good_none, cutOK_at g4, trivial⟩ fin) (fun x => (seg3 impl_in.impl (atT T3 (fun _ => none)) (atT T4 L4) x.1 x.2.1).trans (by simp only [atT_self] <;> rfl))
  exact good_first (hp (atT T3 L3) (atT T4 (fun _ => none))) (runOK_of (hp (atT T3 L3) (atT T4 (fun _ => none))) hnp ⟨cutOK_at g3, cutOK_at (p := p4) (T := T4) (J := fun _ => none) good_none, trivial⟩ fin) (fun x => (seg0 impl_in.impl (atT T3 L3) (atT T4 (fun _ => none)) x.1 x.2.1).trans (by simp only [atT_self] <;> rfl))
end impl_TimesValid

/-! ### slices.Index[[]loop.example/wholecheck/impl.Time,loop.example/wholecheck/impl.Time] -/
namespace slices_Index_of
noncomputable abbrev c0 : Code := (Tryd.f157.body).getD .skip
noncomputable abbrev pin : Tpl := ⟨[⟨0, false, [.d (.sl (.prod (.int .i64) (.prod (.int .i64) (.prod (.int .i64) (.last (.int .i64))))))]⟩, ⟨1, true, [.d (.prod (.int .i64) (.prod (.int .i64) (.prod (.int .i64) (.last (.int .i64)))))]⟩], []⟩
noncomputable abbrev pout : Tpl := ⟨[⟨0, false, [.d (.int .i64)]⟩], []⟩
noncomputable abbrev p2 : Tpl := ⟨[⟨0, false, [.d (.sl (.prod (.int .i64) (.prod (.int .i64) (.prod (.int .i64) (.last (.int .i64))))))]⟩, ⟨3, false, [.ptr 3000000 0]⟩, ⟨7, false, [.d (.int .i64)]⟩, ⟨8, false, [.d (.int .i64)]⟩], [(3000000, .box [.d (.int .i64), .d (.int .i64), .d (.int .i64), .d (.int .i64)])]⟩
noncomputable def T2 : List Item := (find 2 c0 []).getD []
noncomputable abbrev p4 : Tpl := ⟨[⟨0, false, [.d (.sl (.prod (.int .i64) (.prod (.int .i64) (.prod (.int .i64) (.last (.int .i64))))))]⟩, ⟨3, false, [.ptr 3000000 0]⟩, ⟨5, false, [.d (.int .i64)]⟩, ⟨7, false, [.d (.int .i64)]⟩, ⟨8, false, [.d (.int .i64)]⟩], [(3000000, .box [.d (.int .i64), .d (.int .i64), .d (.int .i64), .d (.int .i64)])]⟩
noncomputable def T4 : List Item := (find 4 c0 []).getD []
noncomputable abbrev PI := (List (Int × Int × Int × Int)) × (Int × Int × Int × Int) × Unit
noncomputable abbrev PO := Int × Unit
noncomputable abbrev P2 := (List (Int × Int × Int × Int)) × Int × Int × Int × Int × Int × Int × Unit
noncomputable abbrev P4 := (List (Int × Int × Int × Int)) × Int × Int × Int × Int × Int × Int × Int × Unit
noncomputable abbrev rs : List ResultVar := [.tmp 4]
noncomputable def F0 (J2 : P2 → Option PO) (x0 : List (Int × Int × Int × Int)) (x1 : Int × Int × Int × Int) : Option PO :=
  J2 (x0, (x0.length : Int), 0, x1.1, x1.2.1, x1.2.2.1, x1.2.2.2, ())
noncomputable def F2 (J4 : P4 → Option PO) (t0 : List (Int × Int × Int × Int)) (t7 : Int) (t8 : Int) (b0_0 : Int) (b0_1 : Int) (b0_2 : Int) (b0_3 : Int) : Option PO :=
  bif decide (t8 < t7) then
    J4 (t0, t8, t7, t8, b0_0, b0_1, b0_2, b0_3, ())
  else
    some ((-1), ())
noncomputable def F4 (J2 : P2 → Option PO) (t0 : List (Int × Int × Int × Int)) (t5 : Int) (t7 : Int) (t8 : Int) (b0_0 : Int) (b0_1 : Int) (b0_2 : Int) (b0_3 : Int) : Option PO :=
  bif inb t5 t0.length then
    bif ((b0_0 == (t0.getD t5.toNat (0, 0, 0, 0)).1) && ((b0_1 == (t0.getD t5.toNat (0, 0, 0, 0)).2.1) && ((b0_2 == (t0.getD t5.toNat (0, 0, 0, 0)).2.2.1) && (b0_3 == (t0.getD t5.toNat (0, 0, 0, 0)).2.2.2)))) then
      some (t5, ())
    else
      J2 (t0, t7, wI (t8 + 1), b0_0, b0_1, b0_2, b0_3, ())
  else
    none
noncomputable def hd {R : Type} : Hand R := handNil
noncomputable def pg (J2 : List Item → P2 → Option PO) (J4 : List Item → P4 → Option PO) : Prog PO := { nt := 19, np := 2, tb := tabOf tab, hd := hd, cuts := cutsOf [(2, cut p2 J2), (4, cut p4 J4)], fin := endOf (tabOf tab) rs 2 pout }
noncomputable def q : FuncId → Bool := fun f => hasId [] f
theorem seg0 (J2 : List Item → P2 → Option PO) (J4 : List Item → P4 → Option PO) (x0 : List (Int × Int × Int × Int)) (x1 : Int × Int × Int × Int) : arun (pg J2 J4) 5000 [.code c0] (mk pin (x0, x1, ())) = F0 (J2 T2) x0 x1 := by kernel_rfl
theorem seg2 (J2 : List Item → P2 → Option PO) (J4 : List Item → P4 → Option PO) (t0 : List (Int × Int × Int × Int)) (t7 : Int) (t8 : Int) (b0_0 : Int) (b0_1 : Int) (b0_2 : Int) (b0_3 : Int) : arun1 (pg J2 J4) 5000 T2 (mk p2 (t0, t7, t8, b0_0, b0_1, b0_2, b0_3, ())) = F2 (J4 T4) t0 t7 t8 b0_0 b0_1 b0_2 b0_3 := by kernel_rfl
theorem seg4 (J2 : List Item → P2 → Option PO) (J4 : List Item → P4 → Option PO) (t0 : List (Int × Int × Int × Int)) (t5 : Int) (t7 : Int) (t8 : Int) (b0_0 : Int) (b0_1 : Int) (b0_2 : Int) (b0_3 : Int) : arunQ (pg J2 J4) q [] [] 5000 T4 (mk p4 (t0, t5, t7, t8, b0_0, b0_1, b0_2, b0_3, ())) = List.replicate (arunQ (pg J2 J4) q [] [] 5000 T4 (mk p4 (t0, t5, t7, t8, b0_0, b0_1, b0_2, b0_3, ()))).length (F4 (J2 T2) t0 t5 t7 t8 b0_0 b0_1 b0_2 b0_3) := by kernel_rfl
noncomputable def L4 (J2 : P2 → Option PO) : P4 → Option PO := fun x => F4 J2 x.1 x.2.1 x.2.2.1 x.2.2.2.1 x.2.2.2.2.1 x.2.2.2.2.2.1 x.2.2.2.2.2.2.1 x.2.2.2.2.2.2.2.1
noncomputable def L2 : P2 → Option PO := lfp fun J2 x => F2 (L4 J2) x.1 x.2.1 x.2.2.1 x.2.2.2.1 x.2.2.2.2.1 x.2.2.2.2.2.1 x.2.2.2.2.2.2.1
noncomputable def impl : PI → Option PO := fun x => F0 L2 x.1 x.2.1
theorem F4_le {J2 J2' : P2 → Option PO} (h2 : OLe J2 J2') (t0 : List (Int × Int × Int × Int)) (t5 : Int) (t7 : Int) (t8 : Int) (b0_0 : Int) (b0_1 : Int) (b0_2 : Int) (b0_3 : Int) : OptLe (F4 J2 t0 t5 t7 t8 b0_0 b0_1 b0_2 b0_3) (F4 J2' t0 t5 t7 t8 b0_0 b0_1 b0_2 b0_3) := by unfold F4; exact .cond (.cond (.refl _) (.of h2 _)) (.refl _)
theorem F2_le {J4 J4' : P4 → Option PO} (h4 : OLe J4 J4') (t0 : List (Int × Int × Int × Int)) (t7 : Int) (t8 : Int) (b0_0 : Int) (b0_1 : Int) (b0_2 : Int) (b0_3 : Int) : OptLe (F2 J4 t0 t7 t8 b0_0 b0_1 b0_2 b0_3) (F2 J4' t0 t7 t8 b0_0 b0_1 b0_2 b0_3) := by unfold F2; exact .cond (.of h4 _) (.refl _)
theorem L4_eq (J2 : P2 → Option PO) (t0 : List (Int × Int × Int × Int)) (t5 : Int) (t7 : Int) (t8 : Int) (b0_0 : Int) (b0_1 : Int) (b0_2 : Int) (b0_3 : Int) : L4 J2 (t0, t5, t7, t8, b0_0, b0_1, b0_2, b0_3, ()) = F4 J2 t0 t5 t7 t8 b0_0 b0_1 b0_2 b0_3 := rfl
theorem L4_le {J2 J2' : P2 → Option PO} (h2 : OLe J2 J2') : OLe (L4 J2) (L4 J2') := fun x => F4_le h2 x.1 x.2.1 x.2.2.1 x.2.2.2.1 x.2.2.2.2.1 x.2.2.2.2.2.1 x.2.2.2.2.2.2.1 x.2.2.2.2.2.2.2.1
theorem L2_mono : OMono fun J2 (x : P2) => F2 (L4 J2) x.1 x.2.1 x.2.2.1 x.2.2.2.1 x.2.2.2.2.1 x.2.2.2.2.2.1 x.2.2.2.2.2.2.1 := fun J J' h2 x => F2_le (L4_le h2) x.1 x.2.1 x.2.2.1 x.2.2.2.1 x.2.2.2.2.1 x.2.2.2.2.2.1 x.2.2.2.2.2.2.1
theorem L2_eq (t0 : List (Int × Int × Int × Int)) (t7 : Int) (t8 : Int) (b0_0 : Int) (b0_1 : Int) (b0_2 : Int) (b0_3 : Int) : L2 (t0, t7, t8, b0_0, b0_1, b0_2, b0_3, ()) = F2 (L4 (L2)) t0 t7 t8 b0_0 b0_1 b0_2 b0_3 := congrFun (lfp_eq (L2_mono)) _
theorem impl_eq (x0 : List (Int × Int × Int × Int)) (x1 : Int × Int × Int × Int) : impl (x0, x1, ()) = F0 L2 x0 x1 := rfl
theorem con : Con Tryd.prog 157 2 rs.length 2 pin pout impl := by
  refine con_of_run' (nt := 19) (c := c0) tabGood Tryd.func157 (by kernel_rfl) (by kernel_rfl) (by kernel_rfl) (by kernel_rfl) (by kernel_rfl) (by kernel_rfl) (by kernel_rfl) ?_
  intro w0 O y hnp
  generalize hPost : (fun (a' : Act) (w' : World) => ∃ μ' S' st', Rel 19 w0 O μ' S' st' a' w' ∧ endOf (tabOf tab) rs 2 pout st' = some y) = Post
  have fin : ∀ (μ : Id → Option Value) (S : Nat → Prop) (st : St) (a : Act) (w : World), Rel 19 w0 O μ S st a w → endOf (tabOf tab) rs 2 pout st = some y → Post a w := fun μ S st a w h he => by rw [← hPost]; exact ⟨μ, S, st, h, he⟩
  have hp : ∀ (J2 : List Item → P2 → Option PO), ∀ (J4 : List Item → P4 → Option PO), Parts Tryd.prog 157 (pg J2 J4) [(2, cut p2 J2), (4, cut p4 J4)] := fun J2 J4 => ⟨tab_ok tabGood rfl, handNil_ok, rfl⟩
  have g4 : ∀ (J2 : P2 → Option PO), Good Tryd.prog 19 w0 O Post y T2 p2 J2 → Good Tryd.prog 19 w0 O Post y T4 p4 (L4 J2) := fun J2 h2 => good_quiet (hs := hd) (cv' := hd) (Checked.mixed Tryd.checked) (hp (atT T2 J2) (atT T4 (fun _ => none))) handNil_D handNil_nat handNil_nat (runOK_of (hp (atT T2 J2) (atT T4 (fun _ => none))) hnp ⟨cutOK_at h2, cutOK_at (p := p4) (T := T4) (J := fun _ => none) good_none, trivial⟩ fin) (fun x => all_same ⟨_, (seg4 (atT T2 J2) (atT T4 (fun _ => none)) x.1 x.2.1 x.2.2.1 x.2.2.2.1 x.2.2.2.2.1 x.2.2.2.2.2.1 x.2.2.2.2.2.2.1 x.2.2.2.2.2.2.2.1).trans (by simp only [atT_self] <;> rfl)⟩)
  have g2 : Good Tryd.prog 19 w0 O Post y T2 p2 L2 := good_lfp fun J2 h2 => good_part (hp (atT T2 (fun _ => none)) (atT T4 (L4 J2))) (runOK_of (hp (atT T2 (fun _ => none)) (atT T4 (L4 J2))) hnp ⟨cutOK_at (p := p2) (T := T2) (J := fun _ => none) good_none, cutOK_at (g4 J2 h2), trivial⟩ fin) (fun x => (seg2 (atT T2 (fun _ => none)) (atT T4 (L4 J2)) x.1 x.2.1 x.2.2.1 x.2.2.2.1 x.2.2.2.2.1 x.2.2.2.2.2.1 x.2.2.2.2.2.2.1).trans (by simp only [atT_self] <;> rfl))
  exact good_first (hp (atT T2 L2) (atT T4 (fun _ => none))) (runOK_of (hp (atT T2 L2) (atT T4 (fun _ => none))) hnp ⟨cutOK_at g2, cutOK_at (p := p4) (T := T4) (J := fun _ => none) good_none, trivial⟩ fin) (fun x => (seg0 (atT T2 L2) (atT T4 (fun _ => none)) x.1 x.2.1).trans (by simp only [atT_self] <;> rfl))
end slices_Index_of

/-! ### (*loop.example/wholecheck/impl.pushing).put -/
namespace impl_pushing_put
noncomputable abbrev c0 : Code := (Tryd.f117.body).getD .skip
noncomputable abbrev pin : Tpl := ⟨[⟨0, false, [.ptr 500001 0]⟩, ⟨1, true, [.d (.prod (.int .i64) (.prod (.int .i64) (.prod (.int .i64) (.last (.int .i64)))))]⟩], [(500001, .box [.d (.sl (.prod (.int .i64) (.prod (.int .i64) (.prod (.int .i64) (.last (.int .i64)))))), .row 500002]), (500002, .row 48 true (.prod (.int .i64) (.prod (.int .i64) (.prod (.int .i64) (.last (.int .i64))))))]⟩
noncomputable abbrev pout : Tpl := ⟨[⟨0, false, [.d (.int .i64)]⟩, ⟨1, false, [.ptr 500001 0]⟩], [(500001, .box [.d (.sl (.prod (.int .i64) (.prod (.int .i64) (.prod (.int .i64) (.last (.int .i64)))))), .row 500002]), (500002, .row 48 true (.prod (.int .i64) (.prod (.int .i64) (.prod (.int .i64) (.last (.int .i64))))))]⟩
noncomputable abbrev p1 : Tpl := ⟨[⟨0, false, [.ptr 500001 0]⟩, ⟨3, false, [.ptr 3000000 0]⟩], [(500001, .box [.d (.sl (.prod (.int .i64) (.prod (.int .i64) (.prod (.int .i64) (.last (.int .i64)))))), .row 500002]), (3000000, .box [.d (.int .i64), .d (.int .i64), .d (.int .i64), .d (.int .i64)]), (500002, .row 48 true (.prod (.int .i64) (.prod (.int .i64) (.prod (.int .i64) (.last (.int .i64))))))]⟩
noncomputable def T1 : List Item := (find 1 c0 []).getD []
noncomputable abbrev p4 : Tpl := ⟨[⟨0, false, [.ptr 500001 0]⟩, ⟨3, false, [.ptr 3000000 0]⟩], [(500001, .box [.d (.sl (.prod (.int .i64) (.prod (.int .i64) (.prod (.int .i64) (.last (.int .i64)))))), .row 500002]), (3000000, .box [.d (.int .i64), .d (.int .i64), .d (.int .i64), .d (.int .i64)]), (500002, .row 48 true (.prod (.int .i64) (.prod (.int .i64) (.prod (.int .i64) (.last (.int .i64))))))]⟩
noncomputable def T4 : List Item := (find 4 c0 []).getD []
noncomputable abbrev PI := (Int × Int × Int × Int) × (List (Int × Int × Int × Int)) × (List (Int × Int × Int × Int)) × Unit
noncomputable abbrev PO := Int × (List (Int × Int × Int × Int)) × (List (Int × Int × Int × Int)) × Unit
noncomputable abbrev P1 := (List (Int × Int × Int × Int)) × Int × Int × Int × Int × (List (Int × Int × Int × Int)) × Unit
noncomputable abbrev P4 := (List (Int × Int × Int × Int)) × Int × Int × Int × Int × (List (Int × Int × Int × Int)) × Unit
noncomputable abbrev rs : List ResultVar := [.tmp 4]
noncomputable def F0 (J1 : P1 → Option PO) (x1 : Int × Int × Int × Int) (c1_0 : List (Int × Int × Int × Int)) (s2 : List (Int × Int × Int × Int)) : Option PO :=
  J1 (c1_0, x1.1, x1.2.1, x1.2.2.1, x1.2.2.2, s2, ())
noncomputable def F1 (J4 : P4 → Option PO) (Gslices_Index_of : slices_Index_of.PI → Option slices_Index_of.PO) (c1_0 : List (Int × Int × Int × Int)) (b0_0 : Int) (b0_1 : Int) (b0_2 : Int) (b0_3 : Int) (s2 : List (Int × Int × Int × Int)) : Option PO :=
  Option.bind (Gslices_Index_of (s2, (b0_0, b0_1, b0_2, b0_3), ())) fun y0 =>
  bif decide (y0.1 ≥ 0) then
    some (y0.1, c1_0, s2, ())
  else
    J4 (c1_0, b0_0, b0_1, b0_2, b0_3, s2, ())
noncomputable def F4 (c1_0 : List (Int × Int × Int × Int)) (b0_0 : Int) (b0_1 : Int) (b0_2 : Int) (b0_3 : Int) (s2 : List (Int × Int × Int × Int)) : Option PO :=
  bif decide ((s2.length + ([(b0_0, b0_1, b0_2, b0_3)] : List (Int × Int × Int × Int)).length) * 32 ≤ 140737488355328) then
    some (wI (((s2 ++ ([(b0_0, b0_1, b0_2, b0_3)] : List (Int × Int × Int × Int))).length : Int) - 1), c1_0, s2 ++ ([(b0_0, b0_1, b0_2, b0_3)] : List (Int × Int × Int × Int)), ())
  else
    none
noncomputable def hd {R : Type} (Gslices_Index_of : slices_Index_of.PI → Option slices_Index_of.PO) : Hand R := (handAt 157 [11] true ⟨2, 1, 2, slices_Index_of.pin, slices_Index_of.pout, Gslices_Index_of⟩ handNil)
noncomputable def pg (Gslices_Index_of : slices_Index_of.PI → Option slices_Index_of.PO) (J1 : List Item → P1 → Option PO) (J4 : List Item → P4 → Option PO) : Prog PO := { nt := 31, np := 2, tb := tabOf tab, hd := hd Gslices_Index_of, cuts := cutsOf [(1, cut p1 J1), (4, cut p4 J4)], fin := endOf (tabOf tab) rs 2 pout }
noncomputable def q : FuncId → Bool := fun f => hasId [157] f
theorem seg0 (Gslices_Index_of : slices_Index_of.PI → Option slices_Index_of.PO) (J1 : List Item → P1 → Option PO) (J4 : List Item → P4 → Option PO) (x1 : Int × Int × Int × Int) (c1_0 : List (Int × Int × Int × Int)) (s2 : List (Int × Int × Int × Int)) : arun (pg Gslices_Index_of J1 J4) 5000 [.code c0] (mk pin (x1, c1_0, s2, ())) = F0 (J1 T1) x1 c1_0 s2 := by kernel_rfl
theorem seg1 (Gslices_Index_of : slices_Index_of.PI → Option slices_Index_of.PO) (J1 : List Item → P1 → Option PO) (J4 : List Item → P4 → Option PO) (c1_0 : List (Int × Int × Int × Int)) (b0_0 : Int) (b0_1 : Int) (b0_2 : Int) (b0_3 : Int) (s2 : List (Int × Int × Int × Int)) : arunQ (pg Gslices_Index_of J1 J4) q [] [] 5000 T1 (mk p1 (c1_0, b0_0, b0_1, b0_2, b0_3, s2, ())) = List.replicate (arunQ (pg Gslices_Index_of J1 J4) q [] [] 5000 T1 (mk p1 (c1_0, b0_0, b0_1, b0_2, b0_3, s2, ()))).length (F1 (J4 T4) Gslices_Index_of c1_0 b0_0 b0_1 b0_2 b0_3 s2) := by kernel_rfl
theorem seg4 (Gslices_Index_of : slices_Index_of.PI → Option slices_Index_of.PO) (J1 : List Item → P1 → Option PO) (J4 : List Item → P4 → Option PO) (c1_0 : List (Int × Int × Int × Int)) (b0_0 : Int) (b0_1 : Int) (b0_2 : Int) (b0_3 : Int) (s2 : List (Int × Int × Int × Int)) : arunE (pg Gslices_Index_of J1 J4) 5000 T4 (mk p4 (c1_0, b0_0, b0_1, b0_2, b0_3, s2, ())) = List.replicate (arunE (pg Gslices_Index_of J1 J4) 5000 T4 (mk p4 (c1_0, b0_0, b0_1, b0_2, b0_3, s2, ()))).length (F4 c1_0 b0_0 b0_1 b0_2 b0_3 s2) := by kernel_rfl
noncomputable def L4 : P4 → Option PO := fun x => F4 x.1 x.2.1 x.2.2.1 x.2.2.2.1 x.2.2.2.2.1 x.2.2.2.2.2.1
noncomputable def L1 : P1 → Option PO := fun x => F1 L4 slices_Index_of.impl x.1 x.2.1 x.2.2.1 x.2.2.2.1 x.2.2.2.2.1 x.2.2.2.2.2.1
noncomputable def impl : PI → Option PO := fun x => F0 L1 x.1 x.2.1 x.2.2.1
theorem L4_eq (c1_0 : List (Int × Int × Int × Int)) (b0_0 : Int) (b0_1 : Int) (b0_2 : Int) (b0_3 : Int) (s2 : List (Int × Int × Int × Int)) : L4 (c1_0, b0_0, b0_1, b0_2, b0_3, s2, ()) = F4 c1_0 b0_0 b0_1 b0_2 b0_3 s2 := rfl
theorem L1_eq (c1_0 : List (Int × Int × Int × Int)) (b0_0 : Int) (b0_1 : Int) (b0_2 : Int) (b0_3 : Int) (s2 : List (Int × Int × Int × Int)) : L1 (c1_0, b0_0, b0_1, b0_2, b0_3, s2, ()) = F1 (L4) slices_Index_of.impl c1_0 b0_0 b0_1 b0_2 b0_3 s2 := rfl
theorem impl_eq (x1 : Int × Int × Int × Int) (c1_0 : List (Int × Int × Int × Int)) (s2 : List (Int × Int × Int × Int)) : impl (x1, c1_0, s2, ()) = F0 L1 x1 c1_0 s2 := rfl
theorem con : Con Tryd.prog 117 2 rs.length 2 pin pout impl := by
  refine con_of_run' (nt := 31) (c := c0) tabGood Tryd.func117 (by kernel_rfl) (by kernel_rfl) (by kernel_rfl) (by kernel_rfl) (by kernel_rfl) (by kernel_rfl) (by kernel_rfl) ?_
  intro w0 O y hnp
  generalize hPost : (fun (a' : Act) (w' : World) => ∃ μ' S' st', Rel 31 w0 O μ' S' st' a' w' ∧ endOf (tabOf tab) rs 2 pout st' = some y) = Post
  have fin : ∀ (μ : Id → Option Value) (S : Nat → Prop) (st : St) (a : Act) (w : World), Rel 31 w0 O μ S st a w → endOf (tabOf tab) rs 2 pout st = some y → Post a w := fun μ S st a w h he => by rw [← hPost]; exact ⟨μ, S, st, h, he⟩
  have hp : ∀ (J1 : List Item → P1 → Option PO), ∀ (J4 : List Item → P4 → Option PO), Parts Tryd.prog 117 (pg slices_Index_of.impl J1 J4) [(1, cut p1 J1), (4, cut p4 J4)] := fun J1 J4 => ⟨tab_ok tabGood rfl, (handAt_ok slices_Index_of.con handNil_ok), rfl⟩
  have g4 : Good Tryd.prog 31 w0 O Post y T4 p4 L4 := good_orders (hs := hd slices_Index_of.impl) (cv' := hd slices_Index_of.impl) (Checked.mixed Tryd.checked) (hp (atT T1 (fun _ => none)) (atT T4 (fun _ => none))) (handAt_ok slices_Index_of.con handNil_ok) (handAt_nat handNil_nat) (handAt_nat handNil_nat) (runOK_of (hp (atT T1 (fun _ => none)) (atT T4 (fun _ => none))) hnp ⟨cutOK_at (p := p1) (T := T1) (J := fun _ => none) good_none, cutOK_at (p := p4) (T := T4) (J := fun _ => none) good_none, trivial⟩ fin) (fun x => all_same ⟨_, (seg4 slices_Index_of.impl (atT T1 (fun _ => none)) (atT T4 (fun _ => none)) x.1 x.2.1 x.2.2.1 x.2.2.2.1 x.2.2.2.2.1 x.2.2.2.2.2.1)⟩)
  have g1 : Good Tryd.prog 31 w0 O Post y T1 p1 L1 := good_quiet (hs := hd slices_Index_of.impl) (cv' := hd slices_Index_of.impl) (Checked.mixed Tryd.checked) (hp (atT T1 (fun _ => none)) (atT T4 L4)) (handAt_D slices_Index_of.con (by rfl) rfl handNil_D) (handAt_nat handNil_nat) (handAt_nat handNil_nat) (runOK_of (hp (atT T1 (fun _ => none)) (atT T4 L4)) hnp ⟨cutOK_at (p := p1) (T := T1) (J := fun _ => none) good_none, cutOK_at g4, trivial⟩ fin) (fun x => all_same ⟨_, (seg1 slices_Index_of.impl (atT T1 (fun _ => none)) (atT T4 L4) x.1 x.2.1 x.2.2.1 x.2.2.2.1 x.2.2.2.2.1 x.2.2.2.2.2.1).trans (by simp only [atT_self] <;> rfl)⟩)
  exact good_first (hp (atT T1 L1) (atT T4 (fun _ => none))) (runOK_of (hp (atT T1 L1) (atT T4 (fun _ => none))) hnp ⟨cutOK_at g1, cutOK_at (p := p4) (T := T4) (J := fun _ => none) good_none, trivial⟩ fin) (fun x => (seg0 slices_Index_of.impl (atT T1 L1) (atT T4 (fun _ => none)) x.1 x.2.1 x.2.2.1).trans (by simp only [atT_self] <;> rfl))
end impl_pushing_put

/-! ### (*loop.example/wholecheck/impl.pushing).of -/
namespace impl_pushing_of
noncomputable abbrev c0 : Code := (Tryd.f68.body).getD .skip
noncomputable abbrev pin : Tpl := ⟨[⟨0, false, [.ptr 500001 0]⟩, ⟨1, false, [.d (.int .i64)]⟩, ⟨2, false, [.d .bool]⟩], [(500001, .box [.d (.sl (.prod (.int .i64) (.prod (.int .i64) (.prod (.int .i64) (.last (.int .i64)))))), .row 500002]), (500002, .row 48 true (.prod (.int .i64) (.prod (.int .i64) (.prod (.int .i64) (.last (.int .i64))))))]⟩
noncomputable abbrev pout : Tpl := ⟨[⟨0, false, [.d (.int .i64)]⟩, ⟨1, false, [.ptr 500001 0]⟩], [(500001, .box [.d (.sl (.prod (.int .i64) (.prod (.int .i64) (.prod (.int .i64) (.last (.int .i64)))))), .row 500002]), (500002, .row 48 true (.prod (.int .i64) (.prod (.int .i64) (.prod (.int .i64) (.last (.int .i64))))))]⟩
noncomputable abbrev p13 : Tpl := ⟨[⟨0, false, [.ptr 500001 0]⟩, ⟨2, false, [.d .bool]⟩, ⟨7, false, [.ptr 3000000 0]⟩], [(500001, .box [.d (.sl (.prod (.int .i64) (.prod (.int .i64) (.prod (.int .i64) (.last (.int .i64)))))), .row 500002]), (3000000, .box [.d (.int .i64), .d (.int .i64), .d (.int .i64), .d (.int .i64)]), (500002, .row 48 true (.prod (.int .i64) (.prod (.int .i64) (.prod (.int .i64) (.last (.int .i64))))))]⟩
noncomputable def T13 : List Item := (find 13 c0 []).getD []
noncomputable abbrev p17 : Tpl := ⟨[⟨0, false, [.ptr 500001 0]⟩, ⟨2, false, [.d .bool]⟩, ⟨7, false, [.ptr 3000000 0]⟩, ⟨9, false, [.d (.int .i64)]⟩, ⟨10, false, [.d (.int .i64)]⟩], [(500001, .box [.d (.sl (.prod (.int .i64) (.prod (.int .i64) (.prod (.int .i64) (.last (.int .i64)))))), .row 500002]), (3000000, .box [.d (.int .i64), .d (.int .i64), .d (.int .i64), .d (.int .i64)]), (500002, .row 48 true (.prod (.int .i64) (.prod (.int .i64) (.prod (.int .i64) (.last (.int .i64))))))]⟩
noncomputable def T17 : List Item := (find 17 c0 []).getD []
noncomputable abbrev PI := Int × Bool × (List (Int × Int × Int × Int)) × (List (Int × Int × Int × Int)) × Unit
noncomputable abbrev PO := Int × (List (Int × Int × Int × Int)) × (List (Int × Int × Int × Int)) × Unit
noncomputable abbrev P13 := Bool × (List (Int × Int × Int × Int)) × Int × Int × Int × Int × (List (Int × Int × Int × Int)) × Unit
noncomputable abbrev P17 := Bool × Int × Int × (List (Int × Int × Int × Int)) × Int × Int × Int × Int × (List (Int × Int × Int × Int)) × Unit
noncomputable abbrev rs : List ResultVar := [.tmp 6]
noncomputable def F0 (J13 : P13 → Option PO) (Gimpl_pushing_of : PI → Option PO) (Gimpl_pushing_put : impl_pushing_put.PI → Option impl_pushing_put.PO) (x1 : Int) (x2 : Bool) (c1_0 : List (Int × Int × Int × Int)) (s2 : List (Int × Int × Int × Int)) : Option PO :=
  bif decide ((s2.length : Int) > 24) then
    some (0, c1_0, s2, ())
  else
    bif inb x1 c1_0.length then
      bif (c1_0.getD x1.toNat (0, 0, 0, 0)).1 == 2 then
        Option.bind (Gimpl_pushing_of ((c1_0.getD x1.toNat (0, 0, 0, 0)).2.2.1, !x2, c1_0, s2, ())) fun y0 =>
        some (y0.1, y0.2.1, y0.2.2.1, ())
      else
        bif (c1_0.getD x1.toNat (0, 0, 0, 0)).1 == 0 then
          Option.bind (Gimpl_pushing_put (c1_0.getD x1.toNat (0, 0, 0, 0), c1_0, s2, ())) fun y1 =>
          bif x2 then
            Option.bind (Gimpl_pushing_put ((2, 0, y1.1, y1.1), y1.2.1, y1.2.2.1, ())) fun y2 =>
            some (y2.1, y2.2.1, y2.2.2.1, ())
          else
            some (y1.1, y1.2.1, y1.2.2.1, ())
        else
          bif (c1_0.getD x1.toNat (0, 0, 0, 0)).1 == 1 then
            Option.bind (Gimpl_pushing_put (c1_0.getD x1.toNat (0, 0, 0, 0), c1_0, s2, ())) fun y3 =>
            bif x2 then
              Option.bind (Gimpl_pushing_put ((2, 0, y3.1, y3.1), y3.2.1, y3.2.2.1, ())) fun y4 =>
              some (y4.1, y4.2.1, y4.2.2.1, ())
            else
              some (y3.1, y3.2.1, y3.2.2.1, ())
          else
            J13 (x2, c1_0, (c1_0.getD x1.toNat (0, 0, 0, 0)).1, (c1_0.getD x1.toNat (0, 0, 0, 0)).2.1, (c1_0.getD x1.toNat (0, 0, 0, 0)).2.2.1, (c1_0.getD x1.toNat (0, 0, 0, 0)).2.2.2, s2, ())
    else
      none
noncomputable def F13 (J17 : P17 → Option PO) (Gimpl_pushing_of : PI → Option PO) (t2 : Bool) (c1_0 : List (Int × Int × Int × Int)) (b0_0 : Int) (b0_1 : Int) (b0_2 : Int) (b0_3 : Int) (s2 : List (Int × Int × Int × Int)) : Option PO :=
  Option.bind (Gimpl_pushing_of (b0_2, t2, c1_0, s2, ())) fun y5 =>
  bif b0_0 != 5 then
    Option.bind (Gimpl_pushing_of (b0_3, t2, y5.2.1, y5.2.2.1, ())) fun y6 =>
    J17 (t2, y5.1, y6.1, y6.2.1, b0_0, b0_1, b0_2, b0_3, y6.2.2.1, ())
  else
    J17 (t2, y5.1, y5.1, y5.2.1, b0_0, b0_1, b0_2, b0_3, y5.2.2.1, ())
noncomputable def F17 (Gimpl_pushing_put : impl_pushing_put.PI → Option impl_pushing_put.PO) (t2 : Bool) (t9 : Int) (t10 : Int) (c1_0 : List (Int × Int × Int × Int)) (b0_0 : Int) (b0_1 : Int) (b0_2 : Int) (b0_3 : Int) (s2 : List (Int × Int × Int × Int)) : Option PO :=
  bif t2 then
    Option.bind (Gimpl_pushing_put ((mapGet (.int .i64) (.int .i64) (mapPut (.int .i64) (.int .i64) (mapPut (.int .i64) (.int .i64) (mapPut (.int .i64) (.int .i64) (mapPut (.int .i64) (.int .i64) (mapPut (.int .i64) (.int .i64) [] 3 4) 4 3) 6 7) 7 6) 5 5) b0_0, 0, t9, t10), c1_0, s2, ())) fun y7 =>
    some (y7.1, y7.2.1, y7.2.2.1, ())
  else
    Option.bind (Gimpl_pushing_put ((b0_0, 0, t9, t10), c1_0, s2, ())) fun y8 =>
    some (y8.1, y8.2.1, y8.2.2.1, ())
noncomputable def hd {R : Type} (Gimpl_pushing_of : PI → Option PO) (Gimpl_pushing_put : impl_pushing_put.PI → Option impl_pushing_put.PO) : Hand R := (handAt 117 [40, 46, 74] false ⟨2, 1, 2, impl_pushing_put.pin, impl_pushing_put.pout, Gimpl_pushing_put⟩ (handAt 68 [34, 52, 61] false ⟨3, 1, 3, pin, pout, Gimpl_pushing_of⟩ handNil))
noncomputable def pg (Gimpl_pushing_of : PI → Option PO) (Gimpl_pushing_put : impl_pushing_put.PI → Option impl_pushing_put.PO) (J13 : List Item → P13 → Option PO) (J17 : List Item → P17 → Option PO) : Prog PO := { nt := 75, np := 3, tb := tabOf tab, hd := hd Gimpl_pushing_of Gimpl_pushing_put, cuts := cutsOf [(13, cut p13 J13), (17, cut p17 J17)], fin := endOf (tabOf tab) rs 3 pout }
noncomputable def q : FuncId → Bool := fun f => hasId [] f
theorem seg0 (Gimpl_pushing_of : PI → Option PO) (Gimpl_pushing_put : impl_pushing_put.PI → Option impl_pushing_put.PO) (J13 : List Item → P13 → Option PO) (J17 : List Item → P17 → Option PO) (x1 : Int) (x2 : Bool) (c1_0 : List (Int × Int × Int × Int)) (s2 : List (Int × Int × Int × Int)) : arun (pg Gimpl_pushing_of Gimpl_pushing_put J13 J17) 5000 [.code c0] (mk pin (x1, x2, c1_0, s2, ())) = F0 (J13 T13) Gimpl_pushing_of Gimpl_pushing_put x1 x2 c1_0 s2 := by kernel_rfl
theorem seg13 (Gimpl_pushing_of : PI → Option PO) (Gimpl_pushing_put : impl_pushing_put.PI → Option impl_pushing_put.PO) (J13 : List Item → P13 → Option PO) (J17 : List Item → P17 → Option PO) (t2 : Bool) (c1_0 : List (Int × Int × Int × Int)) (b0_0 : Int) (b0_1 : Int) (b0_2 : Int) (b0_3 : Int) (s2 : List (Int × Int × Int × Int)) : arun1 (pg Gimpl_pushing_of Gimpl_pushing_put J13 J17) 5000 T13 (mk p13 (t2, c1_0, b0_0, b0_1, b0_2, b0_3, s2, ())) = F13 (J17 T17) Gimpl_pushing_of t2 c1_0 b0_0 b0_1 b0_2 b0_3 s2 := by kernel_rfl
theorem seg17 (Gimpl_pushing_of : PI → Option PO) (Gimpl_pushing_put : impl_pushing_put.PI → Option impl_pushing_put.PO) (J13 : List Item → P13 → Option PO) (J17 : List Item → P17 → Option PO) (t2 : Bool) (t9 : Int) (t10 : Int) (c1_0 : List (Int × Int × Int × Int)) (b0_0 : Int) (b0_1 : Int) (b0_2 : Int) (b0_3 : Int) (s2 : List (Int × Int × Int × Int)) : arun1 (pg Gimpl_pushing_of Gimpl_pushing_put J13 J17) 5000 T17 (mk p17 (t2, t9, t10, c1_0, b0_0, b0_1, b0_2, b0_3, s2, ())) = F17 Gimpl_pushing_put t2 t9 t10 c1_0 b0_0 b0_1 b0_2 b0_3 s2 := by kernel_rfl
noncomputable def L17 (Gself : PI → Option PO) : P17 → Option PO := fun x => F17 impl_pushing_put.impl x.1 x.2.1 x.2.2.1 x.2.2.2.1 x.2.2.2.2.1 x.2.2.2.2.2.1 x.2.2.2.2.2.2.1 x.2.2.2.2.2.2.2.1 x.2.2.2.2.2.2.2.2.1
noncomputable def L13 (Gself : PI → Option PO) : P13 → Option PO := fun x => F13 (L17 Gself) Gself x.1 x.2.1 x.2.2.1 x.2.2.2.1 x.2.2.2.2.1 x.2.2.2.2.2.1 x.2.2.2.2.2.2.1
noncomputable def step (Gself : PI → Option PO) : PI → Option PO := fun x => F0 (L13 Gself) Gself impl_pushing_put.impl x.1 x.2.1 x.2.2.1 x.2.2.2.1
noncomputable def impl : PI → Option PO := lfp step
theorem F17_le {Gimpl_pushing_put : impl_pushing_put.PI → Option impl_pushing_put.PO} (t2 : Bool) (t9 : Int) (t10 : Int) (c1_0 : List (Int × Int × Int × Int)) (b0_0 : Int) (b0_1 : Int) (b0_2 : Int) (b0_3 : Int) (s2 : List (Int × Int × Int × Int)) : OptLe (F17 Gimpl_pushing_put t2 t9 t10 c1_0 b0_0 b0_1 b0_2 b0_3 s2) (F17 Gimpl_pushing_put t2 t9 t10 c1_0 b0_0 b0_1 b0_2 b0_3 s2) := by unfold F17; exact .refl _
theorem F13_le {J17 J17' : P17 → Option PO} (h17 : OLe J17 J17') {Gself Gself' : PI → Option PO} (hG : OLe Gself Gself') (t2 : Bool) (c1_0 : List (Int × Int × Int × Int)) (b0_0 : Int) (b0_1 : Int) (b0_2 : Int) (b0_3 : Int) (s2 : List (Int × Int × Int × Int)) : OptLe (F13 J17 Gself t2 c1_0 b0_0 b0_1 b0_2 b0_3 s2) (F13 J17' Gself' t2 c1_0 b0_0 b0_1 b0_2 b0_3 s2) := by unfold F13; exact .bind (.of hG _) fun _ => .cond (.bind (.of hG _) fun _ => .of h17 _) (.of h17 _)
theorem F0_le {J13 J13' : P13 → Option PO} (h13 : OLe J13 J13') {Gself Gself' : PI → Option PO} (hG : OLe Gself Gself') {Gimpl_pushing_put : impl_pushing_put.PI → Option impl_pushing_put.PO} (x1 : Int) (x2 : Bool) (c1_0 : List (Int × Int × Int × Int)) (s2 : List (Int × Int × Int × Int)) : OptLe (F0 J13 Gself Gimpl_pushing_put x1 x2 c1_0 s2) (F0 J13' Gself' Gimpl_pushing_put x1 x2 c1_0 s2) := by unfold F0; exact .cond (.refl _) (.cond (.cond (.bind (.of hG _) fun _ => .refl _) (.cond (.refl _) (.cond (.refl _) (.of h13 _)))) (.refl _))
theorem L17_eq (Gself : PI → Option PO) (t2 : Bool) (t9 : Int) (t10 : Int) (c1_0 : List (Int × Int × Int × Int)) (b0_0 : Int) (b0_1 : Int) (b0_2 : Int) (b0_3 : Int) (s2 : List (Int × Int × Int × Int)) : L17 Gself (t2, t9, t10, c1_0, b0_0, b0_1, b0_2, b0_3, s2, ()) = F17 impl_pushing_put.impl t2 t9 t10 c1_0 b0_0 b0_1 b0_2 b0_3 s2 := rfl
theorem L17_le {Gself Gself' : PI → Option PO} (hG : OLe Gself Gself') : OLe (L17 Gself) (L17 Gself') := fun x => F17_le x.1 x.2.1 x.2.2.1 x.2.2.2.1 x.2.2.2.2.1 x.2.2.2.2.2.1 x.2.2.2.2.2.2.1 x.2.2.2.2.2.2.2.1 x.2.2.2.2.2.2.2.2.1
theorem L13_eq (Gself : PI → Option PO) (t2 : Bool) (c1_0 : List (Int × Int × Int × Int)) (b0_0 : Int) (b0_1 : Int) (b0_2 : Int) (b0_3 : Int) (s2 : List (Int × Int × Int × Int)) : L13 Gself (t2, c1_0, b0_0, b0_1, b0_2, b0_3, s2, ()) = F13 (L17 Gself) Gself t2 c1_0 b0_0 b0_1 b0_2 b0_3 s2 := rfl
theorem L13_le {Gself Gself' : PI → Option PO} (hG : OLe Gself Gself') : OLe (L13 Gself) (L13 Gself') := fun x => F13_le (L17_le hG) hG x.1 x.2.1 x.2.2.1 x.2.2.2.1 x.2.2.2.2.1 x.2.2.2.2.2.1 x.2.2.2.2.2.2.1
theorem step_mono : OMono step := fun G G' hG x => F0_le (L13_le hG) hG x.1 x.2.1 x.2.2.1 x.2.2.2.1
theorem impl_eq (x1 : Int) (x2 : Bool) (c1_0 : List (Int × Int × Int × Int)) (s2 : List (Int × Int × Int × Int)) : impl (x1, x2, c1_0, s2, ()) = F0 (L13 impl) impl impl_pushing_put.impl x1 x2 c1_0 s2 := congrFun (lfp_eq step_mono) _
theorem con_step (Gself : PI → Option PO) (hself : Con Tryd.prog 68 3 rs.length 3 pin pout Gself) : Con Tryd.prog 68 3 rs.length 3 pin pout (step Gself) := by
  refine con_of_run' (nt := 75) (c := c0) tabGood Tryd.func68 (by kernel_rfl) (by kernel_rfl) (by kernel_rfl) (by kernel_rfl) (by kernel_rfl) (by kernel_rfl) (by kernel_rfl) ?_
  intro w0 O y hnp
  generalize hPost : (fun (a' : Act) (w' : World) => ∃ μ' S' st', Rel 75 w0 O μ' S' st' a' w' ∧ endOf (tabOf tab) rs 3 pout st' = some y) = Post
  have fin : ∀ (μ : Id → Option Value) (S : Nat → Prop) (st : St) (a : Act) (w : World), Rel 75 w0 O μ S st a w → endOf (tabOf tab) rs 3 pout st = some y → Post a w := fun μ S st a w h he => by rw [← hPost]; exact ⟨μ, S, st, h, he⟩
  have hp : ∀ (J13 : List Item → P13 → Option PO), ∀ (J17 : List Item → P17 → Option PO), Parts Tryd.prog 68 (pg Gself impl_pushing_put.impl J13 J17) [(13, cut p13 J13), (17, cut p17 J17)] := fun J13 J17 => ⟨tab_ok tabGood rfl, (handAt_ok impl_pushing_put.con (handAt_ok hself handNil_ok)), rfl⟩
  have g17 : Good Tryd.prog 75 w0 O Post y T17 p17 (L17 Gself) := good_part (hp (atT T13 (fun _ => none)) (atT T17 (fun _ => none))) (runOK_of (hp (atT T13 (fun _ => none)) (atT T17 (fun _ => none))) hnp ⟨cutOK_at (p := p13) (T := T13) (J := fun _ => none) good_none, cutOK_at (p := p17) (T := T17) (J := fun _ => none) good_none, trivial⟩ fin) (fun x => (seg17 Gself impl_pushing_put.impl (atT T13 (fun _ => none)) (atT T17 (fun _ => none)) x.1 x.2.1 x.2.2.1 x.2.2.2.1 x.2.2.2.2.1 x.2.2.2.2.2.1 x.2.2.2.2.2.2.1 x.2.2.2.2.2.2.2.1 x.2.2.2.2.2.2.2.2.1))
  have g13 : Good Tryd.prog 75 w0 O Post y T13 p13 (L13 Gself) := good_part (hp (atT T13 (fun _ => none)) (atT T17 (L17 Gself))) (runOK_of (hp (atT T13 (fun _ => none)) (atT T17 (L17 Gself))) hnp ⟨cutOK_at (p := p13) (T := T13) (J := fun _ => none) good_none, cutOK_at g17, trivial⟩ fin) (fun x => (seg13 Gself impl_pushing_put.impl (atT T13 (fun _ => none)) (atT T17 (L17 Gself)) x.1 x.2.1 x.2.2.1 x.2.2.2.1 x.2.2.2.2.1 x.2.2.2.2.2.1 x.2.2.2.2.2.2.1).trans (by simp only [atT_self] <;> rfl))
  exact good_first (hp (atT T13 (L13 Gself)) (atT T17 (fun _ => none))) (runOK_of (hp (atT T13 (L13 Gself)) (atT T17 (fun _ => none))) hnp ⟨cutOK_at g13, cutOK_at (p := p17) (T := T17) (J := fun _ => none) good_none, trivial⟩ fin) (fun x => (seg0 Gself impl_pushing_put.impl (atT T13 (L13 Gself)) (atT T17 (fun _ => none)) x.1 x.2.1 x.2.2.1 x.2.2.2.1).trans (by simp only [atT_self] <;> rfl))
theorem con : Con Tryd.prog 68 3 rs.length 3 pin pout impl := con_lfp (c := c0) Tryd.func68 (by kernel_rfl) (by kernel_rfl) (by kernel_rfl) con_step
end impl_pushing_of

/-! ### loop.example/wholecheck/impl.clone[loop.example/wholecheck/impl.Time] -/
namespace impl_clone_of
noncomputable abbrev c0 : Code := (Tryd.f69.body).getD .skip
noncomputable abbrev pin : Tpl := ⟨[⟨0, false, [.d (.sl (.prod (.int .i64) (.prod (.int .i64) (.prod (.int .i64) (.last (.int .i64))))))]⟩], []⟩
noncomputable abbrev pout : Tpl := ⟨[⟨0, false, [.row 600001]⟩], [(600001, .row 48 false (.prod (.int .i64) (.prod (.int .i64) (.prod (.int .i64) (.last (.int .i64))))))]⟩
noncomputable abbrev PI := (List (Int × Int × Int × Int)) × Unit
noncomputable abbrev PO := (List (Int × Int × Int × Int)) × Unit
noncomputable abbrev rs : List ResultVar := [.tmp 2]
noncomputable def F0 (x0 : List (Int × Int × Int × Int)) : Option PO :=
  bif (x0.length : Int) == 0 then
    some ([], ())
  else
    bif decide (0 ≤ (x0.length : Int)) && decide ((x0.length : Int) ≤ (x0.length : Int)) && decide ((x0.length : Int) * 32 ≤ 140737488355328) then
      some (x0.take (List.replicate (x0.length : Int).toNat (0, 0, 0, 0) : List (Int × Int × Int × Int)).length ++ (List.replicate (x0.length : Int).toNat (0, 0, 0, 0) : List (Int × Int × Int × Int)).drop x0.length, ())
    else
      none
noncomputable def hd {R : Type} : Hand R := handNil
noncomputable def pg : Prog PO := { nt := 14, np := 1, tb := tabOf tab, hd := hd, cuts := cutsOf [], fin := endOf (tabOf tab) rs 1 pout }
noncomputable def q : FuncId → Bool := fun f => hasId [] f
theorem seg0 (x0 : List (Int × Int × Int × Int)) : arun (pg) 5000 [.code c0] (mk pin (x0, ())) = F0 x0 := by kernel_rfl
noncomputable def impl : PI → Option PO := fun x => F0 x.1
theorem impl_eq (x0 : List (Int × Int × Int × Int)) : impl (x0, ()) = F0 x0 := rfl
theorem con : Con Tryd.prog 69 1 rs.length 1 pin pout impl := by
  refine con_of_run' (nt := 14) (c := c0) tabGood Tryd.func69 (by kernel_rfl) (by kernel_rfl) (by kernel_rfl) (by kernel_rfl) (by kernel_rfl) (by kernel_rfl) (by kernel_rfl) ?_
  intro w0 O y hnp
  generalize hPost : (fun (a' : Act) (w' : World) => ∃ μ' S' st', Rel 14 w0 O μ' S' st' a' w' ∧ endOf (tabOf tab) rs 1 pout st' = some y) = Post
  have fin : ∀ (μ : Id → Option Value) (S : Nat → Prop) (st : St) (a : Act) (w : World), Rel 14 w0 O μ S st a w → endOf (tabOf tab) rs 1 pout st = some y → Post a w := fun μ S st a w h he => by rw [← hPost]; exact ⟨μ, S, st, h, he⟩
  have hp : Parts Tryd.prog 69 (pg) [] := ⟨tab_ok tabGood rfl, handNil_ok, rfl⟩
  exact good_first (hp) (runOK_of (hp) hnp trivial fin) (fun x => (seg0 x.1))
end impl_clone_of

/-! ### loop.example/wholecheck/impl.Pushed -/
namespace impl_Pushed
noncomputable abbrev c0 : Code := (Tryd.f22.body).getD .skip
noncomputable abbrev pin : Tpl := ⟨[⟨0, false, [.d (.sl (.prod (.int .i64) (.prod (.int .i64) (.prod (.int .i64) (.last (.int .i64))))))]⟩, ⟨1, false, [.d (.int .i64)]⟩], []⟩
noncomputable abbrev pout : Tpl := ⟨[⟨0, false, [.row 600001]⟩], [(600001, .row 48 false (.prod (.int .i64) (.prod (.int .i64) (.prod (.int .i64) (.last (.int .i64))))))]⟩
noncomputable abbrev PI := (List (Int × Int × Int × Int)) × Int × Unit
noncomputable abbrev PO := (List (Int × Int × Int × Int)) × Unit
noncomputable abbrev rs : List ResultVar := [.tmp 4]
noncomputable def F0 (Gimpl_TimesValid : impl_TimesValid.PI → Option impl_TimesValid.PO) (Gimpl_clone_of : impl_clone_of.PI → Option impl_clone_of.PO) (Gimpl_pushing_of : impl_pushing_of.PI → Option impl_pushing_of.PO) (x0 : List (Int × Int × Int × Int)) (x1 : Int) : Option PO :=
  Option.bind (Gimpl_TimesValid (x0, x1, ())) fun y0 =>
  bif !y0.1 then
    some ([], ())
  else
    Option.bind (Gimpl_pushing_of (wI ((x0.length : Int) - 1), false, x0, [], ())) fun y1 =>
    bif decide ((y1.2.2.1.length : Int) > 24) then
      some ([], ())
    else
      bif decide (0 ≤ wI (y1.1 + 1)) && decide (wI (y1.1 + 1) ≤ (y1.2.2.1.length : Int)) then
        Option.bind (Gimpl_clone_of ((y1.2.2.1.drop 0).take ((wI (y1.1 + 1)).toNat - 0), ())) fun y2 =>
        some (y2.1, ())
      else
        none
noncomputable def hd {R : Type} (Gimpl_TimesValid : impl_TimesValid.PI → Option impl_TimesValid.PO) (Gimpl_clone_of : impl_clone_of.PI → Option impl_clone_of.PO) (Gimpl_pushing_of : impl_pushing_of.PI → Option impl_pushing_of.PO) : Hand R := (handAt 69 [32] true ⟨1, 1, 1, impl_clone_of.pin, impl_clone_of.pout, Gimpl_clone_of⟩ (handAt 68 [18] false ⟨3, 1, 3, impl_pushing_of.pin, impl_pushing_of.pout, Gimpl_pushing_of⟩ (handAt 26 [9] true ⟨2, 1, 2, impl_TimesValid.pin, impl_TimesValid.pout, Gimpl_TimesValid⟩ handNil)))
noncomputable def pg (Gimpl_TimesValid : impl_TimesValid.PI → Option impl_TimesValid.PO) (Gimpl_clone_of : impl_clone_of.PI → Option impl_clone_of.PO) (Gimpl_pushing_of : impl_pushing_of.PI → Option impl_pushing_of.PO) : Prog PO := { nt := 33, np := 2, tb := tabOf tab, hd := hd Gimpl_TimesValid Gimpl_clone_of Gimpl_pushing_of, cuts := cutsOf [], fin := endOf (tabOf tab) rs 2 pout }
noncomputable def q : FuncId → Bool := fun f => hasId [26] f
theorem seg0 (Gimpl_TimesValid : impl_TimesValid.PI → Option impl_TimesValid.PO) (Gimpl_clone_of : impl_clone_of.PI → Option impl_clone_of.PO) (Gimpl_pushing_of : impl_pushing_of.PI → Option impl_pushing_of.PO) (x0 : List (Int × Int × Int × Int)) (x1 : Int) : arun (pg Gimpl_TimesValid Gimpl_clone_of Gimpl_pushing_of) 5000 [.code c0] (mk pin (x0, x1, ())) = F0 Gimpl_TimesValid Gimpl_clone_of Gimpl_pushing_of x0 x1 := by kernel_rfl
noncomputable def impl : PI → Option PO := fun x => F0 impl_TimesValid.impl impl_clone_of.impl impl_pushing_of.impl x.1 x.2.1
theorem impl_eq (x0 : List (Int × Int × Int × Int)) (x1 : Int) : impl (x0, x1, ()) = F0 impl_TimesValid.impl impl_clone_of.impl impl_pushing_of.impl x0 x1 := rfl
theorem con : Con Tryd.prog 22 2 rs.length 2 pin pout impl := by
  refine con_of_run' (nt := 33) (c := c0) tabGood Tryd.func22 (by kernel_rfl) (by kernel_rfl) (by kernel_rfl) (by kernel_rfl) (by kernel_rfl) (by kernel_rfl) (by kernel_rfl) ?_
  intro w0 O y hnp
  generalize hPost : (fun (a' : Act) (w' : World) => ∃ μ' S' st', Rel 33 w0 O μ' S' st' a' w' ∧ endOf (tabOf tab) rs 2 pout st' = some y) = Post
  have fin : ∀ (μ : Id → Option Value) (S : Nat → Prop) (st : St) (a : Act) (w : World), Rel 33 w0 O μ S st a w → endOf (tabOf tab) rs 2 pout st = some y → Post a w := fun μ S st a w h he => by rw [← hPost]; exact ⟨μ, S, st, h, he⟩
  have hp : Parts Tryd.prog 22 (pg impl_TimesValid.impl impl_clone_of.impl impl_pushing_of.impl) [] := ⟨tab_ok tabGood rfl, (handAt_ok impl_clone_of.con (handAt_ok impl_pushing_of.con (handAt_ok impl_TimesValid.con handNil_ok))), rfl⟩
  exact good_first (hp) (runOK_of (hp) hnp trivial fin) (fun x => (seg0 impl_TimesValid.impl impl_clone_of.impl impl_pushing_of.impl x.1 x.2.1))
end impl_Pushed

/-! ### loop.example/wholecheck/spec.l1In -/
namespace spec_l1In
noncomputable abbrev c0 : Code := (Tryd.f103.body).getD .skip
noncomputable abbrev pin : Tpl := ⟨[⟨0, false, [.d (.int .i64)]⟩, ⟨1, false, [.d (.int .i64)]⟩, ⟨2, false, [.d (.int .i64)]⟩], []⟩
noncomputable abbrev pout : Tpl := ⟨[⟨0, false, [.d .bool]⟩], []⟩
noncomputable abbrev PI := Int × Int × Int × Unit
noncomputable abbrev PO := Bool × Unit
noncomputable abbrev rs : List ResultVar := [.tmp 6]
noncomputable def F0 (x0 : Int) (x1 : Int) (x2 : Int) : Option PO :=
  bif decide (x0 ≥ x1) then
    some (decide (x0 ≤ x2), ())
  else
    some (false, ())
noncomputable def hd {R : Type} : Hand R := handNil
noncomputable def pg : Prog PO := { nt := 15, np := 3, tb := tabOf tab, hd := hd, cuts := cutsOf [], fin := endOf (tabOf tab) rs 3 pout }
noncomputable def q : FuncId → Bool := fun f => hasId [] f
theorem seg0 (x0 : Int) (x1 : Int) (x2 : Int) : arun (pg) 5000 [.code c0] (mk pin (x0, x1, x2, ())) = F0 x0 x1 x2 := by kernel_rfl
noncomputable def impl : PI → Option PO := fun x => F0 x.1 x.2.1 x.2.2.1
theorem impl_eq (x0 : Int) (x1 : Int) (x2 : Int) : impl (x0, x1, x2, ()) = F0 x0 x1 x2 := rfl
theorem con : Con Tryd.prog 103 3 rs.length 3 pin pout impl := by
  refine con_of_run' (nt := 15) (c := c0) tabGood Tryd.func103 (by kernel_rfl) (by kernel_rfl) (by kernel_rfl) (by kernel_rfl) (by kernel_rfl) (by kernel_rfl) (by kernel_rfl) ?_
  intro w0 O y hnp
  generalize hPost : (fun (a' : Act) (w' : World) => ∃ μ' S' st', Rel 15 w0 O μ' S' st' a' w' ∧ endOf (tabOf tab) rs 3 pout st' = some y) = Post
  have fin : ∀ (μ : Id → Option Value) (S : Nat → Prop) (st : St) (a : Act) (w : World), Rel 15 w0 O μ S st a w → endOf (tabOf tab) rs 3 pout st = some y → Post a w := fun μ S st a w h he => by rw [← hPost]; exact ⟨μ, S, st, h, he⟩
  have hp : Parts Tryd.prog 103 (pg) [] := ⟨tab_ok tabGood rfl, handNil_ok, rfl⟩
  exact good_first (hp) (runOK_of (hp) hnp trivial fin) (fun x => (seg0 x.1 x.2.1 x.2.2.1))
end spec_l1In

/-! ### loop.example/wholecheck/spec.l20Step -/
namespace spec_l20Step
noncomputable abbrev c0 : Code := (Tryd.f118.body).getD .skip
noncomputable abbrev pin : Tpl := ⟨[⟨0, true, [.d (.prod (.int .i64) (.prod (.int .i64) (.prod (.int .i64) (.last (.int .i64)))))]⟩, ⟨1, false, [.d (.int .i64)]⟩, ⟨2, false, [.d (.int .i64)]⟩], []⟩
noncomputable abbrev pout : Tpl := ⟨[⟨0, false, [.d .bool]⟩], []⟩
noncomputable abbrev p7 : Tpl := ⟨[⟨3, false, [.ptr 3000000 0]⟩], [(3000000, .box [.d (.int .i64), .d (.int .i64), .d (.int .i64), .d (.int .i64)])]⟩
noncomputable def T7 : List Item := (find 7 c0 []).getD []
noncomputable abbrev PI := (Int × Int × Int × Int) × Int × Int × Unit
noncomputable abbrev PO := Bool × Unit
noncomputable abbrev P7 := Int × Int × Int × Int × Unit
noncomputable abbrev rs : List ResultVar := [.tmp 6]
noncomputable def F0 (J7 : P7 → Option PO) (Gspec_l1In : spec_l1In.PI → Option spec_l1In.PO) (x0 : Int × Int × Int × Int) (x1 : Int) (x2 : Int) : Option PO :=
  bif x0.1 == 0 then
    bif x0.2.1 == 0 then
      bif x0.2.2.1 == 0 then
        some (x0.2.2.2 == 0, ())
      else
        some (false, ())
    else
      some (false, ())
  else
    bif x0.1 == 1 then
      Option.bind (Gspec_l1In (x0.2.1, 0, wI (x2 - 1), ())) fun y0 =>
      bif y0.1 then
        bif x0.2.2.1 == 0 then
          some (x0.2.2.2 == 0, ())
        else
          some (false, ())
      else
        some (false, ())
    else
      Option.bind (Gspec_l1In (x0.1, 2, 7, ())) fun y1 =>
      bif !y1.1 then
        some (false, ())
      else
        bif x0.2.1 != 0 then
          some (false, ())
        else
          Option.bind (Gspec_l1In (x0.2.2.1, 0, wI (x1 - 1), ())) fun y2 =>
          bif !y2.1 then
            some (false, ())
          else
            Option.bind (Gspec_l1In (x0.2.2.2, 0, wI (x1 - 1), ())) fun y3 =>
            bif !y3.1 then
              some (false, ())
            else
              J7 (x0.1, x0.2.1, x0.2.2.1, x0.2.2.2, ())
noncomputable def F7 (Gspec_l20One : spec_l20One.PI → Option spec_l20One.PO) (b0_0 : Int) (b0_1 : Int) (b0_2 : Int) (b0_3 : Int) : Option PO :=
  Option.bind (Gspec_l20One (b0_0, ())) fun y4 =>
  bif !y4.1 then
    some (true, ())
  else
    some (b0_3 == b0_2, ())
noncomputable def hd {R : Type} (Gspec_l1In : spec_l1In.PI → Option spec_l1In.PO) (Gspec_l20One : spec_l20One.PI → Option spec_l20One.PO) : Hand R := (handAt 103 [30, 43, 55, 63] true ⟨3, 1, 3, spec_l1In.pin, spec_l1In.pout, Gspec_l1In⟩ (handAt 73 [68] true ⟨1, 1, 1, spec_l20One.pin, spec_l20One.pout, Gspec_l20One⟩ handNil))
noncomputable def pg (Gspec_l1In : spec_l1In.PI → Option spec_l1In.PO) (Gspec_l20One : spec_l20One.PI → Option spec_l20One.PO) (J7 : List Item → P7 → Option PO) : Prog PO := { nt := 77, np := 3, tb := tabOf tab, hd := hd Gspec_l1In Gspec_l20One, cuts := cutsOf [(7, cut p7 J7)], fin := endOf (tabOf tab) rs 3 pout }
noncomputable def q : FuncId → Bool := fun f => hasId [73, 103] f
theorem seg0 (Gspec_l1In : spec_l1In.PI → Option spec_l1In.PO) (Gspec_l20One : spec_l20One.PI → Option spec_l20One.PO) (J7 : List Item → P7 → Option PO) (x0 : Int × Int × Int × Int) (x1 : Int) (x2 : Int) : arun (pg Gspec_l1In Gspec_l20One J7) 5000 [.code c0] (mk pin (x0, x1, x2, ())) = F0 (J7 T7) Gspec_l1In x0 x1 x2 := by kernel_rfl
theorem seg7 (Gspec_l1In : spec_l1In.PI → Option spec_l1In.PO) (Gspec_l20One : spec_l20One.PI → Option spec_l20One.PO) (J7 : List Item → P7 → Option PO) (b0_0 : Int) (b0_1 : Int) (b0_2 : Int) (b0_3 : Int) : arun1 (pg Gspec_l1In Gspec_l20One J7) 5000 T7 (mk p7 (b0_0, b0_1, b0_2, b0_3, ())) = F7 Gspec_l20One b0_0 b0_1 b0_2 b0_3 := by kernel_rfl
noncomputable def L7 : P7 → Option PO := fun x => F7 spec_l20One.impl x.1 x.2.1 x.2.2.1 x.2.2.2.1
noncomputable def impl : PI → Option PO := fun x => F0 L7 spec_l1In.impl x.1 x.2.1 x.2.2.1
theorem L7_eq (b0_0 : Int) (b0_1 : Int) (b0_2 : Int) (b0_3 : Int) : L7 (b0_0, b0_1, b0_2, b0_3, ()) = F7 spec_l20One.impl b0_0 b0_1 b0_2 b0_3 := rfl
theorem impl_eq (x0 : Int × Int × Int × Int) (x1 : Int) (x2 : Int) : impl (x0, x1, x2, ()) = F0 L7 spec_l1In.impl x0 x1 x2 := rfl
theorem con : Con Tryd.prog 118 3 rs.length 3 pin pout impl := by
  refine con_of_run' (nt := 77) (c := c0) tabGood Tryd.func118 (by kernel_rfl) (by kernel_rfl) (by kernel_rfl) (by kernel_rfl) (by kernel_rfl) (by kernel_rfl) (by kernel_rfl) ?_
  intro w0 O y hnp
  generalize hPost : (fun (a' : Act) (w' : World) => ∃ μ' S' st', Rel 77 w0 O μ' S' st' a' w' ∧ endOf (tabOf tab) rs 3 pout st' = some y) = Post
  have fin : ∀ (μ : Id → Option Value) (S : Nat → Prop) (st : St) (a : Act) (w : World), Rel 77 w0 O μ S st a w → endOf (tabOf tab) rs 3 pout st = some y → Post a w := fun μ S st a w h he => by rw [← hPost]; exact ⟨μ, S, st, h, he⟩
  have hp : ∀ (J7 : List Item → P7 → Option PO), Parts Tryd.prog 118 (pg spec_l1In.impl spec_l20One.impl J7) [(7, cut p7 J7)] := fun J7 => ⟨tab_ok tabGood rfl, (handAt_ok spec_l1In.con (handAt_ok spec_l20One.con handNil_ok)), rfl⟩
  have g7 : Good Tryd.prog 77 w0 O Post y T7 p7 L7 := good_part (hp (atT T7 (fun _ => none))) (runOK_of (hp (atT T7 (fun _ => none))) hnp ⟨cutOK_at (p := p7) (T := T7) (J := fun _ => none) good_none, trivial⟩ fin) (fun x => (seg7 spec_l1In.impl spec_l20One.impl (atT T7 (fun _ => none)) x.1 x.2.1 x.2.2.1 x.2.2.2.1))
  exact good_first (hp (atT T7 L7)) (runOK_of (hp (atT T7 L7)) hnp ⟨cutOK_at g7, trivial⟩ fin) (fun x => (seg0 spec_l1In.impl spec_l20One.impl (atT T7 L7) x.1 x.2.1 x.2.2.1).trans (by simp only [atT_self] <;> rfl))
end spec_l20Step

/-! ### loop.example/wholecheck/spec.TimesValid -/
namespace spec_TimesValid
noncomputable abbrev c0 : Code := (Tryd.f70.body).getD .skip
noncomputable abbrev pin : Tpl := ⟨[⟨0, false, [.d (.sl (.prod (.int .i64) (.prod (.int .i64) (.prod (.int .i64) (.last (.int .i64))))))]⟩, ⟨1, false, [.d (.int .i64)]⟩], []⟩
noncomputable abbrev pout : Tpl := ⟨[⟨0, false, [.d .bool]⟩], []⟩
noncomputable abbrev p3 : Tpl := ⟨[⟨0, false, [.d (.sl (.prod (.int .i64) (.prod (.int .i64) (.prod (.int .i64) (.last (.int .i64))))))]⟩, ⟨1, false, [.d (.int .i64)]⟩], []⟩
noncomputable def T3 : List Item := (find 3 c0 []).getD []
noncomputable abbrev p4 : Tpl := ⟨[⟨0, false, [.d (.sl (.prod (.int .i64) (.prod (.int .i64) (.prod (.int .i64) (.last (.int .i64))))))]⟩, ⟨1, false, [.d (.int .i64)]⟩, ⟨5, false, [.d (.int .i64)]⟩], []⟩
noncomputable def T4 : List Item := (find 4 c0 []).getD []
noncomputable abbrev PI := (List (Int × Int × Int × Int)) × Int × Unit
noncomputable abbrev PO := Bool × Unit
noncomputable abbrev P3 := (List (Int × Int × Int × Int)) × Int × Unit
noncomputable abbrev P4 := (List (Int × Int × Int × Int)) × Int × Int × Unit
noncomputable abbrev rs : List ResultVar := [.tmp 4]
noncomputable def F0 (J3 : P3 → Option PO) (Gspec_l1In : spec_l1In.PI → Option spec_l1In.PO) (x0 : List (Int × Int × Int × Int)) (x1 : Int) : Option PO :=
  Option.bind (Gspec_l1In (x1, 0, 4, ())) fun y0 =>
  bif !y0.1 then
    some (false, ())
  else
    Option.bind (Gspec_l1In ((x0.length : Int), 1, 24, ())) fun y1 =>
    bif !y1.1 then
      some (false, ())
    else
      J3 (x0, x1, ())
noncomputable def F3 (J4 : P4 → Option PO) (t0 : List (Int × Int × Int × Int)) (t1 : Int) : Option PO :=
  J4 (t0, t1, 0, ())
noncomputable def F4 (J4 : P4 → Option PO) (Gspec_l20Step : spec_l20Step.PI → Option spec_l20Step.PO) (t0 : List (Int × Int × Int × Int)) (t1 : Int) (t5 : Int) : Option PO :=
  bif decide (t5 < (t0.length : Int)) then
    bif inb t5 t0.length then
      Option.bind (Gspec_l20Step (t0.getD t5.toNat (0, 0, 0, 0), t5, t1, ())) fun y2 =>
      bif !y2.1 then
        some (false, ())
      else
        J4 (t0, t1, wI (t5 + 1), ())
    else
      none
  else
    some (true, ())
noncomputable def hd {R : Type} (Gspec_l1In : spec_l1In.PI → Option spec_l1In.PO) (Gspec_l20Step : spec_l20Step.PI → Option spec_l20Step.PO) : Hand R := (handAt 118 [27] true ⟨3, 1, 3, spec_l20Step.pin, spec_l20Step.pout, Gspec_l20Step⟩ (handAt 103 [7, 12] true ⟨3, 1, 3, spec_l1In.pin, spec_l1In.pout, Gspec_l1In⟩ handNil))
noncomputable def pg (Gspec_l1In : spec_l1In.PI → Option spec_l1In.PO) (Gspec_l20Step : spec_l20Step.PI → Option spec_l20Step.PO) (J3 : List Item → P3 → Option PO) (J4 : List Item → P4 → Option PO) : Prog PO := { nt := 29, np := 2, tb := tabOf tab, hd := hd Gspec_l1In Gspec_l20Step, cuts := cutsOf [(3, cut p3 J3), (4, cut p4 J4)], fin := endOf (tabOf tab) rs 2 pout }
noncomputable def q : FuncId → Bool := fun f => hasId [103, 118] f
theorem seg0 (Gspec_l1In : spec_l1In.PI → Option spec_l1In.PO) (Gspec_l20Step : spec_l20Step.PI → Option spec_l20Step.PO) (J3 : List Item → P3 → Option PO) (J4 : List Item → P4 → Option PO) (x0 : List (Int × Int × Int × Int)) (x1 : Int) : arun (pg Gspec_l1In Gspec_l20Step J3 J4) 5000 [.code c0] (mk pin (x0, x1, ())) = F0 (J3 T3) Gspec_l1In x0 x1 := by kernel_rfl
theorem seg3 (Gspec_l1In : spec_l1In.PI → Option spec_l1In.PO) (Gspec_l20Step : spec_l20Step.PI → Option spec_l20Step.PO) (J3 : List Item → P3 → Option PO) (J4 : List Item → P4 → Option PO) (t0 : List (Int × Int × Int × Int)) (t1 : Int) : arun1 (pg Gspec_l1In Gspec_l20Step J3 J4) 5000 T3 (mk p3 (t0, t1, ())) = F3 (J4 T4) t0 t1 := by kernel_rfl
theorem seg4 (Gspec_l1In : spec_l1In.PI → Option spec_l1In.PO) (Gspec_l20Step : spec_l20Step.PI → Option spec_l20Step.PO) (J3 : List Item → P3 → Option PO) (J4 : List Item → P4 → Option PO) (t0 : List (Int × Int × Int × Int)) (t1 : Int) (t5 : Int) : arun1 (pg Gspec_l1In Gspec_l20Step J3 J4) 5000 T4 (mk p4 (t0, t1, t5, ())) = F4 (J4 T4) Gspec_l20Step t0 t1 t5 := by kernel_rfl
noncomputable def L4 : P4 → Option PO := lfp fun J4 x => F4 J4 spec_l20Step.impl x.1 x.2.1 x.2.2.1
noncomputable def L3 : P3 → Option PO := fun x => F3 L4 x.1 x.2.1
noncomputable def impl : PI → Option PO := fun x => F0 L3 spec_l1In.impl x.1 x.2.1
theorem F4_le {J4 J4' : P4 → Option PO} (h4 : OLe J4 J4') {Gspec_l20Step : spec_l20Step.PI → Option spec_l20Step.PO} (t0 : List (Int × Int × Int × Int)) (t1 : Int) (t5 : Int) : OptLe (F4 J4 Gspec_l20Step t0 t1 t5) (F4 J4' Gspec_l20Step t0 t1 t5) := by unfold F4; exact .cond (.cond (.bind (.refl _) fun _ => .cond (.refl _) (.of h4 _)) (.refl _)) (.refl _)
theorem L4_mono : OMono fun J4 (x : P4) => F4 J4 spec_l20Step.impl x.1 x.2.1 x.2.2.1 := fun J J' h4 x => F4_le h4 x.1 x.2.1 x.2.2.1
theorem L4_eq (t0 : List (Int × Int × Int × Int)) (t1 : Int) (t5 : Int) : L4 (t0, t1, t5, ()) = F4 (L4) spec_l20Step.impl t0 t1 t5 := congrFun (lfp_eq (L4_mono)) _
theorem L3_eq (t0 : List (Int × Int × Int × Int)) (t1 : Int) : L3 (t0, t1, ()) = F3 (L4) t0 t1 := rfl
theorem impl_eq (x0 : List (Int × Int × Int × Int)) (x1 : Int) : impl (x0, x1, ()) = F0 L3 spec_l1In.impl x0 x1 := rfl
theorem con : Con Tryd.prog 70 2 rs.length 2 pin pout impl := by
  refine con_of_run' (nt := 29) (c := c0) tabGood Tryd.func70 (by kernel_rfl) (by kernel_rfl) (by kernel_rfl) (by kernel_rfl) (by kernel_rfl) (by kernel_rfl) (by kernel_rfl) ?_
  intro w0 O y hnp
  generalize hPost : (fun (a' : Act) (w' : World) => ∃ μ' S' st', Rel 29 w0 O μ' S' st' a' w' ∧ endOf (tabOf tab) rs 2 pout st' = some y) = Post
  have fin : ∀ (μ : Id → Option Value) (S : Nat → Prop) (st : St) (a : Act) (w : World), Rel 29 w0 O μ S st a w → endOf (tabOf tab) rs 2 pout st = some y → Post a w := fun μ S st a w h he => by rw [← hPost]; exact ⟨μ, S, st, h, he⟩
  have hp : ∀ (J3 : List Item → P3 → Option PO), ∀ (J4 : List Item → P4 → Option PO), Parts Tryd.prog 70 (pg spec_l1In.impl spec_l20Step.impl J3 J4) [(3, cut p3 J3), (4, cut p4 J4)] := fun J3 J4 => ⟨tab_ok tabGood rfl, (handAt_ok spec_l20Step.con (handAt_ok spec_l1In.con handNil_ok)), rfl⟩
  have g4 : Good Tryd.prog 29 w0 O Post y T4 p4 L4 := good_lfp fun J4 h4 => good_part (hp (atT T3 (fun _ => none)) (atT T4 J4)) (runOK_of (hp (atT T3 (fun _ => none)) (atT T4 J4)) hnp ⟨cutOK_at (p := p3) (T := T3) (J := fun _ => none) good_none, cutOK_at h4, trivial⟩ fin) (fun x => (seg4 spec_l1In.impl spec_l20Step.impl (atT T3 (fun _ => none)) (atT T4 J4) x.1 x.2.1 x.2.2.1).trans (by simp only [atT_self] <;> rfl))
  have g3 : Good Tryd.prog 29 w0 O Post y T3 p3 L3 := good_part (hp (atT T3 (fun _ => none)) (atT T4 L4)) (runOK_of (hp (atT T3 (fun _ => none)) (atT T4 L4)) hnp ⟨cutOK_at (p := p3) (T := T3) (J := fun _ => none) good_none, cutOK_at g4, trivial⟩ fin) (fun x => (seg3 spec_l1In.impl spec_l20Step.impl (atT T3 (fun _ => none)) (atT T4 L4) x.1 x.2.1).trans (by simp only [atT_self] <;> rfl))
  exact good_first (hp (atT T3 L3) (atT T4 (fun _ => none))) (runOK_of (hp (atT T3 L3) (atT T4 (fun _ => none))) hnp ⟨cutOK_at g3, cutOK_at (p := p4) (T := T4) (J := fun _ => none) good_none, trivial⟩ fin) (fun x => (seg0 spec_l1In.impl spec_l20Step.impl (atT T3 L3) (atT T4 (fun _ => none)) x.1 x.2.1).trans (by simp only [atT_self] <;> rfl))
end spec_TimesValid

/-! ### loop.example/wholecheck/spec.l20Put -/
namespace spec_l20Put
noncomputable abbrev c0 : Code := (Tryd.f119.body).getD .skip
noncomputable abbrev pin : Tpl := ⟨[⟨0, false, [.row 500001]⟩, ⟨1, true, [.d (.prod (.int .i64) (.prod (.int .i64) (.prod (.int .i64) (.last (.int .i64)))))]⟩], [(500001, .row 48 false (.prod (.int .i64) (.prod (.int .i64) (.prod (.int .i64) (.last (.int .i64))))))]⟩
noncomputable abbrev pout : Tpl := ⟨[⟨0, false, [.row 500001]⟩, ⟨1, false, [.d (.int .i64)]⟩], [(500001, .row 48 false (.prod (.int .i64) (.prod (.int .i64) (.prod (.int .i64) (.last (.int .i64))))))]⟩
noncomputable abbrev p2 : Tpl := ⟨[⟨0, false, [.row 500001]⟩, ⟨3, false, [.ptr 3000000 0]⟩, ⟨6, false, [.d (.int .i64)]⟩], [(500001, .row 48 false (.prod (.int .i64) (.prod (.int .i64) (.prod (.int .i64) (.last (.int .i64)))))), (3000000, .box [.d (.int .i64), .d (.int .i64), .d (.int .i64), .d (.int .i64)])]⟩
noncomputable def T2 : List Item := (find 2 c0 []).getD []
noncomputable abbrev p4 : Tpl := ⟨[⟨0, false, [.row 500001]⟩, ⟨3, false, [.ptr 3000000 0]⟩, ⟨6, false, [.d (.int .i64)]⟩], [(500001, .row 48 false (.prod (.int .i64) (.prod (.int .i64) (.prod (.int .i64) (.last (.int .i64)))))), (3000000, .box [.d (.int .i64), .d (.int .i64), .d (.int .i64), .d (.int .i64)])]⟩
noncomputable def T4 : List Item := (find 4 c0 []).getD []
noncomputable abbrev PI := (Int × Int × Int × Int) × (List (Int × Int × Int × Int)) × Unit
noncomputable abbrev PO := Int × (List (Int × Int × Int × Int)) × Unit
noncomputable abbrev P2 := Int × (List (Int × Int × Int × Int)) × Int × Int × Int × Int × Unit
noncomputable abbrev P4 := Int × (List (Int × Int × Int × Int)) × Int × Int × Int × Int × Unit
noncomputable abbrev rs : List ResultVar := [.tmp 4, .tmp 5]
noncomputable def F0 (J2 : P2 → Option PO) (x1 : Int × Int × Int × Int) (s1 : List (Int × Int × Int × Int)) : Option PO :=
  J2 (0, s1, x1.1, x1.2.1, x1.2.2.1, x1.2.2.2, ())
noncomputable def F2 (J4 : P4 → Option PO) (t6 : Int) (s1 : List (Int × Int × Int × Int)) (b0_0 : Int) (b0_1 : Int) (b0_2 : Int) (b0_3 : Int) : Option PO :=
  bif decide (t6 < (s1.length : Int)) then
    J4 (t6, s1, b0_0, b0_1, b0_2, b0_3, ())
  else
    bif decide ((s1.length + ([(b0_0, b0_1, b0_2, b0_3)] : List (Int × Int × Int × Int)).length) * 32 ≤ 140737488355328) then
      some ((s1.length : Int), s1 ++ ([(b0_0, b0_1, b0_2, b0_3)] : List (Int × Int × Int × Int)), ())
    else
      none
noncomputable def F4 (J2 : P2 → Option PO) (t6 : Int) (s1 : List (Int × Int × Int × Int)) (b0_0 : Int) (b0_1 : Int) (b0_2 : Int) (b0_3 : Int) : Option PO :=
  bif inb t6 s1.length then
    bif (((s1.getD t6.toNat (0, 0, 0, 0)).1 == b0_0) && (((s1.getD t6.toNat (0, 0, 0, 0)).2.1 == b0_1) && (((s1.getD t6.toNat (0, 0, 0, 0)).2.2.1 == b0_2) && ((s1.getD t6.toNat (0, 0, 0, 0)).2.2.2 == b0_3)))) then
      some (t6, s1, ())
    else
      J2 (wI (t6 + 1), s1, b0_0, b0_1, b0_2, b0_3, ())
  else
    none
noncomputable def hd {R : Type} : Hand R := handNil
noncomputable def pg (J2 : List Item → P2 → Option PO) (J4 : List Item → P4 → Option PO) : Prog PO := { nt := 27, np := 2, tb := tabOf tab, hd := hd, cuts := cutsOf [(2, cut p2 J2), (4, cut p4 J4)], fin := endOf (tabOf tab) rs 2 pout }
noncomputable def q : FuncId → Bool := fun f => hasId [] f
theorem seg0 (J2 : List Item → P2 → Option PO) (J4 : List Item → P4 → Option PO) (x1 : Int × Int × Int × Int) (s1 : List (Int × Int × Int × Int)) : arun (pg J2 J4) 5000 [.code c0] (mk pin (x1, s1, ())) = F0 (J2 T2) x1 s1 := by kernel_rfl
theorem seg2 (J2 : List Item → P2 → Option PO) (J4 : List Item → P4 → Option PO) (t6 : Int) (s1 : List (Int × Int × Int × Int)) (b0_0 : Int) (b0_1 : Int) (b0_2 : Int) (b0_3 : Int) : arun1 (pg J2 J4) 5000 T2 (mk p2 (t6, s1, b0_0, b0_1, b0_2, b0_3, ())) = F2 (J4 T4) t6 s1 b0_0 b0_1 b0_2 b0_3 := by kernel_rfl
theorem seg4 (J2 : List Item → P2 → Option PO) (J4 : List Item → P4 → Option PO) (t6 : Int) (s1 : List (Int × Int × Int × Int)) (b0_0 : Int) (b0_1 : Int) (b0_2 : Int) (b0_3 : Int) : arunQ (pg J2 J4) q [] [] 5000 T4 (mk p4 (t6, s1, b0_0, b0_1, b0_2, b0_3, ())) = List.replicate (arunQ (pg J2 J4) q [] [] 5000 T4 (mk p4 (t6, s1, b0_0, b0_1, b0_2, b0_3, ()))).length (F4 (J2 T2) t6 s1 b0_0 b0_1 b0_2 b0_3) := by kernel_rfl
noncomputable def L4 (J2 : P2 → Option PO) : P4 → Option PO := fun x => F4 J2 x.1 x.2.1 x.2.2.1 x.2.2.2.1 x.2.2.2.2.1 x.2.2.2.2.2.1
noncomputable def L2 : P2 → Option PO := lfp fun J2 x => F2 (L4 J2) x.1 x.2.1 x.2.2.1 x.2.2.2.1 x.2.2.2.2.1 x.2.2.2.2.2.1
noncomputable def impl : PI → Option PO := fun x => F0 L2 x.1 x.2.1
theorem F4_le {J2 J2' : P2 → Option PO} (h2 : OLe J2 J2') (t6 : Int) (s1 : List (Int × Int × Int × Int)) (b0_0 : Int) (b0_1 : Int) (b0_2 : Int) (b0_3 : Int) : OptLe (F4 J2 t6 s1 b0_0 b0_1 b0_2 b0_3) (F4 J2' t6 s1 b0_0 b0_1 b0_2 b0_3) := by unfold F4; exact .cond (.cond (.refl _) (.of h2 _)) (.refl _)
theorem F2_le {J4 J4' : P4 → Option PO} (h4 : OLe J4 J4') (t6 : Int) (s1 : List (Int × Int × Int × Int)) (b0_0 : Int) (b0_1 : Int) (b0_2 : Int) (b0_3 : Int) : OptLe (F2 J4 t6 s1 b0_0 b0_1 b0_2 b0_3) (F2 J4' t6 s1 b0_0 b0_1 b0_2 b0_3) := by unfold F2; exact .cond (.of h4 _) (.refl _)
theorem L4_eq (J2 : P2 → Option PO) (t6 : Int) (s1 : List (Int × Int × Int × Int)) (b0_0 : Int) (b0_1 : Int) (b0_2 : Int) (b0_3 : Int) : L4 J2 (t6, s1, b0_0, b0_1, b0_2, b0_3, ()) = F4 J2 t6 s1 b0_0 b0_1 b0_2 b0_3 := rfl
theorem L4_le {J2 J2' : P2 → Option PO} (h2 : OLe J2 J2') : OLe (L4 J2) (L4 J2') := fun x => F4_le h2 x.1 x.2.1 x.2.2.1 x.2.2.2.1 x.2.2.2.2.1 x.2.2.2.2.2.1
theorem L2_mono : OMono fun J2 (x : P2) => F2 (L4 J2) x.1 x.2.1 x.2.2.1 x.2.2.2.1 x.2.2.2.2.1 x.2.2.2.2.2.1 := fun J J' h2 x => F2_le (L4_le h2) x.1 x.2.1 x.2.2.1 x.2.2.2.1 x.2.2.2.2.1 x.2.2.2.2.2.1
theorem L2_eq (t6 : Int) (s1 : List (Int × Int × Int × Int)) (b0_0 : Int) (b0_1 : Int) (b0_2 : Int) (b0_3 : Int) : L2 (t6, s1, b0_0, b0_1, b0_2, b0_3, ()) = F2 (L4 (L2)) t6 s1 b0_0 b0_1 b0_2 b0_3 := congrFun (lfp_eq (L2_mono)) _
theorem impl_eq (x1 : Int × Int × Int × Int) (s1 : List (Int × Int × Int × Int)) : impl (x1, s1, ()) = F0 L2 x1 s1 := rfl
theorem con : Con Tryd.prog 119 2 rs.length 2 pin pout impl := by
  refine con_of_run' (nt := 27) (c := c0) tabGood Tryd.func119 (by kernel_rfl) (by kernel_rfl) (by kernel_rfl) (by kernel_rfl) (by kernel_rfl) (by kernel_rfl) (by kernel_rfl) ?_
  intro w0 O y hnp
  generalize hPost : (fun (a' : Act) (w' : World) => ∃ μ' S' st', Rel 27 w0 O μ' S' st' a' w' ∧ endOf (tabOf tab) rs 2 pout st' = some y) = Post
  have fin : ∀ (μ : Id → Option Value) (S : Nat → Prop) (st : St) (a : Act) (w : World), Rel 27 w0 O μ S st a w → endOf (tabOf tab) rs 2 pout st = some y → Post a w := fun μ S st a w h he => by rw [← hPost]; exact ⟨μ, S, st, h, he⟩
  have hp : ∀ (J2 : List Item → P2 → Option PO), ∀ (J4 : List Item → P4 → Option PO), Parts Tryd.prog 119 (pg J2 J4) [(2, cut p2 J2), (4, cut p4 J4)] := fun J2 J4 => ⟨tab_ok tabGood rfl, handNil_ok, rfl⟩
  have g4 : ∀ (J2 : P2 → Option PO), Good Tryd.prog 27 w0 O Post y T2 p2 J2 → Good Tryd.prog 27 w0 O Post y T4 p4 (L4 J2) := fun J2 h2 => good_quiet (hs := hd) (cv' := hd) (Checked.mixed Tryd.checked) (hp (atT T2 J2) (atT T4 (fun _ => none))) handNil_D handNil_nat handNil_nat (runOK_of (hp (atT T2 J2) (atT T4 (fun _ => none))) hnp ⟨cutOK_at h2, cutOK_at (p := p4) (T := T4) (J := fun _ => none) good_none, trivial⟩ fin) (fun x => all_same ⟨_, (seg4 (atT T2 J2) (atT T4 (fun _ => none)) x.1 x.2.1 x.2.2.1 x.2.2.2.1 x.2.2.2.2.1 x.2.2.2.2.2.1).trans (by simp only [atT_self] <;> rfl)⟩)
  have g2 : Good Tryd.prog 27 w0 O Post y T2 p2 L2 := good_lfp fun J2 h2 => good_part (hp (atT T2 (fun _ => none)) (atT T4 (L4 J2))) (runOK_of (hp (atT T2 (fun _ => none)) (atT T4 (L4 J2))) hnp ⟨cutOK_at (p := p2) (T := T2) (J := fun _ => none) good_none, cutOK_at (g4 J2 h2), trivial⟩ fin) (fun x => (seg2 (atT T2 (fun _ => none)) (atT T4 (L4 J2)) x.1 x.2.1 x.2.2.1 x.2.2.2.1 x.2.2.2.2.1 x.2.2.2.2.2.1).trans (by simp only [atT_self] <;> rfl))
  exact good_first (hp (atT T2 L2) (atT T4 (fun _ => none))) (runOK_of (hp (atT T2 L2) (atT T4 (fun _ => none))) hnp ⟨cutOK_at g2, cutOK_at (p := p4) (T := T4) (J := fun _ => none) good_none, trivial⟩ fin) (fun x => (seg0 (atT T2 L2) (atT T4 (fun _ => none)) x.1 x.2.1).trans (by simp only [atT_self] <;> rfl))
end spec_l20Put

/-! ### loop.example/wholecheck/spec.l20Turned -/
namespace spec_l20Turned
noncomputable abbrev c0 : Code := (Tryd.f120.body).getD .skip
noncomputable abbrev pin : Tpl := ⟨[⟨0, false, [.d (.int .i64)]⟩], []⟩
noncomputable abbrev pout : Tpl := ⟨[⟨0, false, [.d (.int .i64)]⟩], []⟩
noncomputable abbrev PI := Int × Unit
noncomputable abbrev PO := Int × Unit
noncomputable abbrev rs : List ResultVar := [.tmp 2]
noncomputable def F0 (x0 : Int) : Option PO :=
  bif inb x0 ([0, 1, 2, 4, 3, 5, 7, 6] : List Int).length then
    some (([0, 1, 2, 4, 3, 5, 7, 6] : List Int).getD x0.toNat 0, ())
  else
    none
noncomputable def hd {R : Type} : Hand R := handNil
noncomputable def pg : Prog PO := { nt := 7, np := 1, tb := tabOf tab, hd := hd, cuts := cutsOf [], fin := endOf (tabOf tab) rs 1 pout }
noncomputable def q : FuncId → Bool := fun f => hasId [] f
theorem seg0 (x0 : Int) : arun (pg) 5000 [.code c0] (mk pin (x0, ())) = F0 x0 := by kernel_rfl
noncomputable def impl : PI → Option PO := fun x => F0 x.1
theorem impl_eq (x0 : Int) : impl (x0, ()) = F0 x0 := rfl
theorem con : Con Tryd.prog 120 1 rs.length 1 pin pout impl := by
  refine con_of_run' (nt := 7) (c := c0) tabGood Tryd.func120 (by kernel_rfl) (by kernel_rfl) (by kernel_rfl) (by kernel_rfl) (by kernel_rfl) (by kernel_rfl) (by kernel_rfl) ?_
  intro w0 O y hnp
  generalize hPost : (fun (a' : Act) (w' : World) => ∃ μ' S' st', Rel 7 w0 O μ' S' st' a' w' ∧ endOf (tabOf tab) rs 1 pout st' = some y) = Post
  have fin : ∀ (μ : Id → Option Value) (S : Nat → Prop) (st : St) (a : Act) (w : World), Rel 7 w0 O μ S st a w → endOf (tabOf tab) rs 1 pout st = some y → Post a w := fun μ S st a w h he => by rw [← hPost]; exact ⟨μ, S, st, h, he⟩
  have hp : Parts Tryd.prog 120 (pg) [] := ⟨tab_ok tabGood rfl, handNil_ok, rfl⟩
  exact good_first (hp) (runOK_of (hp) hnp trivial fin) (fun x => (seg0 x.1))
end spec_l20Turned

/-! ### loop.example/wholecheck/spec.l20Push -/
namespace spec_l20Push
noncomputable abbrev c0 : Code := (Tryd.f71.body).getD .skip
noncomputable abbrev pin : Tpl := ⟨[⟨0, false, [.row 500001]⟩, ⟨1, false, [.d (.sl (.prod (.int .i64) (.prod (.int .i64) (.prod (.int .i64) (.last (.int .i64))))))]⟩, ⟨2, false, [.d (.int .i64)]⟩, ⟨3, false, [.d .bool]⟩], [(500001, .row 48 false (.prod (.int .i64) (.prod (.int .i64) (.prod (.int .i64) (.last (.int .i64))))))]⟩
noncomputable abbrev pout : Tpl := ⟨[⟨0, false, [.row 500001]⟩, ⟨1, false, [.d (.int .i64)]⟩], [(500001, .row 48 false (.prod (.int .i64) (.prod (.int .i64) (.prod (.int .i64) (.last (.int .i64))))))]⟩
noncomputable abbrev p12 : Tpl := ⟨[⟨0, false, [.row 500001]⟩, ⟨1, false, [.d (.sl (.prod (.int .i64) (.prod (.int .i64) (.prod (.int .i64) (.last (.int .i64))))))]⟩, ⟨3, false, [.d .bool]⟩, ⟨10, false, [.ptr 3000000 0]⟩, ⟨13, false, [.d (.int .i64)]⟩], [(500001, .row 48 false (.prod (.int .i64) (.prod (.int .i64) (.prod (.int .i64) (.last (.int .i64)))))), (3000000, .box [.d (.int .i64), .d (.int .i64), .d (.int .i64), .d (.int .i64)])]⟩
noncomputable def T12 : List Item := (find 12 c0 []).getD []
noncomputable abbrev PI := (List (Int × Int × Int × Int)) × Int × Bool × (List (Int × Int × Int × Int)) × Unit
noncomputable abbrev PO := Int × (List (Int × Int × Int × Int)) × Unit
noncomputable abbrev P12 := (List (Int × Int × Int × Int)) × Bool × Int × (List (Int × Int × Int × Int)) × Int × Int × Int × Int × Unit
noncomputable abbrev rs : List ResultVar := [.tmp 8, .tmp 9]
noncomputable def F0 (J12 : P12 → Option PO) (Gspec_l20Push : PI → Option PO) (Gspec_l20Put : spec_l20Put.PI → Option spec_l20Put.PO) (Gspec_l20Turned : spec_l20Turned.PI → Option spec_l20Turned.PO) (x1 : List (Int × Int × Int × Int)) (x2 : Int) (x3 : Bool) (s1 : List (Int × Int × Int × Int)) : Option PO :=
  bif inb x2 x1.length then
    bif (x1.getD x2.toNat (0, 0, 0, 0)).1 == 2 then
      Option.bind (Gspec_l20Push (x1, (x1.getD x2.toNat (0, 0, 0, 0)).2.2.1, !x3, s1, ())) fun y0 =>
      some (y0.1, y0.2.1, ())
    else
      bif decide ((x1.getD x2.toNat (0, 0, 0, 0)).1 ≤ 1) then
        Option.bind (Gspec_l20Put (x1.getD x2.toNat (0, 0, 0, 0), s1, ())) fun y1 =>
        bif x3 then
          Option.bind (Gspec_l20Put ((2, 0, y1.1, y1.1), y1.2.1, ())) fun y2 =>
          some (y2.1, y2.2.1, ())
        else
          some (y1.1, y1.2.1, ())
      else
        bif x3 then
          Option.bind (Gspec_l20Turned ((x1.getD x2.toNat (0, 0, 0, 0)).1, ())) fun y3 =>
          J12 (x1, x3, y3.1, s1, (x1.getD x2.toNat (0, 0, 0, 0)).1, (x1.getD x2.toNat (0, 0, 0, 0)).2.1, (x1.getD x2.toNat (0, 0, 0, 0)).2.2.1, (x1.getD x2.toNat (0, 0, 0, 0)).2.2.2, ())
        else
          J12 (x1, x3, (x1.getD x2.toNat (0, 0, 0, 0)).1, s1, (x1.getD x2.toNat (0, 0, 0, 0)).1, (x1.getD x2.toNat (0, 0, 0, 0)).2.1, (x1.getD x2.toNat (0, 0, 0, 0)).2.2.1, (x1.getD x2.toNat (0, 0, 0, 0)).2.2.2, ())
  else
    none
noncomputable def F12 (Gspec_l20Push : PI → Option PO) (Gspec_l20Put : spec_l20Put.PI → Option spec_l20Put.PO) (t1 : List (Int × Int × Int × Int)) (t3 : Bool) (t13 : Int) (s1 : List (Int × Int × Int × Int)) (b0_0 : Int) (b0_1 : Int) (b0_2 : Int) (b0_3 : Int) : Option PO :=
  Option.bind (Gspec_l20Push (t1, b0_2, t3, s1, ())) fun y4 =>
  bif t13 == 5 then
    Option.bind (Gspec_l20Put ((t13, 0, y4.1, y4.1), y4.2.1, ())) fun y5 =>
    some (y5.1, y5.2.1, ())
  else
    Option.bind (Gspec_l20Push (t1, b0_3, t3, y4.2.1, ())) fun y6 =>
    Option.bind (Gspec_l20Put ((t13, 0, y4.1, y6.1), y6.2.1, ())) fun y7 =>
    some (y7.1, y7.2.1, ())
noncomputable def hd {R : Type} (Gspec_l20Push : PI → Option PO) (Gspec_l20Put : spec_l20Put.PI → Option spec_l20Put.PO) (Gspec_l20Turned : spec_l20Turned.PI → Option spec_l20Turned.PO) : Hand R := (handAt 120 [57] true ⟨1, 1, 1, spec_l20Turned.pin, spec_l20Turned.pout, Gspec_l20Turned⟩ (handAt 119 [40, 48, 74, 91] true ⟨2, 2, 2, spec_l20Put.pin, spec_l20Put.pout, Gspec_l20Put⟩ (handAt 71 [31, 64, 83] true ⟨4, 2, 4, pin, pout, Gspec_l20Push⟩ handNil)))
noncomputable def pg (Gspec_l20Push : PI → Option PO) (Gspec_l20Put : spec_l20Put.PI → Option spec_l20Put.PO) (Gspec_l20Turned : spec_l20Turned.PI → Option spec_l20Turned.PO) (J12 : List Item → P12 → Option PO) : Prog PO := { nt := 94, np := 4, tb := tabOf tab, hd := hd Gspec_l20Push Gspec_l20Put Gspec_l20Turned, cuts := cutsOf [(12, cut p12 J12)], fin := endOf (tabOf tab) rs 4 pout }
noncomputable def q : FuncId → Bool := fun f => hasId [120] f
theorem seg0 (Gspec_l20Push : PI → Option PO) (Gspec_l20Put : spec_l20Put.PI → Option spec_l20Put.PO) (Gspec_l20Turned : spec_l20Turned.PI → Option spec_l20Turned.PO) (J12 : List Item → P12 → Option PO) (x1 : List (Int × Int × Int × Int)) (x2 : Int) (x3 : Bool) (s1 : List (Int × Int × Int × Int)) : arun (pg Gspec_l20Push Gspec_l20Put Gspec_l20Turned J12) 5000 [.code c0] (mk pin (x1, x2, x3, s1, ())) = F0 (J12 T12) Gspec_l20Push Gspec_l20Put Gspec_l20Turned x1 x2 x3 s1 := by kernel_rfl
theorem seg12 (Gspec_l20Push : PI → Option PO) (Gspec_l20Put : spec_l20Put.PI → Option spec_l20Put.PO) (Gspec_l20Turned : spec_l20Turned.PI → Option spec_l20Turned.PO) (J12 : List Item → P12 → Option PO) (t1 : List (Int × Int × Int × Int)) (t3 : Bool) (t13 : Int) (s1 : List (Int × Int × Int × Int)) (b0_0 : Int) (b0_1 : Int) (b0_2 : Int) (b0_3 : Int) : arun1 (pg Gspec_l20Push Gspec_l20Put Gspec_l20Turned J12) 5000 T12 (mk p12 (t1, t3, t13, s1, b0_0, b0_1, b0_2, b0_3, ())) = F12 Gspec_l20Push Gspec_l20Put t1 t3 t13 s1 b0_0 b0_1 b0_2 b0_3 := by kernel_rfl
noncomputable def L12 (Gself : PI → Option PO) : P12 → Option PO := fun x => F12 Gself spec_l20Put.impl x.1 x.2.1 x.2.2.1 x.2.2.2.1 x.2.2.2.2.1 x.2.2.2.2.2.1 x.2.2.2.2.2.2.1 x.2.2.2.2.2.2.2.1
noncomputable def step (Gself : PI → Option PO) : PI → Option PO := fun x => F0 (L12 Gself) Gself spec_l20Put.impl spec_l20Turned.impl x.1 x.2.1 x.2.2.1 x.2.2.2.1
noncomputable def impl : PI → Option PO := lfp step
theorem F12_le {Gself Gself' : PI → Option PO} (hG : OLe Gself Gself') {Gspec_l20Put : spec_l20Put.PI → Option spec_l20Put.PO} (t1 : List (Int × Int × Int × Int)) (t3 : Bool) (t13 : Int) (s1 : List (Int × Int × Int × Int)) (b0_0 : Int) (b0_1 : Int) (b0_2 : Int) (b0_3 : Int) : OptLe (F12 Gself Gspec_l20Put t1 t3 t13 s1 b0_0 b0_1 b0_2 b0_3) (F12 Gself' Gspec_l20Put t1 t3 t13 s1 b0_0 b0_1 b0_2 b0_3) := by unfold F12; exact .bind (.of hG _) fun _ => .cond (.refl _) (.bind (.of hG _) fun _ => .refl _)
theorem F0_le {J12 J12' : P12 → Option PO} (h12 : OLe J12 J12') {Gself Gself' : PI → Option PO} (hG : OLe Gself Gself') {Gspec_l20Put : spec_l20Put.PI → Option spec_l20Put.PO} {Gspec_l20Turned : spec_l20Turned.PI → Option spec_l20Turned.PO} (x1 : List (Int × Int × Int × Int)) (x2 : Int) (x3 : Bool) (s1 : List (Int × Int × Int × Int)) : OptLe (F0 J12 Gself Gspec_l20Put Gspec_l20Turned x1 x2 x3 s1) (F0 J12' Gself' Gspec_l20Put Gspec_l20Turned x1 x2 x3 s1) := by unfold F0; exact .cond (.cond (.bind (.of hG _) fun _ => .refl _) (.cond (.refl _) (.cond (.bind (.refl _) fun _ => .of h12 _) (.of h12 _)))) (.refl _)
theorem L12_eq (Gself : PI → Option PO) (t1 : List (Int × Int × Int × Int)) (t3 : Bool) (t13 : Int) (s1 : List (Int × Int × Int × Int)) (b0_0 : Int) (b0_1 : Int) (b0_2 : Int) (b0_3 : Int) : L12 Gself (t1, t3, t13, s1, b0_0, b0_1, b0_2, b0_3, ()) = F12 Gself spec_l20Put.impl t1 t3 t13 s1 b0_0 b0_1 b0_2 b0_3 := rfl
theorem L12_le {Gself Gself' : PI → Option PO} (hG : OLe Gself Gself') : OLe (L12 Gself) (L12 Gself') := fun x => F12_le hG x.1 x.2.1 x.2.2.1 x.2.2.2.1 x.2.2.2.2.1 x.2.2.2.2.2.1 x.2.2.2.2.2.2.1 x.2.2.2.2.2.2.2.1
theorem step_mono : OMono step := fun G G' hG x => F0_le (L12_le hG) hG x.1 x.2.1 x.2.2.1 x.2.2.2.1
theorem impl_eq (x1 : List (Int × Int × Int × Int)) (x2 : Int) (x3 : Bool) (s1 : List (Int × Int × Int × Int)) : impl (x1, x2, x3, s1, ()) = F0 (L12 impl) impl spec_l20Put.impl spec_l20Turned.impl x1 x2 x3 s1 := congrFun (lfp_eq step_mono) _
theorem con_step (Gself : PI → Option PO) (hself : Con Tryd.prog 71 4 rs.length 4 pin pout Gself) : Con Tryd.prog 71 4 rs.length 4 pin pout (step Gself) := by
  refine con_of_run' (nt := 94) (c := c0) tabGood Tryd.func71 (by kernel_rfl) (by kernel_rfl) (by kernel_rfl) (by kernel_rfl) (by kernel_rfl) (by kernel_rfl) (by kernel_rfl) ?_
  intro w0 O y hnp
  generalize hPost : (fun (a' : Act) (w' : World) => ∃ μ' S' st', Rel 94 w0 O μ' S' st' a' w' ∧ endOf (tabOf tab) rs 4 pout st' = some y) = Post
  have fin : ∀ (μ : Id → Option Value) (S : Nat → Prop) (st : St) (a : Act) (w : World), Rel 94 w0 O μ S st a w → endOf (tabOf tab) rs 4 pout st = some y → Post a w := fun μ S st a w h he => by rw [← hPost]; exact ⟨μ, S, st, h, he⟩
  have hp : ∀ (J12 : List Item → P12 → Option PO), Parts Tryd.prog 71 (pg Gself spec_l20Put.impl spec_l20Turned.impl J12) [(12, cut p12 J12)] := fun J12 => ⟨tab_ok tabGood rfl, (handAt_ok spec_l20Turned.con (handAt_ok spec_l20Put.con (handAt_ok hself handNil_ok))), rfl⟩
  have g12 : Good Tryd.prog 94 w0 O Post y T12 p12 (L12 Gself) := good_part (hp (atT T12 (fun _ => none))) (runOK_of (hp (atT T12 (fun _ => none))) hnp ⟨cutOK_at (p := p12) (T := T12) (J := fun _ => none) good_none, trivial⟩ fin) (fun x => (seg12 Gself spec_l20Put.impl spec_l20Turned.impl (atT T12 (fun _ => none)) x.1 x.2.1 x.2.2.1 x.2.2.2.1 x.2.2.2.2.1 x.2.2.2.2.2.1 x.2.2.2.2.2.2.1 x.2.2.2.2.2.2.2.1))
  exact good_first (hp (atT T12 (L12 Gself))) (runOK_of (hp (atT T12 (L12 Gself))) hnp ⟨cutOK_at g12, trivial⟩ fin) (fun x => (seg0 Gself spec_l20Put.impl spec_l20Turned.impl (atT T12 (L12 Gself)) x.1 x.2.1 x.2.2.1 x.2.2.2.1).trans (by simp only [atT_self] <;> rfl))
theorem con : Con Tryd.prog 71 4 rs.length 4 pin pout impl := con_lfp (c := c0) Tryd.func71 (by kernel_rfl) (by kernel_rfl) (by kernel_rfl) con_step
end spec_l20Push

/-! ### loop.example/wholecheck/spec.Pushed -/
namespace spec_Pushed
noncomputable abbrev c0 : Code := (Tryd.f23.body).getD .skip
noncomputable abbrev pin : Tpl := ⟨[⟨0, false, [.d (.sl (.prod (.int .i64) (.prod (.int .i64) (.prod (.int .i64) (.last (.int .i64))))))]⟩, ⟨1, false, [.d (.int .i64)]⟩], []⟩
noncomputable abbrev pout : Tpl := ⟨[⟨0, false, [.d (.sl (.prod (.int .i64) (.prod (.int .i64) (.prod (.int .i64) (.last (.int .i64))))))]⟩], []⟩
noncomputable abbrev PI := (List (Int × Int × Int × Int)) × Int × Unit
noncomputable abbrev PO := (List (Int × Int × Int × Int)) × Unit
noncomputable abbrev rs : List ResultVar := [.tmp 4]
noncomputable def F0 (Gspec_TimesValid : spec_TimesValid.PI → Option spec_TimesValid.PO) (Gspec_l20Push : spec_l20Push.PI → Option spec_l20Push.PO) (x0 : List (Int × Int × Int × Int)) (x1 : Int) : Option PO :=
  Option.bind (Gspec_TimesValid (x0, x1, ())) fun y0 =>
  bif !y0.1 then
    some ([], ())
  else
    Option.bind (Gspec_l20Push (x0, wI ((x0.length : Int) - 1), false, ([] : List (Int × Int × Int × Int)), ())) fun y1 =>
    bif decide (wI (y1.1 + 1) > 24) then
      some ([], ())
    else
      bif decide (0 ≤ wI (y1.1 + 1)) && decide (wI (y1.1 + 1) ≤ (y1.2.1.length : Int)) then
        some ((y1.2.1.drop 0).take ((wI (y1.1 + 1)).toNat - 0), ())
      else
        none
noncomputable def hd {R : Type} (Gspec_TimesValid : spec_TimesValid.PI → Option spec_TimesValid.PO) (Gspec_l20Push : spec_l20Push.PI → Option spec_l20Push.PO) : Hand R := (handAt 71 [17] true ⟨4, 2, 4, spec_l20Push.pin, spec_l20Push.pout, Gspec_l20Push⟩ (handAt 70 [9] true ⟨2, 1, 2, spec_TimesValid.pin, spec_TimesValid.pout, Gspec_TimesValid⟩ handNil))
noncomputable def pg (Gspec_TimesValid : spec_TimesValid.PI → Option spec_TimesValid.PO) (Gspec_l20Push : spec_l20Push.PI → Option spec_l20Push.PO) : Prog PO := { nt := 27, np := 2, tb := tabOf tab, hd := hd Gspec_TimesValid Gspec_l20Push, cuts := cutsOf [], fin := endOf (tabOf tab) rs 2 pout }
noncomputable def q : FuncId → Bool := fun f => hasId [70] f
theorem seg0 (Gspec_TimesValid : spec_TimesValid.PI → Option spec_TimesValid.PO) (Gspec_l20Push : spec_l20Push.PI → Option spec_l20Push.PO) (x0 : List (Int × Int × Int × Int)) (x1 : Int) : arun (pg Gspec_TimesValid Gspec_l20Push) 5000 [.code c0] (mk pin (x0, x1, ())) = F0 Gspec_TimesValid Gspec_l20Push x0 x1 := by kernel_rfl
noncomputable def impl : PI → Option PO := fun x => F0 spec_TimesValid.impl spec_l20Push.impl x.1 x.2.1
theorem impl_eq (x0 : List (Int × Int × Int × Int)) (x1 : Int) : impl (x0, x1, ()) = F0 spec_TimesValid.impl spec_l20Push.impl x0 x1 := rfl
theorem con : Con Tryd.prog 23 2 rs.length 2 pin pout impl := by
  refine con_of_run' (nt := 27) (c := c0) tabGood Tryd.func23 (by kernel_rfl) (by kernel_rfl) (by kernel_rfl) (by kernel_rfl) (by kernel_rfl) (by kernel_rfl) (by kernel_rfl) ?_
  intro w0 O y hnp
  generalize hPost : (fun (a' : Act) (w' : World) => ∃ μ' S' st', Rel 27 w0 O μ' S' st' a' w' ∧ endOf (tabOf tab) rs 2 pout st' = some y) = Post
  have fin : ∀ (μ : Id → Option Value) (S : Nat → Prop) (st : St) (a : Act) (w : World), Rel 27 w0 O μ S st a w → endOf (tabOf tab) rs 2 pout st = some y → Post a w := fun μ S st a w h he => by rw [← hPost]; exact ⟨μ, S, st, h, he⟩
  have hp : Parts Tryd.prog 23 (pg spec_TimesValid.impl spec_l20Push.impl) [] := ⟨tab_ok tabGood rfl, (handAt_ok spec_l20Push.con (handAt_ok spec_TimesValid.con handNil_ok)), rfl⟩
  exact good_first (hp) (runOK_of (hp) hnp trivial fin) (fun x => (seg0 spec_TimesValid.impl spec_l20Push.impl x.1 x.2.1))
end spec_Pushed

/-! ### loop.example/wholecheck/impl.TimesText -/
namespace impl_TimesText
noncomputable abbrev c0 : Code := (Tryd.f24.body).getD .skip
noncomputable abbrev pin : Tpl := ⟨[⟨0, false, [.d (.sl (.prod (.int .i64) (.prod (.int .i64) (.prod (.int .i64) (.last (.int .i64))))))]⟩, ⟨1, false, [.d (.int .i64)]⟩], []⟩
noncomputable abbrev pout : Tpl := ⟨[⟨0, false, [.d .str]⟩], []⟩
noncomputable abbrev p5 : Tpl := ⟨[⟨5, false, [.row 3000000]⟩, ⟨16, false, [.d (.sl (.prod (.int .i64) (.prod (.int .i64) (.prod (.int .i64) (.last (.int .i64))))))]⟩, ⟨17, false, [.d (.int .i64)]⟩, ⟨18, false, [.d (.int .i64)]⟩], [(3000000, .row 9 false .str)]⟩
noncomputable def T5 : List Item := (find 5 c0 []).getD []
noncomputable abbrev p9 : Tpl := ⟨[⟨5, false, [.row 3000000]⟩, ⟨6, false, [.d (.int .i64)]⟩, ⟨7, false, [.ptr 3000001 0]⟩, ⟨8, false, [.d .str]⟩, ⟨16, false, [.d (.sl (.prod (.int .i64) (.prod (.int .i64) (.prod (.int .i64) (.last (.int .i64))))))]⟩, ⟨17, false, [.d (.int .i64)]⟩, ⟨18, false, [.d (.int .i64)]⟩], [(3000000, .row 9 false .str), (3000001, .box [.d (.int .i64), .d (.int .i64), .d (.int .i64), .d (.int .i64)])]⟩
noncomputable def T9 : List Item := (find 9 c0 []).getD []
noncomputable abbrev PI := (List (Int × Int × Int × Int)) × Int × Unit
noncomputable abbrev PO := (List UInt8) × Unit
noncomputable abbrev P5 := (List (Int × Int × Int × Int)) × Int × Int × (List (List UInt8)) × Unit
noncomputable abbrev P9 := Int × (List UInt8) × (List (Int × Int × Int × Int)) × Int × Int × (List (List UInt8)) × Int × Int × Int × Int × Unit
noncomputable abbrev rs : List ResultVar := [.tmp 4]
noncomputable def F0 (J5 : P5 → Option PO) (Gimpl_TimesValid : impl_TimesValid.PI → Option impl_TimesValid.PO) (x0 : List (Int × Int × Int × Int)) (x1 : Int) : Option PO :=
  Option.bind (Gimpl_TimesValid (x0, x1, ())) fun y0 =>
  bif !y0.1 then
    some ([], ())
  else
    bif decide (0 ≤ (x0.length : Int)) && decide ((x0.length : Int) ≤ (x0.length : Int)) && decide ((x0.length : Int) * 16 ≤ 140737488355328) then
      J5 (x0, (x0.length : Int), 0, (List.replicate (x0.length : Int).toNat [] : List (List UInt8)), ())
    else
      none
noncomputable def F5 (J5 : P5 → Option PO) (J9 : P9 → Option PO) (Glib_Itoa : lib_Itoa.PI → Option lib_Itoa.PO) (t16 : List (Int × Int × Int × Int)) (t17 : Int) (t18 : Int) (r0 : List (List UInt8)) : Option PO :=
  bif decide (t18 < t17) then
    bif inb t18 t16.length then
      bif (t16.getD t18.toNat (0, 0, 0, 0)).1 == 0 then
        bif inb t18 r0.length then
          bif inb t18 (r0.set t18.toNat ([116, 114, 117, 101] : List UInt8)).length then
            bif decide ((((r0.set t18.toNat ([116, 114, 117, 101] : List UInt8)).getD t18.toNat []).length : Int) > 4000) then
              some ([], ())
            else
              J5 (t16, t17, wI (t18 + 1), r0.set t18.toNat ([116, 114, 117, 101] : List UInt8), ())
          else
            none
        else
          none
      else
        bif (t16.getD t18.toNat (0, 0, 0, 0)).1 == 1 then
          Option.bind (Glib_Itoa ((t16.getD t18.toNat (0, 0, 0, 0)).2.1, ())) fun y1 =>
          bif decide (([102] : List UInt8).length + y1.1.length ≤ 140737488355328) then
            bif inb t18 r0.length then
              bif inb t18 (r0.set t18.toNat (([102] : List UInt8) ++ y1.1)).length then
                bif decide ((((r0.set t18.toNat (([102] : List UInt8) ++ y1.1)).getD t18.toNat []).length : Int) > 4000) then
                  some ([], ())
                else
                  J5 (t16, t17, wI (t18 + 1), r0.set t18.toNat (([102] : List UInt8) ++ y1.1), ())
              else
                none
            else
              none
          else
            none
        else
          bif (t16.getD t18.toNat (0, 0, 0, 0)).1 == 2 then
            bif inb (t16.getD t18.toNat (0, 0, 0, 0)).2.2.1 r0.length then
              bif decide (([33] : List UInt8).length + (r0.getD (t16.getD t18.toNat (0, 0, 0, 0)).2.2.1.toNat []).length ≤ 140737488355328) then
                bif inb t18 r0.length then
                  bif inb t18 (r0.set t18.toNat (([33] : List UInt8) ++ (r0.getD (t16.getD t18.toNat (0, 0, 0, 0)).2.2.1.toNat []))).length then
                    bif decide ((((r0.set t18.toNat (([33] : List UInt8) ++ (r0.getD (t16.getD t18.toNat (0, 0, 0, 0)).2.2.1.toNat []))).getD t18.toNat []).length : Int) > 4000) then
                      some ([], ())
                    else
                      J5 (t16, t17, wI (t18 + 1), r0.set t18.toNat (([33] : List UInt8) ++ (r0.getD (t16.getD t18.toNat (0, 0, 0, 0)).2.2.1.toNat [])), ())
                  else
                    none
                else
                  none
              else
                none
            else
              none
          else
            bif (t16.getD t18.toNat (0, 0, 0, 0)).1 == 5 then
              bif inb (t16.getD t18.toNat (0, 0, 0, 0)).2.2.1 r0.length then
                bif decide (([88, 32] : List UInt8).length + (r0.getD (t16.getD t18.toNat (0, 0, 0, 0)).2.2.1.toNat []).length ≤ 140737488355328) then
                  bif inb t18 r0.length then
                    bif inb t18 (r0.set t18.toNat (([88, 32] : List UInt8) ++ (r0.getD (t16.getD t18.toNat (0, 0, 0, 0)).2.2.1.toNat []))).length then
                      bif decide ((((r0.set t18.toNat (([88, 32] : List UInt8) ++ (r0.getD (t16.getD t18.toNat (0, 0, 0, 0)).2.2.1.toNat []))).getD t18.toNat []).length : Int) > 4000) then
                        some ([], ())
                      else
                        J5 (t16, t17, wI (t18 + 1), r0.set t18.toNat (([88, 32] : List UInt8) ++ (r0.getD (t16.getD t18.toNat (0, 0, 0, 0)).2.2.1.toNat [])), ())
                    else
                      none
                  else
                    none
                else
                  none
              else
                none
            else
              J9 (t18, mapGet (.int .i64) .str (mapPut (.int .i64) .str (mapPut (.int .i64) .str (mapPut (.int .i64) .str (mapPut (.int .i64) .str [] 3 ([38] : List UInt8)) 4 ([124] : List UInt8)) 6 ([85] : List UInt8)) 7 ([82] : List UInt8)) (t16.getD t18.toNat (0, 0, 0, 0)).1, t16, t17, t18, r0, (t16.getD t18.toNat (0, 0, 0, 0)).1, (t16.getD t18.toNat (0, 0, 0, 0)).2.1, (t16.getD t18.toNat (0, 0, 0, 0)).2.2.1, (t16.getD t18.toNat (0, 0, 0, 0)).2.2.2, ())
    else
      none
  else
    bif inb (wI ((r0.length : Int) - 1)) r0.length then
      some (r0.getD (wI ((r0.length : Int) - 1)).toNat [], ())
    else
      none
noncomputable def F9 (J5 : P5 → Option PO) (t6 : Int) (t8 : List UInt8) (t16 : List (Int × Int × Int × Int)) (t17 : Int) (t18 : Int) (r0 : List (List UInt8)) (b1_0 : Int) (b1_1 : Int) (b1_2 : Int) (b1_3 : Int) : Option PO :=
  bif inb b1_2 r0.length then
    bif inb b1_3 r0.length then
      bif decide (([40] : List UInt8).length + (r0.getD b1_2.toNat []).length ≤ 140737488355328) then
        bif decide ((([40] : List UInt8) ++ (r0.getD b1_2.toNat [])).length + ([32] : List UInt8).length ≤ 140737488355328) then
          bif decide (((([40] : List UInt8) ++ (r0.getD b1_2.toNat [])) ++ ([32] : List UInt8)).length + t8.length ≤ 140737488355328) then
            bif decide ((((([40] : List UInt8) ++ (r0.getD b1_2.toNat [])) ++ ([32] : List UInt8)) ++ t8).length + ([32] : List UInt8).length ≤ 140737488355328) then
              bif decide (((((([40] : List UInt8) ++ (r0.getD b1_2.toNat [])) ++ ([32] : List UInt8)) ++ t8) ++ ([32] : List UInt8)).length + (r0.getD b1_3.toNat []).length ≤ 140737488355328) then
                bif decide ((((((([40] : List UInt8) ++ (r0.getD b1_2.toNat [])) ++ ([32] : List UInt8)) ++ t8) ++ ([32] : List UInt8)) ++ (r0.getD b1_3.toNat [])).length + ([41] : List UInt8).length ≤ 140737488355328) then
                  bif inb t6 r0.length then
                    bif inb t6 (r0.set t6.toNat ((((((([40] : List UInt8) ++ (r0.getD b1_2.toNat [])) ++ ([32] : List UInt8)) ++ t8) ++ ([32] : List UInt8)) ++ (r0.getD b1_3.toNat [])) ++ ([41] : List UInt8))).length then
                      bif decide ((((r0.set t6.toNat ((((((([40] : List UInt8) ++ (r0.getD b1_2.toNat [])) ++ ([32] : List UInt8)) ++ t8) ++ ([32] : List UInt8)) ++ (r0.getD b1_3.toNat [])) ++ ([41] : List UInt8))).getD t6.toNat []).length : Int) > 4000) then
                        some ([], ())
                      else
                        J5 (t16, t17, wI (t18 + 1), r0.set t6.toNat ((((((([40] : List UInt8) ++ (r0.getD b1_2.toNat [])) ++ ([32] : List UInt8)) ++ t8) ++ ([32] : List UInt8)) ++ (r0.getD b1_3.toNat [])) ++ ([41] : List UInt8)), ())
                    else
                      none
                  else
                    none
                else
                  none
              else
                none
            else
              none
          else
            none
        else
          none
      else
        none
    else
      none
  else
    none
noncomputable def hd {R : Type} (Gimpl_TimesValid : impl_TimesValid.PI → Option impl_TimesValid.PO) (Glib_Itoa : lib_Itoa.PI → Option lib_Itoa.PO) : Hand R := (handAt 63 [61] true ⟨1, 1, 0, lib_Itoa.pin, lib_Itoa.pout, Glib_Itoa⟩ (handAt 26 [11] true ⟨2, 1, 2, impl_TimesValid.pin, impl_TimesValid.pout, Gimpl_TimesValid⟩ handNil))
noncomputable def pg (Gimpl_TimesValid : impl_TimesValid.PI → Option impl_TimesValid.PO) (Glib_Itoa : lib_Itoa.PI → Option lib_Itoa.PO) (J5 : List Item → P5 → Option PO) (J9 : List Item → P9 → Option PO) : Prog PO := { nt := 99, np := 2, tb := tabOf tab, hd := hd Gimpl_TimesValid Glib_Itoa, cuts := cutsOf [(5, cut p5 J5), (9, cut p9 J9)], fin := endOf (tabOf tab) rs 2 pout }
noncomputable def q : FuncId → Bool := fun f => hasId [26, 63] f
theorem seg0 (Gimpl_TimesValid : impl_TimesValid.PI → Option impl_TimesValid.PO) (Glib_Itoa : lib_Itoa.PI → Option lib_Itoa.PO) (J5 : List Item → P5 → Option PO) (J9 : List Item → P9 → Option PO) (x0 : List (Int × Int × Int × Int)) (x1 : Int) : arun (pg Gimpl_TimesValid Glib_Itoa J5 J9) 5000 [.code c0] (mk pin (x0, x1, ())) = F0 (J5 T5) Gimpl_TimesValid x0 x1 := by kernel_rfl
theorem seg5 (Gimpl_TimesValid : impl_TimesValid.PI → Option impl_TimesValid.PO) (Glib_Itoa : lib_Itoa.PI → Option lib_Itoa.PO) (J5 : List Item → P5 → Option PO) (J9 : List Item → P9 → Option PO) (t16 : List (Int × Int × Int × Int)) (t17 : Int) (t18 : Int) (r0 : List (List UInt8)) : arun1 (pg Gimpl_TimesValid Glib_Itoa J5 J9) 5000 T5 (mk p5 (t16, t17, t18, r0, ())) = F5 (J5 T5) (J9 T9) Glib_Itoa t16 t17 t18 r0 := by kernel_rfl
theorem seg9 (Gimpl_TimesValid : impl_TimesValid.PI → Option impl_TimesValid.PO) (Glib_Itoa : lib_Itoa.PI → Option lib_Itoa.PO) (J5 : List Item → P5 → Option PO) (J9 : List Item → P9 → Option PO) (t6 : Int) (t8 : List UInt8) (t16 : List (Int × Int × Int × Int)) (t17 : Int) (t18 : Int) (r0 : List (List UInt8)) (b1_0 : Int) (b1_1 : Int) (b1_2 : Int) (b1_3 : Int) : arunQ (pg Gimpl_TimesValid Glib_Itoa J5 J9) q [3000000] [6, 16] 5000 T9 (mk p9 (t6, t8, t16, t17, t18, r0, b1_0, b1_1, b1_2, b1_3, ())) = List.replicate (arunQ (pg Gimpl_TimesValid Glib_Itoa J5 J9) q [3000000] [6, 16] 5000 T9 (mk p9 (t6, t8, t16, t17, t18, r0, b1_0, b1_1, b1_2, b1_3, ()))).length (F9 (J5 T5) t6 t8 t16 t17 t18 r0 b1_0 b1_1 b1_2 b1_3) := by kernel_rfl
noncomputable def L9 (J5 : P5 → Option PO) : P9 → Option PO := fun x => F9 J5 x.1 x.2.1 x.2.2.1 x.2.2.2.1 x.2.2.2.2.1 x.2.2.2.2.2.1 x.2.2.2.2.2.2.1 x.2.2.2.2.2.2.2.1 x.2.2.2.2.2.2.2.2.1 x.2.2.2.2.2.2.2.2.2.1
noncomputable def L5 : P5 → Option PO := lfp fun J5 x => F5 J5 (L9 J5) lib_Itoa.impl x.1 x.2.1 x.2.2.1 x.2.2.2.1
noncomputable def impl : PI → Option PO := fun x => F0 L5 impl_TimesValid.impl x.1 x.2.1
theorem F9_le {J5 J5' : P5 → Option PO} (h5 : OLe J5 J5') (t6 : Int) (t8 : List UInt8) (t16 : List (Int × Int × Int × Int)) (t17 : Int) (t18 : Int) (r0 : List (List UInt8)) (b1_0 : Int) (b1_1 : Int) (b1_2 : Int) (b1_3 : Int) : OptLe (F9 J5 t6 t8 t16 t17 t18 r0 b1_0 b1_1 b1_2 b1_3) (F9 J5' t6 t8 t16 t17 t18 r0 b1_0 b1_1 b1_2 b1_3) := by unfold F9; exact .cond (.cond (.cond (.cond (.cond (.cond (.cond (.cond (.cond (.cond (.cond (.refl _) (.of h5 _)) (.refl _)) (.refl _)) (.refl _)) (.refl _)) (.refl _)) (.refl _)) (.refl _)) (.refl _)) (.refl _)) (.refl _)
theorem F5_le {J5 J5' : P5 → Option PO} (h5 : OLe J5 J5') {J9 J9' : P9 → Option PO} (h9 : OLe J9 J9') {Glib_Itoa : lib_Itoa.PI → Option lib_Itoa.PO} (t16 : List (Int × Int × Int × Int)) (t17 : Int) (t18 : Int) (r0 : List (List UInt8)) : OptLe (F5 J5 J9 Glib_Itoa t16 t17 t18 r0) (F5 J5' J9' Glib_Itoa t16 t17 t18 r0) := by unfold F5; exact .cond (.cond (.cond (.cond (.cond (.cond (.refl _) (.of h5 _)) (.refl _)) (.refl _)) (.cond (.bind (.refl _) fun _ => .cond (.cond (.cond (.cond (.refl _) (.of h5 _)) (.refl _)) (.refl _)) (.refl _)) (.cond (.cond (.cond (.cond (.cond (.cond (.refl _) (.of h5 _)) (.refl _)) (.refl _)) (.refl _)) (.refl _)) (.cond (.cond (.cond (.cond (.cond (.cond (.refl _) (.of h5 _)) (.refl _)) (.refl _)) (.refl _)) (.refl _)) (.of h9 _))))) (.refl _)) (.refl _)
theorem L9_eq (J5 : P5 → Option PO) (t6 : Int) (t8 : List UInt8) (t16 : List (Int × Int × Int × Int)) (t17 : Int) (t18 : Int) (r0 : List (List UInt8)) (b1_0 : Int) (b1_1 : Int) (b1_2 : Int) (b1_3 : Int) : L9 J5 (t6, t8, t16, t17, t18, r0, b1_0, b1_1, b1_2, b1_3, ()) = F9 J5 t6 t8 t16 t17 t18 r0 b1_0 b1_1 b1_2 b1_3 := rfl
theorem L9_le {J5 J5' : P5 → Option PO} (h5 : OLe J5 J5') : OLe (L9 J5) (L9 J5') := fun x => F9_le h5 x.1 x.2.1 x.2.2.1 x.2.2.2.1 x.2.2.2.2.1 x.2.2.2.2.2.1 x.2.2.2.2.2.2.1 x.2.2.2.2.2.2.2.1 x.2.2.2.2.2.2.2.2.1 x.2.2.2.2.2.2.2.2.2.1
theorem L5_mono : OMono fun J5 (x : P5) => F5 J5 (L9 J5) lib_Itoa.impl x.1 x.2.1 x.2.2.1 x.2.2.2.1 := fun J J' h5 x => F5_le h5 (L9_le h5) x.1 x.2.1 x.2.2.1 x.2.2.2.1
theorem L5_eq (t16 : List (Int × Int × Int × Int)) (t17 : Int) (t18 : Int) (r0 : List (List UInt8)) : L5 (t16, t17, t18, r0, ()) = F5 (L5) (L9 (L5)) lib_Itoa.impl t16 t17 t18 r0 := congrFun (lfp_eq (L5_mono)) _
theorem impl_eq (x0 : List (Int × Int × Int × Int)) (x1 : Int) : impl (x0, x1, ()) = F0 L5 impl_TimesValid.impl x0 x1 := rfl
theorem con : Con Tryd.prog 24 2 rs.length 2 pin pout impl := by
  refine con_of_run' (nt := 99) (c := c0) tabGood Tryd.func24 (by kernel_rfl) (by kernel_rfl) (by kernel_rfl) (by kernel_rfl) (by kernel_rfl) (by kernel_rfl) (by kernel_rfl) ?_
  intro w0 O y hnp
  generalize hPost : (fun (a' : Act) (w' : World) => ∃ μ' S' st', Rel 99 w0 O μ' S' st' a' w' ∧ endOf (tabOf tab) rs 2 pout st' = some y) = Post
  have fin : ∀ (μ : Id → Option Value) (S : Nat → Prop) (st : St) (a : Act) (w : World), Rel 99 w0 O μ S st a w → endOf (tabOf tab) rs 2 pout st = some y → Post a w := fun μ S st a w h he => by rw [← hPost]; exact ⟨μ, S, st, h, he⟩
  have hp : ∀ (J5 : List Item → P5 → Option PO), ∀ (J9 : List Item → P9 → Option PO), Parts Tryd.prog 24 (pg impl_TimesValid.impl lib_Itoa.impl J5 J9) [(5, cut p5 J5), (9, cut p9 J9)] := fun J5 J9 => ⟨tab_ok tabGood rfl, (handAt_ok lib_Itoa.con (handAt_ok impl_TimesValid.con handNil_ok)), rfl⟩
  have g9 : ∀ (J5 : P5 → Option PO), Good Tryd.prog 99 w0 O Post y T5 p5 J5 → Good Tryd.prog 99 w0 O Post y T9 p9 (L9 J5) := fun J5 h5 => good_quiet (hs := hd impl_TimesValid.impl lib_Itoa.impl) (cv' := hd impl_TimesValid.impl lib_Itoa.impl) (Checked.mixed Tryd.checked) (hp (atT T5 J5) (atT T9 (fun _ => none))) (handAt_D lib_Itoa.con (by rfl) rfl (handAt_D impl_TimesValid.con (by rfl) rfl handNil_D)) (handAt_nat (handAt_nat handNil_nat)) (handAt_nat (handAt_nat handNil_nat)) (runOK_of (hp (atT T5 J5) (atT T9 (fun _ => none))) hnp ⟨cutOK_at h5, cutOK_at (p := p9) (T := T9) (J := fun _ => none) good_none, trivial⟩ fin) (fun x => all_same ⟨_, (seg9 impl_TimesValid.impl lib_Itoa.impl (atT T5 J5) (atT T9 (fun _ => none)) x.1 x.2.1 x.2.2.1 x.2.2.2.1 x.2.2.2.2.1 x.2.2.2.2.2.1 x.2.2.2.2.2.2.1 x.2.2.2.2.2.2.2.1 x.2.2.2.2.2.2.2.2.1 x.2.2.2.2.2.2.2.2.2.1).trans (by simp only [atT_self] <;> rfl)⟩)
  have g5 : Good Tryd.prog 99 w0 O Post y T5 p5 L5 := good_lfp fun J5 h5 => good_part (hp (atT T5 J5) (atT T9 (L9 J5))) (runOK_of (hp (atT T5 J5) (atT T9 (L9 J5))) hnp ⟨cutOK_at h5, cutOK_at (g9 J5 h5), trivial⟩ fin) (fun x => (seg5 impl_TimesValid.impl lib_Itoa.impl (atT T5 J5) (atT T9 (L9 J5)) x.1 x.2.1 x.2.2.1 x.2.2.2.1).trans (by simp only [atT_self] <;> rfl))
  exact good_first (hp (atT T5 L5) (atT T9 (fun _ => none))) (runOK_of (hp (atT T5 L5) (atT T9 (fun _ => none))) hnp ⟨cutOK_at g5, cutOK_at (p := p9) (T := T9) (J := fun _ => none) good_none, trivial⟩ fin) (fun x => (seg0 impl_TimesValid.impl lib_Itoa.impl (atT T5 L5) (atT T9 (fun _ => none)) x.1 x.2.1).trans (by simp only [atT_self] <;> rfl))
end impl_TimesText

/-! ### loop.example/wholecheck/spec.l20Sign -/
namespace spec_l20Sign
noncomputable abbrev c0 : Code := (Tryd.f72.body).getD .skip
noncomputable abbrev pin : Tpl := ⟨[⟨0, false, [.d (.int .i64)]⟩], []⟩
noncomputable abbrev pout : Tpl := ⟨[⟨0, false, [.d .str]⟩], []⟩
noncomputable abbrev PI := Int × Unit
noncomputable abbrev PO := (List UInt8) × Unit
noncomputable abbrev rs : List ResultVar := [.tmp 2]
noncomputable def F0 (x0 : Int) : Option PO :=
  bif inb x0 ([([116, 114, 117, 101] : List UInt8), [], ([33] : List UInt8), ([38] : List UInt8), ([124] : List UInt8), ([88, 32] : List UInt8), ([85] : List UInt8), ([82] : List UInt8)] : List (List UInt8)).length then
    some (([([116, 114, 117, 101] : List UInt8), [], ([33] : List UInt8), ([38] : List UInt8), ([124] : List UInt8), ([88, 32] : List UInt8), ([85] : List UInt8), ([82] : List UInt8)] : List (List UInt8)).getD x0.toNat [], ())
  else
    none
noncomputable def hd {R : Type} : Hand R := handNil
noncomputable def pg : Prog PO := { nt := 7, np := 1, tb := tabOf tab, hd := hd, cuts := cutsOf [], fin := endOf (tabOf tab) rs 1 pout }
noncomputable def q : FuncId → Bool := fun f => hasId [] f
theorem seg0 (x0 : Int) : arun (pg) 5000 [.code c0] (mk pin (x0, ())) = F0 x0 := by kernel_rfl
noncomputable def impl : PI → Option PO := fun x => F0 x.1
theorem impl_eq (x0 : Int) : impl (x0, ()) = F0 x0 := rfl
theorem con : Con Tryd.prog 72 1 rs.length 1 pin pout impl := by
  refine con_of_run' (nt := 7) (c := c0) tabGood Tryd.func72 (by kernel_rfl) (by kernel_rfl) (by kernel_rfl) (by kernel_rfl) (by kernel_rfl) (by kernel_rfl) (by kernel_rfl) ?_
  intro w0 O y hnp
  generalize hPost : (fun (a' : Act) (w' : World) => ∃ μ' S' st', Rel 7 w0 O μ' S' st' a' w' ∧ endOf (tabOf tab) rs 1 pout st' = some y) = Post
  have fin : ∀ (μ : Id → Option Value) (S : Nat → Prop) (st : St) (a : Act) (w : World), Rel 7 w0 O μ S st a w → endOf (tabOf tab) rs 1 pout st = some y → Post a w := fun μ S st a w h he => by rw [← hPost]; exact ⟨μ, S, st, h, he⟩
  have hp : Parts Tryd.prog 72 (pg) [] := ⟨tab_ok tabGood rfl, handNil_ok, rfl⟩
  exact good_first (hp) (runOK_of (hp) hnp trivial fin) (fun x => (seg0 x.1))
end spec_l20Sign

/-! ### loop.example/wholecheck/spec.l40Dec -/
namespace spec_l40Dec
noncomputable abbrev c0 : Code := (Tryd.f57.body).getD .skip
noncomputable abbrev pin : Tpl := ⟨[⟨0, false, [.d (.int .i64)]⟩], []⟩
noncomputable abbrev pout : Tpl := ⟨[⟨0, false, [.d .str]⟩], []⟩
noncomputable abbrev p6 : Tpl := ⟨[⟨0, false, [.d (.int .i64)]⟩, ⟨3, false, [.d .str]⟩], []⟩
noncomputable def T6 : List Item := (find 6 c0 []).getD []
noncomputable abbrev PI := Int × Unit
noncomputable abbrev PO := (List UInt8) × Unit
noncomputable abbrev P6 := Int × (List UInt8) × Unit
noncomputable abbrev rs : List ResultVar := [.tmp 2]
noncomputable def F0 (J6 : P6 → Option PO) (Gspec_l40Dec : PI → Option PO) (x0 : Int) : Option PO :=
  bif decide (x0 < (-9223372036854775807)) then
    some (([45, 57, 50, 50, 51, 51, 55, 50, 48, 51, 54, 56, 53, 52, 55, 55, 53, 56, 48, 56] : List UInt8), ())
  else
    bif decide (x0 < 0) then
      Option.bind (Gspec_l40Dec (wI (0 - x0), ())) fun y0 =>
      bif decide (([45] : List UInt8).length + y0.1.length ≤ 140737488355328) then
        some (([45] : List UInt8) ++ y0.1, ())
      else
        none
    else
      J6 (x0, [], ())
noncomputable def F6 (J6 : P6 → Option PO) (t0 : Int) (t3 : List UInt8) : Option PO :=
  bif decide (t0 > 9) then
    bif decide ((strOf ([IntKind.u8.wrap (wI (48 + (Int.tmod t0 10)))] : List Int)).length + t3.length ≤ 140737488355328) then
      J6 (wI (Int.tdiv t0 10), (strOf ([IntKind.u8.wrap (wI (48 + (Int.tmod t0 10)))] : List Int)) ++ t3, ())
    else
      none
  else
    bif decide ((strOf ([IntKind.u8.wrap (wI (48 + t0))] : List Int)).length + t3.length ≤ 140737488355328) then
      some ((strOf ([IntKind.u8.wrap (wI (48 + t0))] : List Int)) ++ t3, ())
    else
      none
noncomputable def hd {R : Type} (Gspec_l40Dec : PI → Option PO) : Hand R := (handAt 57 [10] true ⟨1, 1, 0, pin, pout, Gspec_l40Dec⟩ handNil)
noncomputable def pg (Gspec_l40Dec : PI → Option PO) (J6 : List Item → P6 → Option PO) : Prog PO := { nt := 31, np := 0, tb := tabOf tab, hd := hd Gspec_l40Dec, cuts := cutsOf [(6, cut p6 J6)], fin := endOf (tabOf tab) rs 0 pout }
noncomputable def q : FuncId → Bool := fun f => hasId [57] f
theorem seg0 (Gspec_l40Dec : PI → Option PO) (J6 : List Item → P6 → Option PO) (x0 : Int) : arun (pg Gspec_l40Dec J6) 5000 [.code c0] (mk pin (x0, ())) = F0 (J6 T6) Gspec_l40Dec x0 := by kernel_rfl
theorem seg6 (Gspec_l40Dec : PI → Option PO) (J6 : List Item → P6 → Option PO) (t0 : Int) (t3 : List UInt8) : arun1 (pg Gspec_l40Dec J6) 5000 T6 (mk p6 (t0, t3, ())) = F6 (J6 T6) t0 t3 := by kernel_rfl
noncomputable def L6 (Gself : PI → Option PO) : P6 → Option PO := lfp fun J6 x => F6 J6 x.1 x.2.1
noncomputable def step (Gself : PI → Option PO) : PI → Option PO := fun x => F0 (L6 Gself) Gself x.1
noncomputable def impl : PI → Option PO := lfp step
theorem F6_le {J6 J6' : P6 → Option PO} (h6 : OLe J6 J6') (t0 : Int) (t3 : List UInt8) : OptLe (F6 J6 t0 t3) (F6 J6' t0 t3) := by unfold F6; exact .cond (.cond (.of h6 _) (.refl _)) (.refl _)
theorem F0_le {J6 J6' : P6 → Option PO} (h6 : OLe J6 J6') {Gself Gself' : PI → Option PO} (hG : OLe Gself Gself') (x0 : Int) : OptLe (F0 J6 Gself x0) (F0 J6' Gself' x0) := by unfold F0; exact .cond (.refl _) (.cond (.bind (.of hG _) fun _ => .refl _) (.of h6 _))
theorem L6_mono (Gself : PI → Option PO) : OMono fun J6 (x : P6) => F6 J6 x.1 x.2.1 := fun J J' h6 x => F6_le h6 x.1 x.2.1
theorem L6_eq (Gself : PI → Option PO) (t0 : Int) (t3 : List UInt8) : L6 Gself (t0, t3, ()) = F6 (L6 Gself) t0 t3 := congrFun (lfp_eq (L6_mono Gself)) _
theorem L6_le {Gself Gself' : PI → Option PO} (hG : OLe Gself Gself') : OLe (L6 Gself) (L6 Gself') := lfp_le (L6_mono Gself') fun J x => F6_le (fun _ _ h => h) x.1 x.2.1
theorem step_mono : OMono step := fun G G' hG x => F0_le (L6_le hG) hG x.1
theorem impl_eq (x0 : Int) : impl (x0, ()) = F0 (L6 impl) impl x0 := congrFun (lfp_eq step_mono) _
theorem con_step (Gself : PI → Option PO) (hself : Con Tryd.prog 57 1 rs.length 0 pin pout Gself) : Con Tryd.prog 57 1 rs.length 0 pin pout (step Gself) := by
  refine con_of_run' (nt := 31) (c := c0) tabGood Tryd.func57 (by kernel_rfl) (by kernel_rfl) (by kernel_rfl) (by kernel_rfl) (by kernel_rfl) (by kernel_rfl) (by kernel_rfl) ?_
  intro w0 O y hnp
  generalize hPost : (fun (a' : Act) (w' : World) => ∃ μ' S' st', Rel 31 w0 O μ' S' st' a' w' ∧ endOf (tabOf tab) rs 0 pout st' = some y) = Post
  have fin : ∀ (μ : Id → Option Value) (S : Nat → Prop) (st : St) (a : Act) (w : World), Rel 31 w0 O μ S st a w → endOf (tabOf tab) rs 0 pout st = some y → Post a w := fun μ S st a w h he => by rw [← hPost]; exact ⟨μ, S, st, h, he⟩
  have hp : ∀ (J6 : List Item → P6 → Option PO), Parts Tryd.prog 57 (pg Gself J6) [(6, cut p6 J6)] := fun J6 => ⟨tab_ok tabGood rfl, (handAt_ok hself handNil_ok), rfl⟩
  have g6 : Good Tryd.prog 31 w0 O Post y T6 p6 (L6 Gself) := good_lfp fun J6 h6 => good_part (hp (atT T6 J6)) (runOK_of (hp (atT T6 J6)) hnp ⟨cutOK_at h6, trivial⟩ fin) (fun x => (seg6 Gself (atT T6 J6) x.1 x.2.1).trans (by simp only [atT_self] <;> rfl))
  exact good_first (hp (atT T6 (L6 Gself))) (runOK_of (hp (atT T6 (L6 Gself))) hnp ⟨cutOK_at g6, trivial⟩ fin) (fun x => (seg0 Gself (atT T6 (L6 Gself)) x.1).trans (by simp only [atT_self] <;> rfl))
theorem con : Con Tryd.prog 57 1 rs.length 0 pin pout impl := con_lfp (c := c0) Tryd.func57 (by kernel_rfl) (by kernel_rfl) (by kernel_rfl) con_step
end spec_l40Dec

/-! ### loop.example/wholecheck/spec.TimesText -/
namespace spec_TimesText
noncomputable abbrev c0 : Code := (Tryd.f25.body).getD .skip
noncomputable abbrev pin : Tpl := ⟨[⟨0, false, [.d (.sl (.prod (.int .i64) (.prod (.int .i64) (.prod (.int .i64) (.last (.int .i64))))))]⟩, ⟨1, false, [.d (.int .i64)]⟩], []⟩
noncomputable abbrev pout : Tpl := ⟨[⟨0, false, [.d .str]⟩], []⟩
noncomputable abbrev p5 : Tpl := ⟨[⟨0, false, [.d (.sl (.prod (.int .i64) (.prod (.int .i64) (.prod (.int .i64) (.last (.int .i64))))))]⟩, ⟨5, false, [.row 3000000]⟩, ⟨6, false, [.d (.int .i64)]⟩], [(3000000, .row 9 false .str)]⟩
noncomputable def T5 : List Item := (find 5 c0 []).getD []
noncomputable abbrev p14 : Tpl := ⟨[⟨0, false, [.d (.sl (.prod (.int .i64) (.prod (.int .i64) (.prod (.int .i64) (.last (.int .i64))))))]⟩, ⟨5, false, [.row 3000000]⟩, ⟨6, false, [.d (.int .i64)]⟩, ⟨7, false, [.ptr 3000001 0]⟩, ⟨8, false, [.d .str]⟩], [(3000000, .row 9 false .str), (3000001, .box [.d (.int .i64), .d (.int .i64), .d (.int .i64), .d (.int .i64)])]⟩
noncomputable def T14 : List Item := (find 14 c0 []).getD []
noncomputable abbrev p15 : Tpl := ⟨[⟨0, false, [.d (.sl (.prod (.int .i64) (.prod (.int .i64) (.prod (.int .i64) (.last (.int .i64))))))]⟩, ⟨5, false, [.row 3000000]⟩, ⟨6, false, [.d (.int .i64)]⟩, ⟨8, false, [.d .str]⟩], [(3000000, .row 9 false .str)]⟩
noncomputable def T15 : List Item := (find 15 c0 []).getD []
noncomputable abbrev PI := (List (Int × Int × Int × Int)) × Int × Unit
noncomputable abbrev PO := (List UInt8) × Unit
noncomputable abbrev P5 := (List (Int × Int × Int × Int)) × Int × (List (List UInt8)) × Unit
noncomputable abbrev P14 := (List (Int × Int × Int × Int)) × Int × (List UInt8) × (List (List UInt8)) × Int × Int × Int × Int × Unit
noncomputable abbrev P15 := (List (Int × Int × Int × Int)) × Int × (List UInt8) × (List (List UInt8)) × Unit
noncomputable abbrev rs : List ResultVar := [.tmp 4]
noncomputable def F0 (J5 : P5 → Option PO) (Gspec_TimesValid : spec_TimesValid.PI → Option spec_TimesValid.PO) (x0 : List (Int × Int × Int × Int)) (x1 : Int) : Option PO :=
  Option.bind (Gspec_TimesValid (x0, x1, ())) fun y0 =>
  bif !y0.1 then
    some ([], ())
  else
    J5 (x0, 0, ([] : List (List UInt8)), ())
noncomputable def F5 (J14 : P14 → Option PO) (J15 : P15 → Option PO) (Gspec_l20One : spec_l20One.PI → Option spec_l20One.PO) (Gspec_l20Sign : spec_l20Sign.PI → Option spec_l20Sign.PO) (Gspec_l40Dec : spec_l40Dec.PI → Option spec_l40Dec.PO) (t0 : List (Int × Int × Int × Int)) (t6 : Int) (r0 : List (List UInt8)) : Option PO :=
  bif decide (t6 < (t0.length : Int)) then
    bif inb t6 t0.length then
      Option.bind (Gspec_l20Sign ((t0.getD t6.toNat (0, 0, 0, 0)).1, ())) fun y1 =>
      bif (t0.getD t6.toNat (0, 0, 0, 0)).1 == 1 then
        Option.bind (Gspec_l40Dec ((t0.getD t6.toNat (0, 0, 0, 0)).2.1, ())) fun y2 =>
        bif decide (([102] : List UInt8).length + y2.1.length ≤ 140737488355328) then
          J15 (t0, t6, ([102] : List UInt8) ++ y2.1, r0, ())
        else
          none
      else
        Option.bind (Gspec_l20One ((t0.getD t6.toNat (0, 0, 0, 0)).1, ())) fun y3 =>
        bif y3.1 then
          bif inb (t0.getD t6.toNat (0, 0, 0, 0)).2.2.1 r0.length then
            bif decide (y1.1.length + (r0.getD (t0.getD t6.toNat (0, 0, 0, 0)).2.2.1.toNat []).length ≤ 140737488355328) then
              J15 (t0, t6, y1.1 ++ (r0.getD (t0.getD t6.toNat (0, 0, 0, 0)).2.2.1.toNat []), r0, ())
            else
              none
          else
            none
        else
          bif decide ((t0.getD t6.toNat (0, 0, 0, 0)).1 > 1) then
            J14 (t0, t6, y1.1, r0, (t0.getD t6.toNat (0, 0, 0, 0)).1, (t0.getD t6.toNat (0, 0, 0, 0)).2.1, (t0.getD t6.toNat (0, 0, 0, 0)).2.2.1, (t0.getD t6.toNat (0, 0, 0, 0)).2.2.2, ())
          else
            J15 (t0, t6, y1.1, r0, ())
    else
      none
  else
    bif inb (wI ((r0.length : Int) - 1)) r0.length then
      some (r0.getD (wI ((r0.length : Int) - 1)).toNat [], ())
    else
      none
noncomputable def F14 (J15 : P15 → Option PO) (t0 : List (Int × Int × Int × Int)) (t6 : Int) (t8 : List UInt8) (r0 : List (List UInt8)) (b1_0 : Int) (b1_1 : Int) (b1_2 : Int) (b1_3 : Int) : Option PO :=
  bif inb b1_2 r0.length then
    bif decide (([40] : List UInt8).length + (r0.getD b1_2.toNat []).length ≤ 140737488355328) then
      bif decide ((([40] : List UInt8) ++ (r0.getD b1_2.toNat [])).length + ([32] : List UInt8).length ≤ 140737488355328) then
        bif decide (((([40] : List UInt8) ++ (r0.getD b1_2.toNat [])) ++ ([32] : List UInt8)).length + t8.length ≤ 140737488355328) then
          bif decide ((((([40] : List UInt8) ++ (r0.getD b1_2.toNat [])) ++ ([32] : List UInt8)) ++ t8).length + ([32] : List UInt8).length ≤ 140737488355328) then
            bif inb b1_3 r0.length then
              bif decide (((((([40] : List UInt8) ++ (r0.getD b1_2.toNat [])) ++ ([32] : List UInt8)) ++ t8) ++ ([32] : List UInt8)).length + (r0.getD b1_3.toNat []).length ≤ 140737488355328) then
                bif decide ((((((([40] : List UInt8) ++ (r0.getD b1_2.toNat [])) ++ ([32] : List UInt8)) ++ t8) ++ ([32] : List UInt8)) ++ (r0.getD b1_3.toNat [])).length + ([41] : List UInt8).length ≤ 140737488355328) then
                  J15 (t0, t6, (((((([40] : List UInt8) ++ (r0.getD b1_2.toNat [])) ++ ([32] : List UInt8)) ++ t8) ++ ([32] : List UInt8)) ++ (r0.getD b1_3.toNat [])) ++ ([41] : List UInt8), r0, ())
                else
                  none
              else
                none
            else
              none
          else
            none
        else
          none
      else
        none
    else
      none
  else
    none
noncomputable def F15 (J5 : P5 → Option PO) (t0 : List (Int × Int × Int × Int)) (t6 : Int) (t8 : List UInt8) (r0 : List (List UInt8)) : Option PO :=
  bif decide ((t8.length : Int) > 4000) then
    some ([], ())
  else
    bif decide ((r0.length + ([t8] : List (List UInt8)).length) * 16 ≤ 140737488355328) then
      J5 (t0, wI (t6 + 1), r0 ++ ([t8] : List (List UInt8)), ())
    else
      none
noncomputable def hd {R : Type} (Gspec_TimesValid : spec_TimesValid.PI → Option spec_TimesValid.PO) (Gspec_l20One : spec_l20One.PI → Option spec_l20One.PO) (Gspec_l20Sign : spec_l20Sign.PI → Option spec_l20Sign.PO) (Gspec_l40Dec : spec_l40Dec.PI → Option spec_l40Dec.PO) : Hand R := (handAt 73 [36] true ⟨1, 1, 1, spec_l20One.pin, spec_l20One.pout, Gspec_l20One⟩ (handAt 72 [26] true ⟨1, 1, 1, spec_l20Sign.pin, spec_l20Sign.pout, Gspec_l20Sign⟩ (handAt 70 [11] true ⟨2, 1, 2, spec_TimesValid.pin, spec_TimesValid.pout, Gspec_TimesValid⟩ (handAt 57 [32] true ⟨1, 1, 0, spec_l40Dec.pin, spec_l40Dec.pout, Gspec_l40Dec⟩ handNil))))
noncomputable def pg (Gspec_TimesValid : spec_TimesValid.PI → Option spec_TimesValid.PO) (Gspec_l20One : spec_l20One.PI → Option spec_l20One.PO) (Gspec_l20Sign : spec_l20Sign.PI → Option spec_l20Sign.PO) (Gspec_l40Dec : spec_l40Dec.PI → Option spec_l40Dec.PO) (J5 : List Item → P5 → Option PO) (J14 : List Item → P14 → Option PO) (J15 : List Item → P15 → Option PO) : Prog PO := { nt := 77, np := 2, tb := tabOf tab, hd := hd Gspec_TimesValid Gspec_l20One Gspec_l20Sign Gspec_l40Dec, cuts := cutsOf [(5, cut p5 J5), (14, cut p14 J14), (15, cut p15 J15)], fin := endOf (tabOf tab) rs 2 pout }
noncomputable def q : FuncId → Bool := fun f => hasId [57, 70, 72, 73] f
theorem seg0 (Gspec_TimesValid : spec_TimesValid.PI → Option spec_TimesValid.PO) (Gspec_l20One : spec_l20One.PI → Option spec_l20One.PO) (Gspec_l20Sign : spec_l20Sign.PI → Option spec_l20Sign.PO) (Gspec_l40Dec : spec_l40Dec.PI → Option spec_l40Dec.PO) (J5 : List Item → P5 → Option PO) (J14 : List Item → P14 → Option PO) (J15 : List Item → P15 → Option PO) (x0 : List (Int × Int × Int × Int)) (x1 : Int) : arun (pg Gspec_TimesValid Gspec_l20One Gspec_l20Sign Gspec_l40Dec J5 J14 J15) 5000 [.code c0] (mk pin (x0, x1, ())) = F0 (J5 T5) Gspec_TimesValid x0 x1 := by kernel_rfl
theorem seg5 (Gspec_TimesValid : spec_TimesValid.PI → Option spec_TimesValid.PO) (Gspec_l20One : spec_l20One.PI → Option spec_l20One.PO) (Gspec_l20Sign : spec_l20Sign.PI → Option spec_l20Sign.PO) (Gspec_l40Dec : spec_l40Dec.PI → Option spec_l40Dec.PO) (J5 : List Item → P5 → Option PO) (J14 : List Item → P14 → Option PO) (J15 : List Item → P15 → Option PO) (t0 : List (Int × Int × Int × Int)) (t6 : Int) (r0 : List (List UInt8)) : arun1 (pg Gspec_TimesValid Gspec_l20One Gspec_l20Sign Gspec_l40Dec J5 J14 J15) 5000 T5 (mk p5 (t0, t6, r0, ())) = F5 (J14 T14) (J15 T15) Gspec_l20One Gspec_l20Sign Gspec_l40Dec t0 t6 r0 := by kernel_rfl
theorem seg14 (Gspec_TimesValid : spec_TimesValid.PI → Option spec_TimesValid.PO) (Gspec_l20One : spec_l20One.PI → Option spec_l20One.PO) (Gspec_l20Sign : spec_l20Sign.PI → Option spec_l20Sign.PO) (Gspec_l40Dec : spec_l40Dec.PI → Option spec_l40Dec.PO) (J5 : List Item → P5 → Option PO) (J14 : List Item → P14 → Option PO) (J15 : List Item → P15 → Option PO) (t0 : List (Int × Int × Int × Int)) (t6 : Int) (t8 : List UInt8) (r0 : List (List UInt8)) (b1_0 : Int) (b1_1 : Int) (b1_2 : Int) (b1_3 : Int) : arunQ (pg Gspec_TimesValid Gspec_l20One Gspec_l20Sign Gspec_l40Dec J5 J14 J15) q [] [] 5000 T14 (mk p14 (t0, t6, t8, r0, b1_0, b1_1, b1_2, b1_3, ())) = List.replicate (arunQ (pg Gspec_TimesValid Gspec_l20One Gspec_l20Sign Gspec_l40Dec J5 J14 J15) q [] [] 5000 T14 (mk p14 (t0, t6, t8, r0, b1_0, b1_1, b1_2, b1_3, ()))).length (F14 (J15 T15) t0 t6 t8 r0 b1_0 b1_1 b1_2 b1_3) := by kernel_rfl
theorem seg15 (Gspec_TimesValid : spec_TimesValid.PI → Option spec_TimesValid.PO) (Gspec_l20One : spec_l20One.PI → Option spec_l20One.PO) (Gspec_l20Sign : spec_l20Sign.PI → Option spec_l20Sign.PO) (Gspec_l40Dec : spec_l40Dec.PI → Option spec_l40Dec.PO) (J5 : List Item → P5 → Option PO) (J14 : List Item → P14 → Option PO) (J15 : List Item → P15 → Option PO) (t0 : List (Int × Int × Int × Int)) (t6 : Int) (t8 : List UInt8) (r0 : List (List UInt8)) : arun1 (pg Gspec_TimesValid Gspec_l20One Gspec_l20Sign Gspec_l40Dec J5 J14 J15) 5000 T15 (mk p15 (t0, t6, t8, r0, ())) = F15 (J5 T5) t0 t6 t8 r0 := by kernel_rfl
noncomputable def L15 (J5 : P5 → Option PO) : P15 → Option PO := fun x => F15 J5 x.1 x.2.1 x.2.2.1 x.2.2.2.1
noncomputable def L14 (J5 : P5 → Option PO) : P14 → Option PO := fun x => F14 (L15 J5) x.1 x.2.1 x.2.2.1 x.2.2.2.1 x.2.2.2.2.1 x.2.2.2.2.2.1 x.2.2.2.2.2.2.1 x.2.2.2.2.2.2.2.1
noncomputable def L5 : P5 → Option PO := lfp fun J5 x => F5 (L14 J5) (L15 J5) spec_l20One.impl spec_l20Sign.impl spec_l40Dec.impl x.1 x.2.1 x.2.2.1
noncomputable def impl : PI → Option PO := fun x => F0 L5 spec_TimesValid.impl x.1 x.2.1
theorem F15_le {J5 J5' : P5 → Option PO} (h5 : OLe J5 J5') (t0 : List (Int × Int × Int × Int)) (t6 : Int) (t8 : List UInt8) (r0 : List (List UInt8)) : OptLe (F15 J5 t0 t6 t8 r0) (F15 J5' t0 t6 t8 r0) := by unfold F15; exact .cond (.refl _) (.cond (.of h5 _) (.refl _))
theorem F14_le {J15 J15' : P15 → Option PO} (h15 : OLe J15 J15') (t0 : List (Int × Int × Int × Int)) (t6 : Int) (t8 : List UInt8) (r0 : List (List UInt8)) (b1_0 : Int) (b1_1 : Int) (b1_2 : Int) (b1_3 : Int) : OptLe (F14 J15 t0 t6 t8 r0 b1_0 b1_1 b1_2 b1_3) (F14 J15' t0 t6 t8 r0 b1_0 b1_1 b1_2 b1_3) := by unfold F14; exact .cond (.cond (.cond (.cond (.cond (.cond (.cond (.cond (.of h15 _) (.refl _)) (.refl _)) (.refl _)) (.refl _)) (.refl _)) (.refl _)) (.refl _)) (.refl _)
theorem F5_le {J14 J14' : P14 → Option PO} (h14 : OLe J14 J14') {J15 J15' : P15 → Option PO} (h15 : OLe J15 J15') {Gspec_l20One : spec_l20One.PI → Option spec_l20One.PO} {Gspec_l20Sign : spec_l20Sign.PI → Option spec_l20Sign.PO} {Gspec_l40Dec : spec_l40Dec.PI → Option spec_l40Dec.PO} (t0 : List (Int × Int × Int × Int)) (t6 : Int) (r0 : List (List UInt8)) : OptLe (F5 J14 J15 Gspec_l20One Gspec_l20Sign Gspec_l40Dec t0 t6 r0) (F5 J14' J15' Gspec_l20One Gspec_l20Sign Gspec_l40Dec t0 t6 r0) := by unfold F5; exact .cond (.cond (.bind (.refl _) fun _ => .cond (.bind (.refl _) fun _ => .cond (.of h15 _) (.refl _)) (.bind (.refl _) fun _ => .cond (.cond (.cond (.of h15 _) (.refl _)) (.refl _)) (.cond (.of h14 _) (.of h15 _)))) (.refl _)) (.refl _)
theorem L15_eq (J5 : P5 → Option PO) (t0 : List (Int × Int × Int × Int)) (t6 : Int) (t8 : List UInt8) (r0 : List (List UInt8)) : L15 J5 (t0, t6, t8, r0, ()) = F15 J5 t0 t6 t8 r0 := rfl
theorem L15_le {J5 J5' : P5 → Option PO} (h5 : OLe J5 J5') : OLe (L15 J5) (L15 J5') := fun x => F15_le h5 x.1 x.2.1 x.2.2.1 x.2.2.2.1
theorem L14_eq (J5 : P5 → Option PO) (t0 : List (Int × Int × Int × Int)) (t6 : Int) (t8 : List UInt8) (r0 : List (List UInt8)) (b1_0 : Int) (b1_1 : Int) (b1_2 : Int) (b1_3 : Int) : L14 J5 (t0, t6, t8, r0, b1_0, b1_1, b1_2, b1_3, ()) = F14 (L15 J5) t0 t6 t8 r0 b1_0 b1_1 b1_2 b1_3 := rfl
theorem L14_le {J5 J5' : P5 → Option PO} (h5 : OLe J5 J5') : OLe (L14 J5) (L14 J5') := fun x => F14_le (L15_le h5) x.1 x.2.1 x.2.2.1 x.2.2.2.1 x.2.2.2.2.1 x.2.2.2.2.2.1 x.2.2.2.2.2.2.1 x.2.2.2.2.2.2.2.1
theorem L5_mono : OMono fun J5 (x : P5) => F5 (L14 J5) (L15 J5) spec_l20One.impl spec_l20Sign.impl spec_l40Dec.impl x.1 x.2.1 x.2.2.1 := fun J J' h5 x => F5_le (L14_le h5) (L15_le h5) x.1 x.2.1 x.2.2.1
theorem L5_eq (t0 : List (Int × Int × Int × Int)) (t6 : Int) (r0 : List (List UInt8)) : L5 (t0, t6, r0, ()) = F5 (L14 (L5)) (L15 (L5)) spec_l20One.impl spec_l20Sign.impl spec_l40Dec.impl t0 t6 r0 := congrFun (lfp_eq (L5_mono)) _
theorem impl_eq (x0 : List (Int × Int × Int × Int)) (x1 : Int) : impl (x0, x1, ()) = F0 L5 spec_TimesValid.impl x0 x1 := rfl
theorem con : Con Tryd.prog 25 2 rs.length 2 pin pout impl := by
  refine con_of_run' (nt := 77) (c := c0) tabGood Tryd.func25 (by kernel_rfl) (by kernel_rfl) (by kernel_rfl) (by kernel_rfl) (by kernel_rfl) (by kernel_rfl) (by kernel_rfl) ?_
  intro w0 O y hnp
  generalize hPost : (fun (a' : Act) (w' : World) => ∃ μ' S' st', Rel 77 w0 O μ' S' st' a' w' ∧ endOf (tabOf tab) rs 2 pout st' = some y) = Post
  have fin : ∀ (μ : Id → Option Value) (S : Nat → Prop) (st : St) (a : Act) (w : World), Rel 77 w0 O μ S st a w → endOf (tabOf tab) rs 2 pout st = some y → Post a w := fun μ S st a w h he => by rw [← hPost]; exact ⟨μ, S, st, h, he⟩
  have hp : ∀ (J5 : List Item → P5 → Option PO), ∀ (J14 : List Item → P14 → Option PO), ∀ (J15 : List Item → P15 → Option PO), Parts Tryd.prog 25 (pg spec_TimesValid.impl spec_l20One.impl spec_l20Sign.impl spec_l40Dec.impl J5 J14 J15) [(5, cut p5 J5), (14, cut p14 J14), (15, cut p15 J15)] := fun J5 J14 J15 => ⟨tab_ok tabGood rfl, (handAt_ok spec_l20One.con (handAt_ok spec_l20Sign.con (handAt_ok spec_TimesValid.con (handAt_ok spec_l40Dec.con handNil_ok)))), rfl⟩
  have g15 : ∀ (J5 : P5 → Option PO), Good Tryd.prog 77 w0 O Post y T5 p5 J5 → Good Tryd.prog 77 w0 O Post y T15 p15 (L15 J5) := fun J5 h5 => good_part (hp (atT T5 J5) (atT T14 (fun _ => none)) (atT T15 (fun _ => none))) (runOK_of (hp (atT T5 J5) (atT T14 (fun _ => none)) (atT T15 (fun _ => none))) hnp ⟨cutOK_at h5, cutOK_at (p := p14) (T := T14) (J := fun _ => none) good_none, cutOK_at (p := p15) (T := T15) (J := fun _ => none) good_none, trivial⟩ fin) (fun x => (seg15 spec_TimesValid.impl spec_l20One.impl spec_l20Sign.impl spec_l40Dec.impl (atT T5 J5) (atT T14 (fun _ => none)) (atT T15 (fun _ => none)) x.1 x.2.1 x.2.2.1 x.2.2.2.1).trans (by simp only [atT_self] <;> rfl))
  have g14 : ∀ (J5 : P5 → Option PO), Good Tryd.prog 77 w0 O Post y T5 p5 J5 → Good Tryd.prog 77 w0 O Post y T14 p14 (L14 J5) := fun J5 h5 => good_quiet (hs := hd spec_TimesValid.impl spec_l20One.impl spec_l20Sign.impl spec_l40Dec.impl) (cv' := hd spec_TimesValid.impl spec_l20One.impl spec_l20Sign.impl spec_l40Dec.impl) (Checked.mixed Tryd.checked) (hp (atT T5 (fun _ => none)) (atT T14 (fun _ => none)) (atT T15 (L15 J5))) (handAt_D spec_l20One.con (by rfl) rfl (handAt_D spec_l20Sign.con (by rfl) rfl (handAt_D spec_TimesValid.con (by rfl) rfl (handAt_D spec_l40Dec.con (by rfl) rfl handNil_D)))) (handAt_nat (handAt_nat (handAt_nat (handAt_nat handNil_nat)))) (handAt_nat (handAt_nat (handAt_nat (handAt_nat handNil_nat)))) (runOK_of (hp (atT T5 (fun _ => none)) (atT T14 (fun _ => none)) (atT T15 (L15 J5))) hnp ⟨cutOK_at (p := p5) (T := T5) (J := fun _ => none) good_none, cutOK_at (p := p14) (T := T14) (J := fun _ => none) good_none, cutOK_at (g15 J5 h5), trivial⟩ fin) (fun x => all_same ⟨_, (seg14 spec_TimesValid.impl spec_l20One.impl spec_l20Sign.impl spec_l40Dec.impl (atT T5 (fun _ => none)) (atT T14 (fun _ => none)) (atT T15 (L15 J5)) x.1 x.2.1 x.2.2.1 x.2.2.2.1 x.2.2.2.2.1 x.2.2.2.2.2.1 x.2.2.2.2.2.2.1 x.2.2.2.2.2.2.2.1).trans (by simp only [atT_self] <;> rfl)⟩)
  have g5 : Good Tryd.prog 77 w0 O Post y T5 p5 L5 := good_lfp fun J5 h5 => good_part (hp (atT T5 (fun _ => none)) (atT T14 (L14 J5)) (atT T15 (L15 J5))) (runOK_of (hp (atT T5 (fun _ => none)) (atT T14 (L14 J5)) (atT T15 (L15 J5))) hnp ⟨cutOK_at (p := p5) (T := T5) (J := fun _ => none) good_none, cutOK_at (g14 J5 h5), cutOK_at (g15 J5 h5), trivial⟩ fin) (fun x => (seg5 spec_TimesValid.impl spec_l20One.impl spec_l20Sign.impl spec_l40Dec.impl (atT T5 (fun _ => none)) (atT T14 (L14 J5)) (atT T15 (L15 J5)) x.1 x.2.1 x.2.2.1).trans (by simp only [atT_self] <;> rfl))
  exact good_first (hp (atT T5 L5) (atT T14 (fun _ => none)) (atT T15 (fun _ => none))) (runOK_of (hp (atT T5 L5) (atT T14 (fun _ => none)) (atT T15 (fun _ => none))) hnp ⟨cutOK_at g5, cutOK_at (p := p14) (T := T14) (J := fun _ => none) good_none, cutOK_at (p := p15) (T := T15) (J := fun _ => none) good_none, trivial⟩ fin) (fun x => (seg0 spec_TimesValid.impl spec_l20One.impl spec_l20Sign.impl spec_l40Dec.impl (atT T5 L5) (atT T14 (fun _ => none)) (atT T15 (fun _ => none)) x.1 x.2.1).trans (by simp only [atT_self] <;> rfl))
end spec_TimesText

/-! ### loop.example/wholecheck/laws.FnPushed -/
namespace laws_FnPushed
noncomputable abbrev c0 : Code := (Tryd.f5.body).getD .skip
noncomputable abbrev pin : Tpl := ⟨[⟨0, false, [.d (.sl (.int .u8))]⟩], []⟩
noncomputable abbrev pout : Tpl := ⟨[⟨0, false, [.d .bool]⟩], []⟩
noncomputable abbrev p8 : Tpl := ⟨[⟨4, false, [.d (.int .i64)]⟩, ⟨5, false, [.row 3000000]⟩], [(3000000, .row 48 false (.prod (.int .i64) (.prod (.int .i64) (.prod (.int .i64) (.last (.int .i64))))))]⟩
noncomputable def T8 : List Item := (find 8 c0 []).getD []
noncomputable abbrev p9 : Tpl := ⟨[⟨4, false, [.d (.int .i64)]⟩, ⟨5, false, [.row 3000000]⟩, ⟨37, false, [.row 3000000]⟩, ⟨38, false, [.d (.int .i64)]⟩, ⟨39, false, [.d (.int .i64)]⟩], [(3000000, .row 48 false (.prod (.int .i64) (.prod (.int .i64) (.prod (.int .i64) (.last (.int .i64))))))]⟩
noncomputable def T9 : List Item := (find 9 c0 []).getD []
noncomputable abbrev PI := (List Int) × Unit
noncomputable abbrev PO := Bool × Unit
noncomputable abbrev P8 := Int × (List (Int × Int × Int × Int)) × Unit
noncomputable abbrev P9 := Int × Int × Int × (List (Int × Int × Int × Int)) × Unit
noncomputable abbrev rs : List ResultVar := [.tmp 2]
noncomputable def F0 (J8 : P8 → Option PO) (Gimpl_Pushed : impl_Pushed.PI → Option impl_Pushed.PO) (Gimpl_TimesText : impl_TimesText.PI → Option impl_TimesText.PO) (Gspec_DrawPushed : spec_DrawPushed.PI → Option spec_DrawPushed.PO) (Gspec_Pushed : spec_Pushed.PI → Option spec_Pushed.PO) (Gspec_TimesText : spec_TimesText.PI → Option spec_TimesText.PO) (x0 : List Int) : Option PO :=
  bif decide ((x0.length : Int) > 1048576) then
    some (true, ())
  else
    Option.bind (Gspec_DrawPushed (x0, ())) fun y0 =>
    Option.bind (Gimpl_Pushed (y0.2.1, y0.1, ())) fun y1 =>
    Option.bind (Gspec_Pushed (y0.2.1, y0.1, ())) fun y2 =>
    bif (y1.1.length : Int) != (y2.1.length : Int) then
      some (false, ())
    else
      Option.bind (Gimpl_TimesText (y1.1, y0.1, ())) fun y3 =>
      Option.bind (Gspec_TimesText (y2.1, y0.1, ())) fun y4 =>
      bif !(y3.1 == y4.1) then
        some (false, ())
      else
        J8 (y0.1, y1.1, ())
noncomputable def F8 (J9 : P9 → Option PO) (t4 : Int) (r0 : List (Int × Int × Int × Int)) : Option PO :=
  J9 (t4, (r0.length : Int), 0, r0, ())
noncomputable def F9 (J9 : P9 → Option PO) (Gimpl_TimesValid : impl_TimesValid.PI → Option impl_TimesValid.PO) (t4 : Int) (t38 : Int) (t39 : Int) (r0 : List (Int × Int × Int × Int)) : Option PO :=
  bif decide (t39 < t38) then
    bif inb t39 r0.length then
      bif (r0.getD t39.toNat (0, 0, 0, 0)).1 == 2 then
        bif inb (r0.getD t39.toNat (0, 0, 0, 0)).2.2.1 r0.length then
          bif decide ((r0.getD (r0.getD t39.toNat (0, 0, 0, 0)).2.2.1.toNat (0, 0, 0, 0)).1 > 1) then
            some (false, ())
          else
            J9 (t4, t38, wI (t39 + 1), r0, ())
        else
          none
      else
        J9 (t4, t38, wI (t39 + 1), r0, ())
    else
      none
  else
    bif (r0.length : Int) == 0 then
      some (true, ())
    else
      Option.bind (Gimpl_TimesValid (r0, t4, ())) fun y5 =>
      some (y5.1, ())
noncomputable def hd {R : Type} (Gimpl_Pushed : impl_Pushed.PI → Option impl_Pushed.PO) (Gimpl_TimesText : impl_TimesText.PI → Option impl_TimesText.PO) (Gimpl_TimesValid : impl_TimesValid.PI → Option impl_TimesValid.PO) (Gspec_DrawPushed : spec_DrawPushed.PI → Option spec_DrawPushed.PO) (Gspec_Pushed : spec_Pushed.PI → Option spec_Pushed.PO) (Gspec_TimesText : spec_TimesText.PI → Option spec_TimesText.PO) : Hand R := (handAt 26 [62] true ⟨2, 1, 2, impl_TimesValid.pin, impl_TimesValid.pout, Gimpl_TimesValid⟩ (handAt 25 [34] true ⟨2, 1, 2, spec_TimesText.pin, spec_TimesText.pout, Gspec_TimesText⟩ (handAt 24 [31] true ⟨2, 1, 2, impl_TimesText.pin, impl_TimesText.pout, Gimpl_TimesText⟩ (handAt 23 [22] false ⟨2, 1, 2, spec_Pushed.pin, spec_Pushed.pout, Gspec_Pushed⟩ (handAt 22 [19] true ⟨2, 1, 2, impl_Pushed.pin, impl_Pushed.pout, Gimpl_Pushed⟩ (handAt 21 [14] true ⟨1, 2, 1, spec_DrawPushed.pin, spec_DrawPushed.pout, Gspec_DrawPushed⟩ handNil))))))
noncomputable def pg (Gimpl_Pushed : impl_Pushed.PI → Option impl_Pushed.PO) (Gimpl_TimesText : impl_TimesText.PI → Option impl_TimesText.PO) (Gimpl_TimesValid : impl_TimesValid.PI → Option impl_TimesValid.PO) (Gspec_DrawPushed : spec_DrawPushed.PI → Option spec_DrawPushed.PO) (Gspec_Pushed : spec_Pushed.PI → Option spec_Pushed.PO) (Gspec_TimesText : spec_TimesText.PI → Option spec_TimesText.PO) (J8 : List Item → P8 → Option PO) (J9 : List Item → P9 → Option PO) : Prog PO := { nt := 64, np := 1, tb := tabOf tab, hd := hd Gimpl_Pushed Gimpl_TimesText Gimpl_TimesValid Gspec_DrawPushed Gspec_Pushed Gspec_TimesText, cuts := cutsOf [(8, cut p8 J8), (9, cut p9 J9)], fin := endOf (tabOf tab) rs 1 pout }
noncomputable def q : FuncId → Bool := fun f => hasId [24, 25, 26] f
theorem seg0 (Gimpl_Pushed : impl_Pushed.PI → Option impl_Pushed.PO) (Gimpl_TimesText : impl_TimesText.PI → Option impl_TimesText.PO) (Gimpl_TimesValid : impl_TimesValid.PI → Option impl_TimesValid.PO) (Gspec_DrawPushed : spec_DrawPushed.PI → Option spec_DrawPushed.PO) (Gspec_Pushed : spec_Pushed.PI → Option spec_Pushed.PO) (Gspec_TimesText : spec_TimesText.PI → Option spec_TimesText.PO) (J8 : List Item → P8 → Option PO) (J9 : List Item → P9 → Option PO) (x0 : List Int) : arun (pg Gimpl_Pushed Gimpl_TimesText Gimpl_TimesValid Gspec_DrawPushed Gspec_Pushed Gspec_TimesText J8 J9) 5000 [.code c0] (mk pin (x0, ())) = F0 (J8 T8) Gimpl_Pushed Gimpl_TimesText Gspec_DrawPushed Gspec_Pushed Gspec_TimesText x0 := by kernel_rfl
theorem seg8 (Gimpl_Pushed : impl_Pushed.PI → Option impl_Pushed.PO) (Gimpl_TimesText : impl_TimesText.PI → Option impl_TimesText.PO) (Gimpl_TimesValid : impl_TimesValid.PI → Option impl_TimesValid.PO) (Gspec_DrawPushed : spec_DrawPushed.PI → Option spec_DrawPushed.PO) (Gspec_Pushed : spec_Pushed.PI → Option spec_Pushed.PO) (Gspec_TimesText : spec_TimesText.PI → Option spec_TimesText.PO) (J8 : List Item → P8 → Option PO) (J9 : List Item → P9 → Option PO) (t4 : Int) (r0 : List (Int × Int × Int × Int)) : arun1 (pg Gimpl_Pushed Gimpl_TimesText Gimpl_TimesValid Gspec_DrawPushed Gspec_Pushed Gspec_TimesText J8 J9) 5000 T8 (mk p8 (t4, r0, ())) = F8 (J9 T9) t4 r0 := by kernel_rfl
theorem seg9 (Gimpl_Pushed : impl_Pushed.PI → Option impl_Pushed.PO) (Gimpl_TimesText : impl_TimesText.PI → Option impl_TimesText.PO) (Gimpl_TimesValid : impl_TimesValid.PI → Option impl_TimesValid.PO) (Gspec_DrawPushed : spec_DrawPushed.PI → Option spec_DrawPushed.PO) (Gspec_Pushed : spec_Pushed.PI → Option spec_Pushed.PO) (Gspec_TimesText : spec_TimesText.PI → Option spec_TimesText.PO) (J8 : List Item → P8 → Option PO) (J9 : List Item → P9 → Option PO) (t4 : Int) (t38 : Int) (t39 : Int) (r0 : List (Int × Int × Int × Int)) : arun1 (pg Gimpl_Pushed Gimpl_TimesText Gimpl_TimesValid Gspec_DrawPushed Gspec_Pushed Gspec_TimesText J8 J9) 5000 T9 (mk p9 (t4, t38, t39, r0, ())) = F9 (J9 T9) Gimpl_TimesValid t4 t38 t39 r0 := by kernel_rfl
noncomputable def L9 : P9 → Option PO := lfp fun J9 x => F9 J9 impl_TimesValid.impl x.1 x.2.1 x.2.2.1 x.2.2.2.1
noncomputable def L8 : P8 → Option PO := fun x => F8 L9 x.1 x.2.1
noncomputable def impl : PI → Option PO := fun x => F0 L8 impl_Pushed.impl impl_TimesText.impl spec_DrawPushed.impl spec_Pushed.impl spec_TimesText.impl x.1
theorem F9_le {J9 J9' : P9 → Option PO} (h9 : OLe J9 J9') {Gimpl_TimesValid : impl_TimesValid.PI → Option impl_TimesValid.PO} (t4 : Int) (t38 : Int) (t39 : Int) (r0 : List (Int × Int × Int × Int)) : OptLe (F9 J9 Gimpl_TimesValid t4 t38 t39 r0) (F9 J9' Gimpl_TimesValid t4 t38 t39 r0) := by unfold F9; exact .cond (.cond (.cond (.cond (.cond (.refl _) (.of h9 _)) (.refl _)) (.of h9 _)) (.refl _)) (.refl _)
theorem L9_mono : OMono fun J9 (x : P9) => F9 J9 impl_TimesValid.impl x.1 x.2.1 x.2.2.1 x.2.2.2.1 := fun J J' h9 x => F9_le h9 x.1 x.2.1 x.2.2.1 x.2.2.2.1
theorem L9_eq (t4 : Int) (t38 : Int) (t39 : Int) (r0 : List (Int × Int × Int × Int)) : L9 (t4, t38, t39, r0, ()) = F9 (L9) impl_TimesValid.impl t4 t38 t39 r0 := congrFun (lfp_eq (L9_mono)) _
theorem L8_eq (t4 : Int) (r0 : List (Int × Int × Int × Int)) : L8 (t4, r0, ()) = F8 (L9) t4 r0 := rfl
theorem impl_eq (x0 : List Int) : impl (x0, ()) = F0 L8 impl_Pushed.impl impl_TimesText.impl spec_DrawPushed.impl spec_Pushed.impl spec_TimesText.impl x0 := rfl
theorem con : Con Tryd.prog 5 1 rs.length 1 pin pout impl := by
  refine con_of_run' (nt := 64) (c := c0) tabGood Tryd.func5 (by kernel_rfl) (by kernel_rfl) (by kernel_rfl) (by kernel_rfl) (by kernel_rfl) (by kernel_rfl) (by kernel_rfl) ?_
  intro w0 O y hnp
  generalize hPost : (fun (a' : Act) (w' : World) => ∃ μ' S' st', Rel 64 w0 O μ' S' st' a' w' ∧ endOf (tabOf tab) rs 1 pout st' = some y) = Post
  have fin : ∀ (μ : Id → Option Value) (S : Nat → Prop) (st : St) (a : Act) (w : World), Rel 64 w0 O μ S st a w → endOf (tabOf tab) rs 1 pout st = some y → Post a w := fun μ S st a w h he => by rw [← hPost]; exact ⟨μ, S, st, h, he⟩
  have hp : ∀ (J8 : List Item → P8 → Option PO), ∀ (J9 : List Item → P9 → Option PO), Parts Tryd.prog 5 (pg impl_Pushed.impl impl_TimesText.impl impl_TimesValid.impl spec_DrawPushed.impl spec_Pushed.impl spec_TimesText.impl J8 J9) [(8, cut p8 J8), (9, cut p9 J9)] := fun J8 J9 => ⟨tab_ok tabGood rfl, (handAt_ok impl_TimesValid.con (handAt_ok spec_TimesText.con (handAt_ok impl_TimesText.con (handAt_ok spec_Pushed.con (handAt_ok impl_Pushed.con (handAt_ok spec_DrawPushed.con handNil_ok)))))), rfl⟩
  have g9 : Good Tryd.prog 64 w0 O Post y T9 p9 L9 := good_lfp fun J9 h9 => good_part (hp (atT T8 (fun _ => none)) (atT T9 J9)) (runOK_of (hp (atT T8 (fun _ => none)) (atT T9 J9)) hnp ⟨cutOK_at (p := p8) (T := T8) (J := fun _ => none) good_none, cutOK_at h9, trivial⟩ fin) (fun x => (seg9 impl_Pushed.impl impl_TimesText.impl impl_TimesValid.impl spec_DrawPushed.impl spec_Pushed.impl spec_TimesText.impl (atT T8 (fun _ => none)) (atT T9 J9) x.1 x.2.1 x.2.2.1 x.2.2.2.1).trans (by simp only [atT_self] <;> rfl))
  have g8 : Good Tryd.prog 64 w0 O Post y T8 p8 L8 := good_part (hp (atT T8 (fun _ => none)) (atT T9 L9)) (runOK_of (hp (atT T8 (fun _ => none)) (atT T9 L9)) hnp ⟨cutOK_at (p := p8) (T := T8) (J := fun _ => none) good_none, cutOK_at g9, trivial⟩ fin) (fun x => (seg8 impl_Pushed.impl impl_TimesText.impl impl_TimesValid.impl spec_DrawPushed.impl spec_Pushed.impl spec_TimesText.impl (atT T8 (fun _ => none)) (atT T9 L9) x.1 x.2.1).trans (by simp only [atT_self] <;> rfl))
  exact good_first (hp (atT T8 L8) (atT T9 (fun _ => none))) (runOK_of (hp (atT T8 L8) (atT T9 (fun _ => none))) hnp ⟨cutOK_at g8, cutOK_at (p := p9) (T := T9) (J := fun _ => none) good_none, trivial⟩ fin) (fun x => (seg0 impl_Pushed.impl impl_TimesText.impl impl_TimesValid.impl spec_DrawPushed.impl spec_Pushed.impl spec_TimesText.impl (atT T8 L8) (atT T9 (fun _ => none)) x.1).trans (by simp only [atT_self] <;> rfl))
end laws_FnPushed
end Go.Proofs.YtambmmpilakgoaaDoorB
