/- PRINTED BY A PROGRAM OF THIS CLAIM'S AUTHOR (wip/gen): functions of the given program, their parts, their contracts. -/
import Derived.Test.YtgagmcbeobkfoaaB29
import Derived.Test.YtgagmcbeobkfoaaChecked
set_option linter.unusedVariables false
set_option maxRecDepth 100000
namespace Go.Proofs.YtgagmcbeobkfoaaB
open Go
def tab : Tab := [(3, { kind := .scalar, zero := [.d (.int .i64) (0 : Int)], bytes := 8, data := some (.int .i64), eqf := none }),
  (46, { kind := .slice 89, zero := [.nilS], bytes := 24, data := some (.sl (.prod (.int .i64) (.prod (.int .i64) (.prod (.int .i64) (.last (.int .i64)))))), eqf := none }),
  (48, { kind := .slice 87, zero := [.nilS], bytes := 24, data := some (.sl (.prod (.int .i64) (.prod (.int .i64) (.prod (.int .i64) (.last (.int .i64)))))), eqf := none }),
  (87, { kind := .struct [(0, 1), (1, 1), (2, 1), (3, 1)], zero := [.d (.int .i64) (0 : Int), .d (.int .i64) (0 : Int), .d (.int .i64) (0 : Int), .d (.int .i64) (0 : Int)], bytes := 32, data := some (.prod (.int .i64) (.prod (.int .i64) (.prod (.int .i64) (.last (.int .i64))))), eqf := some [(.int .i64), (.int .i64), (.int .i64), (.int .i64)] }),
  (89, { kind := .struct [(0, 1), (1, 1), (2, 1), (3, 1)], zero := [.d (.int .i64) (0 : Int), .d (.int .i64) (0 : Int), .d (.int .i64) (0 : Int), .d (.int .i64) (0 : Int)], bytes := 32, data := some (.prod (.int .i64) (.prod (.int .i64) (.prod (.int .i64) (.last (.int .i64))))), eqf := some [(.int .i64), (.int .i64), (.int .i64), (.int .i64)] }),
  (90, { kind := .scalar, zero := [.nilp], bytes := 8, data := none, eqf := none }),
  (92, { kind := .struct [(0, 1), (1, 1)], zero := [.nilS, .nilS], bytes := 48, data := some (.prod (.sl (.prod (.int .i64) (.prod (.int .i64) (.prod (.int .i64) (.last (.int .i64)))))) (.last (.sl (.prod (.int .i64) (.prod (.int .i64) (.prod (.int .i64) (.last (.int .i64)))))))), eqf := none })]
theorem tabGood : tabB Try.prog tab = true := by kernel_rfl

/-! ### loop.example/wholecheck/laws.szTreeS -/
namespace laws_szTreeS
noncomputable abbrev c0 : Code := (Try.f22.body).getD .skip
noncomputable abbrev pin : Tpl := ⟨[⟨0, false, [.d (.sl (.prod (.int .i64) (.prod (.int .i64) (.prod (.int .i64) (.last (.int .i64))))))]⟩, ⟨1, false, [.d (.int .i64)]⟩], []⟩
noncomputable abbrev pout : Tpl := ⟨[⟨0, false, [.d (.int .i64)]⟩], []⟩
noncomputable abbrev PI := (List (Int × Int × Int × Int)) × Int × Unit
noncomputable abbrev PO := Int × Unit
noncomputable abbrev rs : List ResultVar := [.tmp 4]
noncomputable def F0 (x0 : List (Int × Int × Int × Int)) (x1 : Int) : Option PO :=
  bif decide (wI (x1 - (x0.length : Int)) < 0) then
    some ((-1), ())
  else
    some (wI (x1 - (x0.length : Int)), ())
noncomputable def hd {R : Type} : Hand R := handNil
noncomputable def pg : Prog PO := { nt := 12, np := 1, tb := tabOf tab, hd := hd, cuts := cutsOf [], fin := endOf (tabOf tab) rs 1 pout }
theorem seg0 (x0 : List (Int × Int × Int × Int)) (x1 : Int) : arun (pg) 5000 [.code c0] (mk pin (x0, x1, ())) = F0 x0 x1 := by kernel_rfl
noncomputable def impl : PI → Option PO := fun x => F0 x.1 x.2.1
theorem impl_eq (x0 : List (Int × Int × Int × Int)) (x1 : Int) : impl (x0, x1, ()) = F0 x0 x1 := rfl
theorem con : Con Try.prog 22 2 rs.length 1 pin pout impl := by
  refine con_of_run' (nt := 12) (c := c0) tabGood Try.func22 (by kernel_rfl) (by kernel_rfl) (by kernel_rfl) (by kernel_rfl) (by kernel_rfl) (by kernel_rfl) (by kernel_rfl) ?_
  intro w0 O y hnp
  generalize hPost : (fun (a' : Act) (w' : World) => ∃ μ' S' st', Rel 12 w0 O μ' S' st' a' w' ∧ endOf (tabOf tab) rs 1 pout st' = some y) = Post
  have fin : ∀ (μ : Id → Option Value) (S : Nat → Prop) (st : St) (a : Act) (w : World), Rel 12 w0 O μ S st a w → endOf (tabOf tab) rs 1 pout st = some y → Post a w := fun μ S st a w h he => by rw [← hPost]; exact ⟨μ, S, st, h, he⟩
  have hp : Parts Try.prog 22 (pg) [] := ⟨tab_ok tabGood rfl, handNil_ok, rfl⟩
  exact good_first (hp) (runOK_of (hp) hnp trivial fin) (fun x => (seg0 x.1 x.2.1))
end laws_szTreeS

/-! ### loop.example/wholecheck/laws.toTree -/
namespace laws_toTree
noncomputable abbrev c0 : Code := (Try.f54.body).getD .skip
noncomputable abbrev pin : Tpl := ⟨[⟨0, true, [.d (.prod (.int .i64) (.prod (.int .i64) (.prod (.int .i64) (.last (.int .i64)))))]⟩], []⟩
noncomputable abbrev pout : Tpl := ⟨[⟨0, true, [.d (.prod (.int .i64) (.prod (.int .i64) (.prod (.int .i64) (.last (.int .i64)))))]⟩], []⟩
noncomputable abbrev PI := (Int × Int × Int × Int) × Unit
noncomputable abbrev PO := (Int × Int × Int × Int) × Unit
noncomputable abbrev rs : List ResultVar := [.cell 2 87]
noncomputable def F0 (x0 : Int × Int × Int × Int) : Option PO :=
  some (x0, ())
noncomputable def hd {R : Type} : Hand R := handNil
noncomputable def pg : Prog PO := { nt := 17, np := 1, tb := tabOf tab, hd := hd, cuts := cutsOf [], fin := endOf (tabOf tab) rs 1 pout }
theorem seg0 (x0 : Int × Int × Int × Int) : arun (pg) 5000 [.code c0] (mk pin (x0, ())) = F0 x0 := by kernel_rfl
noncomputable def impl : PI → Option PO := fun x => F0 x.1
theorem impl_eq (x0 : Int × Int × Int × Int) : impl (x0, ()) = F0 x0 := rfl
theorem con : Con Try.prog 54 1 rs.length 1 pin pout impl := by
  refine con_of_run' (nt := 17) (c := c0) tabGood Try.func54 (by kernel_rfl) (by kernel_rfl) (by kernel_rfl) (by kernel_rfl) (by kernel_rfl) (by kernel_rfl) (by kernel_rfl) ?_
  intro w0 O y hnp
  generalize hPost : (fun (a' : Act) (w' : World) => ∃ μ' S' st', Rel 17 w0 O μ' S' st' a' w' ∧ endOf (tabOf tab) rs 1 pout st' = some y) = Post
  have fin : ∀ (μ : Id → Option Value) (S : Nat → Prop) (st : St) (a : Act) (w : World), Rel 17 w0 O μ S st a w → endOf (tabOf tab) rs 1 pout st = some y → Post a w := fun μ S st a w h he => by rw [← hPost]; exact ⟨μ, S, st, h, he⟩
  have hp : Parts Try.prog 54 (pg) [] := ⟨tab_ok tabGood rfl, handNil_ok, rfl⟩
  exact good_first (hp) (runOK_of (hp) hnp trivial fin) (fun x => (seg0 x.1))
end laws_toTree

/-! ### loop.example/wholecheck/laws.toTreeS -/
namespace laws_toTreeS
noncomputable abbrev c0 : Code := (Try.f24.body).getD .skip
noncomputable abbrev pin : Tpl := ⟨[⟨0, false, [.d (.sl (.prod (.int .i64) (.prod (.int .i64) (.prod (.int .i64) (.last (.int .i64))))))]⟩], []⟩
noncomputable abbrev pout : Tpl := ⟨[⟨0, false, [.row 600001]⟩], [(600001, .row 87 false (.prod (.int .i64) (.prod (.int .i64) (.prod (.int .i64) (.last (.int .i64))))))]⟩
noncomputable abbrev p3 : Tpl := ⟨[⟨0, false, [.d (.sl (.prod (.int .i64) (.prod (.int .i64) (.prod (.int .i64) (.last (.int .i64))))))]⟩, ⟨3, false, [.row 3000000]⟩, ⟨4, false, [.d (.int .i64)]⟩], [(3000000, .row 87 false (.prod (.int .i64) (.prod (.int .i64) (.prod (.int .i64) (.last (.int .i64))))))]⟩
noncomputable def T3 : List Item := (find 3 c0 []).getD []
noncomputable abbrev PI := (List (Int × Int × Int × Int)) × Unit
noncomputable abbrev PO := (List (Int × Int × Int × Int)) × Unit
noncomputable abbrev P3 := (List (Int × Int × Int × Int)) × Int × (List (Int × Int × Int × Int)) × Unit
noncomputable abbrev rs : List ResultVar := [.tmp 2]
noncomputable def F0 (J3 : P3 → Option PO) (x0 : List (Int × Int × Int × Int)) : Option PO :=
  bif decide (0 ≤ (x0.length : Int)) && decide ((x0.length : Int) ≤ (x0.length : Int)) && decide ((x0.length : Int) * 32 ≤ 140737488355328) then
    J3 (x0, 0, (List.replicate (x0.length : Int).toNat (0, 0, 0, 0) : List (Int × Int × Int × Int)), ())
  else
    none
noncomputable def F3 (J3 : P3 → Option PO) (Glaws_toTree : laws_toTree.PI → Option laws_toTree.PO) (t0 : List (Int × Int × Int × Int)) (t4 : Int) (r0 : List (Int × Int × Int × Int)) : Option PO :=
  bif decide (t4 < (t0.length : Int)) then
    bif inb t4 t0.length then
      Option.bind (Glaws_toTree (t0.getD t4.toNat (0, 0, 0, 0), ())) fun y0 =>
      bif inb t4 r0.length then
        J3 (t0, wI (t4 + 1), r0.set t4.toNat y0.1, ())
      else
        none
    else
      none
  else
    some (r0, ())
noncomputable def hd {R : Type} (Glaws_toTree : laws_toTree.PI → Option laws_toTree.PO) : Hand R := (handAt 54 [20] true ⟨1, 1, 1, laws_toTree.pin, laws_toTree.pout, Glaws_toTree⟩ handNil)
noncomputable def pg (Glaws_toTree : laws_toTree.PI → Option laws_toTree.PO) (J3 : List Item → P3 → Option PO) : Prog PO := { nt := 23, np := 1, tb := tabOf tab, hd := hd Glaws_toTree, cuts := cutsOf [(3, cut p3 J3)], fin := endOf (tabOf tab) rs 1 pout }
theorem seg0 (Glaws_toTree : laws_toTree.PI → Option laws_toTree.PO) (J3 : List Item → P3 → Option PO) (x0 : List (Int × Int × Int × Int)) : arun (pg Glaws_toTree J3) 5000 [.code c0] (mk pin (x0, ())) = F0 (J3 T3) x0 := by kernel_rfl
theorem seg3 (Glaws_toTree : laws_toTree.PI → Option laws_toTree.PO) (J3 : List Item → P3 → Option PO) (t0 : List (Int × Int × Int × Int)) (t4 : Int) (r0 : List (Int × Int × Int × Int)) : arun1 (pg Glaws_toTree J3) 5000 T3 (mk p3 (t0, t4, r0, ())) = F3 (J3 T3) Glaws_toTree t0 t4 r0 := by kernel_rfl
noncomputable def L3 : P3 → Option PO := lfp fun J3 x => F3 J3 laws_toTree.impl x.1 x.2.1 x.2.2.1
noncomputable def impl : PI → Option PO := fun x => F0 L3 x.1
theorem F3_le {J3 J3' : P3 → Option PO} (h3 : OLe J3 J3') {Glaws_toTree : laws_toTree.PI → Option laws_toTree.PO} (t0 : List (Int × Int × Int × Int)) (t4 : Int) (r0 : List (Int × Int × Int × Int)) : OptLe (F3 J3 Glaws_toTree t0 t4 r0) (F3 J3' Glaws_toTree t0 t4 r0) := by unfold F3; exact .cond (.cond (.bind (.refl _) fun _ => .cond (.of h3 _) (.refl _)) (.refl _)) (.refl _)
theorem L3_mono : OMono fun J3 (x : P3) => F3 J3 laws_toTree.impl x.1 x.2.1 x.2.2.1 := fun J J' h3 x => F3_le h3 x.1 x.2.1 x.2.2.1
theorem L3_eq (t0 : List (Int × Int × Int × Int)) (t4 : Int) (r0 : List (Int × Int × Int × Int)) : L3 (t0, t4, r0, ()) = F3 (L3) laws_toTree.impl t0 t4 r0 := congrFun (lfp_eq (L3_mono)) _
theorem impl_eq (x0 : List (Int × Int × Int × Int)) : impl (x0, ()) = F0 L3 x0 := rfl
theorem con : Con Try.prog 24 1 rs.length 1 pin pout impl := by
  refine con_of_run' (nt := 23) (c := c0) tabGood Try.func24 (by kernel_rfl) (by kernel_rfl) (by kernel_rfl) (by kernel_rfl) (by kernel_rfl) (by kernel_rfl) (by kernel_rfl) ?_
  intro w0 O y hnp
  generalize hPost : (fun (a' : Act) (w' : World) => ∃ μ' S' st', Rel 23 w0 O μ' S' st' a' w' ∧ endOf (tabOf tab) rs 1 pout st' = some y) = Post
  have fin : ∀ (μ : Id → Option Value) (S : Nat → Prop) (st : St) (a : Act) (w : World), Rel 23 w0 O μ S st a w → endOf (tabOf tab) rs 1 pout st = some y → Post a w := fun μ S st a w h he => by rw [← hPost]; exact ⟨μ, S, st, h, he⟩
  have hp : ∀ (J3 : List Item → P3 → Option PO), Parts Try.prog 24 (pg laws_toTree.impl J3) [(3, cut p3 J3)] := fun J3 => ⟨tab_ok tabGood rfl, (handAt_ok laws_toTree.con handNil_ok), rfl⟩
  have g3 : Good Try.prog 23 w0 O Post y T3 p3 L3 := good_lfp fun J3 h3 => good_part (hp (atT T3 J3)) (runOK_of (hp (atT T3 J3)) hnp ⟨cutOK_at h3, trivial⟩ fin) (fun x => (seg3 laws_toTree.impl (atT T3 J3) x.1 x.2.1 x.2.2.1).trans (by simp only [atT_self] <;> rfl))
  exact good_first (hp (atT T3 L3)) (runOK_of (hp (atT T3 L3)) hnp ⟨cutOK_at g3, trivial⟩ fin) (fun x => (seg0 laws_toTree.impl (atT T3 L3) x.1).trans (by simp only [atT_self] <;> rfl))
end laws_toTreeS

/-! ### loop.example/wholecheck/spec.l1In -/
namespace spec_l1In
noncomputable abbrev c0 : Code := (Try.f36.body).getD .skip
noncomputable abbrev pin : Tpl := ⟨[⟨0, false, [.d (.int .i64)]⟩, ⟨1, false, [.d (.int .i64)]⟩, ⟨2, false, [.d (.int .i64)]⟩], []⟩
noncomputable abbrev pout : Tpl := ⟨[⟨0, false, [.d .bool]⟩], []⟩
noncomputable abbrev PI := Int × Int × Int × Unit
noncomputable abbrev PO := Bool × Unit
noncomputable abbrev rs : List ResultVar := [.tmp 6]
noncomputable def F0 (x0 : Int) (x1 : Int) (x2 : Int) : Option PO :=
  bif decide (x0 ≥ x1) then
    some (decide (x0 ≤ x2), ())
  else
    some (false, ())
noncomputable def hd {R : Type} : Hand R := handNil
noncomputable def pg : Prog PO := { nt := 15, np := 3, tb := tabOf tab, hd := hd, cuts := cutsOf [], fin := endOf (tabOf tab) rs 3 pout }
theorem seg0 (x0 : Int) (x1 : Int) (x2 : Int) : arun (pg) 5000 [.code c0] (mk pin (x0, x1, x2, ())) = F0 x0 x1 x2 := by kernel_rfl
noncomputable def impl : PI → Option PO := fun x => F0 x.1 x.2.1 x.2.2.1
theorem impl_eq (x0 : Int) (x1 : Int) (x2 : Int) : impl (x0, x1, x2, ()) = F0 x0 x1 x2 := rfl
theorem con : Con Try.prog 36 3 rs.length 3 pin pout impl := by
  refine con_of_run' (nt := 15) (c := c0) tabGood Try.func36 (by kernel_rfl) (by kernel_rfl) (by kernel_rfl) (by kernel_rfl) (by kernel_rfl) (by kernel_rfl) (by kernel_rfl) ?_
  intro w0 O y hnp
  generalize hPost : (fun (a' : Act) (w' : World) => ∃ μ' S' st', Rel 15 w0 O μ' S' st' a' w' ∧ endOf (tabOf tab) rs 3 pout st' = some y) = Post
  have fin : ∀ (μ : Id → Option Value) (S : Nat → Prop) (st : St) (a : Act) (w : World), Rel 15 w0 O μ S st a w → endOf (tabOf tab) rs 3 pout st = some y → Post a w := fun μ S st a w h he => by rw [← hPost]; exact ⟨μ, S, st, h, he⟩
  have hp : Parts Try.prog 36 (pg) [] := ⟨tab_ok tabGood rfl, handNil_ok, rfl⟩
  exact good_first (hp) (runOK_of (hp) hnp trivial fin) (fun x => (seg0 x.1 x.2.1 x.2.2.1))
end spec_l1In

/-! ### loop.example/wholecheck/spec.l24One -/
namespace spec_l24One
noncomputable abbrev c0 : Code := (Try.f77.body).getD .skip
noncomputable abbrev pin : Tpl := ⟨[⟨0, false, [.d (.int .i64)]⟩], []⟩
noncomputable abbrev pout : Tpl := ⟨[⟨0, false, [.d .bool]⟩], []⟩
noncomputable abbrev PI := Int × Unit
noncomputable abbrev PO := Bool × Unit
noncomputable abbrev rs : List ResultVar := [.tmp 2]
noncomputable def F0 (x0 : Int) : Option PO :=
  bif x0 == 2 then
    some (true, ())
  else
    bif x0 == 5 then
      some (true, ())
    else
      bif x0 == 7 then
        some (true, ())
      else
        bif x0 == 8 then
          some (true, ())
        else
          some (x0 == 10, ())
noncomputable def hd {R : Type} : Hand R := handNil
noncomputable def pg : Prog PO := { nt := 21, np := 1, tb := tabOf tab, hd := hd, cuts := cutsOf [], fin := endOf (tabOf tab) rs 1 pout }
theorem seg0 (x0 : Int) : arun (pg) 5000 [.code c0] (mk pin (x0, ())) = F0 x0 := by kernel_rfl
noncomputable def impl : PI → Option PO := fun x => F0 x.1
theorem impl_eq (x0 : Int) : impl (x0, ()) = F0 x0 := rfl
theorem con : Con Try.prog 77 1 rs.length 1 pin pout impl := by
  refine con_of_run' (nt := 21) (c := c0) tabGood Try.func77 (by kernel_rfl) (by kernel_rfl) (by kernel_rfl) (by kernel_rfl) (by kernel_rfl) (by kernel_rfl) (by kernel_rfl) ?_
  intro w0 O y hnp
  generalize hPost : (fun (a' : Act) (w' : World) => ∃ μ' S' st', Rel 21 w0 O μ' S' st' a' w' ∧ endOf (tabOf tab) rs 1 pout st' = some y) = Post
  have fin : ∀ (μ : Id → Option Value) (S : Nat → Prop) (st : St) (a : Act) (w : World), Rel 21 w0 O μ S st a w → endOf (tabOf tab) rs 1 pout st = some y → Post a w := fun μ S st a w h he => by rw [← hPost]; exact ⟨μ, S, st, h, he⟩
  have hp : Parts Try.prog 77 (pg) [] := ⟨tab_ok tabGood rfl, handNil_ok, rfl⟩
  exact good_first (hp) (runOK_of (hp) hnp trivial fin) (fun x => (seg0 x.1))
end spec_l24One

/-! ### loop.example/wholecheck/spec.l24Step -/
namespace spec_l24Step
noncomputable abbrev c0 : Code := (Try.f75.body).getD .skip
noncomputable abbrev pin : Tpl := ⟨[⟨0, true, [.d (.prod (.int .i64) (.prod (.int .i64) (.prod (.int .i64) (.last (.int .i64)))))]⟩, ⟨1, false, [.d (.int .i64)]⟩, ⟨2, false, [.d (.int .i64)]⟩], []⟩
noncomputable abbrev pout : Tpl := ⟨[⟨0, false, [.d .bool]⟩], []⟩
noncomputable abbrev PI := (Int × Int × Int × Int) × Int × Int × Unit
noncomputable abbrev PO := Bool × Unit
noncomputable abbrev rs : List ResultVar := [.tmp 6]
noncomputable def F0 (Gspec_l1In : spec_l1In.PI → Option spec_l1In.PO) (Gspec_l24One : spec_l24One.PI → Option spec_l24One.PO) (x0 : Int × Int × Int × Int) (x1 : Int) (x2 : Int) : Option PO :=
  bif x0.1 == 0 then
    bif x0.2.1 == 0 then
      bif x0.2.2.1 == 0 then
        some (x0.2.2.2 == 0, ())
      else
        some (false, ())
    else
      some (false, ())
  else
    bif x0.1 == 1 then
      Option.bind (Gspec_l1In (x0.2.1, 0, wI (x2 - 1), ())) fun y0 =>
      bif y0.1 then
        bif x0.2.2.1 == 0 then
          some (x0.2.2.2 == 0, ())
        else
          some (false, ())
      else
        some (false, ())
    else
      Option.bind (Gspec_l1In (x0.1, 2, 10, ())) fun y1 =>
      bif !y1.1 then
        some (false, ())
      else
        bif x0.2.1 != 0 then
          some (false, ())
        else
          Option.bind (Gspec_l1In (x0.2.2.1, 0, wI (x1 - 1), ())) fun y2 =>
          bif !y2.1 then
            some (false, ())
          else
            Option.bind (Gspec_l1In (x0.2.2.2, 0, wI (x1 - 1), ())) fun y3 =>
            bif !y3.1 then
              some (false, ())
            else
              Option.bind (Gspec_l24One (x0.1, ())) fun y4 =>
              bif !y4.1 then
                some (true, ())
              else
                some (x0.2.2.2 == x0.2.2.1, ())
noncomputable def hd {R : Type} (Gspec_l1In : spec_l1In.PI → Option spec_l1In.PO) (Gspec_l24One : spec_l24One.PI → Option spec_l24One.PO) : Hand R := (handAt 77 [68] true ⟨1, 1, 1, spec_l24One.pin, spec_l24One.pout, Gspec_l24One⟩ (handAt 36 [30, 43, 55, 63] true ⟨3, 1, 3, spec_l1In.pin, spec_l1In.pout, Gspec_l1In⟩ handNil))
noncomputable def pg (Gspec_l1In : spec_l1In.PI → Option spec_l1In.PO) (Gspec_l24One : spec_l24One.PI → Option spec_l24One.PO) : Prog PO := { nt := 77, np := 3, tb := tabOf tab, hd := hd Gspec_l1In Gspec_l24One, cuts := cutsOf [], fin := endOf (tabOf tab) rs 3 pout }
theorem seg0 (Gspec_l1In : spec_l1In.PI → Option spec_l1In.PO) (Gspec_l24One : spec_l24One.PI → Option spec_l24One.PO) (x0 : Int × Int × Int × Int) (x1 : Int) (x2 : Int) : arun (pg Gspec_l1In Gspec_l24One) 5000 [.code c0] (mk pin (x0, x1, x2, ())) = F0 Gspec_l1In Gspec_l24One x0 x1 x2 := by kernel_rfl
noncomputable def impl : PI → Option PO := fun x => F0 spec_l1In.impl spec_l24One.impl x.1 x.2.1 x.2.2.1
theorem impl_eq (x0 : Int × Int × Int × Int) (x1 : Int) (x2 : Int) : impl (x0, x1, x2, ()) = F0 spec_l1In.impl spec_l24One.impl x0 x1 x2 := rfl
theorem con : Con Try.prog 75 3 rs.length 3 pin pout impl := by
  refine con_of_run' (nt := 77) (c := c0) tabGood Try.func75 (by kernel_rfl) (by kernel_rfl) (by kernel_rfl) (by kernel_rfl) (by kernel_rfl) (by kernel_rfl) (by kernel_rfl) ?_
  intro w0 O y hnp
  generalize hPost : (fun (a' : Act) (w' : World) => ∃ μ' S' st', Rel 77 w0 O μ' S' st' a' w' ∧ endOf (tabOf tab) rs 3 pout st' = some y) = Post
  have fin : ∀ (μ : Id → Option Value) (S : Nat → Prop) (st : St) (a : Act) (w : World), Rel 77 w0 O μ S st a w → endOf (tabOf tab) rs 3 pout st = some y → Post a w := fun μ S st a w h he => by rw [← hPost]; exact ⟨μ, S, st, h, he⟩
  have hp : Parts Try.prog 75 (pg spec_l1In.impl spec_l24One.impl) [] := ⟨tab_ok tabGood rfl, (handAt_ok spec_l24One.con (handAt_ok spec_l1In.con handNil_ok)), rfl⟩
  exact good_first (hp) (runOK_of (hp) hnp trivial fin) (fun x => (seg0 spec_l1In.impl spec_l24One.impl x.1 x.2.1 x.2.2.1))
end spec_l24Step

/-! ### loop.example/wholecheck/spec.TreesValid -/
namespace spec_TreesValid
noncomputable abbrev c0 : Code := (Try.f52.body).getD .skip
noncomputable abbrev pin : Tpl := ⟨[⟨0, false, [.d (.sl (.prod (.int .i64) (.prod (.int .i64) (.prod (.int .i64) (.last (.int .i64))))))]⟩, ⟨1, false, [.d (.int .i64)]⟩], []⟩
noncomputable abbrev pout : Tpl := ⟨[⟨0, false, [.d .bool]⟩], []⟩
noncomputable abbrev p4 : Tpl := ⟨[⟨0, false, [.d (.sl (.prod (.int .i64) (.prod (.int .i64) (.prod (.int .i64) (.last (.int .i64))))))]⟩, ⟨1, false, [.d (.int .i64)]⟩, ⟨5, false, [.d (.int .i64)]⟩], []⟩
noncomputable def T4 : List Item := (find 4 c0 []).getD []
noncomputable abbrev PI := (List (Int × Int × Int × Int)) × Int × Unit
noncomputable abbrev PO := Bool × Unit
noncomputable abbrev P4 := (List (Int × Int × Int × Int)) × Int × Int × Unit
noncomputable abbrev rs : List ResultVar := [.tmp 4]
noncomputable def F0 (J4 : P4 → Option PO) (Gspec_l1In : spec_l1In.PI → Option spec_l1In.PO) (x0 : List (Int × Int × Int × Int)) (x1 : Int) : Option PO :=
  Option.bind (Gspec_l1In (x1, 0, 4, ())) fun y0 =>
  bif !y0.1 then
    some (false, ())
  else
    Option.bind (Gspec_l1In ((x0.length : Int), 1, 24, ())) fun y1 =>
    bif !y1.1 then
      some (false, ())
    else
      J4 (x0, x1, 0, ())
noncomputable def F4 (J4 : P4 → Option PO) (Gspec_l24Step : spec_l24Step.PI → Option spec_l24Step.PO) (t0 : List (Int × Int × Int × Int)) (t1 : Int) (t5 : Int) : Option PO :=
  bif decide (t5 < (t0.length : Int)) then
    bif inb t5 t0.length then
      Option.bind (Gspec_l24Step (t0.getD t5.toNat (0, 0, 0, 0), t5, t1, ())) fun y2 =>
      bif !y2.1 then
        some (false, ())
      else
        J4 (t0, t1, wI (t5 + 1), ())
    else
      none
  else
    some (true, ())
noncomputable def hd {R : Type} (Gspec_l1In : spec_l1In.PI → Option spec_l1In.PO) (Gspec_l24Step : spec_l24Step.PI → Option spec_l24Step.PO) : Hand R := (handAt 75 [27] true ⟨3, 1, 3, spec_l24Step.pin, spec_l24Step.pout, Gspec_l24Step⟩ (handAt 36 [7, 12] true ⟨3, 1, 3, spec_l1In.pin, spec_l1In.pout, Gspec_l1In⟩ handNil))
noncomputable def pg (Gspec_l1In : spec_l1In.PI → Option spec_l1In.PO) (Gspec_l24Step : spec_l24Step.PI → Option spec_l24Step.PO) (J4 : List Item → P4 → Option PO) : Prog PO := { nt := 29, np := 2, tb := tabOf tab, hd := hd Gspec_l1In Gspec_l24Step, cuts := cutsOf [(4, cut p4 J4)], fin := endOf (tabOf tab) rs 2 pout }
theorem seg0 (Gspec_l1In : spec_l1In.PI → Option spec_l1In.PO) (Gspec_l24Step : spec_l24Step.PI → Option spec_l24Step.PO) (J4 : List Item → P4 → Option PO) (x0 : List (Int × Int × Int × Int)) (x1 : Int) : arun (pg Gspec_l1In Gspec_l24Step J4) 5000 [.code c0] (mk pin (x0, x1, ())) = F0 (J4 T4) Gspec_l1In x0 x1 := by kernel_rfl
theorem seg4 (Gspec_l1In : spec_l1In.PI → Option spec_l1In.PO) (Gspec_l24Step : spec_l24Step.PI → Option spec_l24Step.PO) (J4 : List Item → P4 → Option PO) (t0 : List (Int × Int × Int × Int)) (t1 : Int) (t5 : Int) : arun1 (pg Gspec_l1In Gspec_l24Step J4) 5000 T4 (mk p4 (t0, t1, t5, ())) = F4 (J4 T4) Gspec_l24Step t0 t1 t5 := by kernel_rfl
noncomputable def L4 : P4 → Option PO := lfp fun J4 x => F4 J4 spec_l24Step.impl x.1 x.2.1 x.2.2.1
noncomputable def impl : PI → Option PO := fun x => F0 L4 spec_l1In.impl x.1 x.2.1
theorem F4_le {J4 J4' : P4 → Option PO} (h4 : OLe J4 J4') {Gspec_l24Step : spec_l24Step.PI → Option spec_l24Step.PO} (t0 : List (Int × Int × Int × Int)) (t1 : Int) (t5 : Int) : OptLe (F4 J4 Gspec_l24Step t0 t1 t5) (F4 J4' Gspec_l24Step t0 t1 t5) := by unfold F4; exact .cond (.cond (.bind (.refl _) fun _ => .cond (.refl _) (.of h4 _)) (.refl _)) (.refl _)
theorem L4_mono : OMono fun J4 (x : P4) => F4 J4 spec_l24Step.impl x.1 x.2.1 x.2.2.1 := fun J J' h4 x => F4_le h4 x.1 x.2.1 x.2.2.1
theorem L4_eq (t0 : List (Int × Int × Int × Int)) (t1 : Int) (t5 : Int) : L4 (t0, t1, t5, ()) = F4 (L4) spec_l24Step.impl t0 t1 t5 := congrFun (lfp_eq (L4_mono)) _
theorem impl_eq (x0 : List (Int × Int × Int × Int)) (x1 : Int) : impl (x0, x1, ()) = F0 L4 spec_l1In.impl x0 x1 := rfl
theorem con : Con Try.prog 52 2 rs.length 2 pin pout impl := by
  refine con_of_run' (nt := 29) (c := c0) tabGood Try.func52 (by kernel_rfl) (by kernel_rfl) (by kernel_rfl) (by kernel_rfl) (by kernel_rfl) (by kernel_rfl) (by kernel_rfl) ?_
  intro w0 O y hnp
  generalize hPost : (fun (a' : Act) (w' : World) => ∃ μ' S' st', Rel 29 w0 O μ' S' st' a' w' ∧ endOf (tabOf tab) rs 2 pout st' = some y) = Post
  have fin : ∀ (μ : Id → Option Value) (S : Nat → Prop) (st : St) (a : Act) (w : World), Rel 29 w0 O μ S st a w → endOf (tabOf tab) rs 2 pout st = some y → Post a w := fun μ S st a w h he => by rw [← hPost]; exact ⟨μ, S, st, h, he⟩
  have hp : ∀ (J4 : List Item → P4 → Option PO), Parts Try.prog 52 (pg spec_l1In.impl spec_l24Step.impl J4) [(4, cut p4 J4)] := fun J4 => ⟨tab_ok tabGood rfl, (handAt_ok spec_l24Step.con (handAt_ok spec_l1In.con handNil_ok)), rfl⟩
  have g4 : Good Try.prog 29 w0 O Post y T4 p4 L4 := good_lfp fun J4 h4 => good_part (hp (atT T4 J4)) (runOK_of (hp (atT T4 J4)) hnp ⟨cutOK_at h4, trivial⟩ fin) (fun x => (seg4 spec_l1In.impl spec_l24Step.impl (atT T4 J4) x.1 x.2.1 x.2.2.1).trans (by simp only [atT_self] <;> rfl))
  exact good_first (hp (atT T4 L4)) (runOK_of (hp (atT T4 L4)) hnp ⟨cutOK_at g4, trivial⟩ fin) (fun x => (seg0 spec_l1In.impl spec_l24Step.impl (atT T4 L4) x.1 x.2.1).trans (by simp only [atT_self] <;> rfl))
end spec_TreesValid

/-! ### loop.example/wholecheck/spec.l24Put -/
namespace spec_l24Put
noncomputable abbrev c0 : Code := (Try.f76.body).getD .skip
noncomputable abbrev pin : Tpl := ⟨[⟨0, false, [.row 500001]⟩, ⟨1, true, [.d (.prod (.int .i64) (.prod (.int .i64) (.prod (.int .i64) (.last (.int .i64)))))]⟩], [(500001, .row 87 false (.prod (.int .i64) (.prod (.int .i64) (.prod (.int .i64) (.last (.int .i64))))))]⟩
noncomputable abbrev pout : Tpl := ⟨[⟨0, false, [.row 500001]⟩, ⟨1, false, [.d (.int .i64)]⟩], [(500001, .row 87 false (.prod (.int .i64) (.prod (.int .i64) (.prod (.int .i64) (.last (.int .i64))))))]⟩
noncomputable abbrev p2 : Tpl := ⟨[⟨0, false, [.row 500001]⟩, ⟨3, false, [.ptr 3000000 0]⟩, ⟨6, false, [.d (.int .i64)]⟩], [(500001, .row 87 false (.prod (.int .i64) (.prod (.int .i64) (.prod (.int .i64) (.last (.int .i64)))))), (3000000, .box [.d (.int .i64), .d (.int .i64), .d (.int .i64), .d (.int .i64)])]⟩
noncomputable def T2 : List Item := (find 2 c0 []).getD []
noncomputable abbrev p4 : Tpl := ⟨[⟨0, false, [.row 500001]⟩, ⟨3, false, [.ptr 3000000 0]⟩, ⟨6, false, [.d (.int .i64)]⟩], [(500001, .row 87 false (.prod (.int .i64) (.prod (.int .i64) (.prod (.int .i64) (.last (.int .i64)))))), (3000000, .box [.d (.int .i64), .d (.int .i64), .d (.int .i64), .d (.int .i64)])]⟩
noncomputable def T4 : List Item := (find 4 c0 []).getD []
noncomputable abbrev PI := (Int × Int × Int × Int) × (List (Int × Int × Int × Int)) × Unit
noncomputable abbrev PO := Int × (List (Int × Int × Int × Int)) × Unit
noncomputable abbrev P2 := Int × (List (Int × Int × Int × Int)) × Int × Int × Int × Int × Unit
noncomputable abbrev P4 := Int × (List (Int × Int × Int × Int)) × Int × Int × Int × Int × Unit
noncomputable abbrev rs : List ResultVar := [.tmp 4, .tmp 5]
noncomputable def F0 (J2 : P2 → Option PO) (x1 : Int × Int × Int × Int) (s1 : List (Int × Int × Int × Int)) : Option PO :=
  J2 (0, s1, x1.1, x1.2.1, x1.2.2.1, x1.2.2.2, ())
noncomputable def F2 (J4 : P4 → Option PO) (t6 : Int) (s1 : List (Int × Int × Int × Int)) (b0_0 : Int) (b0_1 : Int) (b0_2 : Int) (b0_3 : Int) : Option PO :=
  bif decide (t6 < (s1.length : Int)) then
    J4 (t6, s1, b0_0, b0_1, b0_2, b0_3, ())
  else
    bif decide ((s1.length + ([(b0_0, b0_1, b0_2, b0_3)] : List (Int × Int × Int × Int)).length) * 32 ≤ 140737488355328) then
      some ((s1.length : Int), s1 ++ ([(b0_0, b0_1, b0_2, b0_3)] : List (Int × Int × Int × Int)), ())
    else
      none
noncomputable def F4 (J2 : P2 → Option PO) (t6 : Int) (s1 : List (Int × Int × Int × Int)) (b0_0 : Int) (b0_1 : Int) (b0_2 : Int) (b0_3 : Int) : Option PO :=
  bif inb t6 s1.length then
    bif (((s1.getD t6.toNat (0, 0, 0, 0)).1 == b0_0) && (((s1.getD t6.toNat (0, 0, 0, 0)).2.1 == b0_1) && (((s1.getD t6.toNat (0, 0, 0, 0)).2.2.1 == b0_2) && ((s1.getD t6.toNat (0, 0, 0, 0)).2.2.2 == b0_3)))) then
      some (t6, s1, ())
    else
      J2 (wI (t6 + 1), s1, b0_0, b0_1, b0_2, b0_3, ())
  else
    none
noncomputable def hd {R : Type} : Hand R := handNil
noncomputable def pg (J2 : List Item → P2 → Option PO) (J4 : List Item → P4 → Option PO) : Prog PO := { nt := 27, np := 2, tb := tabOf tab, hd := hd, cuts := cutsOf [(2, cut p2 J2), (4, cut p4 J4)], fin := endOf (tabOf tab) rs 2 pout }
theorem seg0 (J2 : List Item → P2 → Option PO) (J4 : List Item → P4 → Option PO) (x1 : Int × Int × Int × Int) (s1 : List (Int × Int × Int × Int)) : arun (pg J2 J4) 5000 [.code c0] (mk pin (x1, s1, ())) = F0 (J2 T2) x1 s1 := by kernel_rfl
theorem seg2 (J2 : List Item → P2 → Option PO) (J4 : List Item → P4 → Option PO) (t6 : Int) (s1 : List (Int × Int × Int × Int)) (b0_0 : Int) (b0_1 : Int) (b0_2 : Int) (b0_3 : Int) : arun1 (pg J2 J4) 5000 T2 (mk p2 (t6, s1, b0_0, b0_1, b0_2, b0_3, ())) = F2 (J4 T4) t6 s1 b0_0 b0_1 b0_2 b0_3 := by kernel_rfl
theorem seg4 (J2 : List Item → P2 → Option PO) (J4 : List Item → P4 → Option PO) (t6 : Int) (s1 : List (Int × Int × Int × Int)) (b0_0 : Int) (b0_1 : Int) (b0_2 : Int) (b0_3 : Int) : arunE (pg J2 J4) 5000 T4 (mk p4 (t6, s1, b0_0, b0_1, b0_2, b0_3, ())) = List.replicate (arunE (pg J2 J4) 5000 T4 (mk p4 (t6, s1, b0_0, b0_1, b0_2, b0_3, ()))).length (F4 (J2 T2) t6 s1 b0_0 b0_1 b0_2 b0_3) := by kernel_rfl
noncomputable def L4 (J2 : P2 → Option PO) : P4 → Option PO := fun x => F4 J2 x.1 x.2.1 x.2.2.1 x.2.2.2.1 x.2.2.2.2.1 x.2.2.2.2.2.1
noncomputable def L2 : P2 → Option PO := lfp fun J2 x => F2 (L4 J2) x.1 x.2.1 x.2.2.1 x.2.2.2.1 x.2.2.2.2.1 x.2.2.2.2.2.1
noncomputable def impl : PI → Option PO := fun x => F0 L2 x.1 x.2.1
theorem F4_le {J2 J2' : P2 → Option PO} (h2 : OLe J2 J2') (t6 : Int) (s1 : List (Int × Int × Int × Int)) (b0_0 : Int) (b0_1 : Int) (b0_2 : Int) (b0_3 : Int) : OptLe (F4 J2 t6 s1 b0_0 b0_1 b0_2 b0_3) (F4 J2' t6 s1 b0_0 b0_1 b0_2 b0_3) := by unfold F4; exact .cond (.cond (.refl _) (.of h2 _)) (.refl _)
theorem F2_le {J4 J4' : P4 → Option PO} (h4 : OLe J4 J4') (t6 : Int) (s1 : List (Int × Int × Int × Int)) (b0_0 : Int) (b0_1 : Int) (b0_2 : Int) (b0_3 : Int) : OptLe (F2 J4 t6 s1 b0_0 b0_1 b0_2 b0_3) (F2 J4' t6 s1 b0_0 b0_1 b0_2 b0_3) := by unfold F2; exact .cond (.of h4 _) (.refl _)
theorem L4_eq (J2 : P2 → Option PO) (t6 : Int) (s1 : List (Int × Int × Int × Int)) (b0_0 : Int) (b0_1 : Int) (b0_2 : Int) (b0_3 : Int) : L4 J2 (t6, s1, b0_0, b0_1, b0_2, b0_3, ()) = F4 J2 t6 s1 b0_0 b0_1 b0_2 b0_3 := rfl
theorem L4_le {J2 J2' : P2 → Option PO} (h2 : OLe J2 J2') : OLe (L4 J2) (L4 J2') := fun x => F4_le h2 x.1 x.2.1 x.2.2.1 x.2.2.2.1 x.2.2.2.2.1 x.2.2.2.2.2.1
theorem L2_mono : OMono fun J2 (x : P2) => F2 (L4 J2) x.1 x.2.1 x.2.2.1 x.2.2.2.1 x.2.2.2.2.1 x.2.2.2.2.2.1 := fun J J' h2 x => F2_le (L4_le h2) x.1 x.2.1 x.2.2.1 x.2.2.2.1 x.2.2.2.2.1 x.2.2.2.2.2.1
theorem L2_eq (t6 : Int) (s1 : List (Int × Int × Int × Int)) (b0_0 : Int) (b0_1 : Int) (b0_2 : Int) (b0_3 : Int) : L2 (t6, s1, b0_0, b0_1, b0_2, b0_3, ()) = F2 (L4 (L2)) t6 s1 b0_0 b0_1 b0_2 b0_3 := congrFun (lfp_eq (L2_mono)) _
theorem impl_eq (x1 : Int × Int × Int × Int) (s1 : List (Int × Int × Int × Int)) : impl (x1, s1, ()) = F0 L2 x1 s1 := rfl
theorem con : Con Try.prog 76 2 rs.length 2 pin pout impl := by
  refine con_of_run' (nt := 27) (c := c0) tabGood Try.func76 (by kernel_rfl) (by kernel_rfl) (by kernel_rfl) (by kernel_rfl) (by kernel_rfl) (by kernel_rfl) (by kernel_rfl) ?_
  intro w0 O y hnp
  generalize hPost : (fun (a' : Act) (w' : World) => ∃ μ' S' st', Rel 27 w0 O μ' S' st' a' w' ∧ endOf (tabOf tab) rs 2 pout st' = some y) = Post
  have fin : ∀ (μ : Id → Option Value) (S : Nat → Prop) (st : St) (a : Act) (w : World), Rel 27 w0 O μ S st a w → endOf (tabOf tab) rs 2 pout st = some y → Post a w := fun μ S st a w h he => by rw [← hPost]; exact ⟨μ, S, st, h, he⟩
  have hp : ∀ (J2 : List Item → P2 → Option PO), ∀ (J4 : List Item → P4 → Option PO), Parts Try.prog 76 (pg J2 J4) [(2, cut p2 J2), (4, cut p4 J4)] := fun J2 J4 => ⟨tab_ok tabGood rfl, handNil_ok, rfl⟩
  have g4 : ∀ (J2 : P2 → Option PO), Good Try.prog 27 w0 O Post y T2 p2 J2 → Good Try.prog 27 w0 O Post y T4 p4 (L4 J2) := fun J2 h2 => good_orders (hs := hd) (cv' := hd) (Checked.mixed Try.checked) (hp (atT T2 J2) (atT T4 (fun _ => none))) handNil_ok handNil_nat handNil_nat (runOK_of (hp (atT T2 J2) (atT T4 (fun _ => none))) hnp ⟨cutOK_at h2, cutOK_at (p := p4) (T := T4) (J := fun _ => none) good_none, trivial⟩ fin) (fun x => ⟨_, (seg4 (atT T2 J2) (atT T4 (fun _ => none)) x.1 x.2.1 x.2.2.1 x.2.2.2.1 x.2.2.2.2.1 x.2.2.2.2.2.1).trans (by simp only [atT_self] <;> rfl)⟩)
  have g2 : Good Try.prog 27 w0 O Post y T2 p2 L2 := good_lfp fun J2 h2 => good_part (hp (atT T2 (fun _ => none)) (atT T4 (L4 J2))) (runOK_of (hp (atT T2 (fun _ => none)) (atT T4 (L4 J2))) hnp ⟨cutOK_at (p := p2) (T := T2) (J := fun _ => none) good_none, cutOK_at (g4 J2 h2), trivial⟩ fin) (fun x => (seg2 (atT T2 (fun _ => none)) (atT T4 (L4 J2)) x.1 x.2.1 x.2.2.1 x.2.2.2.1 x.2.2.2.2.1 x.2.2.2.2.2.1).trans (by simp only [atT_self] <;> rfl))
  exact good_first (hp (atT T2 L2) (atT T4 (fun _ => none))) (runOK_of (hp (atT T2 L2) (atT T4 (fun _ => none))) hnp ⟨cutOK_at g2, cutOK_at (p := p4) (T := T4) (J := fun _ => none) good_none, trivial⟩ fin) (fun x => (seg0 (atT T2 L2) (atT T4 (fun _ => none)) x.1 x.2.1).trans (by simp only [atT_self] <;> rfl))
end spec_l24Put

/-! ### loop.example/wholecheck/spec.l24Some -/
namespace spec_l24Some
noncomputable abbrev c0 : Code := (Try.f53.body).getD .skip
noncomputable abbrev pin : Tpl := ⟨[⟨0, false, [.row 500001]⟩, ⟨1, false, [.d (.sl (.prod (.int .i64) (.prod (.int .i64) (.prod (.int .i64) (.last (.int .i64))))))]⟩, ⟨2, false, [.d (.int .i64)]⟩], [(500001, .row 87 false (.prod (.int .i64) (.prod (.int .i64) (.prod (.int .i64) (.last (.int .i64))))))]⟩
noncomputable abbrev pout : Tpl := ⟨[⟨0, false, [.row 500001]⟩, ⟨1, false, [.d (.int .i64)]⟩], [(500001, .row 87 false (.prod (.int .i64) (.prod (.int .i64) (.prod (.int .i64) (.last (.int .i64))))))]⟩
noncomputable abbrev PI := (List (Int × Int × Int × Int)) × Int × (List (Int × Int × Int × Int)) × Unit
noncomputable abbrev PO := Int × (List (Int × Int × Int × Int)) × Unit
noncomputable abbrev rs : List ResultVar := [.tmp 6, .tmp 7]
noncomputable def F0 (Gspec_l24One : spec_l24One.PI → Option spec_l24One.PO) (Gspec_l24Put : spec_l24Put.PI → Option spec_l24Put.PO) (Gspec_l24Some : PI → Option PO) (x1 : List (Int × Int × Int × Int)) (x2 : Int) (s1 : List (Int × Int × Int × Int)) : Option PO :=
  bif inb x2 x1.length then
    bif decide ((x1.getD x2.toNat (0, 0, 0, 0)).1 ≤ 1) then
      Option.bind (Gspec_l24Put (x1.getD x2.toNat (0, 0, 0, 0), s1, ())) fun y0 =>
      some (y0.1, y0.2.1, ())
    else
      Option.bind (Gspec_l24Some (x1, (x1.getD x2.toNat (0, 0, 0, 0)).2.2.1, s1, ())) fun y1 =>
      bif (x1.getD x2.toNat (0, 0, 0, 0)).1 == 8 then
        Option.bind (Gspec_l24Put ((2, 0, y1.1, y1.1), y1.2.1, ())) fun y2 =>
        Option.bind (Gspec_l24Put ((5, 0, y2.1, y2.1), y2.2.1, ())) fun y3 =>
        Option.bind (Gspec_l24Put ((2, 0, y3.1, y3.1), y3.2.1, ())) fun y4 =>
        some (y4.1, y4.2.1, ())
      else
        bif (x1.getD x2.toNat (0, 0, 0, 0)).1 == 10 then
          Option.bind (Gspec_l24Put ((2, 0, y1.1, y1.1), y1.2.1, ())) fun y5 =>
          Option.bind (Gspec_l24Put ((0, 0, 0, 0), y5.2.1, ())) fun y6 =>
          Option.bind (Gspec_l24Put ((6, 0, y6.1, y5.1), y6.2.1, ())) fun y7 =>
          Option.bind (Gspec_l24Put ((2, 0, y7.1, y7.1), y7.2.1, ())) fun y8 =>
          some (y8.1, y8.2.1, ())
        else
          Option.bind (Gspec_l24One ((x1.getD x2.toNat (0, 0, 0, 0)).1, ())) fun y9 =>
          bif y9.1 then
            Option.bind (Gspec_l24Put (((x1.getD x2.toNat (0, 0, 0, 0)).1, 0, y1.1, y1.1), y1.2.1, ())) fun y10 =>
            some (y10.1, y10.2.1, ())
          else
            Option.bind (Gspec_l24Some (x1, (x1.getD x2.toNat (0, 0, 0, 0)).2.2.2, y1.2.1, ())) fun y11 =>
            bif (x1.getD x2.toNat (0, 0, 0, 0)).1 != 9 then
              Option.bind (Gspec_l24Put (((x1.getD x2.toNat (0, 0, 0, 0)).1, 0, y1.1, y11.1), y11.2.1, ())) fun y12 =>
              some (y12.1, y12.2.1, ())
            else
              Option.bind (Gspec_l24Put ((2, 0, y1.1, y1.1), y11.2.1, ())) fun y13 =>
              Option.bind (Gspec_l24Put ((2, 0, y11.1, y11.1), y13.2.1, ())) fun y14 =>
              Option.bind (Gspec_l24Put ((3, 0, y14.1, y13.1), y14.2.1, ())) fun y15 =>
              Option.bind (Gspec_l24Put ((6, 0, y14.1, y15.1), y15.2.1, ())) fun y16 =>
              Option.bind (Gspec_l24Put ((7, 0, y14.1, y14.1), y16.2.1, ())) fun y17 =>
              Option.bind (Gspec_l24Put ((4, 0, y16.1, y17.1), y17.2.1, ())) fun y18 =>
              Option.bind (Gspec_l24Put ((2, 0, y18.1, y18.1), y18.2.1, ())) fun y19 =>
              some (y19.1, y19.2.1, ())
  else
    none
noncomputable def hd {R : Type} (Gspec_l24One : spec_l24One.PI → Option spec_l24One.PO) (Gspec_l24Put : spec_l24Put.PI → Option spec_l24Put.PO) (Gspec_l24Some : PI → Option PO) : Hand R := (handAt 77 [115] true ⟨1, 1, 1, spec_l24One.pin, spec_l24One.pout, Gspec_l24One⟩ (handAt 76 [44, 63, 71, 78, 89, 95, 103, 110, 122, 142, 150, 158, 166, 174, 182, 190, 197] true ⟨2, 2, 2, spec_l24Put.pin, spec_l24Put.pout, Gspec_l24Put⟩ (handAt 53 [52, 130] true ⟨3, 2, 3, pin, pout, Gspec_l24Some⟩ handNil)))
noncomputable def pg (Gspec_l24One : spec_l24One.PI → Option spec_l24One.PO) (Gspec_l24Put : spec_l24Put.PI → Option spec_l24Put.PO) (Gspec_l24Some : PI → Option PO) : Prog PO := { nt := 200, np := 3, tb := tabOf tab, hd := hd Gspec_l24One Gspec_l24Put Gspec_l24Some, cuts := cutsOf [], fin := endOf (tabOf tab) rs 3 pout }
theorem seg0 (Gspec_l24One : spec_l24One.PI → Option spec_l24One.PO) (Gspec_l24Put : spec_l24Put.PI → Option spec_l24Put.PO) (Gspec_l24Some : PI → Option PO) (x1 : List (Int × Int × Int × Int)) (x2 : Int) (s1 : List (Int × Int × Int × Int)) : arun (pg Gspec_l24One Gspec_l24Put Gspec_l24Some) 5000 [.code c0] (mk pin (x1, x2, s1, ())) = F0 Gspec_l24One Gspec_l24Put Gspec_l24Some x1 x2 s1 := by kernel_rfl
noncomputable def step (Gself : PI → Option PO) : PI → Option PO := fun x => F0 spec_l24One.impl spec_l24Put.impl Gself x.1 x.2.1 x.2.2.1
noncomputable def impl : PI → Option PO := lfp step
theorem F0_le {Gspec_l24One : spec_l24One.PI → Option spec_l24One.PO} {Gspec_l24Put : spec_l24Put.PI → Option spec_l24Put.PO} {Gself Gself' : PI → Option PO} (hG : OLe Gself Gself') (x1 : List (Int × Int × Int × Int)) (x2 : Int) (s1 : List (Int × Int × Int × Int)) : OptLe (F0 Gspec_l24One Gspec_l24Put Gself x1 x2 s1) (F0 Gspec_l24One Gspec_l24Put Gself' x1 x2 s1) := by unfold F0; exact .cond (.cond (.refl _) (.bind (.of hG _) fun _ => .cond (.refl _) (.cond (.refl _) (.bind (.refl _) fun _ => .cond (.refl _) (.bind (.of hG _) fun _ => .refl _))))) (.refl _)
theorem step_mono : OMono step := fun G G' hG x => F0_le hG x.1 x.2.1 x.2.2.1
theorem impl_eq (x1 : List (Int × Int × Int × Int)) (x2 : Int) (s1 : List (Int × Int × Int × Int)) : impl (x1, x2, s1, ()) = F0 spec_l24One.impl spec_l24Put.impl impl x1 x2 s1 := congrFun (lfp_eq step_mono) _
theorem con_step (Gself : PI → Option PO) (hself : Con Try.prog 53 3 rs.length 3 pin pout Gself) : Con Try.prog 53 3 rs.length 3 pin pout (step Gself) := by
  refine con_of_run' (nt := 200) (c := c0) tabGood Try.func53 (by kernel_rfl) (by kernel_rfl) (by kernel_rfl) (by kernel_rfl) (by kernel_rfl) (by kernel_rfl) (by kernel_rfl) ?_
  intro w0 O y hnp
  generalize hPost : (fun (a' : Act) (w' : World) => ∃ μ' S' st', Rel 200 w0 O μ' S' st' a' w' ∧ endOf (tabOf tab) rs 3 pout st' = some y) = Post
  have fin : ∀ (μ : Id → Option Value) (S : Nat → Prop) (st : St) (a : Act) (w : World), Rel 200 w0 O μ S st a w → endOf (tabOf tab) rs 3 pout st = some y → Post a w := fun μ S st a w h he => by rw [← hPost]; exact ⟨μ, S, st, h, he⟩
  have hp : Parts Try.prog 53 (pg spec_l24One.impl spec_l24Put.impl Gself) [] := ⟨tab_ok tabGood rfl, (handAt_ok spec_l24One.con (handAt_ok spec_l24Put.con (handAt_ok hself handNil_ok))), rfl⟩
  exact good_first (hp) (runOK_of (hp) hnp trivial fin) (fun x => (seg0 spec_l24One.impl spec_l24Put.impl Gself x.1 x.2.1 x.2.2.1))
theorem con : Con Try.prog 53 3 rs.length 3 pin pout impl := con_lfp (c := c0) Try.func53 (by kernel_rfl) (by kernel_rfl) (by kernel_rfl) con_step
end spec_l24Some

/-! ### loop.example/wholecheck/spec.WithSome -/
namespace spec_WithSome
noncomputable abbrev c0 : Code := (Try.f23.body).getD .skip
noncomputable abbrev pin : Tpl := ⟨[⟨0, false, [.d (.sl (.prod (.int .i64) (.prod (.int .i64) (.prod (.int .i64) (.last (.int .i64))))))]⟩, ⟨1, false, [.d (.int .i64)]⟩], []⟩
noncomputable abbrev pout : Tpl := ⟨[⟨0, false, [.d (.sl (.prod (.int .i64) (.prod (.int .i64) (.prod (.int .i64) (.last (.int .i64))))))]⟩], []⟩
noncomputable abbrev PI := (List (Int × Int × Int × Int)) × Int × Unit
noncomputable abbrev PO := (List (Int × Int × Int × Int)) × Unit
noncomputable abbrev rs : List ResultVar := [.tmp 4]
noncomputable def F0 (Gspec_TreesValid : spec_TreesValid.PI → Option spec_TreesValid.PO) (Gspec_l24Some : spec_l24Some.PI → Option spec_l24Some.PO) (x0 : List (Int × Int × Int × Int)) (x1 : Int) : Option PO :=
  Option.bind (Gspec_TreesValid (x0, x1, ())) fun y0 =>
  bif !y0.1 then
    some ([], ())
  else
    Option.bind (Gspec_l24Some (x0, wI ((x0.length : Int) - 1), ([] : List (Int × Int × Int × Int)), ())) fun y1 =>
    bif decide (wI (y1.1 + 1) > 24) then
      some ([], ())
    else
      bif decide (0 ≤ wI (y1.1 + 1)) && decide (wI (y1.1 + 1) ≤ (y1.2.1.length : Int)) then
        some ((y1.2.1.drop 0).take ((wI (y1.1 + 1)).toNat - 0), ())
      else
        none
noncomputable def hd {R : Type} (Gspec_TreesValid : spec_TreesValid.PI → Option spec_TreesValid.PO) (Gspec_l24Some : spec_l24Some.PI → Option spec_l24Some.PO) : Hand R := (handAt 53 [17] true ⟨3, 2, 3, spec_l24Some.pin, spec_l24Some.pout, Gspec_l24Some⟩ (handAt 52 [9] true ⟨2, 1, 2, spec_TreesValid.pin, spec_TreesValid.pout, Gspec_TreesValid⟩ handNil))
noncomputable def pg (Gspec_TreesValid : spec_TreesValid.PI → Option spec_TreesValid.PO) (Gspec_l24Some : spec_l24Some.PI → Option spec_l24Some.PO) : Prog PO := { nt := 27, np := 2, tb := tabOf tab, hd := hd Gspec_TreesValid Gspec_l24Some, cuts := cutsOf [], fin := endOf (tabOf tab) rs 2 pout }
theorem seg0 (Gspec_TreesValid : spec_TreesValid.PI → Option spec_TreesValid.PO) (Gspec_l24Some : spec_l24Some.PI → Option spec_l24Some.PO) (x0 : List (Int × Int × Int × Int)) (x1 : Int) : arun (pg Gspec_TreesValid Gspec_l24Some) 5000 [.code c0] (mk pin (x0, x1, ())) = F0 Gspec_TreesValid Gspec_l24Some x0 x1 := by kernel_rfl
noncomputable def impl : PI → Option PO := fun x => F0 spec_TreesValid.impl spec_l24Some.impl x.1 x.2.1
theorem impl_eq (x0 : List (Int × Int × Int × Int)) (x1 : Int) : impl (x0, x1, ()) = F0 spec_TreesValid.impl spec_l24Some.impl x0 x1 := rfl
theorem con : Con Try.prog 23 2 rs.length 2 pin pout impl := by
  refine con_of_run' (nt := 27) (c := c0) tabGood Try.func23 (by kernel_rfl) (by kernel_rfl) (by kernel_rfl) (by kernel_rfl) (by kernel_rfl) (by kernel_rfl) (by kernel_rfl) ?_
  intro w0 O y hnp
  generalize hPost : (fun (a' : Act) (w' : World) => ∃ μ' S' st', Rel 27 w0 O μ' S' st' a' w' ∧ endOf (tabOf tab) rs 2 pout st' = some y) = Post
  have fin : ∀ (μ : Id → Option Value) (S : Nat → Prop) (st : St) (a : Act) (w : World), Rel 27 w0 O μ S st a w → endOf (tabOf tab) rs 2 pout st = some y → Post a w := fun μ S st a w h he => by rw [← hPost]; exact ⟨μ, S, st, h, he⟩
  have hp : Parts Try.prog 23 (pg spec_TreesValid.impl spec_l24Some.impl) [] := ⟨tab_ok tabGood rfl, (handAt_ok spec_l24Some.con (handAt_ok spec_TreesValid.con handNil_ok)), rfl⟩
  exact good_first (hp) (runOK_of (hp) hnp trivial fin) (fun x => (seg0 spec_TreesValid.impl spec_l24Some.impl x.1 x.2.1))
end spec_WithSome

/-! ### loop.example/wholecheck/impl.in -/
namespace impl_in
noncomputable abbrev c0 : Code := (Try.f37.body).getD .skip
noncomputable abbrev pin : Tpl := ⟨[⟨0, false, [.d (.int .i64)]⟩, ⟨1, false, [.d (.int .i64)]⟩, ⟨2, false, [.d (.int .i64)]⟩], []⟩
noncomputable abbrev pout : Tpl := ⟨[⟨0, false, [.d .bool]⟩], []⟩
noncomputable abbrev PI := Int × Int × Int × Unit
noncomputable abbrev PO := Bool × Unit
noncomputable abbrev rs : List ResultVar := [.tmp 6]
noncomputable def F0 (x0 : Int) (x1 : Int) (x2 : Int) : Option PO :=
  bif decide (x0 ≥ x1) then
    some (decide (x0 ≤ x2), ())
  else
    some (false, ())
noncomputable def hd {R : Type} : Hand R := handNil
noncomputable def pg : Prog PO := { nt := 15, np := 3, tb := tabOf tab, hd := hd, cuts := cutsOf [], fin := endOf (tabOf tab) rs 3 pout }
theorem seg0 (x0 : Int) (x1 : Int) (x2 : Int) : arun (pg) 5000 [.code c0] (mk pin (x0, x1, x2, ())) = F0 x0 x1 x2 := by kernel_rfl
noncomputable def impl : PI → Option PO := fun x => F0 x.1 x.2.1 x.2.2.1
theorem impl_eq (x0 : Int) (x1 : Int) (x2 : Int) : impl (x0, x1, x2, ()) = F0 x0 x1 x2 := rfl
theorem con : Con Try.prog 37 3 rs.length 3 pin pout impl := by
  refine con_of_run' (nt := 15) (c := c0) tabGood Try.func37 (by kernel_rfl) (by kernel_rfl) (by kernel_rfl) (by kernel_rfl) (by kernel_rfl) (by kernel_rfl) (by kernel_rfl) ?_
  intro w0 O y hnp
  generalize hPost : (fun (a' : Act) (w' : World) => ∃ μ' S' st', Rel 15 w0 O μ' S' st' a' w' ∧ endOf (tabOf tab) rs 3 pout st' = some y) = Post
  have fin : ∀ (μ : Id → Option Value) (S : Nat → Prop) (st : St) (a : Act) (w : World), Rel 15 w0 O μ S st a w → endOf (tabOf tab) rs 3 pout st = some y → Post a w := fun μ S st a w h he => by rw [← hPost]; exact ⟨μ, S, st, h, he⟩
  have hp : Parts Try.prog 37 (pg) [] := ⟨tab_ok tabGood rfl, handNil_ok, rfl⟩
  exact good_first (hp) (runOK_of (hp) hnp trivial fin) (fun x => (seg0 x.1 x.2.1 x.2.2.1))
end impl_in

/-! ### loop.example/wholecheck/impl.treeParts -/
namespace impl_treeParts
noncomputable abbrev c0 : Code := (Try.f78.body).getD .skip
noncomputable abbrev pin : Tpl := ⟨[⟨0, false, [.d (.int .i64)]⟩], []⟩
noncomputable abbrev pout : Tpl := ⟨[⟨0, false, [.d (.int .i64)]⟩], []⟩
noncomputable abbrev PI := Int × Unit
noncomputable abbrev PO := Int × Unit
noncomputable abbrev rs : List ResultVar := [.tmp 2]
noncomputable def F0 (x0 : Int) : Option PO :=
  bif x0 == 3 then
    some (2, ())
  else
    bif x0 == 4 then
      some (2, ())
    else
      bif x0 == 6 then
        some (2, ())
      else
        bif x0 == 9 then
          some (2, ())
        else
          bif x0 == 0 then
            some (0, ())
          else
            bif x0 == 1 then
              some (0, ())
            else
              some (1, ())
noncomputable def hd {R : Type} : Hand R := handNil
noncomputable def pg : Prog PO := { nt := 12, np := 1, tb := tabOf tab, hd := hd, cuts := cutsOf [], fin := endOf (tabOf tab) rs 1 pout }
theorem seg0 (x0 : Int) : arun (pg) 5000 [.code c0] (mk pin (x0, ())) = F0 x0 := by kernel_rfl
noncomputable def impl : PI → Option PO := fun x => F0 x.1
theorem impl_eq (x0 : Int) : impl (x0, ()) = F0 x0 := rfl
theorem con : Con Try.prog 78 1 rs.length 1 pin pout impl := by
  refine con_of_run' (nt := 12) (c := c0) tabGood Try.func78 (by kernel_rfl) (by kernel_rfl) (by kernel_rfl) (by kernel_rfl) (by kernel_rfl) (by kernel_rfl) (by kernel_rfl) ?_
  intro w0 O y hnp
  generalize hPost : (fun (a' : Act) (w' : World) => ∃ μ' S' st', Rel 12 w0 O μ' S' st' a' w' ∧ endOf (tabOf tab) rs 1 pout st' = some y) = Post
  have fin : ∀ (μ : Id → Option Value) (S : Nat → Prop) (st : St) (a : Act) (w : World), Rel 12 w0 O μ S st a w → endOf (tabOf tab) rs 1 pout st = some y → Post a w := fun μ S st a w h he => by rw [← hPost]; exact ⟨μ, S, st, h, he⟩
  have hp : Parts Try.prog 78 (pg) [] := ⟨tab_ok tabGood rfl, handNil_ok, rfl⟩
  exact good_first (hp) (runOK_of (hp) hnp trivial fin) (fun x => (seg0 x.1))
end impl_treeParts

/-! ### loop.example/wholecheck/impl.TreesValid -/
namespace impl_TreesValid
noncomputable abbrev c0 : Code := (Try.f55.body).getD .skip
noncomputable abbrev pin : Tpl := ⟨[⟨0, false, [.d (.sl (.prod (.int .i64) (.prod (.int .i64) (.prod (.int .i64) (.last (.int .i64))))))]⟩, ⟨1, false, [.d (.int .i64)]⟩], []⟩
noncomputable abbrev pout : Tpl := ⟨[⟨0, false, [.d .bool]⟩], []⟩
noncomputable abbrev p4 : Tpl := ⟨[⟨1, false, [.d (.int .i64)]⟩, ⟨17, false, [.d (.sl (.prod (.int .i64) (.prod (.int .i64) (.prod (.int .i64) (.last (.int .i64))))))]⟩, ⟨18, false, [.d (.int .i64)]⟩, ⟨19, false, [.d (.int .i64)]⟩], []⟩
noncomputable def T4 : List Item := (find 4 c0 []).getD []
noncomputable abbrev PI := (List (Int × Int × Int × Int)) × Int × Unit
noncomputable abbrev PO := Bool × Unit
noncomputable abbrev P4 := Int × (List (Int × Int × Int × Int)) × Int × Int × Unit
noncomputable abbrev rs : List ResultVar := [.tmp 4]
noncomputable def F0 (J4 : P4 → Option PO) (Gimpl_in : impl_in.PI → Option impl_in.PO) (x0 : List (Int × Int × Int × Int)) (x1 : Int) : Option PO :=
  Option.bind (Gimpl_in (x1, 0, 4, ())) fun y0 =>
  bif !y0.1 then
    some (false, ())
  else
    Option.bind (Gimpl_in ((x0.length : Int), 1, 24, ())) fun y1 =>
    bif !y1.1 then
      some (false, ())
    else
      J4 (x1, x0, (x0.length : Int), 0, ())
noncomputable def F4 (J4 : P4 → Option PO) (Gimpl_in : impl_in.PI → Option impl_in.PO) (Gimpl_treeParts : impl_treeParts.PI → Option impl_treeParts.PO) (t1 : Int) (t17 : List (Int × Int × Int × Int)) (t18 : Int) (t19 : Int) : Option PO :=
  bif decide (t19 < t18) then
    bif inb t19 t17.length then
      Option.bind (Gimpl_in ((t17.getD t19.toNat (0, 0, 0, 0)).1, 0, 10, ())) fun y2 =>
      bif (t17.getD t19.toNat (0, 0, 0, 0)).1 == 0 then
        bif !(((t17.getD t19.toNat (0, 0, 0, 0)).1 == 0) && (((t17.getD t19.toNat (0, 0, 0, 0)).2.1 == 0) && (((t17.getD t19.toNat (0, 0, 0, 0)).2.2.1 == 0) && ((t17.getD t19.toNat (0, 0, 0, 0)).2.2.2 == 0)))) then
          some (false, ())
        else
          J4 (t1, t17, t18, wI (t19 + 1), ())
      else
        bif (t17.getD t19.toNat (0, 0, 0, 0)).1 == 1 then
          Option.bind (Gimpl_in ((t17.getD t19.toNat (0, 0, 0, 0)).2.1, 0, wI (t1 - 1), ())) fun y3 =>
          bif y3.1 then
            bif (t17.getD t19.toNat (0, 0, 0, 0)).2.2.1 == 0 then
              bif !((t17.getD t19.toNat (0, 0, 0, 0)).2.2.2 == 0) then
                some (false, ())
              else
                J4 (t1, t17, t18, wI (t19 + 1), ())
            else
              some (false, ())
          else
            some (false, ())
        else
          bif y2.1 then
            bif (t17.getD t19.toNat (0, 0, 0, 0)).2.1 == 0 then
              Option.bind (Gimpl_in ((t17.getD t19.toNat (0, 0, 0, 0)).2.2.1, 0, wI (t19 - 1), ())) fun y4 =>
              bif y4.1 then
                Option.bind (Gimpl_in ((t17.getD t19.toNat (0, 0, 0, 0)).2.2.2, 0, wI (t19 - 1), ())) fun y5 =>
                bif y5.1 then
                  bif (t17.getD t19.toNat (0, 0, 0, 0)).2.2.1 == (t17.getD t19.toNat (0, 0, 0, 0)).2.2.2 then
                    J4 (t1, t17, t18, wI (t19 + 1), ())
                  else
                    Option.bind (Gimpl_treeParts ((t17.getD t19.toNat (0, 0, 0, 0)).1, ())) fun y6 =>
                    bif !(y6.1 == 2) then
                      some (false, ())
                    else
                      J4 (t1, t17, t18, wI (t19 + 1), ())
                else
                  some (false, ())
              else
                some (false, ())
            else
              some (false, ())
          else
            bif !y2.1 then
              some (false, ())
            else
              J4 (t1, t17, t18, wI (t19 + 1), ())
    else
      none
  else
    some (true, ())
noncomputable def hd {R : Type} (Gimpl_in : impl_in.PI → Option impl_in.PO) (Gimpl_treeParts : impl_treeParts.PI → Option impl_treeParts.PO) : Hand R := (handAt 78 [81] true ⟨1, 1, 1, impl_treeParts.pin, impl_treeParts.pout, Gimpl_treeParts⟩ (handAt 37 [9, 14, 26, 42, 63, 70] true ⟨3, 1, 3, impl_in.pin, impl_in.pout, Gimpl_in⟩ handNil))
noncomputable def pg (Gimpl_in : impl_in.PI → Option impl_in.PO) (Gimpl_treeParts : impl_treeParts.PI → Option impl_treeParts.PO) (J4 : List Item → P4 → Option PO) : Prog PO := { nt := 88, np := 2, tb := tabOf tab, hd := hd Gimpl_in Gimpl_treeParts, cuts := cutsOf [(4, cut p4 J4)], fin := endOf (tabOf tab) rs 2 pout }
theorem seg0 (Gimpl_in : impl_in.PI → Option impl_in.PO) (Gimpl_treeParts : impl_treeParts.PI → Option impl_treeParts.PO) (J4 : List Item → P4 → Option PO) (x0 : List (Int × Int × Int × Int)) (x1 : Int) : arun (pg Gimpl_in Gimpl_treeParts J4) 5000 [.code c0] (mk pin (x0, x1, ())) = F0 (J4 T4) Gimpl_in x0 x1 := by kernel_rfl
theorem seg4 (Gimpl_in : impl_in.PI → Option impl_in.PO) (Gimpl_treeParts : impl_treeParts.PI → Option impl_treeParts.PO) (J4 : List Item → P4 → Option PO) (t1 : Int) (t17 : List (Int × Int × Int × Int)) (t18 : Int) (t19 : Int) : arun1 (pg Gimpl_in Gimpl_treeParts J4) 5000 T4 (mk p4 (t1, t17, t18, t19, ())) = F4 (J4 T4) Gimpl_in Gimpl_treeParts t1 t17 t18 t19 := by kernel_rfl
noncomputable def L4 : P4 → Option PO := lfp fun J4 x => F4 J4 impl_in.impl impl_treeParts.impl x.1 x.2.1 x.2.2.1 x.2.2.2.1
noncomputable def impl : PI → Option PO := fun x => F0 L4 impl_in.impl x.1 x.2.1
theorem F4_le {J4 J4' : P4 → Option PO} (h4 : OLe J4 J4') {Gimpl_in : impl_in.PI → Option impl_in.PO} {Gimpl_treeParts : impl_treeParts.PI → Option impl_treeParts.PO} (t1 : Int) (t17 : List (Int × Int × Int × Int)) (t18 : Int) (t19 : Int) : OptLe (F4 J4 Gimpl_in Gimpl_treeParts t1 t17 t18 t19) (F4 J4' Gimpl_in Gimpl_treeParts t1 t17 t18 t19) := by unfold F4; exact .cond (.cond (.bind (.refl _) fun _ => .cond (.cond (.refl _) (.of h4 _)) (.cond (.bind (.refl _) fun _ => .cond (.cond (.cond (.refl _) (.of h4 _)) (.refl _)) (.refl _)) (.cond (.cond (.bind (.refl _) fun _ => .cond (.bind (.refl _) fun _ => .cond (.cond (.of h4 _) (.bind (.refl _) fun _ => .cond (.refl _) (.of h4 _))) (.refl _)) (.refl _)) (.refl _)) (.cond (.refl _) (.of h4 _))))) (.refl _)) (.refl _)
theorem L4_mono : OMono fun J4 (x : P4) => F4 J4 impl_in.impl impl_treeParts.impl x.1 x.2.1 x.2.2.1 x.2.2.2.1 := fun J J' h4 x => F4_le h4 x.1 x.2.1 x.2.2.1 x.2.2.2.1
theorem L4_eq (t1 : Int) (t17 : List (Int × Int × Int × Int)) (t18 : Int) (t19 : Int) : L4 (t1, t17, t18, t19, ()) = F4 (L4) impl_in.impl impl_treeParts.impl t1 t17 t18 t19 := congrFun (lfp_eq (L4_mono)) _
theorem impl_eq (x0 : List (Int × Int × Int × Int)) (x1 : Int) : impl (x0, x1, ()) = F0 L4 impl_in.impl x0 x1 := rfl
theorem con : Con Try.prog 55 2 rs.length 2 pin pout impl := by
  refine con_of_run' (nt := 88) (c := c0) tabGood Try.func55 (by kernel_rfl) (by kernel_rfl) (by kernel_rfl) (by kernel_rfl) (by kernel_rfl) (by kernel_rfl) (by kernel_rfl) ?_
  intro w0 O y hnp
  generalize hPost : (fun (a' : Act) (w' : World) => ∃ μ' S' st', Rel 88 w0 O μ' S' st' a' w' ∧ endOf (tabOf tab) rs 2 pout st' = some y) = Post
  have fin : ∀ (μ : Id → Option Value) (S : Nat → Prop) (st : St) (a : Act) (w : World), Rel 88 w0 O μ S st a w → endOf (tabOf tab) rs 2 pout st = some y → Post a w := fun μ S st a w h he => by rw [← hPost]; exact ⟨μ, S, st, h, he⟩
  have hp : ∀ (J4 : List Item → P4 → Option PO), Parts Try.prog 55 (pg impl_in.impl impl_treeParts.impl J4) [(4, cut p4 J4)] := fun J4 => ⟨tab_ok tabGood rfl, (handAt_ok impl_treeParts.con (handAt_ok impl_in.con handNil_ok)), rfl⟩
  have g4 : Good Try.prog 88 w0 O Post y T4 p4 L4 := good_lfp fun J4 h4 => good_part (hp (atT T4 J4)) (runOK_of (hp (atT T4 J4)) hnp ⟨cutOK_at h4, trivial⟩ fin) (fun x => (seg4 impl_in.impl impl_treeParts.impl (atT T4 J4) x.1 x.2.1 x.2.2.1 x.2.2.2.1).trans (by simp only [atT_self] <;> rfl))
  exact good_first (hp (atT T4 L4)) (runOK_of (hp (atT T4 L4)) hnp ⟨cutOK_at g4, trivial⟩ fin) (fun x => (seg0 impl_in.impl impl_treeParts.impl (atT T4 L4) x.1 x.2.1).trans (by simp only [atT_self] <;> rfl))
end impl_TreesValid

/-! ### slices.Index[[]loop.example/wholecheck/impl.Tree,loop.example/wholecheck/impl.Tree] -/
namespace slices_Index_of
noncomputable abbrev c0 : Code := (Try.f79.body).getD .skip
noncomputable abbrev pin : Tpl := ⟨[⟨0, false, [.d (.sl (.prod (.int .i64) (.prod (.int .i64) (.prod (.int .i64) (.last (.int .i64))))))]⟩, ⟨1, true, [.d (.prod (.int .i64) (.prod (.int .i64) (.prod (.int .i64) (.last (.int .i64)))))]⟩], []⟩
noncomputable abbrev pout : Tpl := ⟨[⟨0, false, [.d (.int .i64)]⟩], []⟩
noncomputable abbrev p2 : Tpl := ⟨[⟨0, false, [.d (.sl (.prod (.int .i64) (.prod (.int .i64) (.prod (.int .i64) (.last (.int .i64))))))]⟩, ⟨3, false, [.ptr 3000000 0]⟩, ⟨7, false, [.d (.int .i64)]⟩, ⟨8, false, [.d (.int .i64)]⟩], [(3000000, .box [.d (.int .i64), .d (.int .i64), .d (.int .i64), .d (.int .i64)])]⟩
noncomputable def T2 : List Item := (find 2 c0 []).getD []
noncomputable abbrev p4 : Tpl := ⟨[⟨0, false, [.d (.sl (.prod (.int .i64) (.prod (.int .i64) (.prod (.int .i64) (.last (.int .i64))))))]⟩, ⟨3, false, [.ptr 3000000 0]⟩, ⟨5, false, [.d (.int .i64)]⟩, ⟨7, false, [.d (.int .i64)]⟩, ⟨8, false, [.d (.int .i64)]⟩], [(3000000, .box [.d (.int .i64), .d (.int .i64), .d (.int .i64), .d (.int .i64)])]⟩
noncomputable def T4 : List Item := (find 4 c0 []).getD []
noncomputable abbrev PI := (List (Int × Int × Int × Int)) × (Int × Int × Int × Int) × Unit
noncomputable abbrev PO := Int × Unit
noncomputable abbrev P2 := (List (Int × Int × Int × Int)) × Int × Int × Int × Int × Int × Int × Unit
noncomputable abbrev P4 := (List (Int × Int × Int × Int)) × Int × Int × Int × Int × Int × Int × Int × Unit
noncomputable abbrev rs : List ResultVar := [.tmp 4]
noncomputable def F0 (J2 : P2 → Option PO) (x0 : List (Int × Int × Int × Int)) (x1 : Int × Int × Int × Int) : Option PO :=
  J2 (x0, (x0.length : Int), 0, x1.1, x1.2.1, x1.2.2.1, x1.2.2.2, ())
noncomputable def F2 (J4 : P4 → Option PO) (t0 : List (Int × Int × Int × Int)) (t7 : Int) (t8 : Int) (b0_0 : Int) (b0_1 : Int) (b0_2 : Int) (b0_3 : Int) : Option PO :=
  bif decide (t8 < t7) then
    J4 (t0, t8, t7, t8, b0_0, b0_1, b0_2, b0_3, ())
  else
    some ((-1), ())
noncomputable def F4 (J2 : P2 → Option PO) (t0 : List (Int × Int × Int × Int)) (t5 : Int) (t7 : Int) (t8 : Int) (b0_0 : Int) (b0_1 : Int) (b0_2 : Int) (b0_3 : Int) : Option PO :=
  bif inb t5 t0.length then
    bif ((b0_0 == (t0.getD t5.toNat (0, 0, 0, 0)).1) && ((b0_1 == (t0.getD t5.toNat (0, 0, 0, 0)).2.1) && ((b0_2 == (t0.getD t5.toNat (0, 0, 0, 0)).2.2.1) && (b0_3 == (t0.getD t5.toNat (0, 0, 0, 0)).2.2.2)))) then
      some (t5, ())
    else
      J2 (t0, t7, wI (t8 + 1), b0_0, b0_1, b0_2, b0_3, ())
  else
    none
noncomputable def hd {R : Type} : Hand R := handNil
noncomputable def pg (J2 : List Item → P2 → Option PO) (J4 : List Item → P4 → Option PO) : Prog PO := { nt := 19, np := 2, tb := tabOf tab, hd := hd, cuts := cutsOf [(2, cut p2 J2), (4, cut p4 J4)], fin := endOf (tabOf tab) rs 2 pout }
theorem seg0 (J2 : List Item → P2 → Option PO) (J4 : List Item → P4 → Option PO) (x0 : List (Int × Int × Int × Int)) (x1 : Int × Int × Int × Int) : arun (pg J2 J4) 5000 [.code c0] (mk pin (x0, x1, ())) = F0 (J2 T2) x0 x1 := by kernel_rfl
theorem seg2 (J2 : List Item → P2 → Option PO) (J4 : List Item → P4 → Option PO) (t0 : List (Int × Int × Int × Int)) (t7 : Int) (t8 : Int) (b0_0 : Int) (b0_1 : Int) (b0_2 : Int) (b0_3 : Int) : arun1 (pg J2 J4) 5000 T2 (mk p2 (t0, t7, t8, b0_0, b0_1, b0_2, b0_3, ())) = F2 (J4 T4) t0 t7 t8 b0_0 b0_1 b0_2 b0_3 := by kernel_rfl
theorem seg4 (J2 : List Item → P2 → Option PO) (J4 : List Item → P4 → Option PO) (t0 : List (Int × Int × Int × Int)) (t5 : Int) (t7 : Int) (t8 : Int) (b0_0 : Int) (b0_1 : Int) (b0_2 : Int) (b0_3 : Int) : arunE (pg J2 J4) 5000 T4 (mk p4 (t0, t5, t7, t8, b0_0, b0_1, b0_2, b0_3, ())) = List.replicate (arunE (pg J2 J4) 5000 T4 (mk p4 (t0, t5, t7, t8, b0_0, b0_1, b0_2, b0_3, ()))).length (F4 (J2 T2) t0 t5 t7 t8 b0_0 b0_1 b0_2 b0_3) := by kernel_rfl
noncomputable def L4 (J2 : P2 → Option PO) : P4 → Option PO := fun x => F4 J2 x.1 x.2.1 x.2.2.1 x.2.2.2.1 x.2.2.2.2.1 x.2.2.2.2.2.1 x.2.2.2.2.2.2.1 x.2.2.2.2.2.2.2.1
noncomputable def L2 : P2 → Option PO := lfp fun J2 x => F2 (L4 J2) x.1 x.2.1 x.2.2.1 x.2.2.2.1 x.2.2.2.2.1 x.2.2.2.2.2.1 x.2.2.2.2.2.2.1
noncomputable def impl : PI → Option PO := fun x => F0 L2 x.1 x.2.1
theorem F4_le {J2 J2' : P2 → Option PO} (h2 : OLe J2 J2') (t0 : List (Int × Int × Int × Int)) (t5 : Int) (t7 : Int) (t8 : Int) (b0_0 : Int) (b0_1 : Int) (b0_2 : Int) (b0_3 : Int) : OptLe (F4 J2 t0 t5 t7 t8 b0_0 b0_1 b0_2 b0_3) (F4 J2' t0 t5 t7 t8 b0_0 b0_1 b0_2 b0_3) := by unfold F4; exact .cond (.cond (.refl _) (.of h2 _)) (.refl _)
theorem F2_le {J4 J4' : P4 → Option PO} (h4 : OLe J4 J4') (t0 : List (Int × Int × Int × Int)) (t7 : Int) (t8 : Int) (b0_0 : Int) (b0_1 : Int) (b0_2 : Int) (b0_3 : Int) : OptLe (F2 J4 t0 t7 t8 b0_0 b0_1 b0_2 b0_3) (F2 J4' t0 t7 t8 b0_0 b0_1 b0_2 b0_3) := by unfold F2; exact .cond (.of h4 _) (.refl _)
theorem L4_eq (J2 : P2 → Option PO) (t0 : List (Int × Int × Int × Int)) (t5 : Int) (t7 : Int) (t8 : Int) (b0_0 : Int) (b0_1 : Int) (b0_2 : Int) (b0_3 : Int) : L4 J2 (t0, t5, t7, t8, b0_0, b0_1, b0_2, b0_3, ()) = F4 J2 t0 t5 t7 t8 b0_0 b0_1 b0_2 b0_3 := rfl
theorem L4_le {J2 J2' : P2 → Option PO} (h2 : OLe J2 J2') : OLe (L4 J2) (L4 J2') := fun x => F4_le h2 x.1 x.2.1 x.2.2.1 x.2.2.2.1 x.2.2.2.2.1 x.2.2.2.2.2.1 x.2.2.2.2.2.2.1 x.2.2.2.2.2.2.2.1
theorem L2_mono : OMono fun J2 (x : P2) => F2 (L4 J2) x.1 x.2.1 x.2.2.1 x.2.2.2.1 x.2.2.2.2.1 x.2.2.2.2.2.1 x.2.2.2.2.2.2.1 := fun J J' h2 x => F2_le (L4_le h2) x.1 x.2.1 x.2.2.1 x.2.2.2.1 x.2.2.2.2.1 x.2.2.2.2.2.1 x.2.2.2.2.2.2.1
theorem L2_eq (t0 : List (Int × Int × Int × Int)) (t7 : Int) (t8 : Int) (b0_0 : Int) (b0_1 : Int) (b0_2 : Int) (b0_3 : Int) : L2 (t0, t7, t8, b0_0, b0_1, b0_2, b0_3, ()) = F2 (L4 (L2)) t0 t7 t8 b0_0 b0_1 b0_2 b0_3 := congrFun (lfp_eq (L2_mono)) _
theorem impl_eq (x0 : List (Int × Int × Int × Int)) (x1 : Int × Int × Int × Int) : impl (x0, x1, ()) = F0 L2 x0 x1 := rfl
theorem con : Con Try.prog 79 2 rs.length 2 pin pout impl := by
  refine con_of_run' (nt := 19) (c := c0) tabGood Try.func79 (by kernel_rfl) (by kernel_rfl) (by kernel_rfl) (by kernel_rfl) (by kernel_rfl) (by kernel_rfl) (by kernel_rfl) ?_
  intro w0 O y hnp
  generalize hPost : (fun (a' : Act) (w' : World) => ∃ μ' S' st', Rel 19 w0 O μ' S' st' a' w' ∧ endOf (tabOf tab) rs 2 pout st' = some y) = Post
  have fin : ∀ (μ : Id → Option Value) (S : Nat → Prop) (st : St) (a : Act) (w : World), Rel 19 w0 O μ S st a w → endOf (tabOf tab) rs 2 pout st = some y → Post a w := fun μ S st a w h he => by rw [← hPost]; exact ⟨μ, S, st, h, he⟩
  have hp : ∀ (J2 : List Item → P2 → Option PO), ∀ (J4 : List Item → P4 → Option PO), Parts Try.prog 79 (pg J2 J4) [(2, cut p2 J2), (4, cut p4 J4)] := fun J2 J4 => ⟨tab_ok tabGood rfl, handNil_ok, rfl⟩
  have g4 : ∀ (J2 : P2 → Option PO), Good Try.prog 19 w0 O Post y T2 p2 J2 → Good Try.prog 19 w0 O Post y T4 p4 (L4 J2) := fun J2 h2 => good_orders (hs := hd) (cv' := hd) (Checked.mixed Try.checked) (hp (atT T2 J2) (atT T4 (fun _ => none))) handNil_ok handNil_nat handNil_nat (runOK_of (hp (atT T2 J2) (atT T4 (fun _ => none))) hnp ⟨cutOK_at h2, cutOK_at (p := p4) (T := T4) (J := fun _ => none) good_none, trivial⟩ fin) (fun x => ⟨_, (seg4 (atT T2 J2) (atT T4 (fun _ => none)) x.1 x.2.1 x.2.2.1 x.2.2.2.1 x.2.2.2.2.1 x.2.2.2.2.2.1 x.2.2.2.2.2.2.1 x.2.2.2.2.2.2.2.1).trans (by simp only [atT_self] <;> rfl)⟩)
  have g2 : Good Try.prog 19 w0 O Post y T2 p2 L2 := good_lfp fun J2 h2 => good_part (hp (atT T2 (fun _ => none)) (atT T4 (L4 J2))) (runOK_of (hp (atT T2 (fun _ => none)) (atT T4 (L4 J2))) hnp ⟨cutOK_at (p := p2) (T := T2) (J := fun _ => none) good_none, cutOK_at (g4 J2 h2), trivial⟩ fin) (fun x => (seg2 (atT T2 (fun _ => none)) (atT T4 (L4 J2)) x.1 x.2.1 x.2.2.1 x.2.2.2.1 x.2.2.2.2.1 x.2.2.2.2.2.1 x.2.2.2.2.2.2.1).trans (by simp only [atT_self] <;> rfl))
  exact good_first (hp (atT T2 L2) (atT T4 (fun _ => none))) (runOK_of (hp (atT T2 L2) (atT T4 (fun _ => none))) hnp ⟨cutOK_at g2, cutOK_at (p := p4) (T := T4) (J := fun _ => none) good_none, trivial⟩ fin) (fun x => (seg0 (atT T2 L2) (atT T4 (fun _ => none)) x.1 x.2.1).trans (by simp only [atT_self] <;> rfl))
end slices_Index_of

/-! ### (*loop.example/wholecheck/impl.planting).put -/
namespace impl_planting_put
noncomputable abbrev c0 : Code := (Try.f81.body).getD .skip
noncomputable abbrev pin : Tpl := ⟨[⟨0, false, [.ptr 500001 0]⟩, ⟨1, false, [.d (.int .i64)]⟩, ⟨2, false, [.d (.int .i64)]⟩, ⟨3, false, [.d (.int .i64)]⟩], [(500001, .box [.d (.sl (.prod (.int .i64) (.prod (.int .i64) (.prod (.int .i64) (.last (.int .i64)))))), .row 500002]), (500002, .row 87 true (.prod (.int .i64) (.prod (.int .i64) (.prod (.int .i64) (.last (.int .i64))))))]⟩
noncomputable abbrev pout : Tpl := ⟨[⟨0, false, [.d (.int .i64)]⟩, ⟨1, false, [.ptr 500001 0]⟩], [(500001, .box [.d (.sl (.prod (.int .i64) (.prod (.int .i64) (.prod (.int .i64) (.last (.int .i64)))))), .row 500002]), (500002, .row 87 true (.prod (.int .i64) (.prod (.int .i64) (.prod (.int .i64) (.last (.int .i64))))))]⟩
noncomputable abbrev p2 : Tpl := ⟨[⟨0, false, [.ptr 500001 0]⟩, ⟨9, false, [.ptr 3000000 0]⟩], [(500001, .box [.d (.sl (.prod (.int .i64) (.prod (.int .i64) (.prod (.int .i64) (.last (.int .i64)))))), .row 500002]), (3000000, .box [.d (.int .i64), .d (.int .i64), .d (.int .i64), .d (.int .i64)]), (500002, .row 87 true (.prod (.int .i64) (.prod (.int .i64) (.prod (.int .i64) (.last (.int .i64))))))]⟩
noncomputable def T2 : List Item := (find 2 c0 []).getD []
noncomputable abbrev p5 : Tpl := ⟨[⟨0, false, [.ptr 500001 0]⟩, ⟨9, false, [.ptr 3000000 0]⟩], [(500001, .box [.d (.sl (.prod (.int .i64) (.prod (.int .i64) (.prod (.int .i64) (.last (.int .i64)))))), .row 500002]), (3000000, .box [.d (.int .i64), .d (.int .i64), .d (.int .i64), .d (.int .i64)]), (500002, .row 87 true (.prod (.int .i64) (.prod (.int .i64) (.prod (.int .i64) (.last (.int .i64))))))]⟩
noncomputable def T5 : List Item := (find 5 c0 []).getD []
noncomputable abbrev PI := Int × Int × Int × (List (Int × Int × Int × Int)) × (List (Int × Int × Int × Int)) × Unit
noncomputable abbrev PO := Int × (List (Int × Int × Int × Int)) × (List (Int × Int × Int × Int)) × Unit
noncomputable abbrev P2 := (List (Int × Int × Int × Int)) × Int × Int × Int × Int × (List (Int × Int × Int × Int)) × Unit
noncomputable abbrev P5 := (List (Int × Int × Int × Int)) × Int × Int × Int × Int × (List (Int × Int × Int × Int)) × Unit
noncomputable abbrev rs : List ResultVar := [.tmp 8]
noncomputable def F0 (J2 : P2 → Option PO) (x1 : Int) (x2 : Int) (x3 : Int) (c1_0 : List (Int × Int × Int × Int)) (s2 : List (Int × Int × Int × Int)) : Option PO :=
  J2 (c1_0, x1, 0, x2, x3, s2, ())
noncomputable def F2 (J5 : P5 → Option PO) (Gslices_Index_of : slices_Index_of.PI → Option slices_Index_of.PO) (c1_0 : List (Int × Int × Int × Int)) (b0_0 : Int) (b0_1 : Int) (b0_2 : Int) (b0_3 : Int) (s2 : List (Int × Int × Int × Int)) : Option PO :=
  Option.bind (Gslices_Index_of (s2, (b0_0, b0_1, b0_2, b0_3), ())) fun y0 =>
  bif decide (y0.1 ≥ 0) then
    some (y0.1, c1_0, s2, ())
  else
    J5 (c1_0, b0_0, b0_1, b0_2, b0_3, s2, ())
noncomputable def F5 (c1_0 : List (Int × Int × Int × Int)) (b0_0 : Int) (b0_1 : Int) (b0_2 : Int) (b0_3 : Int) (s2 : List (Int × Int × Int × Int)) : Option PO :=
  bif decide ((s2.length + ([(b0_0, b0_1, b0_2, b0_3)] : List (Int × Int × Int × Int)).length) * 32 ≤ 140737488355328) then
    some (wI (((s2 ++ ([(b0_0, b0_1, b0_2, b0_3)] : List (Int × Int × Int × Int))).length : Int) - 1), c1_0, s2 ++ ([(b0_0, b0_1, b0_2, b0_3)] : List (Int × Int × Int × Int)), ())
  else
    none
noncomputable def hd {R : Type} (Gslices_Index_of : slices_Index_of.PI → Option slices_Index_of.PO) : Hand R := (handAt 79 [20] true ⟨2, 1, 2, slices_Index_of.pin, slices_Index_of.pout, Gslices_Index_of⟩ handNil)
noncomputable def pg (Gslices_Index_of : slices_Index_of.PI → Option slices_Index_of.PO) (J2 : List Item → P2 → Option PO) (J5 : List Item → P5 → Option PO) : Prog PO := { nt := 40, np := 4, tb := tabOf tab, hd := hd Gslices_Index_of, cuts := cutsOf [(2, cut p2 J2), (5, cut p5 J5)], fin := endOf (tabOf tab) rs 4 pout }
theorem seg0 (Gslices_Index_of : slices_Index_of.PI → Option slices_Index_of.PO) (J2 : List Item → P2 → Option PO) (J5 : List Item → P5 → Option PO) (x1 : Int) (x2 : Int) (x3 : Int) (c1_0 : List (Int × Int × Int × Int)) (s2 : List (Int × Int × Int × Int)) : arun (pg Gslices_Index_of J2 J5) 5000 [.code c0] (mk pin (x1, x2, x3, c1_0, s2, ())) = F0 (J2 T2) x1 x2 x3 c1_0 s2 := by kernel_rfl
theorem seg2 (Gslices_Index_of : slices_Index_of.PI → Option slices_Index_of.PO) (J2 : List Item → P2 → Option PO) (J5 : List Item → P5 → Option PO) (c1_0 : List (Int × Int × Int × Int)) (b0_0 : Int) (b0_1 : Int) (b0_2 : Int) (b0_3 : Int) (s2 : List (Int × Int × Int × Int)) : arunE (pg Gslices_Index_of J2 J5) 5000 T2 (mk p2 (c1_0, b0_0, b0_1, b0_2, b0_3, s2, ())) = List.replicate (arunE (pg Gslices_Index_of J2 J5) 5000 T2 (mk p2 (c1_0, b0_0, b0_1, b0_2, b0_3, s2, ()))).length (F2 (J5 T5) Gslices_Index_of c1_0 b0_0 b0_1 b0_2 b0_3 s2) := by kernel_rfl
theorem seg5 (Gslices_Index_of : slices_Index_of.PI → Option slices_Index_of.PO) (J2 : List Item → P2 → Option PO) (J5 : List Item → P5 → Option PO) (c1_0 : List (Int × Int × Int × Int)) (b0_0 : Int) (b0_1 : Int) (b0_2 : Int) (b0_3 : Int) (s2 : List (Int × Int × Int × Int)) : arunE (pg Gslices_Index_of J2 J5) 5000 T5 (mk p5 (c1_0, b0_0, b0_1, b0_2, b0_3, s2, ())) = List.replicate (arunE (pg Gslices_Index_of J2 J5) 5000 T5 (mk p5 (c1_0, b0_0, b0_1, b0_2, b0_3, s2, ()))).length (F5 c1_0 b0_0 b0_1 b0_2 b0_3 s2) := by kernel_rfl
noncomputable def L5 : P5 → Option PO := fun x => F5 x.1 x.2.1 x.2.2.1 x.2.2.2.1 x.2.2.2.2.1 x.2.2.2.2.2.1
noncomputable def L2 : P2 → Option PO := fun x => F2 L5 slices_Index_of.impl x.1 x.2.1 x.2.2.1 x.2.2.2.1 x.2.2.2.2.1 x.2.2.2.2.2.1
noncomputable def impl : PI → Option PO := fun x => F0 L2 x.1 x.2.1 x.2.2.1 x.2.2.2.1 x.2.2.2.2.1
theorem L5_eq (c1_0 : List (Int × Int × Int × Int)) (b0_0 : Int) (b0_1 : Int) (b0_2 : Int) (b0_3 : Int) (s2 : List (Int × Int × Int × Int)) : L5 (c1_0, b0_0, b0_1, b0_2, b0_3, s2, ()) = F5 c1_0 b0_0 b0_1 b0_2 b0_3 s2 := rfl
theorem L2_eq (c1_0 : List (Int × Int × Int × Int)) (b0_0 : Int) (b0_1 : Int) (b0_2 : Int) (b0_3 : Int) (s2 : List (Int × Int × Int × Int)) : L2 (c1_0, b0_0, b0_1, b0_2, b0_3, s2, ()) = F2 (L5) slices_Index_of.impl c1_0 b0_0 b0_1 b0_2 b0_3 s2 := rfl
theorem impl_eq (x1 : Int) (x2 : Int) (x3 : Int) (c1_0 : List (Int × Int × Int × Int)) (s2 : List (Int × Int × Int × Int)) : impl (x1, x2, x3, c1_0, s2, ()) = F0 L2 x1 x2 x3 c1_0 s2 := rfl
theorem con : Con Try.prog 81 4 rs.length 4 pin pout impl := by
  refine con_of_run' (nt := 40) (c := c0) tabGood Try.func81 (by kernel_rfl) (by kernel_rfl) (by kernel_rfl) (by kernel_rfl) (by kernel_rfl) (by kernel_rfl) (by kernel_rfl) ?_
  intro w0 O y hnp
  generalize hPost : (fun (a' : Act) (w' : World) => ∃ μ' S' st', Rel 40 w0 O μ' S' st' a' w' ∧ endOf (tabOf tab) rs 4 pout st' = some y) = Post
  have fin : ∀ (μ : Id → Option Value) (S : Nat → Prop) (st : St) (a : Act) (w : World), Rel 40 w0 O μ S st a w → endOf (tabOf tab) rs 4 pout st = some y → Post a w := fun μ S st a w h he => by rw [← hPost]; exact ⟨μ, S, st, h, he⟩
  have hp : ∀ (J2 : List Item → P2 → Option PO), ∀ (J5 : List Item → P5 → Option PO), Parts Try.prog 81 (pg slices_Index_of.impl J2 J5) [(2, cut p2 J2), (5, cut p5 J5)] := fun J2 J5 => ⟨tab_ok tabGood rfl, (handAt_ok slices_Index_of.con handNil_ok), rfl⟩
  have g5 : Good Try.prog 40 w0 O Post y T5 p5 L5 := good_orders (hs := hd slices_Index_of.impl) (cv' := hd slices_Index_of.impl) (Checked.mixed Try.checked) (hp (atT T2 (fun _ => none)) (atT T5 (fun _ => none))) (handAt_ok slices_Index_of.con handNil_ok) (handAt_nat handNil_nat) (handAt_nat handNil_nat) (runOK_of (hp (atT T2 (fun _ => none)) (atT T5 (fun _ => none))) hnp ⟨cutOK_at (p := p2) (T := T2) (J := fun _ => none) good_none, cutOK_at (p := p5) (T := T5) (J := fun _ => none) good_none, trivial⟩ fin) (fun x => ⟨_, (seg5 slices_Index_of.impl (atT T2 (fun _ => none)) (atT T5 (fun _ => none)) x.1 x.2.1 x.2.2.1 x.2.2.2.1 x.2.2.2.2.1 x.2.2.2.2.2.1)⟩)
  have g2 : Good Try.prog 40 w0 O Post y T2 p2 L2 := good_orders (hs := hd slices_Index_of.impl) (cv' := hd slices_Index_of.impl) (Checked.mixed Try.checked) (hp (atT T2 (fun _ => none)) (atT T5 L5)) (handAt_ok slices_Index_of.con handNil_ok) (handAt_nat handNil_nat) (handAt_nat handNil_nat) (runOK_of (hp (atT T2 (fun _ => none)) (atT T5 L5)) hnp ⟨cutOK_at (p := p2) (T := T2) (J := fun _ => none) good_none, cutOK_at g5, trivial⟩ fin) (fun x => ⟨_, (seg2 slices_Index_of.impl (atT T2 (fun _ => none)) (atT T5 L5) x.1 x.2.1 x.2.2.1 x.2.2.2.1 x.2.2.2.2.1 x.2.2.2.2.2.1).trans (by simp only [atT_self] <;> rfl)⟩)
  exact good_first (hp (atT T2 L2) (atT T5 (fun _ => none))) (runOK_of (hp (atT T2 L2) (atT T5 (fun _ => none))) hnp ⟨cutOK_at g2, cutOK_at (p := p5) (T := T5) (J := fun _ => none) good_none, trivial⟩ fin) (fun x => (seg0 slices_Index_of.impl (atT T2 L2) (atT T5 (fun _ => none)) x.1 x.2.1 x.2.2.1 x.2.2.2.1 x.2.2.2.2.1).trans (by simp only [atT_self] <;> rfl))
end impl_planting_put

/-! ### (*loop.example/wholecheck/impl.planting).of$1 -/
namespace impl_planting_of_1
noncomputable abbrev c0 : Code := (Try.f80.body).getD .skip
noncomputable abbrev pin : Tpl := ⟨[⟨0, false, [.d (.int .i64)]⟩, ⟨1, false, [.ptr 500001 0]⟩], [(500001, .box [.ptr 500002 0]), (500002, .box [.d (.sl (.prod (.int .i64) (.prod (.int .i64) (.prod (.int .i64) (.last (.int .i64)))))), .row 500003]), (500003, .row 87 true (.prod (.int .i64) (.prod (.int .i64) (.prod (.int .i64) (.last (.int .i64))))))]⟩
noncomputable abbrev pout : Tpl := ⟨[⟨0, false, [.d (.int .i64)]⟩, ⟨2, false, [.ptr 500001 0]⟩], [(500001, .box [.ptr 500002 0]), (500002, .box [.d (.sl (.prod (.int .i64) (.prod (.int .i64) (.prod (.int .i64) (.last (.int .i64)))))), .row 500003]), (500003, .row 87 true (.prod (.int .i64) (.prod (.int .i64) (.prod (.int .i64) (.last (.int .i64))))))]⟩
noncomputable abbrev PI := Int × (List (Int × Int × Int × Int)) × (List (Int × Int × Int × Int)) × Unit
noncomputable abbrev PO := Int × (List (Int × Int × Int × Int)) × (List (Int × Int × Int × Int)) × Unit
noncomputable abbrev rs : List ResultVar := [.tmp 3]
noncomputable def F0 (Gimpl_planting_put : impl_planting_put.PI → Option impl_planting_put.PO) (x0 : Int) (c2_0 : List (Int × Int × Int × Int)) (s3 : List (Int × Int × Int × Int)) : Option PO :=
  Option.bind (Gimpl_planting_put (2, x0, x0, c2_0, s3, ())) fun y0 =>
  some (y0.1, y0.2.1, y0.2.2.1, ())
noncomputable def hd {R : Type} (Gimpl_planting_put : impl_planting_put.PI → Option impl_planting_put.PO) : Hand R := (handAt 81 [7] false ⟨4, 1, 4, impl_planting_put.pin, impl_planting_put.pout, Gimpl_planting_put⟩ handNil)
noncomputable def pg (Gimpl_planting_put : impl_planting_put.PI → Option impl_planting_put.PO) : Prog PO := { nt := 8, np := 2, tb := tabOf tab, hd := hd Gimpl_planting_put, cuts := cutsOf [], fin := endOf (tabOf tab) rs 2 pout }
theorem seg0 (Gimpl_planting_put : impl_planting_put.PI → Option impl_planting_put.PO) (x0 : Int) (c2_0 : List (Int × Int × Int × Int)) (s3 : List (Int × Int × Int × Int)) : arun (pg Gimpl_planting_put) 5000 [.code c0] (mk pin (x0, c2_0, s3, ())) = F0 Gimpl_planting_put x0 c2_0 s3 := by kernel_rfl
noncomputable def impl : PI → Option PO := fun x => F0 impl_planting_put.impl x.1 x.2.1 x.2.2.1
theorem impl_eq (x0 : Int) (c2_0 : List (Int × Int × Int × Int)) (s3 : List (Int × Int × Int × Int)) : impl (x0, c2_0, s3, ()) = F0 impl_planting_put.impl x0 c2_0 s3 := rfl
theorem con : Con Try.prog 80 2 rs.length 2 pin pout impl := by
  refine con_of_run' (nt := 8) (c := c0) tabGood Try.func80 (by kernel_rfl) (by kernel_rfl) (by kernel_rfl) (by kernel_rfl) (by kernel_rfl) (by kernel_rfl) (by kernel_rfl) ?_
  intro w0 O y hnp
  generalize hPost : (fun (a' : Act) (w' : World) => ∃ μ' S' st', Rel 8 w0 O μ' S' st' a' w' ∧ endOf (tabOf tab) rs 2 pout st' = some y) = Post
  have fin : ∀ (μ : Id → Option Value) (S : Nat → Prop) (st : St) (a : Act) (w : World), Rel 8 w0 O μ S st a w → endOf (tabOf tab) rs 2 pout st = some y → Post a w := fun μ S st a w h he => by rw [← hPost]; exact ⟨μ, S, st, h, he⟩
  have hp : Parts Try.prog 80 (pg impl_planting_put.impl) [] := ⟨tab_ok tabGood rfl, (handAt_ok impl_planting_put.con handNil_ok), rfl⟩
  exact good_first (hp) (runOK_of (hp) hnp trivial fin) (fun x => (seg0 impl_planting_put.impl x.1 x.2.1 x.2.2.1))
end impl_planting_of_1

/-! ### (*loop.example/wholecheck/impl.planting).of -/
namespace impl_planting_of
noncomputable abbrev c0 : Code := (Try.f56.body).getD .skip
noncomputable abbrev pin : Tpl := ⟨[⟨0, false, [.ptr 500001 0]⟩, ⟨1, false, [.d (.int .i64)]⟩], [(500001, .box [.d (.sl (.prod (.int .i64) (.prod (.int .i64) (.prod (.int .i64) (.last (.int .i64)))))), .row 500002]), (500002, .row 87 true (.prod (.int .i64) (.prod (.int .i64) (.prod (.int .i64) (.last (.int .i64))))))]⟩
noncomputable abbrev pout : Tpl := ⟨[⟨0, false, [.d (.int .i64)]⟩, ⟨1, false, [.ptr 500001 0]⟩], [(500001, .box [.d (.sl (.prod (.int .i64) (.prod (.int .i64) (.prod (.int .i64) (.last (.int .i64)))))), .row 500002]), (500002, .row 87 true (.prod (.int .i64) (.prod (.int .i64) (.prod (.int .i64) (.last (.int .i64))))))]⟩
noncomputable abbrev p5 : Tpl := ⟨[⟨0, false, [.ptr 500001 0]⟩, ⟨2, false, [.ptr 3000000 0]⟩, ⟨5, false, [.ptr 3000001 0]⟩], [(500001, .box [.d (.sl (.prod (.int .i64) (.prod (.int .i64) (.prod (.int .i64) (.last (.int .i64)))))), .row 500002]), (3000000, .box [.ptr 500001 0]), (3000001, .box [.d (.int .i64), .d (.int .i64), .d (.int .i64), .d (.int .i64)]), (500002, .row 87 true (.prod (.int .i64) (.prod (.int .i64) (.prod (.int .i64) (.last (.int .i64))))))]⟩
noncomputable def T5 : List Item := (find 5 c0 []).getD []
noncomputable abbrev p8 : Tpl := ⟨[⟨0, false, [.ptr 500001 0]⟩, ⟨2, false, [.ptr 3000000 0]⟩, ⟨5, false, [.ptr 3000001 0]⟩], [(500001, .box [.d (.sl (.prod (.int .i64) (.prod (.int .i64) (.prod (.int .i64) (.last (.int .i64)))))), .row 500002]), (3000000, .box [.ptr 500001 0]), (3000001, .box [.d (.int .i64), .d (.int .i64), .d (.int .i64), .d (.int .i64)]), (500002, .row 87 true (.prod (.int .i64) (.prod (.int .i64) (.prod (.int .i64) (.last (.int .i64))))))]⟩
noncomputable def T8 : List Item := (find 8 c0 []).getD []
noncomputable abbrev p14 : Tpl := ⟨[⟨0, false, [.ptr 500001 0]⟩, ⟨2, false, [.ptr 3000000 0]⟩, ⟨5, false, [.ptr 3000001 0]⟩, ⟨7, false, [.d (.int .i64)]⟩, ⟨8, false, [.d (.int .i64)]⟩], [(500001, .box [.d (.sl (.prod (.int .i64) (.prod (.int .i64) (.prod (.int .i64) (.last (.int .i64)))))), .row 500002]), (3000000, .box [.ptr 500001 0]), (3000001, .box [.d (.int .i64), .d (.int .i64), .d (.int .i64), .d (.int .i64)]), (500002, .row 87 true (.prod (.int .i64) (.prod (.int .i64) (.prod (.int .i64) (.last (.int .i64))))))]⟩
noncomputable def T14 : List Item := (find 14 c0 []).getD []
noncomputable abbrev p21 : Tpl := ⟨[⟨0, false, [.ptr 500001 0]⟩, ⟨2, false, [.ptr 3000000 0]⟩, ⟨9, false, [.fn 80 [(3000000, 0)]]⟩, ⟨11, false, [.d (.int .i64)]⟩], [(500001, .box [.d (.sl (.prod (.int .i64) (.prod (.int .i64) (.prod (.int .i64) (.last (.int .i64)))))), .row 500002]), (3000000, .box [.ptr 500001 0]), (500002, .row 87 true (.prod (.int .i64) (.prod (.int .i64) (.prod (.int .i64) (.last (.int .i64))))))]⟩
noncomputable def T21 : List Item := (find 21 c0 []).getD []
noncomputable abbrev p25 : Tpl := ⟨[⟨0, false, [.ptr 500001 0]⟩, ⟨2, false, [.ptr 3000000 0]⟩, ⟨9, false, [.fn 80 [(3000000, 0)]]⟩, ⟨12, false, [.d (.int .i64)]⟩, ⟨13, false, [.d (.int .i64)]⟩], [(500001, .box [.d (.sl (.prod (.int .i64) (.prod (.int .i64) (.prod (.int .i64) (.last (.int .i64)))))), .row 500002]), (3000000, .box [.ptr 500001 0]), (500002, .row 87 true (.prod (.int .i64) (.prod (.int .i64) (.prod (.int .i64) (.last (.int .i64))))))]⟩
noncomputable def T25 : List Item := (find 25 c0 []).getD []
noncomputable abbrev p26 : Tpl := ⟨[⟨0, false, [.ptr 500001 0]⟩, ⟨2, false, [.ptr 3000000 0]⟩, ⟨9, false, [.fn 80 [(3000000, 0)]]⟩, ⟨13, false, [.d (.int .i64)]⟩, ⟨14, false, [.d (.int .i64)]⟩], [(500001, .box [.d (.sl (.prod (.int .i64) (.prod (.int .i64) (.prod (.int .i64) (.last (.int .i64)))))), .row 500002]), (3000000, .box [.ptr 500001 0]), (500002, .row 87 true (.prod (.int .i64) (.prod (.int .i64) (.prod (.int .i64) (.last (.int .i64))))))]⟩
noncomputable def T26 : List Item := (find 26 c0 []).getD []
noncomputable abbrev PI := Int × (List (Int × Int × Int × Int)) × (List (Int × Int × Int × Int)) × Unit
noncomputable abbrev PO := Int × (List (Int × Int × Int × Int)) × (List (Int × Int × Int × Int)) × Unit
noncomputable abbrev P5 := (List (Int × Int × Int × Int)) × Int × Int × Int × Int × (List (Int × Int × Int × Int)) × Unit
noncomputable abbrev P8 := (List (Int × Int × Int × Int)) × Int × Int × Int × Int × (List (Int × Int × Int × Int)) × Unit
noncomputable abbrev P14 := Int × Int × (List (Int × Int × Int × Int)) × Int × Int × Int × Int × (List (Int × Int × Int × Int)) × Unit
noncomputable abbrev P21 := Int × (List (Int × Int × Int × Int)) × (List (Int × Int × Int × Int)) × Unit
noncomputable abbrev P25 := Int × Int × (List (Int × Int × Int × Int)) × (List (Int × Int × Int × Int)) × Unit
noncomputable abbrev P26 := Int × Int × (List (Int × Int × Int × Int)) × (List (Int × Int × Int × Int)) × Unit
noncomputable abbrev rs : List ResultVar := [.tmp 4]
noncomputable def F0 (J5 : P5 → Option PO) (J14 : P14 → Option PO) (Gimpl_planting_of : PI → Option PO) (Gimpl_treeParts : impl_treeParts.PI → Option impl_treeParts.PO) (x1 : Int) (c1_0 : List (Int × Int × Int × Int)) (s2 : List (Int × Int × Int × Int)) : Option PO :=
  bif decide ((s2.length : Int) > 24) then
    some (0, c1_0, s2, ())
  else
    bif inb x1 c1_0.length then
      bif decide ((c1_0.getD x1.toNat (0, 0, 0, 0)).1 ≤ 1) then
        J5 (c1_0, (c1_0.getD x1.toNat (0, 0, 0, 0)).1, (c1_0.getD x1.toNat (0, 0, 0, 0)).2.1, (c1_0.getD x1.toNat (0, 0, 0, 0)).2.2.1, (c1_0.getD x1.toNat (0, 0, 0, 0)).2.2.2, s2, ())
      else
        Option.bind (Gimpl_planting_of ((c1_0.getD x1.toNat (0, 0, 0, 0)).2.2.1, c1_0, s2, ())) fun y0 =>
        Option.bind (Gimpl_treeParts ((c1_0.getD x1.toNat (0, 0, 0, 0)).1, ())) fun y1 =>
        bif y1.1 == 2 then
          Option.bind (Gimpl_planting_of ((c1_0.getD x1.toNat (0, 0, 0, 0)).2.2.2, y0.2.1, y0.2.2.1, ())) fun y2 =>
          J14 (y0.1, y2.1, y2.2.1, (c1_0.getD x1.toNat (0, 0, 0, 0)).1, (c1_0.getD x1.toNat (0, 0, 0, 0)).2.1, (c1_0.getD x1.toNat (0, 0, 0, 0)).2.2.1, (c1_0.getD x1.toNat (0, 0, 0, 0)).2.2.2, y2.2.2.1, ())
        else
          J14 (y0.1, y0.1, y0.2.1, (c1_0.getD x1.toNat (0, 0, 0, 0)).1, (c1_0.getD x1.toNat (0, 0, 0, 0)).2.1, (c1_0.getD x1.toNat (0, 0, 0, 0)).2.2.1, (c1_0.getD x1.toNat (0, 0, 0, 0)).2.2.2, y0.2.2.1, ())
    else
      none
noncomputable def F5 (J8 : P8 → Option PO) (Gslices_Index_of : slices_Index_of.PI → Option slices_Index_of.PO) (c1_0 : List (Int × Int × Int × Int)) (b1_0 : Int) (b1_1 : Int) (b1_2 : Int) (b1_3 : Int) (s2 : List (Int × Int × Int × Int)) : Option PO :=
  Option.bind (Gslices_Index_of (s2, (b1_0, b1_1, b1_2, b1_3), ())) fun y3 =>
  bif decide (y3.1 ≥ 0) then
    some (y3.1, c1_0, s2, ())
  else
    J8 (c1_0, b1_0, b1_1, b1_2, b1_3, s2, ())
noncomputable def F8 (c1_0 : List (Int × Int × Int × Int)) (b1_0 : Int) (b1_1 : Int) (b1_2 : Int) (b1_3 : Int) (s2 : List (Int × Int × Int × Int)) : Option PO :=
  bif decide ((s2.length + ([(b1_0, b1_1, b1_2, b1_3)] : List (Int × Int × Int × Int)).length) * 32 ≤ 140737488355328) then
    some (wI (((s2 ++ ([(b1_0, b1_1, b1_2, b1_3)] : List (Int × Int × Int × Int))).length : Int) - 1), c1_0, s2 ++ ([(b1_0, b1_1, b1_2, b1_3)] : List (Int × Int × Int × Int)), ())
  else
    none
noncomputable def F14 (J21 : P21 → Option PO) (J25 : P25 → Option PO) (Gimpl_planting_of_1 : impl_planting_of_1.PI → Option impl_planting_of_1.PO) (Gimpl_planting_put : impl_planting_put.PI → Option impl_planting_put.PO) (t7 : Int) (t8 : Int) (c1_0 : List (Int × Int × Int × Int)) (b1_0 : Int) (b1_1 : Int) (b1_2 : Int) (b1_3 : Int) (s2 : List (Int × Int × Int × Int)) : Option PO :=
  bif b1_0 == 8 then
    Option.bind (Gimpl_planting_of_1 (t7, c1_0, s2, ())) fun y4 =>
    Option.bind (Gimpl_planting_put (5, y4.1, y4.1, y4.2.1, y4.2.2.1, ())) fun y5 =>
    Option.bind (Gimpl_planting_of_1 (y5.1, y5.2.1, y5.2.2.1, ())) fun y6 =>
    some (y6.1, y6.2.1, y6.2.2.1, ())
  else
    bif b1_0 == 10 then
      Option.bind (Gimpl_planting_of_1 (t7, c1_0, s2, ())) fun y7 =>
      J21 (y7.1, y7.2.1, y7.2.2.1, ())
    else
      bif b1_0 == 9 then
        Option.bind (Gimpl_planting_of_1 (t7, c1_0, s2, ())) fun y8 =>
        Option.bind (Gimpl_planting_of_1 (t8, y8.2.1, y8.2.2.1, ())) fun y9 =>
        J25 (y8.1, y9.1, y9.2.1, y9.2.2.1, ())
      else
        Option.bind (Gimpl_planting_put (b1_0, t7, t8, c1_0, s2, ())) fun y10 =>
        some (y10.1, y10.2.1, y10.2.2.1, ())
noncomputable def F21 (Gimpl_planting_of_1 : impl_planting_of_1.PI → Option impl_planting_of_1.PO) (Gimpl_planting_put : impl_planting_put.PI → Option impl_planting_put.PO) (t11 : Int) (c1_0 : List (Int × Int × Int × Int)) (s2 : List (Int × Int × Int × Int)) : Option PO :=
  Option.bind (Gimpl_planting_put (0, 0, 0, c1_0, s2, ())) fun y11 =>
  Option.bind (Gimpl_planting_put (6, y11.1, t11, y11.2.1, y11.2.2.1, ())) fun y12 =>
  Option.bind (Gimpl_planting_of_1 (y12.1, y12.2.1, y12.2.2.1, ())) fun y13 =>
  some (y13.1, y13.2.1, y13.2.2.1, ())
noncomputable def F25 (J26 : P26 → Option PO) (Gimpl_planting_put : impl_planting_put.PI → Option impl_planting_put.PO) (t12 : Int) (t13 : Int) (c1_0 : List (Int × Int × Int × Int)) (s2 : List (Int × Int × Int × Int)) : Option PO :=
  Option.bind (Gimpl_planting_put (3, t13, t12, c1_0, s2, ())) fun y14 =>
  Option.bind (Gimpl_planting_put (6, t13, y14.1, y14.2.1, y14.2.2.1, ())) fun y15 =>
  J26 (t13, y15.1, y15.2.1, y15.2.2.1, ())
noncomputable def F26 (Gimpl_planting_of_1 : impl_planting_of_1.PI → Option impl_planting_of_1.PO) (Gimpl_planting_put : impl_planting_put.PI → Option impl_planting_put.PO) (t13 : Int) (t14 : Int) (c1_0 : List (Int × Int × Int × Int)) (s2 : List (Int × Int × Int × Int)) : Option PO :=
  Option.bind (Gimpl_planting_put (7, t13, t13, c1_0, s2, ())) fun y16 =>
  Option.bind (Gimpl_planting_put (4, t14, y16.1, y16.2.1, y16.2.2.1, ())) fun y17 =>
  Option.bind (Gimpl_planting_of_1 (y17.1, y17.2.1, y17.2.2.1, ())) fun y18 =>
  some (y18.1, y18.2.1, y18.2.2.1, ())
noncomputable def hd {R : Type} (Gimpl_planting_of : PI → Option PO) (Gimpl_planting_of_1 : impl_planting_of_1.PI → Option impl_planting_of_1.PO) (Gimpl_planting_put : impl_planting_put.PI → Option impl_planting_put.PO) (Gimpl_treeParts : impl_treeParts.PI → Option impl_treeParts.PO) (Gslices_Index_of : slices_Index_of.PI → Option slices_Index_of.PO) : Hand R := (handAt 81 [81, 91, 93, 108, 109, 116, 117, 124] false ⟨4, 1, 4, impl_planting_put.pin, impl_planting_put.pout, Gimpl_planting_put⟩ (handAt 80 [76, 82, 87, 94, 99, 102, 118] false ⟨2, 1, 2, impl_planting_of_1.pin, impl_planting_of_1.pout, Gimpl_planting_of_1⟩ (handAt 79 [36] true ⟨2, 1, 2, slices_Index_of.pin, slices_Index_of.pout, Gslices_Index_of⟩ (handAt 78 [63] true ⟨1, 1, 1, impl_treeParts.pin, impl_treeParts.pout, Gimpl_treeParts⟩ (handAt 56 [59, 68] false ⟨2, 1, 2, pin, pout, Gimpl_planting_of⟩ handNil)))))
noncomputable def pg (Gimpl_planting_of : PI → Option PO) (Gimpl_planting_of_1 : impl_planting_of_1.PI → Option impl_planting_of_1.PO) (Gimpl_planting_put : impl_planting_put.PI → Option impl_planting_put.PO) (Gimpl_treeParts : impl_treeParts.PI → Option impl_treeParts.PO) (Gslices_Index_of : slices_Index_of.PI → Option slices_Index_of.PO) (J5 : List Item → P5 → Option PO) (J8 : List Item → P8 → Option PO) (J14 : List Item → P14 → Option PO) (J21 : List Item → P21 → Option PO) (J25 : List Item → P25 → Option PO) (J26 : List Item → P26 → Option PO) : Prog PO := { nt := 125, np := 2, tb := tabOf tab, hd := hd Gimpl_planting_of Gimpl_planting_of_1 Gimpl_planting_put Gimpl_treeParts Gslices_Index_of, cuts := cutsOf [(5, cut p5 J5), (8, cut p8 J8), (14, cut p14 J14), (21, cut p21 J21), (25, cut p25 J25), (26, cut p26 J26)], fin := endOf (tabOf tab) rs 2 pout }
theorem seg0 (Gimpl_planting_of : PI → Option PO) (Gimpl_planting_of_1 : impl_planting_of_1.PI → Option impl_planting_of_1.PO) (Gimpl_planting_put : impl_planting_put.PI → Option impl_planting_put.PO) (Gimpl_treeParts : impl_treeParts.PI → Option impl_treeParts.PO) (Gslices_Index_of : slices_Index_of.PI → Option slices_Index_of.PO) (J5 : List Item → P5 → Option PO) (J8 : List Item → P8 → Option PO) (J14 : List Item → P14 → Option PO) (J21 : List Item → P21 → Option PO) (J25 : List Item → P25 → Option PO) (J26 : List Item → P26 → Option PO) (x1 : Int) (c1_0 : List (Int × Int × Int × Int)) (s2 : List (Int × Int × Int × Int)) : arun (pg Gimpl_planting_of Gimpl_planting_of_1 Gimpl_planting_put Gimpl_treeParts Gslices_Index_of J5 J8 J14 J21 J25 J26) 5000 [.code c0] (mk pin (x1, c1_0, s2, ())) = F0 (J5 T5) (J14 T14) Gimpl_planting_of Gimpl_treeParts x1 c1_0 s2 := by kernel_rfl
theorem seg5 (Gimpl_planting_of : PI → Option PO) (Gimpl_planting_of_1 : impl_planting_of_1.PI → Option impl_planting_of_1.PO) (Gimpl_planting_put : impl_planting_put.PI → Option impl_planting_put.PO) (Gimpl_treeParts : impl_treeParts.PI → Option impl_treeParts.PO) (Gslices_Index_of : slices_Index_of.PI → Option slices_Index_of.PO) (J5 : List Item → P5 → Option PO) (J8 : List Item → P8 → Option PO) (J14 : List Item → P14 → Option PO) (J21 : List Item → P21 → Option PO) (J25 : List Item → P25 → Option PO) (J26 : List Item → P26 → Option PO) (c1_0 : List (Int × Int × Int × Int)) (b1_0 : Int) (b1_1 : Int) (b1_2 : Int) (b1_3 : Int) (s2 : List (Int × Int × Int × Int)) : arunE (pg Gimpl_planting_of Gimpl_planting_of_1 Gimpl_planting_put Gimpl_treeParts Gslices_Index_of J5 J8 J14 J21 J25 J26) 5000 T5 (mk p5 (c1_0, b1_0, b1_1, b1_2, b1_3, s2, ())) = List.replicate (arunE (pg Gimpl_planting_of Gimpl_planting_of_1 Gimpl_planting_put Gimpl_treeParts Gslices_Index_of J5 J8 J14 J21 J25 J26) 5000 T5 (mk p5 (c1_0, b1_0, b1_1, b1_2, b1_3, s2, ()))).length (F5 (J8 T8) Gslices_Index_of c1_0 b1_0 b1_1 b1_2 b1_3 s2) := by kernel_rfl
theorem seg8 (Gimpl_planting_of : PI → Option PO) (Gimpl_planting_of_1 : impl_planting_of_1.PI → Option impl_planting_of_1.PO) (Gimpl_planting_put : impl_planting_put.PI → Option impl_planting_put.PO) (Gimpl_treeParts : impl_treeParts.PI → Option impl_treeParts.PO) (Gslices_Index_of : slices_Index_of.PI → Option slices_Index_of.PO) (J5 : List Item → P5 → Option PO) (J8 : List Item → P8 → Option PO) (J14 : List Item → P14 → Option PO) (J21 : List Item → P21 → Option PO) (J25 : List Item → P25 → Option PO) (J26 : List Item → P26 → Option PO) (c1_0 : List (Int × Int × Int × Int)) (b1_0 : Int) (b1_1 : Int) (b1_2 : Int) (b1_3 : Int) (s2 : List (Int × Int × Int × Int)) : arunE (pg Gimpl_planting_of Gimpl_planting_of_1 Gimpl_planting_put Gimpl_treeParts Gslices_Index_of J5 J8 J14 J21 J25 J26) 5000 T8 (mk p8 (c1_0, b1_0, b1_1, b1_2, b1_3, s2, ())) = List.replicate (arunE (pg Gimpl_planting_of Gimpl_planting_of_1 Gimpl_planting_put Gimpl_treeParts Gslices_Index_of J5 J8 J14 J21 J25 J26) 5000 T8 (mk p8 (c1_0, b1_0, b1_1, b1_2, b1_3, s2, ()))).length (F8 c1_0 b1_0 b1_1 b1_2 b1_3 s2) := by kernel_rfl
theorem seg14 (Gimpl_planting_of : PI → Option PO) (Gimpl_planting_of_1 : impl_planting_of_1.PI → Option impl_planting_of_1.PO) (Gimpl_planting_put : impl_planting_put.PI → Option impl_planting_put.PO) (Gimpl_treeParts : impl_treeParts.PI → Option impl_treeParts.PO) (Gslices_Index_of : slices_Index_of.PI → Option slices_Index_of.PO) (J5 : List Item → P5 → Option PO) (J8 : List Item → P8 → Option PO) (J14 : List Item → P14 → Option PO) (J21 : List Item → P21 → Option PO) (J25 : List Item → P25 → Option PO) (J26 : List Item → P26 → Option PO) (t7 : Int) (t8 : Int) (c1_0 : List (Int × Int × Int × Int)) (b1_0 : Int) (b1_1 : Int) (b1_2 : Int) (b1_3 : Int) (s2 : List (Int × Int × Int × Int)) : arun1 (pg Gimpl_planting_of Gimpl_planting_of_1 Gimpl_planting_put Gimpl_treeParts Gslices_Index_of J5 J8 J14 J21 J25 J26) 5000 T14 (mk p14 (t7, t8, c1_0, b1_0, b1_1, b1_2, b1_3, s2, ())) = F14 (J21 T21) (J25 T25) Gimpl_planting_of_1 Gimpl_planting_put t7 t8 c1_0 b1_0 b1_1 b1_2 b1_3 s2 := by kernel_rfl
theorem seg21 (Gimpl_planting_of : PI → Option PO) (Gimpl_planting_of_1 : impl_planting_of_1.PI → Option impl_planting_of_1.PO) (Gimpl_planting_put : impl_planting_put.PI → Option impl_planting_put.PO) (Gimpl_treeParts : impl_treeParts.PI → Option impl_treeParts.PO) (Gslices_Index_of : slices_Index_of.PI → Option slices_Index_of.PO) (J5 : List Item → P5 → Option PO) (J8 : List Item → P8 → Option PO) (J14 : List Item → P14 → Option PO) (J21 : List Item → P21 → Option PO) (J25 : List Item → P25 → Option PO) (J26 : List Item → P26 → Option PO) (t11 : Int) (c1_0 : List (Int × Int × Int × Int)) (s2 : List (Int × Int × Int × Int)) : arunE (pg Gimpl_planting_of Gimpl_planting_of_1 Gimpl_planting_put Gimpl_treeParts Gslices_Index_of J5 J8 J14 J21 J25 J26) 5000 T21 (mk p21 (t11, c1_0, s2, ())) = List.replicate (arunE (pg Gimpl_planting_of Gimpl_planting_of_1 Gimpl_planting_put Gimpl_treeParts Gslices_Index_of J5 J8 J14 J21 J25 J26) 5000 T21 (mk p21 (t11, c1_0, s2, ()))).length (F21 Gimpl_planting_of_1 Gimpl_planting_put t11 c1_0 s2) := by kernel_rfl
theorem seg25 (Gimpl_planting_of : PI → Option PO) (Gimpl_planting_of_1 : impl_planting_of_1.PI → Option impl_planting_of_1.PO) (Gimpl_planting_put : impl_planting_put.PI → Option impl_planting_put.PO) (Gimpl_treeParts : impl_treeParts.PI → Option impl_treeParts.PO) (Gslices_Index_of : slices_Index_of.PI → Option slices_Index_of.PO) (J5 : List Item → P5 → Option PO) (J8 : List Item → P8 → Option PO) (J14 : List Item → P14 → Option PO) (J21 : List Item → P21 → Option PO) (J25 : List Item → P25 → Option PO) (J26 : List Item → P26 → Option PO) (t12 : Int) (t13 : Int) (c1_0 : List (Int × Int × Int × Int)) (s2 : List (Int × Int × Int × Int)) : arunE (pg Gimpl_planting_of Gimpl_planting_of_1 Gimpl_planting_put Gimpl_treeParts Gslices_Index_of J5 J8 J14 J21 J25 J26) 5000 T25 (mk p25 (t12, t13, c1_0, s2, ())) = List.replicate (arunE (pg Gimpl_planting_of Gimpl_planting_of_1 Gimpl_planting_put Gimpl_treeParts Gslices_Index_of J5 J8 J14 J21 J25 J26) 5000 T25 (mk p25 (t12, t13, c1_0, s2, ()))).length (F25 (J26 T26) Gimpl_planting_put t12 t13 c1_0 s2) := by kernel_rfl
theorem seg26 (Gimpl_planting_of : PI → Option PO) (Gimpl_planting_of_1 : impl_planting_of_1.PI → Option impl_planting_of_1.PO) (Gimpl_planting_put : impl_planting_put.PI → Option impl_planting_put.PO) (Gimpl_treeParts : impl_treeParts.PI → Option impl_treeParts.PO) (Gslices_Index_of : slices_Index_of.PI → Option slices_Index_of.PO) (J5 : List Item → P5 → Option PO) (J8 : List Item → P8 → Option PO) (J14 : List Item → P14 → Option PO) (J21 : List Item → P21 → Option PO) (J25 : List Item → P25 → Option PO) (J26 : List Item → P26 → Option PO) (t13 : Int) (t14 : Int) (c1_0 : List (Int × Int × Int × Int)) (s2 : List (Int × Int × Int × Int)) : arunE (pg Gimpl_planting_of Gimpl_planting_of_1 Gimpl_planting_put Gimpl_treeParts Gslices_Index_of J5 J8 J14 J21 J25 J26) 5000 T26 (mk p26 (t13, t14, c1_0, s2, ())) = List.replicate (arunE (pg Gimpl_planting_of Gimpl_planting_of_1 Gimpl_planting_put Gimpl_treeParts Gslices_Index_of J5 J8 J14 J21 J25 J26) 5000 T26 (mk p26 (t13, t14, c1_0, s2, ()))).length (F26 Gimpl_planting_of_1 Gimpl_planting_put t13 t14 c1_0 s2) := by kernel_rfl
noncomputable def L8 (Gself : PI → Option PO) : P8 → Option PO := fun x => F8 x.1 x.2.1 x.2.2.1 x.2.2.2.1 x.2.2.2.2.1 x.2.2.2.2.2.1
noncomputable def L5 (Gself : PI → Option PO) : P5 → Option PO := fun x => F5 (L8 Gself) slices_Index_of.impl x.1 x.2.1 x.2.2.1 x.2.2.2.1 x.2.2.2.2.1 x.2.2.2.2.2.1
noncomputable def L21 (Gself : PI → Option PO) : P21 → Option PO := fun x => F21 impl_planting_of_1.impl impl_planting_put.impl x.1 x.2.1 x.2.2.1
noncomputable def L26 (Gself : PI → Option PO) : P26 → Option PO := fun x => F26 impl_planting_of_1.impl impl_planting_put.impl x.1 x.2.1 x.2.2.1 x.2.2.2.1
noncomputable def L25 (Gself : PI → Option PO) : P25 → Option PO := fun x => F25 (L26 Gself) impl_planting_put.impl x.1 x.2.1 x.2.2.1 x.2.2.2.1
noncomputable def L14 (Gself : PI → Option PO) : P14 → Option PO := fun x => F14 (L21 Gself) (L25 Gself) impl_planting_of_1.impl impl_planting_put.impl x.1 x.2.1 x.2.2.1 x.2.2.2.1 x.2.2.2.2.1 x.2.2.2.2.2.1 x.2.2.2.2.2.2.1 x.2.2.2.2.2.2.2.1
noncomputable def step (Gself : PI → Option PO) : PI → Option PO := fun x => F0 (L5 Gself) (L14 Gself) Gself impl_treeParts.impl x.1 x.2.1 x.2.2.1
noncomputable def impl : PI → Option PO := lfp step
theorem F8_le (c1_0 : List (Int × Int × Int × Int)) (b1_0 : Int) (b1_1 : Int) (b1_2 : Int) (b1_3 : Int) (s2 : List (Int × Int × Int × Int)) : OptLe (F8 c1_0 b1_0 b1_1 b1_2 b1_3 s2) (F8 c1_0 b1_0 b1_1 b1_2 b1_3 s2) := by unfold F8; exact .refl _
theorem F5_le {J8 J8' : P8 → Option PO} (h8 : OLe J8 J8') {Gslices_Index_of : slices_Index_of.PI → Option slices_Index_of.PO} (c1_0 : List (Int × Int × Int × Int)) (b1_0 : Int) (b1_1 : Int) (b1_2 : Int) (b1_3 : Int) (s2 : List (Int × Int × Int × Int)) : OptLe (F5 J8 Gslices_Index_of c1_0 b1_0 b1_1 b1_2 b1_3 s2) (F5 J8' Gslices_Index_of c1_0 b1_0 b1_1 b1_2 b1_3 s2) := by unfold F5; exact .bind (.refl _) fun _ => .cond (.refl _) (.of h8 _)
theorem F21_le {Gimpl_planting_of_1 : impl_planting_of_1.PI → Option impl_planting_of_1.PO} {Gimpl_planting_put : impl_planting_put.PI → Option impl_planting_put.PO} (t11 : Int) (c1_0 : List (Int × Int × Int × Int)) (s2 : List (Int × Int × Int × Int)) : OptLe (F21 Gimpl_planting_of_1 Gimpl_planting_put t11 c1_0 s2) (F21 Gimpl_planting_of_1 Gimpl_planting_put t11 c1_0 s2) := by unfold F21; exact .refl _
theorem F26_le {Gimpl_planting_of_1 : impl_planting_of_1.PI → Option impl_planting_of_1.PO} {Gimpl_planting_put : impl_planting_put.PI → Option impl_planting_put.PO} (t13 : Int) (t14 : Int) (c1_0 : List (Int × Int × Int × Int)) (s2 : List (Int × Int × Int × Int)) : OptLe (F26 Gimpl_planting_of_1 Gimpl_planting_put t13 t14 c1_0 s2) (F26 Gimpl_planting_of_1 Gimpl_planting_put t13 t14 c1_0 s2) := by unfold F26; exact .refl _
theorem F25_le {J26 J26' : P26 → Option PO} (h26 : OLe J26 J26') {Gimpl_planting_put : impl_planting_put.PI → Option impl_planting_put.PO} (t12 : Int) (t13 : Int) (c1_0 : List (Int × Int × Int × Int)) (s2 : List (Int × Int × Int × Int)) : OptLe (F25 J26 Gimpl_planting_put t12 t13 c1_0 s2) (F25 J26' Gimpl_planting_put t12 t13 c1_0 s2) := by unfold F25; exact .bind (.refl _) fun _ => .bind (.refl _) fun _ => .of h26 _
theorem F14_le {J21 J21' : P21 → Option PO} (h21 : OLe J21 J21') {J25 J25' : P25 → Option PO} (h25 : OLe J25 J25') {Gimpl_planting_of_1 : impl_planting_of_1.PI → Option impl_planting_of_1.PO} {Gimpl_planting_put : impl_planting_put.PI → Option impl_planting_put.PO} (t7 : Int) (t8 : Int) (c1_0 : List (Int × Int × Int × Int)) (b1_0 : Int) (b1_1 : Int) (b1_2 : Int) (b1_3 : Int) (s2 : List (Int × Int × Int × Int)) : OptLe (F14 J21 J25 Gimpl_planting_of_1 Gimpl_planting_put t7 t8 c1_0 b1_0 b1_1 b1_2 b1_3 s2) (F14 J21' J25' Gimpl_planting_of_1 Gimpl_planting_put t7 t8 c1_0 b1_0 b1_1 b1_2 b1_3 s2) := by unfold F14; exact .cond (.refl _) (.cond (.bind (.refl _) fun _ => .of h21 _) (.cond (.bind (.refl _) fun _ => .bind (.refl _) fun _ => .of h25 _) (.refl _)))
theorem F0_le {J5 J5' : P5 → Option PO} (h5 : OLe J5 J5') {J14 J14' : P14 → Option PO} (h14 : OLe J14 J14') {Gself Gself' : PI → Option PO} (hG : OLe Gself Gself') {Gimpl_treeParts : impl_treeParts.PI → Option impl_treeParts.PO} (x1 : Int) (c1_0 : List (Int × Int × Int × Int)) (s2 : List (Int × Int × Int × Int)) : OptLe (F0 J5 J14 Gself Gimpl_treeParts x1 c1_0 s2) (F0 J5' J14' Gself' Gimpl_treeParts x1 c1_0 s2) := by unfold F0; exact .cond (.refl _) (.cond (.cond (.of h5 _) (.bind (.of hG _) fun _ => .bind (.refl _) fun _ => .cond (.bind (.of hG _) fun _ => .of h14 _) (.of h14 _))) (.refl _))
theorem L8_eq (Gself : PI → Option PO) (c1_0 : List (Int × Int × Int × Int)) (b1_0 : Int) (b1_1 : Int) (b1_2 : Int) (b1_3 : Int) (s2 : List (Int × Int × Int × Int)) : L8 Gself (c1_0, b1_0, b1_1, b1_2, b1_3, s2, ()) = F8 c1_0 b1_0 b1_1 b1_2 b1_3 s2 := rfl
theorem L8_le {Gself Gself' : PI → Option PO} (hG : OLe Gself Gself') : OLe (L8 Gself) (L8 Gself') := fun x => F8_le x.1 x.2.1 x.2.2.1 x.2.2.2.1 x.2.2.2.2.1 x.2.2.2.2.2.1
theorem L5_eq (Gself : PI → Option PO) (c1_0 : List (Int × Int × Int × Int)) (b1_0 : Int) (b1_1 : Int) (b1_2 : Int) (b1_3 : Int) (s2 : List (Int × Int × Int × Int)) : L5 Gself (c1_0, b1_0, b1_1, b1_2, b1_3, s2, ()) = F5 (L8 Gself) slices_Index_of.impl c1_0 b1_0 b1_1 b1_2 b1_3 s2 := rfl
theorem L5_le {Gself Gself' : PI → Option PO} (hG : OLe Gself Gself') : OLe (L5 Gself) (L5 Gself') := fun x => F5_le (L8_le hG) x.1 x.2.1 x.2.2.1 x.2.2.2.1 x.2.2.2.2.1 x.2.2.2.2.2.1
theorem L21_eq (Gself : PI → Option PO) (t11 : Int) (c1_0 : List (Int × Int × Int × Int)) (s2 : List (Int × Int × Int × Int)) : L21 Gself (t11, c1_0, s2, ()) = F21 impl_planting_of_1.impl impl_planting_put.impl t11 c1_0 s2 := rfl
theorem L21_le {Gself Gself' : PI → Option PO} (hG : OLe Gself Gself') : OLe (L21 Gself) (L21 Gself') := fun x => F21_le x.1 x.2.1 x.2.2.1
theorem L26_eq (Gself : PI → Option PO) (t13 : Int) (t14 : Int) (c1_0 : List (Int × Int × Int × Int)) (s2 : List (Int × Int × Int × Int)) : L26 Gself (t13, t14, c1_0, s2, ()) = F26 impl_planting_of_1.impl impl_planting_put.impl t13 t14 c1_0 s2 := rfl
theorem L26_le {Gself Gself' : PI → Option PO} (hG : OLe Gself Gself') : OLe (L26 Gself) (L26 Gself') := fun x => F26_le x.1 x.2.1 x.2.2.1 x.2.2.2.1
theorem L25_eq (Gself : PI → Option PO) (t12 : Int) (t13 : Int) (c1_0 : List (Int × Int × Int × Int)) (s2 : List (Int × Int × Int × Int)) : L25 Gself (t12, t13, c1_0, s2, ()) = F25 (L26 Gself) impl_planting_put.impl t12 t13 c1_0 s2 := rfl
theorem L25_le {Gself Gself' : PI → Option PO} (hG : OLe Gself Gself') : OLe (L25 Gself) (L25 Gself') := fun x => F25_le (L26_le hG) x.1 x.2.1 x.2.2.1 x.2.2.2.1
theorem L14_eq (Gself : PI → Option PO) (t7 : Int) (t8 : Int) (c1_0 : List (Int × Int × Int × Int)) (b1_0 : Int) (b1_1 : Int) (b1_2 : Int) (b1_3 : Int) (s2 : List (Int × Int × Int × Int)) : L14 Gself (t7, t8, c1_0, b1_0, b1_1, b1_2, b1_3, s2, ()) = F14 (L21 Gself) (L25 Gself) impl_planting_of_1.impl impl_planting_put.impl t7 t8 c1_0 b1_0 b1_1 b1_2 b1_3 s2 := rfl
theorem L14_le {Gself Gself' : PI → Option PO} (hG : OLe Gself Gself') : OLe (L14 Gself) (L14 Gself') := fun x => F14_le (L21_le hG) (L25_le hG) x.1 x.2.1 x.2.2.1 x.2.2.2.1 x.2.2.2.2.1 x.2.2.2.2.2.1 x.2.2.2.2.2.2.1 x.2.2.2.2.2.2.2.1
theorem step_mono : OMono step := fun G G' hG x => F0_le (L5_le hG) (L14_le hG) hG x.1 x.2.1 x.2.2.1
theorem impl_eq (x1 : Int) (c1_0 : List (Int × Int × Int × Int)) (s2 : List (Int × Int × Int × Int)) : impl (x1, c1_0, s2, ()) = F0 (L5 impl) (L14 impl) impl impl_treeParts.impl x1 c1_0 s2 := congrFun (lfp_eq step_mono) _
theorem con_step (Gself : PI → Option PO) (hself : Con Try.prog 56 2 rs.length 2 pin pout Gself) : Con Try.prog 56 2 rs.length 2 pin pout (step Gself) := by
  refine con_of_run' (nt := 125) (c := c0) tabGood Try.func56 (by kernel_rfl) (by kernel_rfl) (by kernel_rfl) (by kernel_rfl) (by kernel_rfl) (by kernel_rfl) (by kernel_rfl) ?_
  intro w0 O y hnp
  generalize hPost : (fun (a' : Act) (w' : World) => ∃ μ' S' st', Rel 125 w0 O μ' S' st' a' w' ∧ endOf (tabOf tab) rs 2 pout st' = some y) = Post
  have fin : ∀ (μ : Id → Option Value) (S : Nat → Prop) (st : St) (a : Act) (w : World), Rel 125 w0 O μ S st a w → endOf (tabOf tab) rs 2 pout st = some y → Post a w := fun μ S st a w h he => by rw [← hPost]; exact ⟨μ, S, st, h, he⟩
  have hp : ∀ (J5 : List Item → P5 → Option PO), ∀ (J8 : List Item → P8 → Option PO), ∀ (J14 : List Item → P14 → Option PO), ∀ (J21 : List Item → P21 → Option PO), ∀ (J25 : List Item → P25 → Option PO), ∀ (J26 : List Item → P26 → Option PO), Parts Try.prog 56 (pg Gself impl_planting_of_1.impl impl_planting_put.impl impl_treeParts.impl slices_Index_of.impl J5 J8 J14 J21 J25 J26) [(5, cut p5 J5), (8, cut p8 J8), (14, cut p14 J14), (21, cut p21 J21), (25, cut p25 J25), (26, cut p26 J26)] := fun J5 J8 J14 J21 J25 J26 => ⟨tab_ok tabGood rfl, (handAt_ok impl_planting_put.con (handAt_ok impl_planting_of_1.con (handAt_ok slices_Index_of.con (handAt_ok impl_treeParts.con (handAt_ok hself handNil_ok))))), rfl⟩
  have g8 : Good Try.prog 125 w0 O Post y T8 p8 (L8 Gself) := good_orders (hs := hd Gself impl_planting_of_1.impl impl_planting_put.impl impl_treeParts.impl slices_Index_of.impl) (cv' := hd Gself impl_planting_of_1.impl impl_planting_put.impl impl_treeParts.impl slices_Index_of.impl) (Checked.mixed Try.checked) (hp (atT T5 (fun _ => none)) (atT T8 (fun _ => none)) (atT T14 (fun _ => none)) (atT T21 (fun _ => none)) (atT T25 (fun _ => none)) (atT T26 (fun _ => none))) (handAt_ok impl_planting_put.con (handAt_ok impl_planting_of_1.con (handAt_ok slices_Index_of.con (handAt_ok impl_treeParts.con (handAt_ok hself handNil_ok))))) (handAt_nat (handAt_nat (handAt_nat (handAt_nat (handAt_nat handNil_nat))))) (handAt_nat (handAt_nat (handAt_nat (handAt_nat (handAt_nat handNil_nat))))) (runOK_of (hp (atT T5 (fun _ => none)) (atT T8 (fun _ => none)) (atT T14 (fun _ => none)) (atT T21 (fun _ => none)) (atT T25 (fun _ => none)) (atT T26 (fun _ => none))) hnp ⟨cutOK_at (p := p5) (T := T5) (J := fun _ => none) good_none, cutOK_at (p := p8) (T := T8) (J := fun _ => none) good_none, cutOK_at (p := p14) (T := T14) (J := fun _ => none) good_none, cutOK_at (p := p21) (T := T21) (J := fun _ => none) good_none, cutOK_at (p := p25) (T := T25) (J := fun _ => none) good_none, cutOK_at (p := p26) (T := T26) (J := fun _ => none) good_none, trivial⟩ fin) (fun x => ⟨_, (seg8 Gself impl_planting_of_1.impl impl_planting_put.impl impl_treeParts.impl slices_Index_of.impl (atT T5 (fun _ => none)) (atT T8 (fun _ => none)) (atT T14 (fun _ => none)) (atT T21 (fun _ => none)) (atT T25 (fun _ => none)) (atT T26 (fun _ => none)) x.1 x.2.1 x.2.2.1 x.2.2.2.1 x.2.2.2.2.1 x.2.2.2.2.2.1)⟩)
  have g5 : Good Try.prog 125 w0 O Post y T5 p5 (L5 Gself) := good_orders (hs := hd Gself impl_planting_of_1.impl impl_planting_put.impl impl_treeParts.impl slices_Index_of.impl) (cv' := hd Gself impl_planting_of_1.impl impl_planting_put.impl impl_treeParts.impl slices_Index_of.impl) (Checked.mixed Try.checked) (hp (atT T5 (fun _ => none)) (atT T8 (L8 Gself)) (atT T14 (fun _ => none)) (atT T21 (fun _ => none)) (atT T25 (fun _ => none)) (atT T26 (fun _ => none))) (handAt_ok impl_planting_put.con (handAt_ok impl_planting_of_1.con (handAt_ok slices_Index_of.con (handAt_ok impl_treeParts.con (handAt_ok hself handNil_ok))))) (handAt_nat (handAt_nat (handAt_nat (handAt_nat (handAt_nat handNil_nat))))) (handAt_nat (handAt_nat (handAt_nat (handAt_nat (handAt_nat handNil_nat))))) (runOK_of (hp (atT T5 (fun _ => none)) (atT T8 (L8 Gself)) (atT T14 (fun _ => none)) (atT T21 (fun _ => none)) (atT T25 (fun _ => none)) (atT T26 (fun _ => none))) hnp ⟨cutOK_at (p := p5) (T := T5) (J := fun _ => none) good_none, cutOK_at g8, cutOK_at (p := p14) (T := T14) (J := fun _ => none) good_none, cutOK_at (p := p21) (T := T21) (J := fun _ => none) good_none, cutOK_at (p := p25) (T := T25) (J := fun _ => none) good_none, cutOK_at (p := p26) (T := T26) (J := fun _ => none) good_none, trivial⟩ fin) (fun x => ⟨_, (seg5 Gself impl_planting_of_1.impl impl_planting_put.impl impl_treeParts.impl slices_Index_of.impl (atT T5 (fun _ => none)) (atT T8 (L8 Gself)) (atT T14 (fun _ => none)) (atT T21 (fun _ => none)) (atT T25 (fun _ => none)) (atT T26 (fun _ => none)) x.1 x.2.1 x.2.2.1 x.2.2.2.1 x.2.2.2.2.1 x.2.2.2.2.2.1).trans (by simp only [atT_self] <;> rfl)⟩)
  have g21 : Good Try.prog 125 w0 O Post y T21 p21 (L21 Gself) := good_orders (hs := hd Gself impl_planting_of_1.impl impl_planting_put.impl impl_treeParts.impl slices_Index_of.impl) (cv' := hd Gself impl_planting_of_1.impl impl_planting_put.impl impl_treeParts.impl slices_Index_of.impl) (Checked.mixed Try.checked) (hp (atT T5 (fun _ => none)) (atT T8 (fun _ => none)) (atT T14 (fun _ => none)) (atT T21 (fun _ => none)) (atT T25 (fun _ => none)) (atT T26 (fun _ => none))) (handAt_ok impl_planting_put.con (handAt_ok impl_planting_of_1.con (handAt_ok slices_Index_of.con (handAt_ok impl_treeParts.con (handAt_ok hself handNil_ok))))) (handAt_nat (handAt_nat (handAt_nat (handAt_nat (handAt_nat handNil_nat))))) (handAt_nat (handAt_nat (handAt_nat (handAt_nat (handAt_nat handNil_nat))))) (runOK_of (hp (atT T5 (fun _ => none)) (atT T8 (fun _ => none)) (atT T14 (fun _ => none)) (atT T21 (fun _ => none)) (atT T25 (fun _ => none)) (atT T26 (fun _ => none))) hnp ⟨cutOK_at (p := p5) (T := T5) (J := fun _ => none) good_none, cutOK_at (p := p8) (T := T8) (J := fun _ => none) good_none, cutOK_at (p := p14) (T := T14) (J := fun _ => none) good_none, cutOK_at (p := p21) (T := T21) (J := fun _ => none) good_none, cutOK_at (p := p25) (T := T25) (J := fun _ => none) good_none, cutOK_at (p := p26) (T := T26) (J := fun _ => none) good_none, trivial⟩ fin) (fun x => ⟨_, (seg21 Gself impl_planting_of_1.impl impl_planting_put.impl impl_treeParts.impl slices_Index_of.impl (atT T5 (fun _ => none)) (atT T8 (fun _ => none)) (atT T14 (fun _ => none)) (atT T21 (fun _ => none)) (atT T25 (fun _ => none)) (atT T26 (fun _ => none)) x.1 x.2.1 x.2.2.1)⟩)
  have g26 : Good Try.prog 125 w0 O Post y T26 p26 (L26 Gself) := good_orders (hs := hd Gself impl_planting_of_1.impl impl_planting_put.impl impl_treeParts.impl slices_Index_of.impl) (cv' := hd Gself impl_planting_of_1.impl impl_planting_put.impl impl_treeParts.impl slices_Index_of.impl) (Checked.mixed Try.checked) (hp (atT T5 (fun _ => none)) (atT T8 (fun _ => none)) (atT T14 (fun _ => none)) (atT T21 (fun _ => none)) (atT T25 (fun _ => none)) (atT T26 (fun _ => none))) (handAt_ok impl_planting_put.con (handAt_ok impl_planting_of_1.con (handAt_ok slices_Index_of.con (handAt_ok impl_treeParts.con (handAt_ok hself handNil_ok))))) (handAt_nat (handAt_nat (handAt_nat (handAt_nat (handAt_nat handNil_nat))))) (handAt_nat (handAt_nat (handAt_nat (handAt_nat (handAt_nat handNil_nat))))) (runOK_of (hp (atT T5 (fun _ => none)) (atT T8 (fun _ => none)) (atT T14 (fun _ => none)) (atT T21 (fun _ => none)) (atT T25 (fun _ => none)) (atT T26 (fun _ => none))) hnp ⟨cutOK_at (p := p5) (T := T5) (J := fun _ => none) good_none, cutOK_at (p := p8) (T := T8) (J := fun _ => none) good_none, cutOK_at (p := p14) (T := T14) (J := fun _ => none) good_none, cutOK_at (p := p21) (T := T21) (J := fun _ => none) good_none, cutOK_at (p := p25) (T := T25) (J := fun _ => none) good_none, cutOK_at (p := p26) (T := T26) (J := fun _ => none) good_none, trivial⟩ fin) (fun x => ⟨_, (seg26 Gself impl_planting_of_1.impl impl_planting_put.impl impl_treeParts.impl slices_Index_of.impl (atT T5 (fun _ => none)) (atT T8 (fun _ => none)) (atT T14 (fun _ => none)) (atT T21 (fun _ => none)) (atT T25 (fun _ => none)) (atT T26 (fun _ => none)) x.1 x.2.1 x.2.2.1 x.2.2.2.1)⟩)
  have g25 : Good Try.prog 125 w0 O Post y T25 p25 (L25 Gself) := good_orders (hs := hd Gself impl_planting_of_1.impl impl_planting_put.impl impl_treeParts.impl slices_Index_of.impl) (cv' := hd Gself impl_planting_of_1.impl impl_planting_put.impl impl_treeParts.impl slices_Index_of.impl) (Checked.mixed Try.checked) (hp (atT T5 (fun _ => none)) (atT T8 (fun _ => none)) (atT T14 (fun _ => none)) (atT T21 (fun _ => none)) (atT T25 (fun _ => none)) (atT T26 (L26 Gself))) (handAt_ok impl_planting_put.con (handAt_ok impl_planting_of_1.con (handAt_ok slices_Index_of.con (handAt_ok impl_treeParts.con (handAt_ok hself handNil_ok))))) (handAt_nat (handAt_nat (handAt_nat (handAt_nat (handAt_nat handNil_nat))))) (handAt_nat (handAt_nat (handAt_nat (handAt_nat (handAt_nat handNil_nat))))) (runOK_of (hp (atT T5 (fun _ => none)) (atT T8 (fun _ => none)) (atT T14 (fun _ => none)) (atT T21 (fun _ => none)) (atT T25 (fun _ => none)) (atT T26 (L26 Gself))) hnp ⟨cutOK_at (p := p5) (T := T5) (J := fun _ => none) good_none, cutOK_at (p := p8) (T := T8) (J := fun _ => none) good_none, cutOK_at (p := p14) (T := T14) (J := fun _ => none) good_none, cutOK_at (p := p21) (T := T21) (J := fun _ => none) good_none, cutOK_at (p := p25) (T := T25) (J := fun _ => none) good_none, cutOK_at g26, trivial⟩ fin) (fun x => ⟨_, (seg25 Gself impl_planting_of_1.impl impl_planting_put.impl impl_treeParts.impl slices_Index_of.impl (atT T5 (fun _ => none)) (atT T8 (fun _ => none)) (atT T14 (fun _ => none)) (atT T21 (fun _ => none)) (atT T25 (fun _ => none)) (atT T26 (L26 Gself)) x.1 x.2.1 x.2.2.1 x.2.2.2.1).trans (by simp only [atT_self] <;> rfl)⟩)
  have g14 : Good Try.prog 125 w0 O Post y T14 p14 (L14 Gself) := good_part (hp (atT T5 (fun _ => none)) (atT T8 (fun _ => none)) (atT T14 (fun _ => none)) (atT T21 (L21 Gself)) (atT T25 (L25 Gself)) (atT T26 (fun _ => none))) (runOK_of (hp (atT T5 (fun _ => none)) (atT T8 (fun _ => none)) (atT T14 (fun _ => none)) (atT T21 (L21 Gself)) (atT T25 (L25 Gself)) (atT T26 (fun _ => none))) hnp ⟨cutOK_at (p := p5) (T := T5) (J := fun _ => none) good_none, cutOK_at (p := p8) (T := T8) (J := fun _ => none) good_none, cutOK_at (p := p14) (T := T14) (J := fun _ => none) good_none, cutOK_at g21, cutOK_at g25, cutOK_at (p := p26) (T := T26) (J := fun _ => none) good_none, trivial⟩ fin) (fun x => (seg14 Gself impl_planting_of_1.impl impl_planting_put.impl impl_treeParts.impl slices_Index_of.impl (atT T5 (fun _ => none)) (atT T8 (fun _ => none)) (atT T14 (fun _ => none)) (atT T21 (L21 Gself)) (atT T25 (L25 Gself)) (atT T26 (fun _ => none)) x.1 x.2.1 x.2.2.1 x.2.2.2.1 x.2.2.2.2.1 x.2.2.2.2.2.1 x.2.2.2.2.2.2.1 x.2.2.2.2.2.2.2.1).trans (by simp only [atT_self] <;> rfl))
  exact good_first (hp (atT T5 (L5 Gself)) (atT T8 (fun _ => none)) (atT T14 (L14 Gself)) (atT T21 (fun _ => none)) (atT T25 (fun _ => none)) (atT T26 (fun _ => none))) (runOK_of (hp (atT T5 (L5 Gself)) (atT T8 (fun _ => none)) (atT T14 (L14 Gself)) (atT T21 (fun _ => none)) (atT T25 (fun _ => none)) (atT T26 (fun _ => none))) hnp ⟨cutOK_at g5, cutOK_at (p := p8) (T := T8) (J := fun _ => none) good_none, cutOK_at g14, cutOK_at (p := p21) (T := T21) (J := fun _ => none) good_none, cutOK_at (p := p25) (T := T25) (J := fun _ => none) good_none, cutOK_at (p := p26) (T := T26) (J := fun _ => none) good_none, trivial⟩ fin) (fun x => (seg0 Gself impl_planting_of_1.impl impl_planting_put.impl impl_treeParts.impl slices_Index_of.impl (atT T5 (L5 Gself)) (atT T8 (fun _ => none)) (atT T14 (L14 Gself)) (atT T21 (fun _ => none)) (atT T25 (fun _ => none)) (atT T26 (fun _ => none)) x.1 x.2.1 x.2.2.1).trans (by simp only [atT_self] <;> rfl))
theorem con : Con Try.prog 56 2 rs.length 2 pin pout impl := con_lfp (c := c0) Try.func56 (by kernel_rfl) (by kernel_rfl) (by kernel_rfl) con_step
end impl_planting_of

/-! ### loop.example/wholecheck/impl.clone[loop.example/wholecheck/impl.Tree] -/
namespace impl_clone_of
noncomputable abbrev c0 : Code := (Try.f57.body).getD .skip
noncomputable abbrev pin : Tpl := ⟨[⟨0, false, [.d (.sl (.prod (.int .i64) (.prod (.int .i64) (.prod (.int .i64) (.last (.int .i64))))))]⟩], []⟩
noncomputable abbrev pout : Tpl := ⟨[⟨0, false, [.row 600001]⟩], [(600001, .row 87 false (.prod (.int .i64) (.prod (.int .i64) (.prod (.int .i64) (.last (.int .i64))))))]⟩
noncomputable abbrev PI := (List (Int × Int × Int × Int)) × Unit
noncomputable abbrev PO := (List (Int × Int × Int × Int)) × Unit
noncomputable abbrev rs : List ResultVar := [.tmp 2]
noncomputable def F0 (x0 : List (Int × Int × Int × Int)) : Option PO :=
  bif (x0.length : Int) == 0 then
    some ([], ())
  else
    bif decide (0 ≤ (x0.length : Int)) && decide ((x0.length : Int) ≤ (x0.length : Int)) && decide ((x0.length : Int) * 32 ≤ 140737488355328) then
      some (x0.take (List.replicate (x0.length : Int).toNat (0, 0, 0, 0) : List (Int × Int × Int × Int)).length ++ (List.replicate (x0.length : Int).toNat (0, 0, 0, 0) : List (Int × Int × Int × Int)).drop x0.length, ())
    else
      none
noncomputable def hd {R : Type} : Hand R := handNil
noncomputable def pg : Prog PO := { nt := 14, np := 1, tb := tabOf tab, hd := hd, cuts := cutsOf [], fin := endOf (tabOf tab) rs 1 pout }
theorem seg0 (x0 : List (Int × Int × Int × Int)) : arun (pg) 5000 [.code c0] (mk pin (x0, ())) = F0 x0 := by kernel_rfl
noncomputable def impl : PI → Option PO := fun x => F0 x.1
theorem impl_eq (x0 : List (Int × Int × Int × Int)) : impl (x0, ()) = F0 x0 := rfl
theorem con : Con Try.prog 57 1 rs.length 1 pin pout impl := by
  refine con_of_run' (nt := 14) (c := c0) tabGood Try.func57 (by kernel_rfl) (by kernel_rfl) (by kernel_rfl) (by kernel_rfl) (by kernel_rfl) (by kernel_rfl) (by kernel_rfl) ?_
  intro w0 O y hnp
  generalize hPost : (fun (a' : Act) (w' : World) => ∃ μ' S' st', Rel 14 w0 O μ' S' st' a' w' ∧ endOf (tabOf tab) rs 1 pout st' = some y) = Post
  have fin : ∀ (μ : Id → Option Value) (S : Nat → Prop) (st : St) (a : Act) (w : World), Rel 14 w0 O μ S st a w → endOf (tabOf tab) rs 1 pout st = some y → Post a w := fun μ S st a w h he => by rw [← hPost]; exact ⟨μ, S, st, h, he⟩
  have hp : Parts Try.prog 57 (pg) [] := ⟨tab_ok tabGood rfl, handNil_ok, rfl⟩
  exact good_first (hp) (runOK_of (hp) hnp trivial fin) (fun x => (seg0 x.1))
end impl_clone_of

/-! ### loop.example/wholecheck/impl.WithSome -/
namespace impl_WithSome
noncomputable abbrev c0 : Code := (Try.f25.body).getD .skip
noncomputable abbrev pin : Tpl := ⟨[⟨0, false, [.d (.sl (.prod (.int .i64) (.prod (.int .i64) (.prod (.int .i64) (.last (.int .i64))))))]⟩, ⟨1, false, [.d (.int .i64)]⟩], []⟩
noncomputable abbrev pout : Tpl := ⟨[⟨0, false, [.row 600001]⟩], [(600001, .row 87 false (.prod (.int .i64) (.prod (.int .i64) (.prod (.int .i64) (.last (.int .i64))))))]⟩
noncomputable abbrev PI := (List (Int × Int × Int × Int)) × Int × Unit
noncomputable abbrev PO := (List (Int × Int × Int × Int)) × Unit
noncomputable abbrev rs : List ResultVar := [.tmp 4]
noncomputable def F0 (Gimpl_TreesValid : impl_TreesValid.PI → Option impl_TreesValid.PO) (Gimpl_clone_of : impl_clone_of.PI → Option impl_clone_of.PO) (Gimpl_planting_of : impl_planting_of.PI → Option impl_planting_of.PO) (x0 : List (Int × Int × Int × Int)) (x1 : Int) : Option PO :=
  Option.bind (Gimpl_TreesValid (x0, x1, ())) fun y0 =>
  bif !y0.1 then
    some ([], ())
  else
    Option.bind (Gimpl_planting_of (wI ((x0.length : Int) - 1), x0, [], ())) fun y1 =>
    bif decide ((y1.2.2.1.length : Int) > 24) then
      some ([], ())
    else
      bif decide (0 ≤ wI (y1.1 + 1)) && decide (wI (y1.1 + 1) ≤ (y1.2.2.1.length : Int)) then
        Option.bind (Gimpl_clone_of ((y1.2.2.1.drop 0).take ((wI (y1.1 + 1)).toNat - 0), ())) fun y2 =>
        some (y2.1, ())
      else
        none
noncomputable def hd {R : Type} (Gimpl_TreesValid : impl_TreesValid.PI → Option impl_TreesValid.PO) (Gimpl_clone_of : impl_clone_of.PI → Option impl_clone_of.PO) (Gimpl_planting_of : impl_planting_of.PI → Option impl_planting_of.PO) : Hand R := (handAt 57 [32] true ⟨1, 1, 1, impl_clone_of.pin, impl_clone_of.pout, Gimpl_clone_of⟩ (handAt 56 [18] false ⟨2, 1, 2, impl_planting_of.pin, impl_planting_of.pout, Gimpl_planting_of⟩ (handAt 55 [9] true ⟨2, 1, 2, impl_TreesValid.pin, impl_TreesValid.pout, Gimpl_TreesValid⟩ handNil)))
noncomputable def pg (Gimpl_TreesValid : impl_TreesValid.PI → Option impl_TreesValid.PO) (Gimpl_clone_of : impl_clone_of.PI → Option impl_clone_of.PO) (Gimpl_planting_of : impl_planting_of.PI → Option impl_planting_of.PO) : Prog PO := { nt := 33, np := 2, tb := tabOf tab, hd := hd Gimpl_TreesValid Gimpl_clone_of Gimpl_planting_of, cuts := cutsOf [], fin := endOf (tabOf tab) rs 2 pout }
theorem seg0 (Gimpl_TreesValid : impl_TreesValid.PI → Option impl_TreesValid.PO) (Gimpl_clone_of : impl_clone_of.PI → Option impl_clone_of.PO) (Gimpl_planting_of : impl_planting_of.PI → Option impl_planting_of.PO) (x0 : List (Int × Int × Int × Int)) (x1 : Int) : arun (pg Gimpl_TreesValid Gimpl_clone_of Gimpl_planting_of) 5000 [.code c0] (mk pin (x0, x1, ())) = F0 Gimpl_TreesValid Gimpl_clone_of Gimpl_planting_of x0 x1 := by kernel_rfl
noncomputable def impl : PI → Option PO := fun x => F0 impl_TreesValid.impl impl_clone_of.impl impl_planting_of.impl x.1 x.2.1
theorem impl_eq (x0 : List (Int × Int × Int × Int)) (x1 : Int) : impl (x0, x1, ()) = F0 impl_TreesValid.impl impl_clone_of.impl impl_planting_of.impl x0 x1 := rfl
theorem con : Con Try.prog 25 2 rs.length 2 pin pout impl := by
  refine con_of_run' (nt := 33) (c := c0) tabGood Try.func25 (by kernel_rfl) (by kernel_rfl) (by kernel_rfl) (by kernel_rfl) (by kernel_rfl) (by kernel_rfl) (by kernel_rfl) ?_
  intro w0 O y hnp
  generalize hPost : (fun (a' : Act) (w' : World) => ∃ μ' S' st', Rel 33 w0 O μ' S' st' a' w' ∧ endOf (tabOf tab) rs 2 pout st' = some y) = Post
  have fin : ∀ (μ : Id → Option Value) (S : Nat → Prop) (st : St) (a : Act) (w : World), Rel 33 w0 O μ S st a w → endOf (tabOf tab) rs 2 pout st = some y → Post a w := fun μ S st a w h he => by rw [← hPost]; exact ⟨μ, S, st, h, he⟩
  have hp : Parts Try.prog 25 (pg impl_TreesValid.impl impl_clone_of.impl impl_planting_of.impl) [] := ⟨tab_ok tabGood rfl, (handAt_ok impl_clone_of.con (handAt_ok impl_planting_of.con (handAt_ok impl_TreesValid.con handNil_ok))), rfl⟩
  exact good_first (hp) (runOK_of (hp) hnp trivial fin) (fun x => (seg0 impl_TreesValid.impl impl_clone_of.impl impl_planting_of.impl x.1 x.2.1))
end impl_WithSome

/-! ### loop.example/wholecheck/laws.eqTree -/
namespace laws_eqTree
noncomputable abbrev c0 : Code := (Try.f58.body).getD .skip
noncomputable abbrev pin : Tpl := ⟨[⟨0, true, [.d (.prod (.int .i64) (.prod (.int .i64) (.prod (.int .i64) (.last (.int .i64)))))]⟩, ⟨1, true, [.d (.prod (.int .i64) (.prod (.int .i64) (.prod (.int .i64) (.last (.int .i64)))))]⟩], []⟩
noncomputable abbrev pout : Tpl := ⟨[⟨0, false, [.d .bool]⟩], []⟩
noncomputable abbrev PI := (Int × Int × Int × Int) × (Int × Int × Int × Int) × Unit
noncomputable abbrev PO := Bool × Unit
noncomputable abbrev rs : List ResultVar := [.tmp 4]
noncomputable def F0 (x0 : Int × Int × Int × Int) (x1 : Int × Int × Int × Int) : Option PO :=
  bif x0.1 != x1.1 then
    some (false, ())
  else
    bif x0.2.1 != x1.2.1 then
      some (false, ())
    else
      bif x0.2.2.1 != x1.2.2.1 then
        some (false, ())
      else
        bif x0.2.2.2 != x1.2.2.2 then
          some (false, ())
        else
          some (true, ())
noncomputable def hd {R : Type} : Hand R := handNil
noncomputable def pg : Prog PO := { nt := 25, np := 2, tb := tabOf tab, hd := hd, cuts := cutsOf [], fin := endOf (tabOf tab) rs 2 pout }
theorem seg0 (x0 : Int × Int × Int × Int) (x1 : Int × Int × Int × Int) : arun (pg) 5000 [.code c0] (mk pin (x0, x1, ())) = F0 x0 x1 := by kernel_rfl
noncomputable def impl : PI → Option PO := fun x => F0 x.1 x.2.1
theorem impl_eq (x0 : Int × Int × Int × Int) (x1 : Int × Int × Int × Int) : impl (x0, x1, ()) = F0 x0 x1 := rfl
theorem con : Con Try.prog 58 2 rs.length 2 pin pout impl := by
  refine con_of_run' (nt := 25) (c := c0) tabGood Try.func58 (by kernel_rfl) (by kernel_rfl) (by kernel_rfl) (by kernel_rfl) (by kernel_rfl) (by kernel_rfl) (by kernel_rfl) ?_
  intro w0 O y hnp
  generalize hPost : (fun (a' : Act) (w' : World) => ∃ μ' S' st', Rel 25 w0 O μ' S' st' a' w' ∧ endOf (tabOf tab) rs 2 pout st' = some y) = Post
  have fin : ∀ (μ : Id → Option Value) (S : Nat → Prop) (st : St) (a : Act) (w : World), Rel 25 w0 O μ S st a w → endOf (tabOf tab) rs 2 pout st = some y → Post a w := fun μ S st a w h he => by rw [← hPost]; exact ⟨μ, S, st, h, he⟩
  have hp : Parts Try.prog 58 (pg) [] := ⟨tab_ok tabGood rfl, handNil_ok, rfl⟩
  exact good_first (hp) (runOK_of (hp) hnp trivial fin) (fun x => (seg0 x.1 x.2.1))
end laws_eqTree

/-! ### loop.example/wholecheck/laws.eqTreeS -/
namespace laws_eqTreeS
noncomputable abbrev c0 : Code := (Try.f26.body).getD .skip
noncomputable abbrev pin : Tpl := ⟨[⟨0, false, [.d (.sl (.prod (.int .i64) (.prod (.int .i64) (.prod (.int .i64) (.last (.int .i64))))))]⟩, ⟨1, false, [.d (.sl (.prod (.int .i64) (.prod (.int .i64) (.prod (.int .i64) (.last (.int .i64))))))]⟩], []⟩
noncomputable abbrev pout : Tpl := ⟨[⟨0, false, [.d .bool]⟩], []⟩
noncomputable abbrev p4 : Tpl := ⟨[⟨0, false, [.d (.sl (.prod (.int .i64) (.prod (.int .i64) (.prod (.int .i64) (.last (.int .i64))))))]⟩, ⟨1, false, [.d (.sl (.prod (.int .i64) (.prod (.int .i64) (.prod (.int .i64) (.last (.int .i64))))))]⟩, ⟨5, false, [.d (.int .i64)]⟩], []⟩
noncomputable def T4 : List Item := (find 4 c0 []).getD []
noncomputable abbrev p6 : Tpl := ⟨[⟨0, false, [.d (.sl (.prod (.int .i64) (.prod (.int .i64) (.prod (.int .i64) (.last (.int .i64))))))]⟩, ⟨1, false, [.d (.sl (.prod (.int .i64) (.prod (.int .i64) (.prod (.int .i64) (.last (.int .i64))))))]⟩, ⟨5, false, [.d (.int .i64)]⟩], []⟩
noncomputable def T6 : List Item := (find 6 c0 []).getD []
noncomputable abbrev PI := (List (Int × Int × Int × Int)) × (List (Int × Int × Int × Int)) × Unit
noncomputable abbrev PO := Bool × Unit
noncomputable abbrev P4 := (List (Int × Int × Int × Int)) × (List (Int × Int × Int × Int)) × Int × Unit
noncomputable abbrev P6 := (List (Int × Int × Int × Int)) × (List (Int × Int × Int × Int)) × Int × Unit
noncomputable abbrev rs : List ResultVar := [.tmp 4]
noncomputable def F0 (J4 : P4 → Option PO) (x0 : List (Int × Int × Int × Int)) (x1 : List (Int × Int × Int × Int)) : Option PO :=
  bif (x0.length : Int) != (x1.length : Int) then
    some (false, ())
  else
    J4 (x0, x1, 0, ())
noncomputable def F4 (J6 : P6 → Option PO) (t0 : List (Int × Int × Int × Int)) (t1 : List (Int × Int × Int × Int)) (t5 : Int) : Option PO :=
  bif decide (t5 < (t0.length : Int)) then
    J6 (t0, t1, t5, ())
  else
    some (true, ())
noncomputable def F6 (J4 : P4 → Option PO) (Glaws_eqTree : laws_eqTree.PI → Option laws_eqTree.PO) (t0 : List (Int × Int × Int × Int)) (t1 : List (Int × Int × Int × Int)) (t5 : Int) : Option PO :=
  bif inb t5 t0.length then
    bif inb t5 t1.length then
      Option.bind (Glaws_eqTree (t0.getD t5.toNat (0, 0, 0, 0), t1.getD t5.toNat (0, 0, 0, 0), ())) fun y0 =>
      bif !y0.1 then
        some (false, ())
      else
        J4 (t0, t1, wI (t5 + 1), ())
    else
      none
  else
    none
noncomputable def hd {R : Type} (Glaws_eqTree : laws_eqTree.PI → Option laws_eqTree.PO) : Hand R := (handAt 58 [25] true ⟨2, 1, 2, laws_eqTree.pin, laws_eqTree.pout, Glaws_eqTree⟩ handNil)
noncomputable def pg (Glaws_eqTree : laws_eqTree.PI → Option laws_eqTree.PO) (J4 : List Item → P4 → Option PO) (J6 : List Item → P6 → Option PO) : Prog PO := { nt := 27, np := 2, tb := tabOf tab, hd := hd Glaws_eqTree, cuts := cutsOf [(4, cut p4 J4), (6, cut p6 J6)], fin := endOf (tabOf tab) rs 2 pout }
theorem seg0 (Glaws_eqTree : laws_eqTree.PI → Option laws_eqTree.PO) (J4 : List Item → P4 → Option PO) (J6 : List Item → P6 → Option PO) (x0 : List (Int × Int × Int × Int)) (x1 : List (Int × Int × Int × Int)) : arun (pg Glaws_eqTree J4 J6) 5000 [.code c0] (mk pin (x0, x1, ())) = F0 (J4 T4) x0 x1 := by kernel_rfl
theorem seg4 (Glaws_eqTree : laws_eqTree.PI → Option laws_eqTree.PO) (J4 : List Item → P4 → Option PO) (J6 : List Item → P6 → Option PO) (t0 : List (Int × Int × Int × Int)) (t1 : List (Int × Int × Int × Int)) (t5 : Int) : arun1 (pg Glaws_eqTree J4 J6) 5000 T4 (mk p4 (t0, t1, t5, ())) = F4 (J6 T6) t0 t1 t5 := by kernel_rfl
theorem seg6 (Glaws_eqTree : laws_eqTree.PI → Option laws_eqTree.PO) (J4 : List Item → P4 → Option PO) (J6 : List Item → P6 → Option PO) (t0 : List (Int × Int × Int × Int)) (t1 : List (Int × Int × Int × Int)) (t5 : Int) : arunE (pg Glaws_eqTree J4 J6) 5000 T6 (mk p6 (t0, t1, t5, ())) = List.replicate (arunE (pg Glaws_eqTree J4 J6) 5000 T6 (mk p6 (t0, t1, t5, ()))).length (F6 (J4 T4) Glaws_eqTree t0 t1 t5) := by kernel_rfl
noncomputable def L6 (J4 : P4 → Option PO) : P6 → Option PO := fun x => F6 J4 laws_eqTree.impl x.1 x.2.1 x.2.2.1
noncomputable def L4 : P4 → Option PO := lfp fun J4 x => F4 (L6 J4) x.1 x.2.1 x.2.2.1
noncomputable def impl : PI → Option PO := fun x => F0 L4 x.1 x.2.1
theorem F6_le {J4 J4' : P4 → Option PO} (h4 : OLe J4 J4') {Glaws_eqTree : laws_eqTree.PI → Option laws_eqTree.PO} (t0 : List (Int × Int × Int × Int)) (t1 : List (Int × Int × Int × Int)) (t5 : Int) : OptLe (F6 J4 Glaws_eqTree t0 t1 t5) (F6 J4' Glaws_eqTree t0 t1 t5) := by unfold F6; exact .cond (.cond (.bind (.refl _) fun _ => .cond (.refl _) (.of h4 _)) (.refl _)) (.refl _)
theorem F4_le {J6 J6' : P6 → Option PO} (h6 : OLe J6 J6') (t0 : List (Int × Int × Int × Int)) (t1 : List (Int × Int × Int × Int)) (t5 : Int) : OptLe (F4 J6 t0 t1 t5) (F4 J6' t0 t1 t5) := by unfold F4; exact .cond (.of h6 _) (.refl _)
theorem L6_eq (J4 : P4 → Option PO) (t0 : List (Int × Int × Int × Int)) (t1 : List (Int × Int × Int × Int)) (t5 : Int) : L6 J4 (t0, t1, t5, ()) = F6 J4 laws_eqTree.impl t0 t1 t5 := rfl
theorem L6_le {J4 J4' : P4 → Option PO} (h4 : OLe J4 J4') : OLe (L6 J4) (L6 J4') := fun x => F6_le h4 x.1 x.2.1 x.2.2.1
theorem L4_mono : OMono fun J4 (x : P4) => F4 (L6 J4) x.1 x.2.1 x.2.2.1 := fun J J' h4 x => F4_le (L6_le h4) x.1 x.2.1 x.2.2.1
theorem L4_eq (t0 : List (Int × Int × Int × Int)) (t1 : List (Int × Int × Int × Int)) (t5 : Int) : L4 (t0, t1, t5, ()) = F4 (L6 (L4)) t0 t1 t5 := congrFun (lfp_eq (L4_mono)) _
theorem impl_eq (x0 : List (Int × Int × Int × Int)) (x1 : List (Int × Int × Int × Int)) : impl (x0, x1, ()) = F0 L4 x0 x1 := rfl
theorem con : Con Try.prog 26 2 rs.length 2 pin pout impl := by
  refine con_of_run' (nt := 27) (c := c0) tabGood Try.func26 (by kernel_rfl) (by kernel_rfl) (by kernel_rfl) (by kernel_rfl) (by kernel_rfl) (by kernel_rfl) (by kernel_rfl) ?_
  intro w0 O y hnp
  generalize hPost : (fun (a' : Act) (w' : World) => ∃ μ' S' st', Rel 27 w0 O μ' S' st' a' w' ∧ endOf (tabOf tab) rs 2 pout st' = some y) = Post
  have fin : ∀ (μ : Id → Option Value) (S : Nat → Prop) (st : St) (a : Act) (w : World), Rel 27 w0 O μ S st a w → endOf (tabOf tab) rs 2 pout st = some y → Post a w := fun μ S st a w h he => by rw [← hPost]; exact ⟨μ, S, st, h, he⟩
  have hp : ∀ (J4 : List Item → P4 → Option PO), ∀ (J6 : List Item → P6 → Option PO), Parts Try.prog 26 (pg laws_eqTree.impl J4 J6) [(4, cut p4 J4), (6, cut p6 J6)] := fun J4 J6 => ⟨tab_ok tabGood rfl, (handAt_ok laws_eqTree.con handNil_ok), rfl⟩
  have g6 : ∀ (J4 : P4 → Option PO), Good Try.prog 27 w0 O Post y T4 p4 J4 → Good Try.prog 27 w0 O Post y T6 p6 (L6 J4) := fun J4 h4 => good_orders (hs := hd laws_eqTree.impl) (cv' := hd laws_eqTree.impl) (Checked.mixed Try.checked) (hp (atT T4 J4) (atT T6 (fun _ => none))) (handAt_ok laws_eqTree.con handNil_ok) (handAt_nat handNil_nat) (handAt_nat handNil_nat) (runOK_of (hp (atT T4 J4) (atT T6 (fun _ => none))) hnp ⟨cutOK_at h4, cutOK_at (p := p6) (T := T6) (J := fun _ => none) good_none, trivial⟩ fin) (fun x => ⟨_, (seg6 laws_eqTree.impl (atT T4 J4) (atT T6 (fun _ => none)) x.1 x.2.1 x.2.2.1).trans (by simp only [atT_self] <;> rfl)⟩)
  have g4 : Good Try.prog 27 w0 O Post y T4 p4 L4 := good_lfp fun J4 h4 => good_part (hp (atT T4 (fun _ => none)) (atT T6 (L6 J4))) (runOK_of (hp (atT T4 (fun _ => none)) (atT T6 (L6 J4))) hnp ⟨cutOK_at (p := p4) (T := T4) (J := fun _ => none) good_none, cutOK_at (g6 J4 h4), trivial⟩ fin) (fun x => (seg4 laws_eqTree.impl (atT T4 (fun _ => none)) (atT T6 (L6 J4)) x.1 x.2.1 x.2.2.1).trans (by simp only [atT_self] <;> rfl))
  exact good_first (hp (atT T4 L4) (atT T6 (fun _ => none))) (runOK_of (hp (atT T4 L4) (atT T6 (fun _ => none))) hnp ⟨cutOK_at g4, cutOK_at (p := p6) (T := T6) (J := fun _ => none) good_none, trivial⟩ fin) (fun x => (seg0 laws_eqTree.impl (atT T4 L4) (atT T6 (fun _ => none)) x.1 x.2.1).trans (by simp only [atT_self] <;> rfl))
end laws_eqTreeS

/-! ### loop.example/wholecheck/laws.markTreeS -/
namespace laws_markTreeS
noncomputable abbrev c0 : Code := (Try.f27.body).getD .skip
noncomputable abbrev pin : Tpl := ⟨[⟨0, false, [.row 500001]⟩, ⟨1, false, [.d (.int .i64)]⟩], [(500001, .row 87 false (.prod (.int .i64) (.prod (.int .i64) (.prod (.int .i64) (.last (.int .i64))))))]⟩
noncomputable abbrev pout : Tpl := ⟨[⟨0, false, [.d (.int .i64)]⟩, ⟨1, false, [.row 500001]⟩], [(500001, .row 87 false (.prod (.int .i64) (.prod (.int .i64) (.prod (.int .i64) (.last (.int .i64))))))]⟩
noncomputable abbrev p2 : Tpl := ⟨[⟨0, false, [.row 500001]⟩, ⟨1, false, [.d (.int .i64)]⟩, ⟨5, false, [.d (.int .i64)]⟩], [(500001, .row 87 false (.prod (.int .i64) (.prod (.int .i64) (.prod (.int .i64) (.last (.int .i64))))))]⟩
noncomputable def T2 : List Item := (find 2 c0 []).getD []
noncomputable abbrev PI := Int × (List (Int × Int × Int × Int)) × Unit
noncomputable abbrev PO := Int × (List (Int × Int × Int × Int)) × Unit
noncomputable abbrev P2 := Int × Int × (List (Int × Int × Int × Int)) × Unit
noncomputable abbrev rs : List ResultVar := [.tmp 4]
noncomputable def F0 (J2 : P2 → Option PO) (x1 : Int) (s1 : List (Int × Int × Int × Int)) : Option PO :=
  J2 (x1, 0, s1, ())
noncomputable def F2 (J2 : P2 → Option PO) (t1 : Int) (t5 : Int) (s1 : List (Int × Int × Int × Int)) : Option PO :=
  bif decide (t5 < (s1.length : Int)) then
    bif inb t5 s1.length then
      bif inb t5 (s1.set t5.toNat (t1, (s1.getD t5.toNat (0, 0, 0, 0)).2)).length then
        bif inb t5 ((s1.set t5.toNat (t1, (s1.getD t5.toNat (0, 0, 0, 0)).2)).set t5.toNat (((s1.set t5.toNat (t1, (s1.getD t5.toNat (0, 0, 0, 0)).2)).getD t5.toNat (0, 0, 0, 0)).1, wI (t1 + 1), ((s1.set t5.toNat (t1, (s1.getD t5.toNat (0, 0, 0, 0)).2)).getD t5.toNat (0, 0, 0, 0)).2.2)).length then
          bif inb t5 (((s1.set t5.toNat (t1, (s1.getD t5.toNat (0, 0, 0, 0)).2)).set t5.toNat (((s1.set t5.toNat (t1, (s1.getD t5.toNat (0, 0, 0, 0)).2)).getD t5.toNat (0, 0, 0, 0)).1, wI (t1 + 1), ((s1.set t5.toNat (t1, (s1.getD t5.toNat (0, 0, 0, 0)).2)).getD t5.toNat (0, 0, 0, 0)).2.2)).set t5.toNat ((((s1.set t5.toNat (t1, (s1.getD t5.toNat (0, 0, 0, 0)).2)).set t5.toNat (((s1.set t5.toNat (t1, (s1.getD t5.toNat (0, 0, 0, 0)).2)).getD t5.toNat (0, 0, 0, 0)).1, wI (t1 + 1), ((s1.set t5.toNat (t1, (s1.getD t5.toNat (0, 0, 0, 0)).2)).getD t5.toNat (0, 0, 0, 0)).2.2)).getD t5.toNat (0, 0, 0, 0)).1, (((s1.set t5.toNat (t1, (s1.getD t5.toNat (0, 0, 0, 0)).2)).set t5.toNat (((s1.set t5.toNat (t1, (s1.getD t5.toNat (0, 0, 0, 0)).2)).getD t5.toNat (0, 0, 0, 0)).1, wI (t1 + 1), ((s1.set t5.toNat (t1, (s1.getD t5.toNat (0, 0, 0, 0)).2)).getD t5.toNat (0, 0, 0, 0)).2.2)).getD t5.toNat (0, 0, 0, 0)).2.1, wI ((wI (t1 + 1)) + 1), (((s1.set t5.toNat (t1, (s1.getD t5.toNat (0, 0, 0, 0)).2)).set t5.toNat (((s1.set t5.toNat (t1, (s1.getD t5.toNat (0, 0, 0, 0)).2)).getD t5.toNat (0, 0, 0, 0)).1, wI (t1 + 1), ((s1.set t5.toNat (t1, (s1.getD t5.toNat (0, 0, 0, 0)).2)).getD t5.toNat (0, 0, 0, 0)).2.2)).getD t5.toNat (0, 0, 0, 0)).2.2.2)).length then
            J2 (wI ((wI ((wI ((wI (t1 + 1)) + 1)) + 1)) + 1), wI (t5 + 1), (((s1.set t5.toNat (t1, (s1.getD t5.toNat (0, 0, 0, 0)).2)).set t5.toNat (((s1.set t5.toNat (t1, (s1.getD t5.toNat (0, 0, 0, 0)).2)).getD t5.toNat (0, 0, 0, 0)).1, wI (t1 + 1), ((s1.set t5.toNat (t1, (s1.getD t5.toNat (0, 0, 0, 0)).2)).getD t5.toNat (0, 0, 0, 0)).2.2)).set t5.toNat ((((s1.set t5.toNat (t1, (s1.getD t5.toNat (0, 0, 0, 0)).2)).set t5.toNat (((s1.set t5.toNat (t1, (s1.getD t5.toNat (0, 0, 0, 0)).2)).getD t5.toNat (0, 0, 0, 0)).1, wI (t1 + 1), ((s1.set t5.toNat (t1, (s1.getD t5.toNat (0, 0, 0, 0)).2)).getD t5.toNat (0, 0, 0, 0)).2.2)).getD t5.toNat (0, 0, 0, 0)).1, (((s1.set t5.toNat (t1, (s1.getD t5.toNat (0, 0, 0, 0)).2)).set t5.toNat (((s1.set t5.toNat (t1, (s1.getD t5.toNat (0, 0, 0, 0)).2)).getD t5.toNat (0, 0, 0, 0)).1, wI (t1 + 1), ((s1.set t5.toNat (t1, (s1.getD t5.toNat (0, 0, 0, 0)).2)).getD t5.toNat (0, 0, 0, 0)).2.2)).getD t5.toNat (0, 0, 0, 0)).2.1, wI ((wI (t1 + 1)) + 1), (((s1.set t5.toNat (t1, (s1.getD t5.toNat (0, 0, 0, 0)).2)).set t5.toNat (((s1.set t5.toNat (t1, (s1.getD t5.toNat (0, 0, 0, 0)).2)).getD t5.toNat (0, 0, 0, 0)).1, wI (t1 + 1), ((s1.set t5.toNat (t1, (s1.getD t5.toNat (0, 0, 0, 0)).2)).getD t5.toNat (0, 0, 0, 0)).2.2)).getD t5.toNat (0, 0, 0, 0)).2.2.2)).set t5.toNat (((((s1.set t5.toNat (t1, (s1.getD t5.toNat (0, 0, 0, 0)).2)).set t5.toNat (((s1.set t5.toNat (t1, (s1.getD t5.toNat (0, 0, 0, 0)).2)).getD t5.toNat (0, 0, 0, 0)).1, wI (t1 + 1), ((s1.set t5.toNat (t1, (s1.getD t5.toNat (0, 0, 0, 0)).2)).getD t5.toNat (0, 0, 0, 0)).2.2)).set t5.toNat ((((s1.set t5.toNat (t1, (s1.getD t5.toNat (0, 0, 0, 0)).2)).set t5.toNat (((s1.set t5.toNat (t1, (s1.getD t5.toNat (0, 0, 0, 0)).2)).getD t5.toNat (0, 0, 0, 0)).1, wI (t1 + 1), ((s1.set t5.toNat (t1, (s1.getD t5.toNat (0, 0, 0, 0)).2)).getD t5.toNat (0, 0, 0, 0)).2.2)).getD t5.toNat (0, 0, 0, 0)).1, (((s1.set t5.toNat (t1, (s1.getD t5.toNat (0, 0, 0, 0)).2)).set t5.toNat (((s1.set t5.toNat (t1, (s1.getD t5.toNat (0, 0, 0, 0)).2)).getD t5.toNat (0, 0, 0, 0)).1, wI (t1 + 1), ((s1.set t5.toNat (t1, (s1.getD t5.toNat (0, 0, 0, 0)).2)).getD t5.toNat (0, 0, 0, 0)).2.2)).getD t5.toNat (0, 0, 0, 0)).2.1, wI ((wI (t1 + 1)) + 1), (((s1.set t5.toNat (t1, (s1.getD t5.toNat (0, 0, 0, 0)).2)).set t5.toNat (((s1.set t5.toNat (t1, (s1.getD t5.toNat (0, 0, 0, 0)).2)).getD t5.toNat (0, 0, 0, 0)).1, wI (t1 + 1), ((s1.set t5.toNat (t1, (s1.getD t5.toNat (0, 0, 0, 0)).2)).getD t5.toNat (0, 0, 0, 0)).2.2)).getD t5.toNat (0, 0, 0, 0)).2.2.2)).getD t5.toNat (0, 0, 0, 0)).1, ((((s1.set t5.toNat (t1, (s1.getD t5.toNat (0, 0, 0, 0)).2)).set t5.toNat (((s1.set t5.toNat (t1, (s1.getD t5.toNat (0, 0, 0, 0)).2)).getD t5.toNat (0, 0, 0, 0)).1, wI (t1 + 1), ((s1.set t5.toNat (t1, (s1.getD t5.toNat (0, 0, 0, 0)).2)).getD t5.toNat (0, 0, 0, 0)).2.2)).set t5.toNat ((((s1.set t5.toNat (t1, (s1.getD t5.toNat (0, 0, 0, 0)).2)).set t5.toNat (((s1.set t5.toNat (t1, (s1.getD t5.toNat (0, 0, 0, 0)).2)).getD t5.toNat (0, 0, 0, 0)).1, wI (t1 + 1), ((s1.set t5.toNat (t1, (s1.getD t5.toNat (0, 0, 0, 0)).2)).getD t5.toNat (0, 0, 0, 0)).2.2)).getD t5.toNat (0, 0, 0, 0)).1, (((s1.set t5.toNat (t1, (s1.getD t5.toNat (0, 0, 0, 0)).2)).set t5.toNat (((s1.set t5.toNat (t1, (s1.getD t5.toNat (0, 0, 0, 0)).2)).getD t5.toNat (0, 0, 0, 0)).1, wI (t1 + 1), ((s1.set t5.toNat (t1, (s1.getD t5.toNat (0, 0, 0, 0)).2)).getD t5.toNat (0, 0, 0, 0)).2.2)).getD t5.toNat (0, 0, 0, 0)).2.1, wI ((wI (t1 + 1)) + 1), (((s1.set t5.toNat (t1, (s1.getD t5.toNat (0, 0, 0, 0)).2)).set t5.toNat (((s1.set t5.toNat (t1, (s1.getD t5.toNat (0, 0, 0, 0)).2)).getD t5.toNat (0, 0, 0, 0)).1, wI (t1 + 1), ((s1.set t5.toNat (t1, (s1.getD t5.toNat (0, 0, 0, 0)).2)).getD t5.toNat (0, 0, 0, 0)).2.2)).getD t5.toNat (0, 0, 0, 0)).2.2.2)).getD t5.toNat (0, 0, 0, 0)).2.1, ((((s1.set t5.toNat (t1, (s1.getD t5.toNat (0, 0, 0, 0)).2)).set t5.toNat (((s1.set t5.toNat (t1, (s1.getD t5.toNat (0, 0, 0, 0)).2)).getD t5.toNat (0, 0, 0, 0)).1, wI (t1 + 1), ((s1.set t5.toNat (t1, (s1.getD t5.toNat (0, 0, 0, 0)).2)).getD t5.toNat (0, 0, 0, 0)).2.2)).set t5.toNat ((((s1.set t5.toNat (t1, (s1.getD t5.toNat (0, 0, 0, 0)).2)).set t5.toNat (((s1.set t5.toNat (t1, (s1.getD t5.toNat (0, 0, 0, 0)).2)).getD t5.toNat (0, 0, 0, 0)).1, wI (t1 + 1), ((s1.set t5.toNat (t1, (s1.getD t5.toNat (0, 0, 0, 0)).2)).getD t5.toNat (0, 0, 0, 0)).2.2)).getD t5.toNat (0, 0, 0, 0)).1, (((s1.set t5.toNat (t1, (s1.getD t5.toNat (0, 0, 0, 0)).2)).set t5.toNat (((s1.set t5.toNat (t1, (s1.getD t5.toNat (0, 0, 0, 0)).2)).getD t5.toNat (0, 0, 0, 0)).1, wI (t1 + 1), ((s1.set t5.toNat (t1, (s1.getD t5.toNat (0, 0, 0, 0)).2)).getD t5.toNat (0, 0, 0, 0)).2.2)).getD t5.toNat (0, 0, 0, 0)).2.1, wI ((wI (t1 + 1)) + 1), (((s1.set t5.toNat (t1, (s1.getD t5.toNat (0, 0, 0, 0)).2)).set t5.toNat (((s1.set t5.toNat (t1, (s1.getD t5.toNat (0, 0, 0, 0)).2)).getD t5.toNat (0, 0, 0, 0)).1, wI (t1 + 1), ((s1.set t5.toNat (t1, (s1.getD t5.toNat (0, 0, 0, 0)).2)).getD t5.toNat (0, 0, 0, 0)).2.2)).getD t5.toNat (0, 0, 0, 0)).2.2.2)).getD t5.toNat (0, 0, 0, 0)).2.2.1, wI ((wI ((wI (t1 + 1)) + 1)) + 1)), ())
          else
            none
        else
          none
      else
        none
    else
      none
  else
    some (t1, s1, ())
noncomputable def hd {R : Type} : Hand R := handNil
noncomputable def pg (J2 : List Item → P2 → Option PO) : Prog PO := { nt := 41, np := 1, tb := tabOf tab, hd := hd, cuts := cutsOf [(2, cut p2 J2)], fin := endOf (tabOf tab) rs 1 pout }
theorem seg0 (J2 : List Item → P2 → Option PO) (x1 : Int) (s1 : List (Int × Int × Int × Int)) : arun (pg J2) 5000 [.code c0] (mk pin (x1, s1, ())) = F0 (J2 T2) x1 s1 := by kernel_rfl
theorem seg2 (J2 : List Item → P2 → Option PO) (t1 : Int) (t5 : Int) (s1 : List (Int × Int × Int × Int)) : arun1 (pg J2) 5000 T2 (mk p2 (t1, t5, s1, ())) = F2 (J2 T2) t1 t5 s1 := by kernel_rfl
noncomputable def L2 : P2 → Option PO := lfp fun J2 x => F2 J2 x.1 x.2.1 x.2.2.1
noncomputable def impl : PI → Option PO := fun x => F0 L2 x.1 x.2.1
theorem F2_le {J2 J2' : P2 → Option PO} (h2 : OLe J2 J2') (t1 : Int) (t5 : Int) (s1 : List (Int × Int × Int × Int)) : OptLe (F2 J2 t1 t5 s1) (F2 J2' t1 t5 s1) := by unfold F2; exact .cond (.cond (.cond (.cond (.cond (.of h2 _) (.refl _)) (.refl _)) (.refl _)) (.refl _)) (.refl _)
theorem L2_mono : OMono fun J2 (x : P2) => F2 J2 x.1 x.2.1 x.2.2.1 := fun J J' h2 x => F2_le h2 x.1 x.2.1 x.2.2.1
theorem L2_eq (t1 : Int) (t5 : Int) (s1 : List (Int × Int × Int × Int)) : L2 (t1, t5, s1, ()) = F2 (L2) t1 t5 s1 := congrFun (lfp_eq (L2_mono)) _
theorem impl_eq (x1 : Int) (s1 : List (Int × Int × Int × Int)) : impl (x1, s1, ()) = F0 L2 x1 s1 := rfl
theorem con : Con Try.prog 27 2 rs.length 1 pin pout impl := by
  refine con_of_run' (nt := 41) (c := c0) tabGood Try.func27 (by kernel_rfl) (by kernel_rfl) (by kernel_rfl) (by kernel_rfl) (by kernel_rfl) (by kernel_rfl) (by kernel_rfl) ?_
  intro w0 O y hnp
  generalize hPost : (fun (a' : Act) (w' : World) => ∃ μ' S' st', Rel 41 w0 O μ' S' st' a' w' ∧ endOf (tabOf tab) rs 1 pout st' = some y) = Post
  have fin : ∀ (μ : Id → Option Value) (S : Nat → Prop) (st : St) (a : Act) (w : World), Rel 41 w0 O μ S st a w → endOf (tabOf tab) rs 1 pout st = some y → Post a w := fun μ S st a w h he => by rw [← hPost]; exact ⟨μ, S, st, h, he⟩
  have hp : ∀ (J2 : List Item → P2 → Option PO), Parts Try.prog 27 (pg J2) [(2, cut p2 J2)] := fun J2 => ⟨tab_ok tabGood rfl, handNil_ok, rfl⟩
  have g2 : Good Try.prog 41 w0 O Post y T2 p2 L2 := good_lfp fun J2 h2 => good_part (hp (atT T2 J2)) (runOK_of (hp (atT T2 J2)) hnp ⟨cutOK_at h2, trivial⟩ fin) (fun x => (seg2 (atT T2 J2) x.1 x.2.1 x.2.2.1).trans (by simp only [atT_self] <;> rfl))
  exact good_first (hp (atT T2 L2)) (runOK_of (hp (atT T2 L2)) hnp ⟨cutOK_at g2, trivial⟩ fin) (fun x => (seg0 (atT T2 L2) x.1 x.2.1).trans (by simp only [atT_self] <;> rfl))
end laws_markTreeS

/-! ### loop.example/wholecheck/laws.heldTreeS -/
namespace laws_heldTreeS
noncomputable abbrev c0 : Code := (Try.f28.body).getD .skip
noncomputable abbrev pin : Tpl := ⟨[⟨0, false, [.d (.sl (.prod (.int .i64) (.prod (.int .i64) (.prod (.int .i64) (.last (.int .i64))))))]⟩, ⟨1, false, [.d (.int .i64)]⟩], []⟩
noncomputable abbrev pout : Tpl := ⟨[⟨0, false, [.d (.int .i64)]⟩], []⟩
noncomputable abbrev p2 : Tpl := ⟨[⟨0, false, [.d (.sl (.prod (.int .i64) (.prod (.int .i64) (.prod (.int .i64) (.last (.int .i64))))))]⟩, ⟨1, false, [.d (.int .i64)]⟩, ⟨5, false, [.d (.int .i64)]⟩], []⟩
noncomputable def T2 : List Item := (find 2 c0 []).getD []
noncomputable abbrev PI := (List (Int × Int × Int × Int)) × Int × Unit
noncomputable abbrev PO := Int × Unit
noncomputable abbrev P2 := (List (Int × Int × Int × Int)) × Int × Int × Unit
noncomputable abbrev rs : List ResultVar := [.tmp 4]
noncomputable def F0 (J2 : P2 → Option PO) (x0 : List (Int × Int × Int × Int)) (x1 : Int) : Option PO :=
  J2 (x0, x1, 0, ())
noncomputable def F2 (J2 : P2 → Option PO) (t0 : List (Int × Int × Int × Int)) (t1 : Int) (t5 : Int) : Option PO :=
  bif decide (t5 < (t0.length : Int)) then
    bif inb t5 t0.length then
      bif (t0.getD t5.toNat (0, 0, 0, 0)).1 != t1 then
        some ((-1), ())
      else
        bif inb t5 t0.length then
          bif (t0.getD t5.toNat (0, 0, 0, 0)).2.1 != wI (t1 + 1) then
            some ((-1), ())
          else
            bif inb t5 t0.length then
              bif (t0.getD t5.toNat (0, 0, 0, 0)).2.2.1 != wI ((wI (t1 + 1)) + 1) then
                some ((-1), ())
              else
                bif inb t5 t0.length then
                  bif (t0.getD t5.toNat (0, 0, 0, 0)).2.2.2 != wI ((wI ((wI (t1 + 1)) + 1)) + 1) then
                    some ((-1), ())
                  else
                    J2 (t0, wI ((wI ((wI ((wI (t1 + 1)) + 1)) + 1)) + 1), wI (t5 + 1), ())
                else
                  none
            else
              none
        else
          none
    else
      none
  else
    some (t1, ())
noncomputable def hd {R : Type} : Hand R := handNil
noncomputable def pg (J2 : List Item → P2 → Option PO) : Prog PO := { nt := 49, np := 1, tb := tabOf tab, hd := hd, cuts := cutsOf [(2, cut p2 J2)], fin := endOf (tabOf tab) rs 1 pout }
theorem seg0 (J2 : List Item → P2 → Option PO) (x0 : List (Int × Int × Int × Int)) (x1 : Int) : arun (pg J2) 5000 [.code c0] (mk pin (x0, x1, ())) = F0 (J2 T2) x0 x1 := by kernel_rfl
theorem seg2 (J2 : List Item → P2 → Option PO) (t0 : List (Int × Int × Int × Int)) (t1 : Int) (t5 : Int) : arun1 (pg J2) 5000 T2 (mk p2 (t0, t1, t5, ())) = F2 (J2 T2) t0 t1 t5 := by kernel_rfl
noncomputable def L2 : P2 → Option PO := lfp fun J2 x => F2 J2 x.1 x.2.1 x.2.2.1
noncomputable def impl : PI → Option PO := fun x => F0 L2 x.1 x.2.1
theorem F2_le {J2 J2' : P2 → Option PO} (h2 : OLe J2 J2') (t0 : List (Int × Int × Int × Int)) (t1 : Int) (t5 : Int) : OptLe (F2 J2 t0 t1 t5) (F2 J2' t0 t1 t5) := by unfold F2; exact .cond (.cond (.cond (.refl _) (.cond (.cond (.refl _) (.cond (.cond (.refl _) (.cond (.cond (.refl _) (.of h2 _)) (.refl _))) (.refl _))) (.refl _))) (.refl _)) (.refl _)
theorem L2_mono : OMono fun J2 (x : P2) => F2 J2 x.1 x.2.1 x.2.2.1 := fun J J' h2 x => F2_le h2 x.1 x.2.1 x.2.2.1
theorem L2_eq (t0 : List (Int × Int × Int × Int)) (t1 : Int) (t5 : Int) : L2 (t0, t1, t5, ()) = F2 (L2) t0 t1 t5 := congrFun (lfp_eq (L2_mono)) _
theorem impl_eq (x0 : List (Int × Int × Int × Int)) (x1 : Int) : impl (x0, x1, ()) = F0 L2 x0 x1 := rfl
theorem con : Con Try.prog 28 2 rs.length 1 pin pout impl := by
  refine con_of_run' (nt := 49) (c := c0) tabGood Try.func28 (by kernel_rfl) (by kernel_rfl) (by kernel_rfl) (by kernel_rfl) (by kernel_rfl) (by kernel_rfl) (by kernel_rfl) ?_
  intro w0 O y hnp
  generalize hPost : (fun (a' : Act) (w' : World) => ∃ μ' S' st', Rel 49 w0 O μ' S' st' a' w' ∧ endOf (tabOf tab) rs 1 pout st' = some y) = Post
  have fin : ∀ (μ : Id → Option Value) (S : Nat → Prop) (st : St) (a : Act) (w : World), Rel 49 w0 O μ S st a w → endOf (tabOf tab) rs 1 pout st = some y → Post a w := fun μ S st a w h he => by rw [← hPost]; exact ⟨μ, S, st, h, he⟩
  have hp : ∀ (J2 : List Item → P2 → Option PO), Parts Try.prog 28 (pg J2) [(2, cut p2 J2)] := fun J2 => ⟨tab_ok tabGood rfl, handNil_ok, rfl⟩
  have g2 : Good Try.prog 49 w0 O Post y T2 p2 L2 := good_lfp fun J2 h2 => good_part (hp (atT T2 J2)) (runOK_of (hp (atT T2 J2)) hnp ⟨cutOK_at h2, trivial⟩ fin) (fun x => (seg2 (atT T2 J2) x.1 x.2.1 x.2.2.1).trans (by simp only [atT_self] <;> rfl))
  exact good_first (hp (atT T2 L2)) (runOK_of (hp (atT T2 L2)) hnp ⟨cutOK_at g2, trivial⟩ fin) (fun x => (seg0 (atT T2 L2) x.1 x.2.1).trans (by simp only [atT_self] <;> rfl))
end laws_heldTreeS

/-! ### loop.example/wholecheck/laws.FnExactWithSome -/
namespace laws_FnExactWithSome
noncomputable abbrev c0 : Code := (Try.f6.body).getD .skip
noncomputable abbrev pin : Tpl := ⟨[⟨0, false, [.d (.sl (.prod (.int .i64) (.prod (.int .i64) (.prod (.int .i64) (.last (.int .i64))))))]⟩, ⟨1, false, [.d (.int .i64)]⟩], []⟩
noncomputable abbrev pout : Tpl := ⟨[⟨0, false, [.d .bool]⟩], []⟩
noncomputable abbrev PI := (List (Int × Int × Int × Int)) × Int × Unit
noncomputable abbrev PO := Bool × Unit
noncomputable abbrev rs : List ResultVar := [.tmp 4]
noncomputable def F0 (Gimpl_WithSome : impl_WithSome.PI → Option impl_WithSome.PO) (Glaws_eqTreeS : laws_eqTreeS.PI → Option laws_eqTreeS.PO) (Glaws_heldTreeS : laws_heldTreeS.PI → Option laws_heldTreeS.PO) (Glaws_markTreeS : laws_markTreeS.PI → Option laws_markTreeS.PO) (Glaws_szTreeS : laws_szTreeS.PI → Option laws_szTreeS.PO) (Glaws_toTreeS : laws_toTreeS.PI → Option laws_toTreeS.PO) (Gspec_WithSome : spec_WithSome.PI → Option spec_WithSome.PO) (x0 : List (Int × Int × Int × Int)) (x1 : Int) : Option PO :=
  Option.bind (Glaws_szTreeS (x0, 1048576, ())) fun y0 =>
  bif decide (y0.1 < 0) then
    some (true, ())
  else
    Option.bind (Glaws_toTreeS (x0, ())) fun y1 =>
    Option.bind (Gspec_WithSome (y1.1, x1, ())) fun y2 =>
    Option.bind (Glaws_toTreeS (x0, ())) fun y3 =>
    Option.bind (Gimpl_WithSome (y3.1, x1, ())) fun y4 =>
    Option.bind (Glaws_eqTreeS (y4.1, y2.1, ())) fun y5 =>
    bif !y5.1 then
      some (false, ())
    else
      Option.bind (Glaws_toTreeS (x0, ())) fun y6 =>
      Option.bind (Glaws_eqTreeS (y3.1, y6.1, ())) fun y7 =>
      bif !y7.1 then
        some (false, ())
      else
        Option.bind (Glaws_markTreeS (1, y3.1, ())) fun y8 =>
        bif decide (y8.1 < 0) then
          some (false, ())
        else
          Option.bind (Glaws_eqTreeS (y4.1, y2.1, ())) fun y9 =>
          bif !y9.1 then
            some (false, ())
          else
            Option.bind (Glaws_markTreeS (1, y4.1, ())) fun y10 =>
            Option.bind (Glaws_heldTreeS (y10.2.1, 1, ())) fun y11 =>
            bif decide (y11.1 < 0) then
              some (false, ())
            else
              bif y11.1 != y10.1 then
                some (false, ())
              else
                Option.bind (Glaws_toTreeS (x0, ())) fun y12 =>
                Option.bind (Gimpl_WithSome (y12.1, x1, ())) fun y13 =>
                Option.bind (Glaws_eqTreeS (y13.1, y2.1, ())) fun y14 =>
                bif !y14.1 then
                  some (false, ())
                else
                  Option.bind (Glaws_heldTreeS (y10.2.1, 1, ())) fun y15 =>
                  bif decide (y15.1 < 0) then
                    some (false, ())
                  else
                    bif y15.1 != y10.1 then
                      some (false, ())
                    else
                      some (true, ())
noncomputable def hd {R : Type} (Gimpl_WithSome : impl_WithSome.PI → Option impl_WithSome.PO) (Glaws_eqTreeS : laws_eqTreeS.PI → Option laws_eqTreeS.PO) (Glaws_heldTreeS : laws_heldTreeS.PI → Option laws_heldTreeS.PO) (Glaws_markTreeS : laws_markTreeS.PI → Option laws_markTreeS.PO) (Glaws_szTreeS : laws_szTreeS.PI → Option laws_szTreeS.PO) (Glaws_toTreeS : laws_toTreeS.PI → Option laws_toTreeS.PO) (Gspec_WithSome : spec_WithSome.PI → Option spec_WithSome.PO) : Hand R := (handAt 28 [52, 68] true ⟨2, 1, 1, laws_heldTreeS.pin, laws_heldTreeS.pout, Glaws_heldTreeS⟩ (handAt 27 [38, 49] true ⟨2, 1, 1, laws_markTreeS.pin, laws_markTreeS.pout, Glaws_markTreeS⟩ (handAt 26 [29, 34, 44, 64] true ⟨2, 1, 2, laws_eqTreeS.pin, laws_eqTreeS.pout, Glaws_eqTreeS⟩ (handAt 25 [26, 61] true ⟨2, 1, 2, impl_WithSome.pin, impl_WithSome.pout, Gimpl_WithSome⟩ (handAt 24 [19, 23, 33, 59] true ⟨1, 1, 1, laws_toTreeS.pin, laws_toTreeS.pout, Glaws_toTreeS⟩ (handAt 23 [21] false ⟨2, 1, 2, spec_WithSome.pin, spec_WithSome.pout, Gspec_WithSome⟩ (handAt 22 [15] true ⟨2, 1, 1, laws_szTreeS.pin, laws_szTreeS.pout, Glaws_szTreeS⟩ handNil)))))))
noncomputable def pg (Gimpl_WithSome : impl_WithSome.PI → Option impl_WithSome.PO) (Glaws_eqTreeS : laws_eqTreeS.PI → Option laws_eqTreeS.PO) (Glaws_heldTreeS : laws_heldTreeS.PI → Option laws_heldTreeS.PO) (Glaws_markTreeS : laws_markTreeS.PI → Option laws_markTreeS.PO) (Glaws_szTreeS : laws_szTreeS.PI → Option laws_szTreeS.PO) (Glaws_toTreeS : laws_toTreeS.PI → Option laws_toTreeS.PO) (Gspec_WithSome : spec_WithSome.PI → Option spec_WithSome.PO) : Prog PO := { nt := 74, np := 2, tb := tabOf tab, hd := hd Gimpl_WithSome Glaws_eqTreeS Glaws_heldTreeS Glaws_markTreeS Glaws_szTreeS Glaws_toTreeS Gspec_WithSome, cuts := cutsOf [], fin := endOf (tabOf tab) rs 2 pout }
theorem seg0 (Gimpl_WithSome : impl_WithSome.PI → Option impl_WithSome.PO) (Glaws_eqTreeS : laws_eqTreeS.PI → Option laws_eqTreeS.PO) (Glaws_heldTreeS : laws_heldTreeS.PI → Option laws_heldTreeS.PO) (Glaws_markTreeS : laws_markTreeS.PI → Option laws_markTreeS.PO) (Glaws_szTreeS : laws_szTreeS.PI → Option laws_szTreeS.PO) (Glaws_toTreeS : laws_toTreeS.PI → Option laws_toTreeS.PO) (Gspec_WithSome : spec_WithSome.PI → Option spec_WithSome.PO) (x0 : List (Int × Int × Int × Int)) (x1 : Int) : arun (pg Gimpl_WithSome Glaws_eqTreeS Glaws_heldTreeS Glaws_markTreeS Glaws_szTreeS Glaws_toTreeS Gspec_WithSome) 5000 [.code c0] (mk pin (x0, x1, ())) = F0 Gimpl_WithSome Glaws_eqTreeS Glaws_heldTreeS Glaws_markTreeS Glaws_szTreeS Glaws_toTreeS Gspec_WithSome x0 x1 := by kernel_rfl
noncomputable def impl : PI → Option PO := fun x => F0 impl_WithSome.impl laws_eqTreeS.impl laws_heldTreeS.impl laws_markTreeS.impl laws_szTreeS.impl laws_toTreeS.impl spec_WithSome.impl x.1 x.2.1
theorem impl_eq (x0 : List (Int × Int × Int × Int)) (x1 : Int) : impl (x0, x1, ()) = F0 impl_WithSome.impl laws_eqTreeS.impl laws_heldTreeS.impl laws_markTreeS.impl laws_szTreeS.impl laws_toTreeS.impl spec_WithSome.impl x0 x1 := rfl
theorem con : Con Try.prog 6 2 rs.length 2 pin pout impl := by
  refine con_of_run' (nt := 74) (c := c0) tabGood Try.func6 (by kernel_rfl) (by kernel_rfl) (by kernel_rfl) (by kernel_rfl) (by kernel_rfl) (by kernel_rfl) (by kernel_rfl) ?_
  intro w0 O y hnp
  generalize hPost : (fun (a' : Act) (w' : World) => ∃ μ' S' st', Rel 74 w0 O μ' S' st' a' w' ∧ endOf (tabOf tab) rs 2 pout st' = some y) = Post
  have fin : ∀ (μ : Id → Option Value) (S : Nat → Prop) (st : St) (a : Act) (w : World), Rel 74 w0 O μ S st a w → endOf (tabOf tab) rs 2 pout st = some y → Post a w := fun μ S st a w h he => by rw [← hPost]; exact ⟨μ, S, st, h, he⟩
  have hp : Parts Try.prog 6 (pg impl_WithSome.impl laws_eqTreeS.impl laws_heldTreeS.impl laws_markTreeS.impl laws_szTreeS.impl laws_toTreeS.impl spec_WithSome.impl) [] := ⟨tab_ok tabGood rfl, (handAt_ok laws_heldTreeS.con (handAt_ok laws_markTreeS.con (handAt_ok laws_eqTreeS.con (handAt_ok impl_WithSome.con (handAt_ok laws_toTreeS.con (handAt_ok spec_WithSome.con (handAt_ok laws_szTreeS.con handNil_ok))))))), rfl⟩
  exact good_first (hp) (runOK_of (hp) hnp trivial fin) (fun x => (seg0 impl_WithSome.impl laws_eqTreeS.impl laws_heldTreeS.impl laws_markTreeS.impl laws_szTreeS.impl laws_toTreeS.impl spec_WithSome.impl x.1 x.2.1))
end laws_FnExactWithSome
end Go.Proofs.YtgagmcbeobkfoaaB
