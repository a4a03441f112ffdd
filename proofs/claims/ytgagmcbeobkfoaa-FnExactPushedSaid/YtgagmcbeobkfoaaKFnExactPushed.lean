/- PRINTED BY A PROGRAM OF THIS CLAIM'S AUTHOR (wip/gen): functions of the given program, their parts, their contracts. -/
import Derived.Test.YtgagmcbeobkfoaaB29
import Derived.Test.YtgagmcbeobkfoaaChecked
set_option linter.unusedVariables false
set_option maxRecDepth 100000
namespace Go.Proofs.YtgagmcbeobkfoaaB
open Go
def tab : Tab := [(3, { kind := .scalar, zero := [.d (.int .i64) (0 : Int)], bytes := 8, data := some (.int .i64), eqf := none }),
  (24, { kind := .slice 3, zero := [.nilS], bytes := 24, data := some (.sl (.int .i64)), eqf := none }),
  (38, { kind := .slice 77, zero := [.nilS], bytes := 24, data := some (.sl (.prod (.int .i64) (.prod (.int .i64) (.prod (.int .i64) (.last (.int .i64)))))), eqf := none }),
  (40, { kind := .slice 75, zero := [.nilS], bytes := 24, data := some (.sl (.prod (.int .i64) (.prod (.int .i64) (.prod (.int .i64) (.last (.int .i64)))))), eqf := none }),
  (75, { kind := .struct [(0, 1), (1, 1), (2, 1), (3, 1)], zero := [.d (.int .i64) (0 : Int), .d (.int .i64) (0 : Int), .d (.int .i64) (0 : Int), .d (.int .i64) (0 : Int)], bytes := 32, data := some (.prod (.int .i64) (.prod (.int .i64) (.prod (.int .i64) (.last (.int .i64))))), eqf := some [(.int .i64), (.int .i64), (.int .i64), (.int .i64)] }),
  (77, { kind := .struct [(0, 1), (1, 1), (2, 1), (3, 1)], zero := [.d (.int .i64) (0 : Int), .d (.int .i64) (0 : Int), .d (.int .i64) (0 : Int), .d (.int .i64) (0 : Int)], bytes := 32, data := some (.prod (.int .i64) (.prod (.int .i64) (.prod (.int .i64) (.last (.int .i64))))), eqf := some [(.int .i64), (.int .i64), (.int .i64), (.int .i64)] }),
  (80, { kind := .struct [(0, 1), (1, 1)], zero := [.nilS, .nilS], bytes := 48, data := some (.prod (.sl (.prod (.int .i64) (.prod (.int .i64) (.prod (.int .i64) (.last (.int .i64)))))) (.last (.sl (.prod (.int .i64) (.prod (.int .i64) (.prod (.int .i64) (.last (.int .i64)))))))), eqf := none }),
  (117, { kind := .map (.int .i64) (.int .i64), zero := [.undef], bytes := 8, data := none, eqf := none })]
theorem tabGood : tabB Try.prog tab = true := by kernel_rfl

/-! ### loop.example/wholecheck/laws.szTimeS -/
namespace laws_szTimeS
noncomputable abbrev c0 : Code := (Try.f15.body).getD .skip
noncomputable abbrev pin : Tpl := ⟨[⟨0, false, [.d (.sl (.prod (.int .i64) (.prod (.int .i64) (.prod (.int .i64) (.last (.int .i64))))))]⟩, ⟨1, false, [.d (.int .i64)]⟩], []⟩
noncomputable abbrev pout : Tpl := ⟨[⟨0, false, [.d (.int .i64)]⟩], []⟩
noncomputable abbrev PI := (List (Int × Int × Int × Int)) × Int × Unit
noncomputable abbrev PO := Int × Unit
noncomputable abbrev rs : List ResultVar := [.tmp 4]
noncomputable def F0 (x0 : List (Int × Int × Int × Int)) (x1 : Int) : Option PO :=
  bif decide (wI (x1 - (x0.length : Int)) < 0) then
    some ((-1), ())
  else
    some (wI (x1 - (x0.length : Int)), ())
noncomputable def hd {R : Type} : Hand R := handNil
noncomputable def pg : Prog PO := { nt := 12, np := 1, tb := tabOf tab, hd := hd, cuts := cutsOf [], fin := endOf (tabOf tab) rs 1 pout }
theorem seg0 (x0 : List (Int × Int × Int × Int)) (x1 : Int) : arun (pg) 5000 [.code c0] (mk pin (x0, x1, ())) = F0 x0 x1 := by kernel_rfl
noncomputable def impl : PI → Option PO := fun x => F0 x.1 x.2.1
theorem impl_eq (x0 : List (Int × Int × Int × Int)) (x1 : Int) : impl (x0, x1, ()) = F0 x0 x1 := rfl
theorem con : Con Try.prog 15 2 rs.length 1 pin pout impl := by
  refine con_of_run' (nt := 12) (c := c0) tabGood Try.func15 (by kernel_rfl) (by kernel_rfl) (by kernel_rfl) (by kernel_rfl) (by kernel_rfl) (by kernel_rfl) (by kernel_rfl) ?_
  intro w0 O y hnp
  generalize hPost : (fun (a' : Act) (w' : World) => ∃ μ' S' st', Rel 12 w0 O μ' S' st' a' w' ∧ endOf (tabOf tab) rs 1 pout st' = some y) = Post
  have fin : ∀ (μ : Id → Option Value) (S : Nat → Prop) (st : St) (a : Act) (w : World), Rel 12 w0 O μ S st a w → endOf (tabOf tab) rs 1 pout st = some y → Post a w := fun μ S st a w h he => by rw [← hPost]; exact ⟨μ, S, st, h, he⟩
  have hp : Parts Try.prog 15 (pg) [] := ⟨tab_ok tabGood rfl, handNil_ok, rfl⟩
  exact good_first (hp) (runOK_of (hp) hnp trivial fin) (fun x => (seg0 x.1 x.2.1))
end laws_szTimeS

/-! ### loop.example/wholecheck/laws.toTime -/
namespace laws_toTime
noncomputable abbrev c0 : Code := (Try.f47.body).getD .skip
noncomputable abbrev pin : Tpl := ⟨[⟨0, true, [.d (.prod (.int .i64) (.prod (.int .i64) (.prod (.int .i64) (.last (.int .i64)))))]⟩], []⟩
noncomputable abbrev pout : Tpl := ⟨[⟨0, true, [.d (.prod (.int .i64) (.prod (.int .i64) (.prod (.int .i64) (.last (.int .i64)))))]⟩], []⟩
noncomputable abbrev PI := (Int × Int × Int × Int) × Unit
noncomputable abbrev PO := (Int × Int × Int × Int) × Unit
noncomputable abbrev rs : List ResultVar := [.cell 2 75]
noncomputable def F0 (x0 : Int × Int × Int × Int) : Option PO :=
  some (x0, ())
noncomputable def hd {R : Type} : Hand R := handNil
noncomputable def pg : Prog PO := { nt := 17, np := 1, tb := tabOf tab, hd := hd, cuts := cutsOf [], fin := endOf (tabOf tab) rs 1 pout }
theorem seg0 (x0 : Int × Int × Int × Int) : arun (pg) 5000 [.code c0] (mk pin (x0, ())) = F0 x0 := by kernel_rfl
noncomputable def impl : PI → Option PO := fun x => F0 x.1
theorem impl_eq (x0 : Int × Int × Int × Int) : impl (x0, ()) = F0 x0 := rfl
theorem con : Con Try.prog 47 1 rs.length 1 pin pout impl := by
  refine con_of_run' (nt := 17) (c := c0) tabGood Try.func47 (by kernel_rfl) (by kernel_rfl) (by kernel_rfl) (by kernel_rfl) (by kernel_rfl) (by kernel_rfl) (by kernel_rfl) ?_
  intro w0 O y hnp
  generalize hPost : (fun (a' : Act) (w' : World) => ∃ μ' S' st', Rel 17 w0 O μ' S' st' a' w' ∧ endOf (tabOf tab) rs 1 pout st' = some y) = Post
  have fin : ∀ (μ : Id → Option Value) (S : Nat → Prop) (st : St) (a : Act) (w : World), Rel 17 w0 O μ S st a w → endOf (tabOf tab) rs 1 pout st = some y → Post a w := fun μ S st a w h he => by rw [← hPost]; exact ⟨μ, S, st, h, he⟩
  have hp : Parts Try.prog 47 (pg) [] := ⟨tab_ok tabGood rfl, handNil_ok, rfl⟩
  exact good_first (hp) (runOK_of (hp) hnp trivial fin) (fun x => (seg0 x.1))
end laws_toTime

/-! ### loop.example/wholecheck/laws.toTimeS -/
namespace laws_toTimeS
noncomputable abbrev c0 : Code := (Try.f17.body).getD .skip
noncomputable abbrev pin : Tpl := ⟨[⟨0, false, [.d (.sl (.prod (.int .i64) (.prod (.int .i64) (.prod (.int .i64) (.last (.int .i64))))))]⟩], []⟩
noncomputable abbrev pout : Tpl := ⟨[⟨0, false, [.row 500200]⟩], [(500200, .row 75 false (.prod (.int .i64) (.prod (.int .i64) (.prod (.int .i64) (.last (.int .i64))))))]⟩
noncomputable abbrev p3 : Tpl := ⟨[⟨0, false, [.d (.sl (.prod (.int .i64) (.prod (.int .i64) (.prod (.int .i64) (.last (.int .i64))))))]⟩, ⟨3, false, [.row 3000000]⟩, ⟨4, false, [.d (.int .i64)]⟩], [(3000000, .row 75 false (.prod (.int .i64) (.prod (.int .i64) (.prod (.int .i64) (.last (.int .i64))))))]⟩
noncomputable def T3 : List Item := (find 3 c0 []).getD []
noncomputable abbrev PI := (List (Int × Int × Int × Int)) × Unit
noncomputable abbrev PO := (List (Int × Int × Int × Int)) × Unit
noncomputable abbrev P3 := (List (Int × Int × Int × Int)) × Int × (List (Int × Int × Int × Int)) × Unit
noncomputable abbrev rs : List ResultVar := [.tmp 2]
noncomputable def F0 (J3 : P3 → Option PO) (x0 : List (Int × Int × Int × Int)) : Option PO :=
  bif decide (0 ≤ (x0.length : Int)) && decide ((x0.length : Int) ≤ (x0.length : Int)) && decide ((x0.length : Int) * 32 ≤ 140737488355328) then
    J3 (x0, 0, (List.replicate (x0.length : Int).toNat (0, 0, 0, 0) : List (Int × Int × Int × Int)), ())
  else
    none
noncomputable def F3 (J3 : P3 → Option PO) (Glaws_toTime : laws_toTime.PI → Option laws_toTime.PO) (t0 : List (Int × Int × Int × Int)) (t4 : Int) (r0 : List (Int × Int × Int × Int)) : Option PO :=
  bif decide (t4 < (t0.length : Int)) then
    bif inb t4 t0.length then
      Option.bind (Glaws_toTime (t0.getD t4.toNat (0, 0, 0, 0), ())) fun y0 =>
      bif inb t4 r0.length then
        J3 (t0, wI (t4 + 1), r0.set t4.toNat y0.1, ())
      else
        none
    else
      none
  else
    some (r0, ())
noncomputable def hd {R : Type} (Glaws_toTime : laws_toTime.PI → Option laws_toTime.PO) : Hand R := (handAt 47 [20] true ⟨1, 1, 1, laws_toTime.pin, laws_toTime.pout, Glaws_toTime⟩ handNil)
noncomputable def pg (Glaws_toTime : laws_toTime.PI → Option laws_toTime.PO) (J3 : List Item → P3 → Option PO) : Prog PO := { nt := 23, np := 1, tb := tabOf tab, hd := hd Glaws_toTime, cuts := cutsOf [(3, cut p3 J3)], fin := endOf (tabOf tab) rs 1 pout }
theorem seg0 (Glaws_toTime : laws_toTime.PI → Option laws_toTime.PO) (J3 : List Item → P3 → Option PO) (x0 : List (Int × Int × Int × Int)) : arun (pg Glaws_toTime J3) 5000 [.code c0] (mk pin (x0, ())) = F0 (J3 T3) x0 := by kernel_rfl
theorem seg3 (Glaws_toTime : laws_toTime.PI → Option laws_toTime.PO) (J3 : List Item → P3 → Option PO) (t0 : List (Int × Int × Int × Int)) (t4 : Int) (r0 : List (Int × Int × Int × Int)) : arun1 (pg Glaws_toTime J3) 5000 T3 (mk p3 (t0, t4, r0, ())) = F3 (J3 T3) Glaws_toTime t0 t4 r0 := by kernel_rfl
noncomputable def L3 : P3 → Option PO := lfp fun J3 x => F3 J3 laws_toTime.impl x.1 x.2.1 x.2.2.1
noncomputable def impl : PI → Option PO := fun x => F0 L3 x.1
theorem F3_le {J3 J3' : P3 → Option PO} (h3 : OLe J3 J3') {Glaws_toTime : laws_toTime.PI → Option laws_toTime.PO} (t0 : List (Int × Int × Int × Int)) (t4 : Int) (r0 : List (Int × Int × Int × Int)) : OptLe (F3 J3 Glaws_toTime t0 t4 r0) (F3 J3' Glaws_toTime t0 t4 r0) := by unfold F3; exact .cond (.cond (.bind (.refl _) fun _ => .cond (.of h3 _) (.refl _)) (.refl _)) (.refl _)
theorem L3_mono : OMono fun J3 (x : P3) => F3 J3 laws_toTime.impl x.1 x.2.1 x.2.2.1 := fun J J' h3 x => F3_le h3 x.1 x.2.1 x.2.2.1
theorem L3_eq (t0 : List (Int × Int × Int × Int)) (t4 : Int) (r0 : List (Int × Int × Int × Int)) : L3 (t0, t4, r0, ()) = F3 (L3) laws_toTime.impl t0 t4 r0 := congrFun (lfp_eq (L3_mono)) _
theorem impl_eq (x0 : List (Int × Int × Int × Int)) : impl (x0, ()) = F0 L3 x0 := rfl
theorem con : Con Try.prog 17 1 rs.length 1 pin pout impl := by
  refine con_of_run' (nt := 23) (c := c0) tabGood Try.func17 (by kernel_rfl) (by kernel_rfl) (by kernel_rfl) (by kernel_rfl) (by kernel_rfl) (by kernel_rfl) (by kernel_rfl) ?_
  intro w0 O y hnp
  generalize hPost : (fun (a' : Act) (w' : World) => ∃ μ' S' st', Rel 23 w0 O μ' S' st' a' w' ∧ endOf (tabOf tab) rs 1 pout st' = some y) = Post
  have fin : ∀ (μ : Id → Option Value) (S : Nat → Prop) (st : St) (a : Act) (w : World), Rel 23 w0 O μ S st a w → endOf (tabOf tab) rs 1 pout st = some y → Post a w := fun μ S st a w h he => by rw [← hPost]; exact ⟨μ, S, st, h, he⟩
  have hp : ∀ (J3 : List Item → P3 → Option PO), Parts Try.prog 17 (pg laws_toTime.impl J3) [(3, cut p3 J3)] := fun J3 => ⟨tab_ok tabGood rfl, (handAt_ok laws_toTime.con handNil_ok), rfl⟩
  have g3 : Good Try.prog 23 w0 O Post y T3 p3 L3 := good_lfp fun J3 h3 => good_part (hp (atT T3 J3)) (runOK_of (hp (atT T3 J3)) hnp ⟨cutOK_at h3, trivial⟩ fin) (fun x => (seg3 laws_toTime.impl (atT T3 J3) x.1 x.2.1 x.2.2.1).trans (by simp only [atT_self] <;> rfl))
  exact good_first (hp (atT T3 L3)) (runOK_of (hp (atT T3 L3)) hnp ⟨cutOK_at g3, trivial⟩ fin) (fun x => (seg0 laws_toTime.impl (atT T3 L3) x.1).trans (by simp only [atT_self] <;> rfl))
end laws_toTimeS

/-! ### loop.example/wholecheck/spec.l1In -/
namespace spec_l1In
noncomputable abbrev c0 : Code := (Try.f36.body).getD .skip
noncomputable abbrev pin : Tpl := ⟨[⟨0, false, [.d (.int .i64)]⟩, ⟨1, false, [.d (.int .i64)]⟩, ⟨2, false, [.d (.int .i64)]⟩], []⟩
noncomputable abbrev pout : Tpl := ⟨[⟨0, false, [.d .bool]⟩], []⟩
noncomputable abbrev PI := Int × Int × Int × Unit
noncomputable abbrev PO := Bool × Unit
noncomputable abbrev rs : List ResultVar := [.tmp 6]
noncomputable def F0 (x0 : Int) (x1 : Int) (x2 : Int) : Option PO :=
  bif decide (x0 ≥ x1) then
    some (decide (x0 ≤ x2), ())
  else
    some (false, ())
noncomputable def hd {R : Type} : Hand R := handNil
noncomputable def pg : Prog PO := { nt := 15, np := 3, tb := tabOf tab, hd := hd, cuts := cutsOf [], fin := endOf (tabOf tab) rs 3 pout }
theorem seg0 (x0 : Int) (x1 : Int) (x2 : Int) : arun (pg) 5000 [.code c0] (mk pin (x0, x1, x2, ())) = F0 x0 x1 x2 := by kernel_rfl
noncomputable def impl : PI → Option PO := fun x => F0 x.1 x.2.1 x.2.2.1
theorem impl_eq (x0 : Int) (x1 : Int) (x2 : Int) : impl (x0, x1, x2, ()) = F0 x0 x1 x2 := rfl
theorem con : Con Try.prog 36 3 rs.length 3 pin pout impl := by
  refine con_of_run' (nt := 15) (c := c0) tabGood Try.func36 (by kernel_rfl) (by kernel_rfl) (by kernel_rfl) (by kernel_rfl) (by kernel_rfl) (by kernel_rfl) (by kernel_rfl) ?_
  intro w0 O y hnp
  generalize hPost : (fun (a' : Act) (w' : World) => ∃ μ' S' st', Rel 15 w0 O μ' S' st' a' w' ∧ endOf (tabOf tab) rs 3 pout st' = some y) = Post
  have fin : ∀ (μ : Id → Option Value) (S : Nat → Prop) (st : St) (a : Act) (w : World), Rel 15 w0 O μ S st a w → endOf (tabOf tab) rs 3 pout st = some y → Post a w := fun μ S st a w h he => by rw [← hPost]; exact ⟨μ, S, st, h, he⟩
  have hp : Parts Try.prog 36 (pg) [] := ⟨tab_ok tabGood rfl, handNil_ok, rfl⟩
  exact good_first (hp) (runOK_of (hp) hnp trivial fin) (fun x => (seg0 x.1 x.2.1 x.2.2.1))
end spec_l1In

/-! ### loop.example/wholecheck/spec.l20One -/
namespace spec_l20One
noncomputable abbrev c0 : Code := (Try.f87.body).getD .skip
noncomputable abbrev pin : Tpl := ⟨[⟨0, false, [.d (.int .i64)]⟩], []⟩
noncomputable abbrev pout : Tpl := ⟨[⟨0, false, [.d .bool]⟩], []⟩
noncomputable abbrev PI := Int × Unit
noncomputable abbrev PO := Bool × Unit
noncomputable abbrev rs : List ResultVar := [.tmp 2]
noncomputable def F0 (x0 : Int) : Option PO :=
  bif x0 == 2 then
    some (true, ())
  else
    some (x0 == 5, ())
noncomputable def hd {R : Type} : Hand R := handNil
noncomputable def pg : Prog PO := { nt := 9, np := 1, tb := tabOf tab, hd := hd, cuts := cutsOf [], fin := endOf (tabOf tab) rs 1 pout }
theorem seg0 (x0 : Int) : arun (pg) 5000 [.code c0] (mk pin (x0, ())) = F0 x0 := by kernel_rfl
noncomputable def impl : PI → Option PO := fun x => F0 x.1
theorem impl_eq (x0 : Int) : impl (x0, ()) = F0 x0 := rfl
theorem con : Con Try.prog 87 1 rs.length 1 pin pout impl := by
  refine con_of_run' (nt := 9) (c := c0) tabGood Try.func87 (by kernel_rfl) (by kernel_rfl) (by kernel_rfl) (by kernel_rfl) (by kernel_rfl) (by kernel_rfl) (by kernel_rfl) ?_
  intro w0 O y hnp
  generalize hPost : (fun (a' : Act) (w' : World) => ∃ μ' S' st', Rel 9 w0 O μ' S' st' a' w' ∧ endOf (tabOf tab) rs 1 pout st' = some y) = Post
  have fin : ∀ (μ : Id → Option Value) (S : Nat → Prop) (st : St) (a : Act) (w : World), Rel 9 w0 O μ S st a w → endOf (tabOf tab) rs 1 pout st = some y → Post a w := fun μ S st a w h he => by rw [← hPost]; exact ⟨μ, S, st, h, he⟩
  have hp : Parts Try.prog 87 (pg) [] := ⟨tab_ok tabGood rfl, handNil_ok, rfl⟩
  exact good_first (hp) (runOK_of (hp) hnp trivial fin) (fun x => (seg0 x.1))
end spec_l20One

/-! ### loop.example/wholecheck/spec.l20Step -/
namespace spec_l20Step
noncomputable abbrev c0 : Code := (Try.f71.body).getD .skip
noncomputable abbrev pin : Tpl := ⟨[⟨0, true, [.d (.prod (.int .i64) (.prod (.int .i64) (.prod (.int .i64) (.last (.int .i64)))))]⟩, ⟨1, false, [.d (.int .i64)]⟩, ⟨2, false, [.d (.int .i64)]⟩], []⟩
noncomputable abbrev pout : Tpl := ⟨[⟨0, false, [.d .bool]⟩], []⟩
noncomputable abbrev PI := (Int × Int × Int × Int) × Int × Int × Unit
noncomputable abbrev PO := Bool × Unit
noncomputable abbrev rs : List ResultVar := [.tmp 6]
noncomputable def F0 (Gspec_l1In : spec_l1In.PI → Option spec_l1In.PO) (Gspec_l20One : spec_l20One.PI → Option spec_l20One.PO) (x0 : Int × Int × Int × Int) (x1 : Int) (x2 : Int) : Option PO :=
  bif x0.1 == 0 then
    bif x0.2.1 == 0 then
      bif x0.2.2.1 == 0 then
        some (x0.2.2.2 == 0, ())
      else
        some (false, ())
    else
      some (false, ())
  else
    bif x0.1 == 1 then
      Option.bind (Gspec_l1In (x0.2.1, 0, wI (x2 - 1), ())) fun y0 =>
      bif y0.1 then
        bif x0.2.2.1 == 0 then
          some (x0.2.2.2 == 0, ())
        else
          some (false, ())
      else
        some (false, ())
    else
      Option.bind (Gspec_l1In (x0.1, 2, 7, ())) fun y1 =>
      bif !y1.1 then
        some (false, ())
      else
        bif x0.2.1 != 0 then
          some (false, ())
        else
          Option.bind (Gspec_l1In (x0.2.2.1, 0, wI (x1 - 1), ())) fun y2 =>
          bif !y2.1 then
            some (false, ())
          else
            Option.bind (Gspec_l1In (x0.2.2.2, 0, wI (x1 - 1), ())) fun y3 =>
            bif !y3.1 then
              some (false, ())
            else
              Option.bind (Gspec_l20One (x0.1, ())) fun y4 =>
              bif !y4.1 then
                some (true, ())
              else
                some (x0.2.2.2 == x0.2.2.1, ())
noncomputable def hd {R : Type} (Gspec_l1In : spec_l1In.PI → Option spec_l1In.PO) (Gspec_l20One : spec_l20One.PI → Option spec_l20One.PO) : Hand R := (handAt 87 [68] true ⟨1, 1, 1, spec_l20One.pin, spec_l20One.pout, Gspec_l20One⟩ (handAt 36 [30, 43, 55, 63] true ⟨3, 1, 3, spec_l1In.pin, spec_l1In.pout, Gspec_l1In⟩ handNil))
noncomputable def pg (Gspec_l1In : spec_l1In.PI → Option spec_l1In.PO) (Gspec_l20One : spec_l20One.PI → Option spec_l20One.PO) : Prog PO := { nt := 77, np := 3, tb := tabOf tab, hd := hd Gspec_l1In Gspec_l20One, cuts := cutsOf [], fin := endOf (tabOf tab) rs 3 pout }
theorem seg0 (Gspec_l1In : spec_l1In.PI → Option spec_l1In.PO) (Gspec_l20One : spec_l20One.PI → Option spec_l20One.PO) (x0 : Int × Int × Int × Int) (x1 : Int) (x2 : Int) : arun (pg Gspec_l1In Gspec_l20One) 5000 [.code c0] (mk pin (x0, x1, x2, ())) = F0 Gspec_l1In Gspec_l20One x0 x1 x2 := by kernel_rfl
noncomputable def impl : PI → Option PO := fun x => F0 spec_l1In.impl spec_l20One.impl x.1 x.2.1 x.2.2.1
theorem impl_eq (x0 : Int × Int × Int × Int) (x1 : Int) (x2 : Int) : impl (x0, x1, x2, ()) = F0 spec_l1In.impl spec_l20One.impl x0 x1 x2 := rfl
theorem con : Con Try.prog 71 3 rs.length 3 pin pout impl := by
  refine con_of_run' (nt := 77) (c := c0) tabGood Try.func71 (by kernel_rfl) (by kernel_rfl) (by kernel_rfl) (by kernel_rfl) (by kernel_rfl) (by kernel_rfl) (by kernel_rfl) ?_
  intro w0 O y hnp
  generalize hPost : (fun (a' : Act) (w' : World) => ∃ μ' S' st', Rel 77 w0 O μ' S' st' a' w' ∧ endOf (tabOf tab) rs 3 pout st' = some y) = Post
  have fin : ∀ (μ : Id → Option Value) (S : Nat → Prop) (st : St) (a : Act) (w : World), Rel 77 w0 O μ S st a w → endOf (tabOf tab) rs 3 pout st = some y → Post a w := fun μ S st a w h he => by rw [← hPost]; exact ⟨μ, S, st, h, he⟩
  have hp : Parts Try.prog 71 (pg spec_l1In.impl spec_l20One.impl) [] := ⟨tab_ok tabGood rfl, (handAt_ok spec_l20One.con (handAt_ok spec_l1In.con handNil_ok)), rfl⟩
  exact good_first (hp) (runOK_of (hp) hnp trivial fin) (fun x => (seg0 spec_l1In.impl spec_l20One.impl x.1 x.2.1 x.2.2.1))
end spec_l20Step

/-! ### loop.example/wholecheck/spec.TimesValid -/
namespace spec_TimesValid
noncomputable abbrev c0 : Code := (Try.f45.body).getD .skip
noncomputable abbrev pin : Tpl := ⟨[⟨0, false, [.d (.sl (.prod (.int .i64) (.prod (.int .i64) (.prod (.int .i64) (.last (.int .i64))))))]⟩, ⟨1, false, [.d (.int .i64)]⟩], []⟩
noncomputable abbrev pout : Tpl := ⟨[⟨0, false, [.d .bool]⟩], []⟩
noncomputable abbrev p4 : Tpl := ⟨[⟨0, false, [.d (.sl (.prod (.int .i64) (.prod (.int .i64) (.prod (.int .i64) (.last (.int .i64))))))]⟩, ⟨1, false, [.d (.int .i64)]⟩, ⟨5, false, [.d (.int .i64)]⟩], []⟩
noncomputable def T4 : List Item := (find 4 c0 []).getD []
noncomputable abbrev PI := (List (Int × Int × Int × Int)) × Int × Unit
noncomputable abbrev PO := Bool × Unit
noncomputable abbrev P4 := (List (Int × Int × Int × Int)) × Int × Int × Unit
noncomputable abbrev rs : List ResultVar := [.tmp 4]
noncomputable def F0 (J4 : P4 → Option PO) (Gspec_l1In : spec_l1In.PI → Option spec_l1In.PO) (x0 : List (Int × Int × Int × Int)) (x1 : Int) : Option PO :=
  Option.bind (Gspec_l1In (x1, 0, 4, ())) fun y0 =>
  bif !y0.1 then
    some (false, ())
  else
    Option.bind (Gspec_l1In ((x0.length : Int), 1, 24, ())) fun y1 =>
    bif !y1.1 then
      some (false, ())
    else
      J4 (x0, x1, 0, ())
noncomputable def F4 (J4 : P4 → Option PO) (Gspec_l20Step : spec_l20Step.PI → Option spec_l20Step.PO) (t0 : List (Int × Int × Int × Int)) (t1 : Int) (t5 : Int) : Option PO :=
  bif decide (t5 < (t0.length : Int)) then
    bif inb t5 t0.length then
      Option.bind (Gspec_l20Step (t0.getD t5.toNat (0, 0, 0, 0), t5, t1, ())) fun y2 =>
      bif !y2.1 then
        some (false, ())
      else
        J4 (t0, t1, wI (t5 + 1), ())
    else
      none
  else
    some (true, ())
noncomputable def hd {R : Type} (Gspec_l1In : spec_l1In.PI → Option spec_l1In.PO) (Gspec_l20Step : spec_l20Step.PI → Option spec_l20Step.PO) : Hand R := (handAt 71 [27] true ⟨3, 1, 3, spec_l20Step.pin, spec_l20Step.pout, Gspec_l20Step⟩ (handAt 36 [7, 12] true ⟨3, 1, 3, spec_l1In.pin, spec_l1In.pout, Gspec_l1In⟩ handNil))
noncomputable def pg (Gspec_l1In : spec_l1In.PI → Option spec_l1In.PO) (Gspec_l20Step : spec_l20Step.PI → Option spec_l20Step.PO) (J4 : List Item → P4 → Option PO) : Prog PO := { nt := 29, np := 2, tb := tabOf tab, hd := hd Gspec_l1In Gspec_l20Step, cuts := cutsOf [(4, cut p4 J4)], fin := endOf (tabOf tab) rs 2 pout }
theorem seg0 (Gspec_l1In : spec_l1In.PI → Option spec_l1In.PO) (Gspec_l20Step : spec_l20Step.PI → Option spec_l20Step.PO) (J4 : List Item → P4 → Option PO) (x0 : List (Int × Int × Int × Int)) (x1 : Int) : arun (pg Gspec_l1In Gspec_l20Step J4) 5000 [.code c0] (mk pin (x0, x1, ())) = F0 (J4 T4) Gspec_l1In x0 x1 := by kernel_rfl
theorem seg4 (Gspec_l1In : spec_l1In.PI → Option spec_l1In.PO) (Gspec_l20Step : spec_l20Step.PI → Option spec_l20Step.PO) (J4 : List Item → P4 → Option PO) (t0 : List (Int × Int × Int × Int)) (t1 : Int) (t5 : Int) : arun1 (pg Gspec_l1In Gspec_l20Step J4) 5000 T4 (mk p4 (t0, t1, t5, ())) = F4 (J4 T4) Gspec_l20Step t0 t1 t5 := by kernel_rfl
noncomputable def L4 : P4 → Option PO := lfp fun J4 x => F4 J4 spec_l20Step.impl x.1 x.2.1 x.2.2.1
noncomputable def impl : PI → Option PO := fun x => F0 L4 spec_l1In.impl x.1 x.2.1
theorem F4_le {J4 J4' : P4 → Option PO} (h4 : OLe J4 J4') {Gspec_l20Step : spec_l20Step.PI → Option spec_l20Step.PO} (t0 : List (Int × Int × Int × Int)) (t1 : Int) (t5 : Int) : OptLe (F4 J4 Gspec_l20Step t0 t1 t5) (F4 J4' Gspec_l20Step t0 t1 t5) := by unfold F4; exact .cond (.cond (.bind (.refl _) fun _ => .cond (.refl _) (.of h4 _)) (.refl _)) (.refl _)
theorem L4_mono : OMono fun J4 (x : P4) => F4 J4 spec_l20Step.impl x.1 x.2.1 x.2.2.1 := fun J J' h4 x => F4_le h4 x.1 x.2.1 x.2.2.1
theorem L4_eq (t0 : List (Int × Int × Int × Int)) (t1 : Int) (t5 : Int) : L4 (t0, t1, t5, ()) = F4 (L4) spec_l20Step.impl t0 t1 t5 := congrFun (lfp_eq (L4_mono)) _
theorem impl_eq (x0 : List (Int × Int × Int × Int)) (x1 : Int) : impl (x0, x1, ()) = F0 L4 spec_l1In.impl x0 x1 := rfl
theorem con : Con Try.prog 45 2 rs.length 2 pin pout impl := by
  refine con_of_run' (nt := 29) (c := c0) tabGood Try.func45 (by kernel_rfl) (by kernel_rfl) (by kernel_rfl) (by kernel_rfl) (by kernel_rfl) (by kernel_rfl) (by kernel_rfl) ?_
  intro w0 O y hnp
  generalize hPost : (fun (a' : Act) (w' : World) => ∃ μ' S' st', Rel 29 w0 O μ' S' st' a' w' ∧ endOf (tabOf tab) rs 2 pout st' = some y) = Post
  have fin : ∀ (μ : Id → Option Value) (S : Nat → Prop) (st : St) (a : Act) (w : World), Rel 29 w0 O μ S st a w → endOf (tabOf tab) rs 2 pout st = some y → Post a w := fun μ S st a w h he => by rw [← hPost]; exact ⟨μ, S, st, h, he⟩
  have hp : ∀ (J4 : List Item → P4 → Option PO), Parts Try.prog 45 (pg spec_l1In.impl spec_l20Step.impl J4) [(4, cut p4 J4)] := fun J4 => ⟨tab_ok tabGood rfl, (handAt_ok spec_l20Step.con (handAt_ok spec_l1In.con handNil_ok)), rfl⟩
  have g4 : Good Try.prog 29 w0 O Post y T4 p4 L4 := good_lfp fun J4 h4 => good_part (hp (atT T4 J4)) (runOK_of (hp (atT T4 J4)) hnp ⟨cutOK_at h4, trivial⟩ fin) (fun x => (seg4 spec_l1In.impl spec_l20Step.impl (atT T4 J4) x.1 x.2.1 x.2.2.1).trans (by simp only [atT_self] <;> rfl))
  exact good_first (hp (atT T4 L4)) (runOK_of (hp (atT T4 L4)) hnp ⟨cutOK_at g4, trivial⟩ fin) (fun x => (seg0 spec_l1In.impl spec_l20Step.impl (atT T4 L4) x.1 x.2.1).trans (by simp only [atT_self] <;> rfl))
end spec_TimesValid

/-! ### loop.example/wholecheck/spec.l20Put -/
namespace spec_l20Put
noncomputable abbrev c0 : Code := (Try.f72.body).getD .skip
noncomputable abbrev pin : Tpl := ⟨[⟨0, false, [.row 500001]⟩, ⟨1, true, [.d (.prod (.int .i64) (.prod (.int .i64) (.prod (.int .i64) (.last (.int .i64)))))]⟩], [(500001, .row 75 false (.prod (.int .i64) (.prod (.int .i64) (.prod (.int .i64) (.last (.int .i64))))))]⟩
noncomputable abbrev pout : Tpl := ⟨[⟨0, false, [.row 500200]⟩, ⟨1, false, [.d (.int .i64)]⟩], [(500200, .row 75 false (.prod (.int .i64) (.prod (.int .i64) (.prod (.int .i64) (.last (.int .i64))))))]⟩
noncomputable abbrev p2 : Tpl := ⟨[⟨0, false, [.row 3000000]⟩, ⟨3, false, [.ptr 3000001 0]⟩, ⟨6, false, [.d (.int .i64)]⟩], [(3000000, .row 75 false (.prod (.int .i64) (.prod (.int .i64) (.prod (.int .i64) (.last (.int .i64)))))), (3000001, .box [.d (.int .i64), .d (.int .i64), .d (.int .i64), .d (.int .i64)])]⟩
noncomputable def T2 : List Item := (find 2 c0 []).getD []
noncomputable abbrev p4 : Tpl := ⟨[⟨0, false, [.row 3000000]⟩, ⟨3, false, [.ptr 3000001 0]⟩, ⟨6, false, [.d (.int .i64)]⟩], [(3000000, .row 75 false (.prod (.int .i64) (.prod (.int .i64) (.prod (.int .i64) (.last (.int .i64)))))), (3000001, .box [.d (.int .i64), .d (.int .i64), .d (.int .i64), .d (.int .i64)])]⟩
noncomputable def T4 : List Item := (find 4 c0 []).getD []
noncomputable abbrev PI := (Int × Int × Int × Int) × (List (Int × Int × Int × Int)) × Unit
noncomputable abbrev PO := Int × (List (Int × Int × Int × Int)) × Unit
noncomputable abbrev P2 := Int × (List (Int × Int × Int × Int)) × Int × Int × Int × Int × Unit
noncomputable abbrev P4 := Int × (List (Int × Int × Int × Int)) × Int × Int × Int × Int × Unit
noncomputable abbrev rs : List ResultVar := [.tmp 4, .tmp 5]
noncomputable def F0 (J2 : P2 → Option PO) (x1 : Int × Int × Int × Int) (r1 : List (Int × Int × Int × Int)) : Option PO :=
  J2 (0, r1, x1.1, x1.2.1, x1.2.2.1, x1.2.2.2, ())
noncomputable def F2 (J4 : P4 → Option PO) (t6 : Int) (r0 : List (Int × Int × Int × Int)) (b1_0 : Int) (b1_1 : Int) (b1_2 : Int) (b1_3 : Int) : Option PO :=
  bif decide (t6 < (r0.length : Int)) then
    J4 (t6, r0, b1_0, b1_1, b1_2, b1_3, ())
  else
    bif decide ((r0.length + ([(b1_0, b1_1, b1_2, b1_3)] : List (Int × Int × Int × Int)).length) * 32 ≤ 140737488355328) then
      some ((r0.length : Int), r0 ++ ([(b1_0, b1_1, b1_2, b1_3)] : List (Int × Int × Int × Int)), ())
    else
      none
noncomputable def F4 (J2 : P2 → Option PO) (t6 : Int) (r0 : List (Int × Int × Int × Int)) (b1_0 : Int) (b1_1 : Int) (b1_2 : Int) (b1_3 : Int) : Option PO :=
  bif inb t6 r0.length then
    bif (((r0.getD t6.toNat (0, 0, 0, 0)).1 == b1_0) && (((r0.getD t6.toNat (0, 0, 0, 0)).2.1 == b1_1) && (((r0.getD t6.toNat (0, 0, 0, 0)).2.2.1 == b1_2) && ((r0.getD t6.toNat (0, 0, 0, 0)).2.2.2 == b1_3)))) then
      some (t6, r0, ())
    else
      J2 (wI (t6 + 1), r0, b1_0, b1_1, b1_2, b1_3, ())
  else
    none
noncomputable def hd {R : Type} : Hand R := handNil
noncomputable def pg (J2 : List Item → P2 → Option PO) (J4 : List Item → P4 → Option PO) : Prog PO := { nt := 27, np := 2, tb := tabOf tab, hd := hd, cuts := cutsOf [(2, cut p2 J2), (4, cut p4 J4)], fin := endOf (tabOf tab) rs 2 pout }
theorem seg0 (J2 : List Item → P2 → Option PO) (J4 : List Item → P4 → Option PO) (x1 : Int × Int × Int × Int) (r1 : List (Int × Int × Int × Int)) : arun (pg J2 J4) 5000 [.code c0] (mk pin (x1, r1, ())) = F0 (J2 T2) x1 r1 := by kernel_rfl
theorem seg2 (J2 : List Item → P2 → Option PO) (J4 : List Item → P4 → Option PO) (t6 : Int) (r0 : List (Int × Int × Int × Int)) (b1_0 : Int) (b1_1 : Int) (b1_2 : Int) (b1_3 : Int) : arun1 (pg J2 J4) 5000 T2 (mk p2 (t6, r0, b1_0, b1_1, b1_2, b1_3, ())) = F2 (J4 T4) t6 r0 b1_0 b1_1 b1_2 b1_3 := by kernel_rfl
theorem seg4 (J2 : List Item → P2 → Option PO) (J4 : List Item → P4 → Option PO) (t6 : Int) (r0 : List (Int × Int × Int × Int)) (b1_0 : Int) (b1_1 : Int) (b1_2 : Int) (b1_3 : Int) : arunE (pg J2 J4) 5000 T4 (mk p4 (t6, r0, b1_0, b1_1, b1_2, b1_3, ())) = List.replicate (arunE (pg J2 J4) 5000 T4 (mk p4 (t6, r0, b1_0, b1_1, b1_2, b1_3, ()))).length (F4 (J2 T2) t6 r0 b1_0 b1_1 b1_2 b1_3) := by kernel_rfl
noncomputable def L4 (J2 : P2 → Option PO) : P4 → Option PO := fun x => F4 J2 x.1 x.2.1 x.2.2.1 x.2.2.2.1 x.2.2.2.2.1 x.2.2.2.2.2.1
noncomputable def L2 : P2 → Option PO := lfp fun J2 x => F2 (L4 J2) x.1 x.2.1 x.2.2.1 x.2.2.2.1 x.2.2.2.2.1 x.2.2.2.2.2.1
noncomputable def impl : PI → Option PO := fun x => F0 L2 x.1 x.2.1
theorem F4_le {J2 J2' : P2 → Option PO} (h2 : OLe J2 J2') (t6 : Int) (r0 : List (Int × Int × Int × Int)) (b1_0 : Int) (b1_1 : Int) (b1_2 : Int) (b1_3 : Int) : OptLe (F4 J2 t6 r0 b1_0 b1_1 b1_2 b1_3) (F4 J2' t6 r0 b1_0 b1_1 b1_2 b1_3) := by unfold F4; exact .cond (.cond (.refl _) (.of h2 _)) (.refl _)
theorem F2_le {J4 J4' : P4 → Option PO} (h4 : OLe J4 J4') (t6 : Int) (r0 : List (Int × Int × Int × Int)) (b1_0 : Int) (b1_1 : Int) (b1_2 : Int) (b1_3 : Int) : OptLe (F2 J4 t6 r0 b1_0 b1_1 b1_2 b1_3) (F2 J4' t6 r0 b1_0 b1_1 b1_2 b1_3) := by unfold F2; exact .cond (.of h4 _) (.refl _)
theorem L4_eq (J2 : P2 → Option PO) (t6 : Int) (r0 : List (Int × Int × Int × Int)) (b1_0 : Int) (b1_1 : Int) (b1_2 : Int) (b1_3 : Int) : L4 J2 (t6, r0, b1_0, b1_1, b1_2, b1_3, ()) = F4 J2 t6 r0 b1_0 b1_1 b1_2 b1_3 := rfl
theorem L4_le {J2 J2' : P2 → Option PO} (h2 : OLe J2 J2') : OLe (L4 J2) (L4 J2') := fun x => F4_le h2 x.1 x.2.1 x.2.2.1 x.2.2.2.1 x.2.2.2.2.1 x.2.2.2.2.2.1
theorem L2_mono : OMono fun J2 (x : P2) => F2 (L4 J2) x.1 x.2.1 x.2.2.1 x.2.2.2.1 x.2.2.2.2.1 x.2.2.2.2.2.1 := fun J J' h2 x => F2_le (L4_le h2) x.1 x.2.1 x.2.2.1 x.2.2.2.1 x.2.2.2.2.1 x.2.2.2.2.2.1
theorem L2_eq (t6 : Int) (r0 : List (Int × Int × Int × Int)) (b1_0 : Int) (b1_1 : Int) (b1_2 : Int) (b1_3 : Int) : L2 (t6, r0, b1_0, b1_1, b1_2, b1_3, ()) = F2 (L4 (L2)) t6 r0 b1_0 b1_1 b1_2 b1_3 := congrFun (lfp_eq (L2_mono)) _
theorem impl_eq (x1 : Int × Int × Int × Int) (r1 : List (Int × Int × Int × Int)) : impl (x1, r1, ()) = F0 L2 x1 r1 := rfl
theorem con : Con Try.prog 72 2 rs.length 2 pin pout impl := by
  refine con_of_run' (nt := 27) (c := c0) tabGood Try.func72 (by kernel_rfl) (by kernel_rfl) (by kernel_rfl) (by kernel_rfl) (by kernel_rfl) (by kernel_rfl) (by kernel_rfl) ?_
  intro w0 O y hnp
  generalize hPost : (fun (a' : Act) (w' : World) => ∃ μ' S' st', Rel 27 w0 O μ' S' st' a' w' ∧ endOf (tabOf tab) rs 2 pout st' = some y) = Post
  have fin : ∀ (μ : Id → Option Value) (S : Nat → Prop) (st : St) (a : Act) (w : World), Rel 27 w0 O μ S st a w → endOf (tabOf tab) rs 2 pout st = some y → Post a w := fun μ S st a w h he => by rw [← hPost]; exact ⟨μ, S, st, h, he⟩
  have hp : ∀ (J2 : List Item → P2 → Option PO), ∀ (J4 : List Item → P4 → Option PO), Parts Try.prog 72 (pg J2 J4) [(2, cut p2 J2), (4, cut p4 J4)] := fun J2 J4 => ⟨tab_ok tabGood rfl, handNil_ok, rfl⟩
  have g4 : ∀ (J2 : P2 → Option PO), Good Try.prog 27 w0 O Post y T2 p2 J2 → Good Try.prog 27 w0 O Post y T4 p4 (L4 J2) := fun J2 h2 => good_orders (hs := hd) (cv' := hd) (Checked.mixed Try.checked) (hp (atT T2 J2) (atT T4 (fun _ => none))) handNil_ok handNil_nat handNil_nat (runOK_of (hp (atT T2 J2) (atT T4 (fun _ => none))) hnp ⟨cutOK_at h2, cutOK_at good_none, trivial⟩ fin) (fun x => ⟨_, (seg4 (atT T2 J2) (atT T4 (fun _ => none)) x.1 x.2.1 x.2.2.1 x.2.2.2.1 x.2.2.2.2.1 x.2.2.2.2.2.1).trans (by simp only [atT_self] <;> rfl)⟩)
  have g2 : Good Try.prog 27 w0 O Post y T2 p2 L2 := good_lfp fun J2 h2 => good_part (hp (atT T2 (fun _ => none)) (atT T4 (L4 J2))) (runOK_of (hp (atT T2 (fun _ => none)) (atT T4 (L4 J2))) hnp ⟨cutOK_at good_none, cutOK_at (g4 J2 h2), trivial⟩ fin) (fun x => (seg2 (atT T2 (fun _ => none)) (atT T4 (L4 J2)) x.1 x.2.1 x.2.2.1 x.2.2.2.1 x.2.2.2.2.1 x.2.2.2.2.2.1).trans (by simp only [atT_self] <;> rfl))
  exact good_first (hp (atT T2 L2) (atT T4 (fun _ => none))) (runOK_of (hp (atT T2 L2) (atT T4 (fun _ => none))) hnp ⟨cutOK_at g2, cutOK_at good_none, trivial⟩ fin) (fun x => (seg0 (atT T2 L2) (atT T4 (fun _ => none)) x.1 x.2.1).trans (by simp only [atT_self] <;> rfl))
end spec_l20Put

/-! ### loop.example/wholecheck/spec.l20Turned -/
namespace spec_l20Turned
noncomputable abbrev c0 : Code := (Try.f73.body).getD .skip
noncomputable abbrev pin : Tpl := ⟨[⟨0, false, [.d (.int .i64)]⟩], []⟩
noncomputable abbrev pout : Tpl := ⟨[⟨0, false, [.d (.int .i64)]⟩], []⟩
noncomputable abbrev PI := Int × Unit
noncomputable abbrev PO := Int × Unit
noncomputable abbrev rs : List ResultVar := [.tmp 2]
noncomputable def F0 (x0 : Int) : Option PO :=
  bif inb x0 ([0, 1, 2, 4, 3, 5, 7, 6] : List Int).length then
    some (([0, 1, 2, 4, 3, 5, 7, 6] : List Int).getD x0.toNat 0, ())
  else
    none
noncomputable def hd {R : Type} : Hand R := handNil
noncomputable def pg : Prog PO := { nt := 7, np := 1, tb := tabOf tab, hd := hd, cuts := cutsOf [], fin := endOf (tabOf tab) rs 1 pout }
theorem seg0 (x0 : Int) : arun (pg) 5000 [.code c0] (mk pin (x0, ())) = F0 x0 := by kernel_rfl
noncomputable def impl : PI → Option PO := fun x => F0 x.1
theorem impl_eq (x0 : Int) : impl (x0, ()) = F0 x0 := rfl
theorem con : Con Try.prog 73 1 rs.length 1 pin pout impl := by
  refine con_of_run' (nt := 7) (c := c0) tabGood Try.func73 (by kernel_rfl) (by kernel_rfl) (by kernel_rfl) (by kernel_rfl) (by kernel_rfl) (by kernel_rfl) (by kernel_rfl) ?_
  intro w0 O y hnp
  generalize hPost : (fun (a' : Act) (w' : World) => ∃ μ' S' st', Rel 7 w0 O μ' S' st' a' w' ∧ endOf (tabOf tab) rs 1 pout st' = some y) = Post
  have fin : ∀ (μ : Id → Option Value) (S : Nat → Prop) (st : St) (a : Act) (w : World), Rel 7 w0 O μ S st a w → endOf (tabOf tab) rs 1 pout st = some y → Post a w := fun μ S st a w h he => by rw [← hPost]; exact ⟨μ, S, st, h, he⟩
  have hp : Parts Try.prog 73 (pg) [] := ⟨tab_ok tabGood rfl, handNil_ok, rfl⟩
  exact good_first (hp) (runOK_of (hp) hnp trivial fin) (fun x => (seg0 x.1))
end spec_l20Turned

/-! ### loop.example/wholecheck/spec.l20Push -/
namespace spec_l20Push
noncomputable abbrev c0 : Code := (Try.f46.body).getD .skip
noncomputable abbrev pin : Tpl := ⟨[⟨0, false, [.row 500001]⟩, ⟨1, false, [.d (.sl (.prod (.int .i64) (.prod (.int .i64) (.prod (.int .i64) (.last (.int .i64))))))]⟩, ⟨2, false, [.d (.int .i64)]⟩, ⟨3, false, [.d .bool]⟩], [(500001, .row 75 false (.prod (.int .i64) (.prod (.int .i64) (.prod (.int .i64) (.last (.int .i64))))))]⟩
noncomputable abbrev pout : Tpl := ⟨[⟨0, false, [.row 500200]⟩, ⟨1, false, [.d (.int .i64)]⟩], [(500200, .row 75 false (.prod (.int .i64) (.prod (.int .i64) (.prod (.int .i64) (.last (.int .i64))))))]⟩
noncomputable abbrev p12 : Tpl := ⟨[⟨0, false, [.row 3000000]⟩, ⟨1, false, [.d (.sl (.prod (.int .i64) (.prod (.int .i64) (.prod (.int .i64) (.last (.int .i64))))))]⟩, ⟨3, false, [.d .bool]⟩, ⟨10, false, [.ptr 3000001 0]⟩, ⟨13, false, [.d (.int .i64)]⟩], [(3000000, .row 75 false (.prod (.int .i64) (.prod (.int .i64) (.prod (.int .i64) (.last (.int .i64)))))), (3000001, .box [.d (.int .i64), .d (.int .i64), .d (.int .i64), .d (.int .i64)])]⟩
noncomputable def T12 : List Item := (find 12 c0 []).getD []
noncomputable abbrev PI := (List (Int × Int × Int × Int)) × Int × Bool × (List (Int × Int × Int × Int)) × Unit
noncomputable abbrev PO := Int × (List (Int × Int × Int × Int)) × Unit
noncomputable abbrev P12 := (List (Int × Int × Int × Int)) × Bool × Int × (List (Int × Int × Int × Int)) × Int × Int × Int × Int × Unit
noncomputable abbrev rs : List ResultVar := [.tmp 8, .tmp 9]
noncomputable def F0 (J12 : P12 → Option PO) (Gspec_l20Push : PI → Option PO) (Gspec_l20Put : spec_l20Put.PI → Option spec_l20Put.PO) (Gspec_l20Turned : spec_l20Turned.PI → Option spec_l20Turned.PO) (x1 : List (Int × Int × Int × Int)) (x2 : Int) (x3 : Bool) (r1 : List (Int × Int × Int × Int)) : Option PO :=
  bif inb x2 x1.length then
    bif (x1.getD x2.toNat (0, 0, 0, 0)).1 == 2 then
      Option.bind (Gspec_l20Push (x1, (x1.getD x2.toNat (0, 0, 0, 0)).2.2.1, !x3, r1, ())) fun y0 =>
      some (y0.1, y0.2.1, ())
    else
      bif decide ((x1.getD x2.toNat (0, 0, 0, 0)).1 ≤ 1) then
        Option.bind (Gspec_l20Put (x1.getD x2.toNat (0, 0, 0, 0), r1, ())) fun y1 =>
        bif x3 then
          Option.bind (Gspec_l20Put ((2, 0, y1.1, y1.1), y1.2.1, ())) fun y2 =>
          some (y2.1, y2.2.1, ())
        else
          some (y1.1, y1.2.1, ())
      else
        bif x3 then
          Option.bind (Gspec_l20Turned ((x1.getD x2.toNat (0, 0, 0, 0)).1, ())) fun y3 =>
          J12 (x1, x3, y3.1, r1, (x1.getD x2.toNat (0, 0, 0, 0)).1, (x1.getD x2.toNat (0, 0, 0, 0)).2.1, (x1.getD x2.toNat (0, 0, 0, 0)).2.2.1, (x1.getD x2.toNat (0, 0, 0, 0)).2.2.2, ())
        else
          J12 (x1, x3, (x1.getD x2.toNat (0, 0, 0, 0)).1, r1, (x1.getD x2.toNat (0, 0, 0, 0)).1, (x1.getD x2.toNat (0, 0, 0, 0)).2.1, (x1.getD x2.toNat (0, 0, 0, 0)).2.2.1, (x1.getD x2.toNat (0, 0, 0, 0)).2.2.2, ())
  else
    none
noncomputable def F12 (Gspec_l20Push : PI → Option PO) (Gspec_l20Put : spec_l20Put.PI → Option spec_l20Put.PO) (t1 : List (Int × Int × Int × Int)) (t3 : Bool) (t13 : Int) (r0 : List (Int × Int × Int × Int)) (b1_0 : Int) (b1_1 : Int) (b1_2 : Int) (b1_3 : Int) : Option PO :=
  Option.bind (Gspec_l20Push (t1, b1_2, t3, r0, ())) fun y4 =>
  bif t13 == 5 then
    Option.bind (Gspec_l20Put ((t13, 0, y4.1, y4.1), y4.2.1, ())) fun y5 =>
    some (y5.1, y5.2.1, ())
  else
    Option.bind (Gspec_l20Push (t1, b1_3, t3, y4.2.1, ())) fun y6 =>
    Option.bind (Gspec_l20Put ((t13, 0, y4.1, y6.1), y6.2.1, ())) fun y7 =>
    some (y7.1, y7.2.1, ())
noncomputable def hd {R : Type} (Gspec_l20Push : PI → Option PO) (Gspec_l20Put : spec_l20Put.PI → Option spec_l20Put.PO) (Gspec_l20Turned : spec_l20Turned.PI → Option spec_l20Turned.PO) : Hand R := (handAt 73 [57] true ⟨1, 1, 1, spec_l20Turned.pin, spec_l20Turned.pout, Gspec_l20Turned⟩ (handAt 72 [40, 48, 74, 91] true ⟨2, 2, 2, spec_l20Put.pin, spec_l20Put.pout, Gspec_l20Put⟩ (handAt 46 [31, 64, 83] true ⟨4, 2, 4, pin, pout, Gspec_l20Push⟩ handNil)))
noncomputable def pg (Gspec_l20Push : PI → Option PO) (Gspec_l20Put : spec_l20Put.PI → Option spec_l20Put.PO) (Gspec_l20Turned : spec_l20Turned.PI → Option spec_l20Turned.PO) (J12 : List Item → P12 → Option PO) : Prog PO := { nt := 94, np := 4, tb := tabOf tab, hd := hd Gspec_l20Push Gspec_l20Put Gspec_l20Turned, cuts := cutsOf [(12, cut p12 J12)], fin := endOf (tabOf tab) rs 4 pout }
theorem seg0 (Gspec_l20Push : PI → Option PO) (Gspec_l20Put : spec_l20Put.PI → Option spec_l20Put.PO) (Gspec_l20Turned : spec_l20Turned.PI → Option spec_l20Turned.PO) (J12 : List Item → P12 → Option PO) (x1 : List (Int × Int × Int × Int)) (x2 : Int) (x3 : Bool) (r1 : List (Int × Int × Int × Int)) : arun (pg Gspec_l20Push Gspec_l20Put Gspec_l20Turned J12) 5000 [.code c0] (mk pin (x1, x2, x3, r1, ())) = F0 (J12 T12) Gspec_l20Push Gspec_l20Put Gspec_l20Turned x1 x2 x3 r1 := by kernel_rfl
theorem seg12 (Gspec_l20Push : PI → Option PO) (Gspec_l20Put : spec_l20Put.PI → Option spec_l20Put.PO) (Gspec_l20Turned : spec_l20Turned.PI → Option spec_l20Turned.PO) (J12 : List Item → P12 → Option PO) (t1 : List (Int × Int × Int × Int)) (t3 : Bool) (t13 : Int) (r0 : List (Int × Int × Int × Int)) (b1_0 : Int) (b1_1 : Int) (b1_2 : Int) (b1_3 : Int) : arun1 (pg Gspec_l20Push Gspec_l20Put Gspec_l20Turned J12) 5000 T12 (mk p12 (t1, t3, t13, r0, b1_0, b1_1, b1_2, b1_3, ())) = F12 Gspec_l20Push Gspec_l20Put t1 t3 t13 r0 b1_0 b1_1 b1_2 b1_3 := by kernel_rfl
noncomputable def L12 (Gself : PI → Option PO) : P12 → Option PO := fun x => F12 Gself spec_l20Put.impl x.1 x.2.1 x.2.2.1 x.2.2.2.1 x.2.2.2.2.1 x.2.2.2.2.2.1 x.2.2.2.2.2.2.1 x.2.2.2.2.2.2.2.1
noncomputable def step (Gself : PI → Option PO) : PI → Option PO := fun x => F0 (L12 Gself) Gself spec_l20Put.impl spec_l20Turned.impl x.1 x.2.1 x.2.2.1 x.2.2.2.1
noncomputable def impl : PI → Option PO := lfp step
theorem F12_le {Gself Gself' : PI → Option PO} (hG : OLe Gself Gself') {Gspec_l20Put : spec_l20Put.PI → Option spec_l20Put.PO} (t1 : List (Int × Int × Int × Int)) (t3 : Bool) (t13 : Int) (r0 : List (Int × Int × Int × Int)) (b1_0 : Int) (b1_1 : Int) (b1_2 : Int) (b1_3 : Int) : OptLe (F12 Gself Gspec_l20Put t1 t3 t13 r0 b1_0 b1_1 b1_2 b1_3) (F12 Gself' Gspec_l20Put t1 t3 t13 r0 b1_0 b1_1 b1_2 b1_3) := by unfold F12; exact .bind (.of hG _) fun _ => .cond (.refl _) (.bind (.of hG _) fun _ => .refl _)
theorem F0_le {J12 J12' : P12 → Option PO} (h12 : OLe J12 J12') {Gself Gself' : PI → Option PO} (hG : OLe Gself Gself') {Gspec_l20Put : spec_l20Put.PI → Option spec_l20Put.PO} {Gspec_l20Turned : spec_l20Turned.PI → Option spec_l20Turned.PO} (x1 : List (Int × Int × Int × Int)) (x2 : Int) (x3 : Bool) (r1 : List (Int × Int × Int × Int)) : OptLe (F0 J12 Gself Gspec_l20Put Gspec_l20Turned x1 x2 x3 r1) (F0 J12' Gself' Gspec_l20Put Gspec_l20Turned x1 x2 x3 r1) := by unfold F0; exact .cond (.cond (.bind (.of hG _) fun _ => .refl _) (.cond (.refl _) (.cond (.bind (.refl _) fun _ => .of h12 _) (.of h12 _)))) (.refl _)
theorem L12_eq (Gself : PI → Option PO) (t1 : List (Int × Int × Int × Int)) (t3 : Bool) (t13 : Int) (r0 : List (Int × Int × Int × Int)) (b1_0 : Int) (b1_1 : Int) (b1_2 : Int) (b1_3 : Int) : L12 Gself (t1, t3, t13, r0, b1_0, b1_1, b1_2, b1_3, ()) = F12 Gself spec_l20Put.impl t1 t3 t13 r0 b1_0 b1_1 b1_2 b1_3 := rfl
theorem L12_le {Gself Gself' : PI → Option PO} (hG : OLe Gself Gself') : OLe (L12 Gself) (L12 Gself') := fun x => F12_le hG x.1 x.2.1 x.2.2.1 x.2.2.2.1 x.2.2.2.2.1 x.2.2.2.2.2.1 x.2.2.2.2.2.2.1 x.2.2.2.2.2.2.2.1
theorem step_mono : OMono step := fun G G' hG x => F0_le (L12_le hG) hG x.1 x.2.1 x.2.2.1 x.2.2.2.1
theorem impl_eq (x1 : List (Int × Int × Int × Int)) (x2 : Int) (x3 : Bool) (r1 : List (Int × Int × Int × Int)) : impl (x1, x2, x3, r1, ()) = F0 (L12 impl) impl spec_l20Put.impl spec_l20Turned.impl x1 x2 x3 r1 := congrFun (lfp_eq step_mono) _
theorem con_step (Gself : PI → Option PO) (hself : Con Try.prog 46 4 rs.length 4 pin pout Gself) : Con Try.prog 46 4 rs.length 4 pin pout (step Gself) := by
  refine con_of_run' (nt := 94) (c := c0) tabGood Try.func46 (by kernel_rfl) (by kernel_rfl) (by kernel_rfl) (by kernel_rfl) (by kernel_rfl) (by kernel_rfl) (by kernel_rfl) ?_
  intro w0 O y hnp
  generalize hPost : (fun (a' : Act) (w' : World) => ∃ μ' S' st', Rel 94 w0 O μ' S' st' a' w' ∧ endOf (tabOf tab) rs 4 pout st' = some y) = Post
  have fin : ∀ (μ : Id → Option Value) (S : Nat → Prop) (st : St) (a : Act) (w : World), Rel 94 w0 O μ S st a w → endOf (tabOf tab) rs 4 pout st = some y → Post a w := fun μ S st a w h he => by rw [← hPost]; exact ⟨μ, S, st, h, he⟩
  have hp : ∀ (J12 : List Item → P12 → Option PO), Parts Try.prog 46 (pg Gself spec_l20Put.impl spec_l20Turned.impl J12) [(12, cut p12 J12)] := fun J12 => ⟨tab_ok tabGood rfl, (handAt_ok spec_l20Turned.con (handAt_ok spec_l20Put.con (handAt_ok hself handNil_ok))), rfl⟩
  have g12 : Good Try.prog 94 w0 O Post y T12 p12 (L12 Gself) := good_part (hp (atT T12 (fun _ => none))) (runOK_of (hp (atT T12 (fun _ => none))) hnp ⟨cutOK_at good_none, trivial⟩ fin) (fun x => (seg12 Gself spec_l20Put.impl spec_l20Turned.impl (atT T12 (fun _ => none)) x.1 x.2.1 x.2.2.1 x.2.2.2.1 x.2.2.2.2.1 x.2.2.2.2.2.1 x.2.2.2.2.2.2.1 x.2.2.2.2.2.2.2.1))
  exact good_first (hp (atT T12 (L12 Gself))) (runOK_of (hp (atT T12 (L12 Gself))) hnp ⟨cutOK_at g12, trivial⟩ fin) (fun x => (seg0 Gself spec_l20Put.impl spec_l20Turned.impl (atT T12 (L12 Gself)) x.1 x.2.1 x.2.2.1 x.2.2.2.1).trans (by simp only [atT_self] <;> rfl))
theorem con : Con Try.prog 46 4 rs.length 4 pin pout impl := con_lfp (c := c0) Try.func46 (by kernel_rfl) (by kernel_rfl) (by kernel_rfl) con_step
end spec_l20Push

/-! ### loop.example/wholecheck/spec.Pushed -/
namespace spec_Pushed
noncomputable abbrev c0 : Code := (Try.f16.body).getD .skip
noncomputable abbrev pin : Tpl := ⟨[⟨0, false, [.d (.sl (.prod (.int .i64) (.prod (.int .i64) (.prod (.int .i64) (.last (.int .i64))))))]⟩, ⟨1, false, [.d (.int .i64)]⟩], []⟩
noncomputable abbrev pout : Tpl := ⟨[⟨0, false, [.d (.sl (.prod (.int .i64) (.prod (.int .i64) (.prod (.int .i64) (.last (.int .i64))))))]⟩], []⟩
noncomputable abbrev PI := (List (Int × Int × Int × Int)) × Int × Unit
noncomputable abbrev PO := (List (Int × Int × Int × Int)) × Unit
noncomputable abbrev rs : List ResultVar := [.tmp 4]
noncomputable def F0 (Gspec_TimesValid : spec_TimesValid.PI → Option spec_TimesValid.PO) (Gspec_l20Push : spec_l20Push.PI → Option spec_l20Push.PO) (x0 : List (Int × Int × Int × Int)) (x1 : Int) : Option PO :=
  Option.bind (Gspec_TimesValid (x0, x1, ())) fun y0 =>
  bif !y0.1 then
    some ([], ())
  else
    Option.bind (Gspec_l20Push (x0, wI ((x0.length : Int) - 1), false, ([] : List (Int × Int × Int × Int)), ())) fun y1 =>
    bif decide (wI (y1.1 + 1) > 24) then
      some ([], ())
    else
      bif decide (0 ≤ wI (y1.1 + 1)) && decide (wI (y1.1 + 1) ≤ (y1.2.1.length : Int)) then
        some ((y1.2.1.drop 0).take ((wI (y1.1 + 1)).toNat - 0), ())
      else
        none
noncomputable def hd {R : Type} (Gspec_TimesValid : spec_TimesValid.PI → Option spec_TimesValid.PO) (Gspec_l20Push : spec_l20Push.PI → Option spec_l20Push.PO) : Hand R := (handAt 46 [17] true ⟨4, 2, 4, spec_l20Push.pin, spec_l20Push.pout, Gspec_l20Push⟩ (handAt 45 [9] true ⟨2, 1, 2, spec_TimesValid.pin, spec_TimesValid.pout, Gspec_TimesValid⟩ handNil))
noncomputable def pg (Gspec_TimesValid : spec_TimesValid.PI → Option spec_TimesValid.PO) (Gspec_l20Push : spec_l20Push.PI → Option spec_l20Push.PO) : Prog PO := { nt := 27, np := 2, tb := tabOf tab, hd := hd Gspec_TimesValid Gspec_l20Push, cuts := cutsOf [], fin := endOf (tabOf tab) rs 2 pout }
theorem seg0 (Gspec_TimesValid : spec_TimesValid.PI → Option spec_TimesValid.PO) (Gspec_l20Push : spec_l20Push.PI → Option spec_l20Push.PO) (x0 : List (Int × Int × Int × Int)) (x1 : Int) : arun (pg Gspec_TimesValid Gspec_l20Push) 5000 [.code c0] (mk pin (x0, x1, ())) = F0 Gspec_TimesValid Gspec_l20Push x0 x1 := by kernel_rfl
noncomputable def impl : PI → Option PO := fun x => F0 spec_TimesValid.impl spec_l20Push.impl x.1 x.2.1
theorem impl_eq (x0 : List (Int × Int × Int × Int)) (x1 : Int) : impl (x0, x1, ()) = F0 spec_TimesValid.impl spec_l20Push.impl x0 x1 := rfl
theorem con : Con Try.prog 16 2 rs.length 2 pin pout impl := by
  refine con_of_run' (nt := 27) (c := c0) tabGood Try.func16 (by kernel_rfl) (by kernel_rfl) (by kernel_rfl) (by kernel_rfl) (by kernel_rfl) (by kernel_rfl) (by kernel_rfl) ?_
  intro w0 O y hnp
  generalize hPost : (fun (a' : Act) (w' : World) => ∃ μ' S' st', Rel 27 w0 O μ' S' st' a' w' ∧ endOf (tabOf tab) rs 2 pout st' = some y) = Post
  have fin : ∀ (μ : Id → Option Value) (S : Nat → Prop) (st : St) (a : Act) (w : World), Rel 27 w0 O μ S st a w → endOf (tabOf tab) rs 2 pout st = some y → Post a w := fun μ S st a w h he => by rw [← hPost]; exact ⟨μ, S, st, h, he⟩
  have hp : Parts Try.prog 16 (pg spec_TimesValid.impl spec_l20Push.impl) [] := ⟨tab_ok tabGood rfl, (handAt_ok spec_l20Push.con (handAt_ok spec_TimesValid.con handNil_ok)), rfl⟩
  exact good_first (hp) (runOK_of (hp) hnp trivial fin) (fun x => (seg0 spec_TimesValid.impl spec_l20Push.impl x.1 x.2.1))
end spec_Pushed

/-! ### loop.example/wholecheck/impl.in -/
namespace impl_in
noncomputable abbrev c0 : Code := (Try.f37.body).getD .skip
noncomputable abbrev pin : Tpl := ⟨[⟨0, false, [.d (.int .i64)]⟩, ⟨1, false, [.d (.int .i64)]⟩, ⟨2, false, [.d (.int .i64)]⟩], []⟩
noncomputable abbrev pout : Tpl := ⟨[⟨0, false, [.d .bool]⟩], []⟩
noncomputable abbrev PI := Int × Int × Int × Unit
noncomputable abbrev PO := Bool × Unit
noncomputable abbrev rs : List ResultVar := [.tmp 6]
noncomputable def F0 (x0 : Int) (x1 : Int) (x2 : Int) : Option PO :=
  bif decide (x0 ≥ x1) then
    some (decide (x0 ≤ x2), ())
  else
    some (false, ())
noncomputable def hd {R : Type} : Hand R := handNil
noncomputable def pg : Prog PO := { nt := 15, np := 3, tb := tabOf tab, hd := hd, cuts := cutsOf [], fin := endOf (tabOf tab) rs 3 pout }
theorem seg0 (x0 : Int) (x1 : Int) (x2 : Int) : arun (pg) 5000 [.code c0] (mk pin (x0, x1, x2, ())) = F0 x0 x1 x2 := by kernel_rfl
noncomputable def impl : PI → Option PO := fun x => F0 x.1 x.2.1 x.2.2.1
theorem impl_eq (x0 : Int) (x1 : Int) (x2 : Int) : impl (x0, x1, x2, ()) = F0 x0 x1 x2 := rfl
theorem con : Con Try.prog 37 3 rs.length 3 pin pout impl := by
  refine con_of_run' (nt := 15) (c := c0) tabGood Try.func37 (by kernel_rfl) (by kernel_rfl) (by kernel_rfl) (by kernel_rfl) (by kernel_rfl) (by kernel_rfl) (by kernel_rfl) ?_
  intro w0 O y hnp
  generalize hPost : (fun (a' : Act) (w' : World) => ∃ μ' S' st', Rel 15 w0 O μ' S' st' a' w' ∧ endOf (tabOf tab) rs 3 pout st' = some y) = Post
  have fin : ∀ (μ : Id → Option Value) (S : Nat → Prop) (st : St) (a : Act) (w : World), Rel 15 w0 O μ S st a w → endOf (tabOf tab) rs 3 pout st = some y → Post a w := fun μ S st a w h he => by rw [← hPost]; exact ⟨μ, S, st, h, he⟩
  have hp : Parts Try.prog 37 (pg) [] := ⟨tab_ok tabGood rfl, handNil_ok, rfl⟩
  exact good_first (hp) (runOK_of (hp) hnp trivial fin) (fun x => (seg0 x.1 x.2.1 x.2.2.1))
end impl_in

/-! ### loop.example/wholecheck/impl.TimesValid -/
namespace impl_TimesValid
noncomputable abbrev c0 : Code := (Try.f48.body).getD .skip
noncomputable abbrev pin : Tpl := ⟨[⟨0, false, [.d (.sl (.prod (.int .i64) (.prod (.int .i64) (.prod (.int .i64) (.last (.int .i64))))))]⟩, ⟨1, false, [.d (.int .i64)]⟩], []⟩
noncomputable abbrev pout : Tpl := ⟨[⟨0, false, [.d .bool]⟩], []⟩
noncomputable abbrev p4 : Tpl := ⟨[⟨1, false, [.d (.int .i64)]⟩, ⟨17, false, [.d (.sl (.prod (.int .i64) (.prod (.int .i64) (.prod (.int .i64) (.last (.int .i64))))))]⟩, ⟨18, false, [.d (.int .i64)]⟩, ⟨19, false, [.d (.int .i64)]⟩], []⟩
noncomputable def T4 : List Item := (find 4 c0 []).getD []
noncomputable abbrev PI := (List (Int × Int × Int × Int)) × Int × Unit
noncomputable abbrev PO := Bool × Unit
noncomputable abbrev P4 := Int × (List (Int × Int × Int × Int)) × Int × Int × Unit
noncomputable abbrev rs : List ResultVar := [.tmp 4]
noncomputable def F0 (J4 : P4 → Option PO) (Gimpl_in : impl_in.PI → Option impl_in.PO) (x0 : List (Int × Int × Int × Int)) (x1 : Int) : Option PO :=
  Option.bind (Gimpl_in (x1, 0, 4, ())) fun y0 =>
  bif !y0.1 then
    some (false, ())
  else
    Option.bind (Gimpl_in ((x0.length : Int), 1, 24, ())) fun y1 =>
    bif !y1.1 then
      some (false, ())
    else
      J4 (x1, x0, (x0.length : Int), 0, ())
noncomputable def F4 (J4 : P4 → Option PO) (Gimpl_in : impl_in.PI → Option impl_in.PO) (t1 : Int) (t17 : List (Int × Int × Int × Int)) (t18 : Int) (t19 : Int) : Option PO :=
  bif decide (t19 < t18) then
    bif inb t19 t17.length then
      Option.bind (Gimpl_in ((t17.getD t19.toNat (0, 0, 0, 0)).1, 0, 7, ())) fun y2 =>
      bif (t17.getD t19.toNat (0, 0, 0, 0)).1 == 0 then
        bif !(((t17.getD t19.toNat (0, 0, 0, 0)).1 == 0) && (((t17.getD t19.toNat (0, 0, 0, 0)).2.1 == 0) && (((t17.getD t19.toNat (0, 0, 0, 0)).2.2.1 == 0) && ((t17.getD t19.toNat (0, 0, 0, 0)).2.2.2 == 0)))) then
          some (false, ())
        else
          J4 (t1, t17, t18, wI (t19 + 1), ())
      else
        bif (t17.getD t19.toNat (0, 0, 0, 0)).1 == 1 then
          Option.bind (Gimpl_in ((t17.getD t19.toNat (0, 0, 0, 0)).2.1, 0, wI (t1 - 1), ())) fun y3 =>
          bif y3.1 then
            bif (t17.getD t19.toNat (0, 0, 0, 0)).2.2.1 == 0 then
              bif !((t17.getD t19.toNat (0, 0, 0, 0)).2.2.2 == 0) then
                some (false, ())
              else
                J4 (t1, t17, t18, wI (t19 + 1), ())
            else
              some (false, ())
          else
            some (false, ())
        else
          bif y2.1 then
            bif (t17.getD t19.toNat (0, 0, 0, 0)).2.1 == 0 then
              Option.bind (Gimpl_in ((t17.getD t19.toNat (0, 0, 0, 0)).2.2.1, 0, wI (t19 - 1), ())) fun y4 =>
              bif y4.1 then
                Option.bind (Gimpl_in ((t17.getD t19.toNat (0, 0, 0, 0)).2.2.2, 0, wI (t19 - 1), ())) fun y5 =>
                bif y5.1 then
                  bif (t17.getD t19.toNat (0, 0, 0, 0)).2.2.1 == (t17.getD t19.toNat (0, 0, 0, 0)).2.2.2 then
                    J4 (t1, t17, t18, wI (t19 + 1), ())
                  else
                    bif (t17.getD t19.toNat (0, 0, 0, 0)).1 != 2 then
                      bif !((t17.getD t19.toNat (0, 0, 0, 0)).1 != 5) then
                        some (false, ())
                      else
                        J4 (t1, t17, t18, wI (t19 + 1), ())
                    else
                      some (false, ())
                else
                  some (false, ())
              else
                some (false, ())
            else
              some (false, ())
          else
            some (false, ())
    else
      none
  else
    some (true, ())
noncomputable def hd {R : Type} (Gimpl_in : impl_in.PI → Option impl_in.PO) : Hand R := (handAt 37 [9, 14, 26, 40, 47, 77] true ⟨3, 1, 3, impl_in.pin, impl_in.pout, Gimpl_in⟩ handNil)
noncomputable def pg (Gimpl_in : impl_in.PI → Option impl_in.PO) (J4 : List Item → P4 → Option PO) : Prog PO := { nt := 91, np := 2, tb := tabOf tab, hd := hd Gimpl_in, cuts := cutsOf [(4, cut p4 J4)], fin := endOf (tabOf tab) rs 2 pout }
theorem seg0 (Gimpl_in : impl_in.PI → Option impl_in.PO) (J4 : List Item → P4 → Option PO) (x0 : List (Int × Int × Int × Int)) (x1 : Int) : arun (pg Gimpl_in J4) 5000 [.code c0] (mk pin (x0, x1, ())) = F0 (J4 T4) Gimpl_in x0 x1 := by kernel_rfl
theorem seg4 (Gimpl_in : impl_in.PI → Option impl_in.PO) (J4 : List Item → P4 → Option PO) (t1 : Int) (t17 : List (Int × Int × Int × Int)) (t18 : Int) (t19 : Int) : arun1 (pg Gimpl_in J4) 5000 T4 (mk p4 (t1, t17, t18, t19, ())) = F4 (J4 T4) Gimpl_in t1 t17 t18 t19 := by kernel_rfl
noncomputable def L4 : P4 → Option PO := lfp fun J4 x => F4 J4 impl_in.impl x.1 x.2.1 x.2.2.1 x.2.2.2.1
noncomputable def impl : PI → Option PO := fun x => F0 L4 impl_in.impl x.1 x.2.1
theorem F4_le {J4 J4' : P4 → Option PO} (h4 : OLe J4 J4') {Gimpl_in : impl_in.PI → Option impl_in.PO} (t1 : Int) (t17 : List (Int × Int × Int × Int)) (t18 : Int) (t19 : Int) : OptLe (F4 J4 Gimpl_in t1 t17 t18 t19) (F4 J4' Gimpl_in t1 t17 t18 t19) := by unfold F4; exact .cond (.cond (.bind (.refl _) fun _ => .cond (.cond (.refl _) (.of h4 _)) (.cond (.bind (.refl _) fun _ => .cond (.cond (.cond (.refl _) (.of h4 _)) (.refl _)) (.refl _)) (.cond (.cond (.bind (.refl _) fun _ => .cond (.bind (.refl _) fun _ => .cond (.cond (.of h4 _) (.cond (.cond (.refl _) (.of h4 _)) (.refl _))) (.refl _)) (.refl _)) (.refl _)) (.refl _)))) (.refl _)) (.refl _)
theorem L4_mono : OMono fun J4 (x : P4) => F4 J4 impl_in.impl x.1 x.2.1 x.2.2.1 x.2.2.2.1 := fun J J' h4 x => F4_le h4 x.1 x.2.1 x.2.2.1 x.2.2.2.1
theorem L4_eq (t1 : Int) (t17 : List (Int × Int × Int × Int)) (t18 : Int) (t19 : Int) : L4 (t1, t17, t18, t19, ()) = F4 (L4) impl_in.impl t1 t17 t18 t19 := congrFun (lfp_eq (L4_mono)) _
theorem impl_eq (x0 : List (Int × Int × Int × Int)) (x1 : Int) : impl (x0, x1, ()) = F0 L4 impl_in.impl x0 x1 := rfl
theorem con : Con Try.prog 48 2 rs.length 2 pin pout impl := by
  refine con_of_run' (nt := 91) (c := c0) tabGood Try.func48 (by kernel_rfl) (by kernel_rfl) (by kernel_rfl) (by kernel_rfl) (by kernel_rfl) (by kernel_rfl) (by kernel_rfl) ?_
  intro w0 O y hnp
  generalize hPost : (fun (a' : Act) (w' : World) => ∃ μ' S' st', Rel 91 w0 O μ' S' st' a' w' ∧ endOf (tabOf tab) rs 2 pout st' = some y) = Post
  have fin : ∀ (μ : Id → Option Value) (S : Nat → Prop) (st : St) (a : Act) (w : World), Rel 91 w0 O μ S st a w → endOf (tabOf tab) rs 2 pout st = some y → Post a w := fun μ S st a w h he => by rw [← hPost]; exact ⟨μ, S, st, h, he⟩
  have hp : ∀ (J4 : List Item → P4 → Option PO), Parts Try.prog 48 (pg impl_in.impl J4) [(4, cut p4 J4)] := fun J4 => ⟨tab_ok tabGood rfl, (handAt_ok impl_in.con handNil_ok), rfl⟩
  have g4 : Good Try.prog 91 w0 O Post y T4 p4 L4 := good_lfp fun J4 h4 => good_part (hp (atT T4 J4)) (runOK_of (hp (atT T4 J4)) hnp ⟨cutOK_at h4, trivial⟩ fin) (fun x => (seg4 impl_in.impl (atT T4 J4) x.1 x.2.1 x.2.2.1 x.2.2.2.1).trans (by simp only [atT_self] <;> rfl))
  exact good_first (hp (atT T4 L4)) (runOK_of (hp (atT T4 L4)) hnp ⟨cutOK_at g4, trivial⟩ fin) (fun x => (seg0 impl_in.impl (atT T4 L4) x.1 x.2.1).trans (by simp only [atT_self] <;> rfl))
end impl_TimesValid

/-! ### slices.Index[[]loop.example/wholecheck/impl.Time,loop.example/wholecheck/impl.Time] -/
namespace slices_Index_of
noncomputable abbrev c0 : Code := (Try.f88.body).getD .skip
noncomputable abbrev pin : Tpl := ⟨[⟨0, false, [.d (.sl (.prod (.int .i64) (.prod (.int .i64) (.prod (.int .i64) (.last (.int .i64))))))]⟩, ⟨1, true, [.d (.prod (.int .i64) (.prod (.int .i64) (.prod (.int .i64) (.last (.int .i64)))))]⟩], []⟩
noncomputable abbrev pout : Tpl := ⟨[⟨0, false, [.d (.int .i64)]⟩], []⟩
noncomputable abbrev p2 : Tpl := ⟨[⟨0, false, [.d (.sl (.prod (.int .i64) (.prod (.int .i64) (.prod (.int .i64) (.last (.int .i64))))))]⟩, ⟨3, false, [.ptr 3000000 0]⟩, ⟨7, false, [.d (.int .i64)]⟩, ⟨8, false, [.d (.int .i64)]⟩], [(3000000, .box [.d (.int .i64), .d (.int .i64), .d (.int .i64), .d (.int .i64)])]⟩
noncomputable def T2 : List Item := (find 2 c0 []).getD []
noncomputable abbrev p4 : Tpl := ⟨[⟨0, false, [.d (.sl (.prod (.int .i64) (.prod (.int .i64) (.prod (.int .i64) (.last (.int .i64))))))]⟩, ⟨3, false, [.ptr 3000000 0]⟩, ⟨5, false, [.d (.int .i64)]⟩, ⟨7, false, [.d (.int .i64)]⟩, ⟨8, false, [.d (.int .i64)]⟩], [(3000000, .box [.d (.int .i64), .d (.int .i64), .d (.int .i64), .d (.int .i64)])]⟩
noncomputable def T4 : List Item := (find 4 c0 []).getD []
noncomputable abbrev PI := (List (Int × Int × Int × Int)) × (Int × Int × Int × Int) × Unit
noncomputable abbrev PO := Int × Unit
noncomputable abbrev P2 := (List (Int × Int × Int × Int)) × Int × Int × Int × Int × Int × Int × Unit
noncomputable abbrev P4 := (List (Int × Int × Int × Int)) × Int × Int × Int × Int × Int × Int × Int × Unit
noncomputable abbrev rs : List ResultVar := [.tmp 4]
noncomputable def F0 (J2 : P2 → Option PO) (x0 : List (Int × Int × Int × Int)) (x1 : Int × Int × Int × Int) : Option PO :=
  J2 (x0, (x0.length : Int), 0, x1.1, x1.2.1, x1.2.2.1, x1.2.2.2, ())
noncomputable def F2 (J4 : P4 → Option PO) (t0 : List (Int × Int × Int × Int)) (t7 : Int) (t8 : Int) (b0_0 : Int) (b0_1 : Int) (b0_2 : Int) (b0_3 : Int) : Option PO :=
  bif decide (t8 < t7) then
    J4 (t0, t8, t7, t8, b0_0, b0_1, b0_2, b0_3, ())
  else
    some ((-1), ())
noncomputable def F4 (J2 : P2 → Option PO) (t0 : List (Int × Int × Int × Int)) (t5 : Int) (t7 : Int) (t8 : Int) (b0_0 : Int) (b0_1 : Int) (b0_2 : Int) (b0_3 : Int) : Option PO :=
  bif inb t5 t0.length then
    bif ((b0_0 == (t0.getD t5.toNat (0, 0, 0, 0)).1) && ((b0_1 == (t0.getD t5.toNat (0, 0, 0, 0)).2.1) && ((b0_2 == (t0.getD t5.toNat (0, 0, 0, 0)).2.2.1) && (b0_3 == (t0.getD t5.toNat (0, 0, 0, 0)).2.2.2)))) then
      some (t5, ())
    else
      J2 (t0, t7, wI (t8 + 1), b0_0, b0_1, b0_2, b0_3, ())
  else
    none
noncomputable def hd {R : Type} : Hand R := handNil
noncomputable def pg (J2 : List Item → P2 → Option PO) (J4 : List Item → P4 → Option PO) : Prog PO := { nt := 19, np := 2, tb := tabOf tab, hd := hd, cuts := cutsOf [(2, cut p2 J2), (4, cut p4 J4)], fin := endOf (tabOf tab) rs 2 pout }
theorem seg0 (J2 : List Item → P2 → Option PO) (J4 : List Item → P4 → Option PO) (x0 : List (Int × Int × Int × Int)) (x1 : Int × Int × Int × Int) : arun (pg J2 J4) 5000 [.code c0] (mk pin (x0, x1, ())) = F0 (J2 T2) x0 x1 := by kernel_rfl
theorem seg2 (J2 : List Item → P2 → Option PO) (J4 : List Item → P4 → Option PO) (t0 : List (Int × Int × Int × Int)) (t7 : Int) (t8 : Int) (b0_0 : Int) (b0_1 : Int) (b0_2 : Int) (b0_3 : Int) : arun1 (pg J2 J4) 5000 T2 (mk p2 (t0, t7, t8, b0_0, b0_1, b0_2, b0_3, ())) = F2 (J4 T4) t0 t7 t8 b0_0 b0_1 b0_2 b0_3 := by kernel_rfl
theorem seg4 (J2 : List Item → P2 → Option PO) (J4 : List Item → P4 → Option PO) (t0 : List (Int × Int × Int × Int)) (t5 : Int) (t7 : Int) (t8 : Int) (b0_0 : Int) (b0_1 : Int) (b0_2 : Int) (b0_3 : Int) : arunE (pg J2 J4) 5000 T4 (mk p4 (t0, t5, t7, t8, b0_0, b0_1, b0_2, b0_3, ())) = List.replicate (arunE (pg J2 J4) 5000 T4 (mk p4 (t0, t5, t7, t8, b0_0, b0_1, b0_2, b0_3, ()))).length (F4 (J2 T2) t0 t5 t7 t8 b0_0 b0_1 b0_2 b0_3) := by kernel_rfl
noncomputable def L4 (J2 : P2 → Option PO) : P4 → Option PO := fun x => F4 J2 x.1 x.2.1 x.2.2.1 x.2.2.2.1 x.2.2.2.2.1 x.2.2.2.2.2.1 x.2.2.2.2.2.2.1 x.2.2.2.2.2.2.2.1
noncomputable def L2 : P2 → Option PO := lfp fun J2 x => F2 (L4 J2) x.1 x.2.1 x.2.2.1 x.2.2.2.1 x.2.2.2.2.1 x.2.2.2.2.2.1 x.2.2.2.2.2.2.1
noncomputable def impl : PI → Option PO := fun x => F0 L2 x.1 x.2.1
theorem F4_le {J2 J2' : P2 → Option PO} (h2 : OLe J2 J2') (t0 : List (Int × Int × Int × Int)) (t5 : Int) (t7 : Int) (t8 : Int) (b0_0 : Int) (b0_1 : Int) (b0_2 : Int) (b0_3 : Int) : OptLe (F4 J2 t0 t5 t7 t8 b0_0 b0_1 b0_2 b0_3) (F4 J2' t0 t5 t7 t8 b0_0 b0_1 b0_2 b0_3) := by unfold F4; exact .cond (.cond (.refl _) (.of h2 _)) (.refl _)
theorem F2_le {J4 J4' : P4 → Option PO} (h4 : OLe J4 J4') (t0 : List (Int × Int × Int × Int)) (t7 : Int) (t8 : Int) (b0_0 : Int) (b0_1 : Int) (b0_2 : Int) (b0_3 : Int) : OptLe (F2 J4 t0 t7 t8 b0_0 b0_1 b0_2 b0_3) (F2 J4' t0 t7 t8 b0_0 b0_1 b0_2 b0_3) := by unfold F2; exact .cond (.of h4 _) (.refl _)
theorem L4_eq (J2 : P2 → Option PO) (t0 : List (Int × Int × Int × Int)) (t5 : Int) (t7 : Int) (t8 : Int) (b0_0 : Int) (b0_1 : Int) (b0_2 : Int) (b0_3 : Int) : L4 J2 (t0, t5, t7, t8, b0_0, b0_1, b0_2, b0_3, ()) = F4 J2 t0 t5 t7 t8 b0_0 b0_1 b0_2 b0_3 := rfl
theorem L4_le {J2 J2' : P2 → Option PO} (h2 : OLe J2 J2') : OLe (L4 J2) (L4 J2') := fun x => F4_le h2 x.1 x.2.1 x.2.2.1 x.2.2.2.1 x.2.2.2.2.1 x.2.2.2.2.2.1 x.2.2.2.2.2.2.1 x.2.2.2.2.2.2.2.1
theorem L2_mono : OMono fun J2 (x : P2) => F2 (L4 J2) x.1 x.2.1 x.2.2.1 x.2.2.2.1 x.2.2.2.2.1 x.2.2.2.2.2.1 x.2.2.2.2.2.2.1 := fun J J' h2 x => F2_le (L4_le h2) x.1 x.2.1 x.2.2.1 x.2.2.2.1 x.2.2.2.2.1 x.2.2.2.2.2.1 x.2.2.2.2.2.2.1
theorem L2_eq (t0 : List (Int × Int × Int × Int)) (t7 : Int) (t8 : Int) (b0_0 : Int) (b0_1 : Int) (b0_2 : Int) (b0_3 : Int) : L2 (t0, t7, t8, b0_0, b0_1, b0_2, b0_3, ()) = F2 (L4 (L2)) t0 t7 t8 b0_0 b0_1 b0_2 b0_3 := congrFun (lfp_eq (L2_mono)) _
theorem impl_eq (x0 : List (Int × Int × Int × Int)) (x1 : Int × Int × Int × Int) : impl (x0, x1, ()) = F0 L2 x0 x1 := rfl
theorem con : Con Try.prog 88 2 rs.length 2 pin pout impl := by
  refine con_of_run' (nt := 19) (c := c0) tabGood Try.func88 (by kernel_rfl) (by kernel_rfl) (by kernel_rfl) (by kernel_rfl) (by kernel_rfl) (by kernel_rfl) (by kernel_rfl) ?_
  intro w0 O y hnp
  generalize hPost : (fun (a' : Act) (w' : World) => ∃ μ' S' st', Rel 19 w0 O μ' S' st' a' w' ∧ endOf (tabOf tab) rs 2 pout st' = some y) = Post
  have fin : ∀ (μ : Id → Option Value) (S : Nat → Prop) (st : St) (a : Act) (w : World), Rel 19 w0 O μ S st a w → endOf (tabOf tab) rs 2 pout st = some y → Post a w := fun μ S st a w h he => by rw [← hPost]; exact ⟨μ, S, st, h, he⟩
  have hp : ∀ (J2 : List Item → P2 → Option PO), ∀ (J4 : List Item → P4 → Option PO), Parts Try.prog 88 (pg J2 J4) [(2, cut p2 J2), (4, cut p4 J4)] := fun J2 J4 => ⟨tab_ok tabGood rfl, handNil_ok, rfl⟩
  have g4 : ∀ (J2 : P2 → Option PO), Good Try.prog 19 w0 O Post y T2 p2 J2 → Good Try.prog 19 w0 O Post y T4 p4 (L4 J2) := fun J2 h2 => good_orders (hs := hd) (cv' := hd) (Checked.mixed Try.checked) (hp (atT T2 J2) (atT T4 (fun _ => none))) handNil_ok handNil_nat handNil_nat (runOK_of (hp (atT T2 J2) (atT T4 (fun _ => none))) hnp ⟨cutOK_at h2, cutOK_at good_none, trivial⟩ fin) (fun x => ⟨_, (seg4 (atT T2 J2) (atT T4 (fun _ => none)) x.1 x.2.1 x.2.2.1 x.2.2.2.1 x.2.2.2.2.1 x.2.2.2.2.2.1 x.2.2.2.2.2.2.1 x.2.2.2.2.2.2.2.1).trans (by simp only [atT_self] <;> rfl)⟩)
  have g2 : Good Try.prog 19 w0 O Post y T2 p2 L2 := good_lfp fun J2 h2 => good_part (hp (atT T2 (fun _ => none)) (atT T4 (L4 J2))) (runOK_of (hp (atT T2 (fun _ => none)) (atT T4 (L4 J2))) hnp ⟨cutOK_at good_none, cutOK_at (g4 J2 h2), trivial⟩ fin) (fun x => (seg2 (atT T2 (fun _ => none)) (atT T4 (L4 J2)) x.1 x.2.1 x.2.2.1 x.2.2.2.1 x.2.2.2.2.1 x.2.2.2.2.2.1 x.2.2.2.2.2.2.1).trans (by simp only [atT_self] <;> rfl))
  exact good_first (hp (atT T2 L2) (atT T4 (fun _ => none))) (runOK_of (hp (atT T2 L2) (atT T4 (fun _ => none))) hnp ⟨cutOK_at g2, cutOK_at good_none, trivial⟩ fin) (fun x => (seg0 (atT T2 L2) (atT T4 (fun _ => none)) x.1 x.2.1).trans (by simp only [atT_self] <;> rfl))
end slices_Index_of

/-! ### (*loop.example/wholecheck/impl.pushing).put -/
namespace impl_pushing_put
noncomputable abbrev c0 : Code := (Try.f74.body).getD .skip
noncomputable abbrev pin : Tpl := ⟨[⟨0, false, [.ptr 500001 0]⟩, ⟨1, true, [.d (.prod (.int .i64) (.prod (.int .i64) (.prod (.int .i64) (.last (.int .i64)))))]⟩], [(500001, .box [.d (.sl (.prod (.int .i64) (.prod (.int .i64) (.prod (.int .i64) (.last (.int .i64)))))), .row 500002]), (500002, .row 75 true (.prod (.int .i64) (.prod (.int .i64) (.prod (.int .i64) (.last (.int .i64))))))]⟩
noncomputable abbrev pout : Tpl := ⟨[⟨0, false, [.d (.int .i64)]⟩, ⟨1, false, [.ptr 500001 0]⟩], [(500001, .box [.d (.sl (.prod (.int .i64) (.prod (.int .i64) (.prod (.int .i64) (.last (.int .i64)))))), .row 500200]), (500200, .row 75 true (.prod (.int .i64) (.prod (.int .i64) (.prod (.int .i64) (.last (.int .i64))))))]⟩
noncomputable abbrev p1 : Tpl := ⟨[⟨0, false, [.ptr 3000000 0]⟩, ⟨3, false, [.ptr 3000001 0]⟩], [(3000000, .box [.d (.sl (.prod (.int .i64) (.prod (.int .i64) (.prod (.int .i64) (.last (.int .i64)))))), .row 3000002]), (3000001, .box [.d (.int .i64), .d (.int .i64), .d (.int .i64), .d (.int .i64)]), (3000002, .row 75 true (.prod (.int .i64) (.prod (.int .i64) (.prod (.int .i64) (.last (.int .i64))))))]⟩
noncomputable def T1 : List Item := (find 1 c0 []).getD []
noncomputable abbrev p4 : Tpl := ⟨[⟨0, false, [.ptr 3000000 0]⟩, ⟨3, false, [.ptr 3000001 0]⟩], [(3000000, .box [.d (.sl (.prod (.int .i64) (.prod (.int .i64) (.prod (.int .i64) (.last (.int .i64)))))), .row 3000002]), (3000001, .box [.d (.int .i64), .d (.int .i64), .d (.int .i64), .d (.int .i64)]), (3000002, .row 75 true (.prod (.int .i64) (.prod (.int .i64) (.prod (.int .i64) (.last (.int .i64))))))]⟩
noncomputable def T4 : List Item := (find 4 c0 []).getD []
noncomputable abbrev PI := (Int × Int × Int × Int) × (List (Int × Int × Int × Int)) × (List (Int × Int × Int × Int)) × Unit
noncomputable abbrev PO := Int × (List (Int × Int × Int × Int)) × (List (Int × Int × Int × Int)) × Unit
noncomputable abbrev P1 := (List (Int × Int × Int × Int)) × Int × Int × Int × Int × (List (Int × Int × Int × Int)) × Unit
noncomputable abbrev P4 := (List (Int × Int × Int × Int)) × Int × Int × Int × Int × (List (Int × Int × Int × Int)) × Unit
noncomputable abbrev rs : List ResultVar := [.tmp 4]
noncomputable def F0 (J1 : P1 → Option PO) (x1 : Int × Int × Int × Int) (b1_0 : List (Int × Int × Int × Int)) (r2 : List (Int × Int × Int × Int)) : Option PO :=
  J1 (b1_0, x1.1, x1.2.1, x1.2.2.1, x1.2.2.2, r2, ())
noncomputable def F1 (J4 : P4 → Option PO) (Gslices_Index_of : slices_Index_of.PI → Option slices_Index_of.PO) (b0_0 : List (Int × Int × Int × Int)) (b1_0 : Int) (b1_1 : Int) (b1_2 : Int) (b1_3 : Int) (r2 : List (Int × Int × Int × Int)) : Option PO :=
  Option.bind (Gslices_Index_of (r2, (b1_0, b1_1, b1_2, b1_3), ())) fun y0 =>
  bif decide (y0.1 ≥ 0) then
    some (y0.1, b0_0, r2, ())
  else
    J4 (b0_0, b1_0, b1_1, b1_2, b1_3, r2, ())
noncomputable def F4 (b0_0 : List (Int × Int × Int × Int)) (b1_0 : Int) (b1_1 : Int) (b1_2 : Int) (b1_3 : Int) (r2 : List (Int × Int × Int × Int)) : Option PO :=
  bif decide ((r2.length + ([(b1_0, b1_1, b1_2, b1_3)] : List (Int × Int × Int × Int)).length) * 32 ≤ 140737488355328) then
    some (wI (((r2 ++ ([(b1_0, b1_1, b1_2, b1_3)] : List (Int × Int × Int × Int))).length : Int) - 1), b0_0, r2 ++ ([(b1_0, b1_1, b1_2, b1_3)] : List (Int × Int × Int × Int)), ())
  else
    none
noncomputable def hd {R : Type} (Gslices_Index_of : slices_Index_of.PI → Option slices_Index_of.PO) : Hand R := (handAt 88 [11] true ⟨2, 1, 2, slices_Index_of.pin, slices_Index_of.pout, Gslices_Index_of⟩ handNil)
noncomputable def pg (Gslices_Index_of : slices_Index_of.PI → Option slices_Index_of.PO) (J1 : List Item → P1 → Option PO) (J4 : List Item → P4 → Option PO) : Prog PO := { nt := 31, np := 2, tb := tabOf tab, hd := hd Gslices_Index_of, cuts := cutsOf [(1, cut p1 J1), (4, cut p4 J4)], fin := endOf (tabOf tab) rs 2 pout }
theorem seg0 (Gslices_Index_of : slices_Index_of.PI → Option slices_Index_of.PO) (J1 : List Item → P1 → Option PO) (J4 : List Item → P4 → Option PO) (x1 : Int × Int × Int × Int) (b1_0 : List (Int × Int × Int × Int)) (r2 : List (Int × Int × Int × Int)) : arun (pg Gslices_Index_of J1 J4) 5000 [.code c0] (mk pin (x1, b1_0, r2, ())) = F0 (J1 T1) x1 b1_0 r2 := by kernel_rfl
theorem seg1 (Gslices_Index_of : slices_Index_of.PI → Option slices_Index_of.PO) (J1 : List Item → P1 → Option PO) (J4 : List Item → P4 → Option PO) (b0_0 : List (Int × Int × Int × Int)) (b1_0 : Int) (b1_1 : Int) (b1_2 : Int) (b1_3 : Int) (r2 : List (Int × Int × Int × Int)) : arunE (pg Gslices_Index_of J1 J4) 5000 T1 (mk p1 (b0_0, b1_0, b1_1, b1_2, b1_3, r2, ())) = List.replicate (arunE (pg Gslices_Index_of J1 J4) 5000 T1 (mk p1 (b0_0, b1_0, b1_1, b1_2, b1_3, r2, ()))).length (F1 (J4 T4) Gslices_Index_of b0_0 b1_0 b1_1 b1_2 b1_3 r2) := by kernel_rfl
theorem seg4 (Gslices_Index_of : slices_Index_of.PI → Option slices_Index_of.PO) (J1 : List Item → P1 → Option PO) (J4 : List Item → P4 → Option PO) (b0_0 : List (Int × Int × Int × Int)) (b1_0 : Int) (b1_1 : Int) (b1_2 : Int) (b1_3 : Int) (r2 : List (Int × Int × Int × Int)) : arunE (pg Gslices_Index_of J1 J4) 5000 T4 (mk p4 (b0_0, b1_0, b1_1, b1_2, b1_3, r2, ())) = List.replicate (arunE (pg Gslices_Index_of J1 J4) 5000 T4 (mk p4 (b0_0, b1_0, b1_1, b1_2, b1_3, r2, ()))).length (F4 b0_0 b1_0 b1_1 b1_2 b1_3 r2) := by kernel_rfl
noncomputable def L4 : P4 → Option PO := fun x => F4 x.1 x.2.1 x.2.2.1 x.2.2.2.1 x.2.2.2.2.1 x.2.2.2.2.2.1
noncomputable def L1 : P1 → Option PO := fun x => F1 L4 slices_Index_of.impl x.1 x.2.1 x.2.2.1 x.2.2.2.1 x.2.2.2.2.1 x.2.2.2.2.2.1
noncomputable def impl : PI → Option PO := fun x => F0 L1 x.1 x.2.1 x.2.2.1
theorem L4_eq (b0_0 : List (Int × Int × Int × Int)) (b1_0 : Int) (b1_1 : Int) (b1_2 : Int) (b1_3 : Int) (r2 : List (Int × Int × Int × Int)) : L4 (b0_0, b1_0, b1_1, b1_2, b1_3, r2, ()) = F4 b0_0 b1_0 b1_1 b1_2 b1_3 r2 := rfl
theorem L1_eq (b0_0 : List (Int × Int × Int × Int)) (b1_0 : Int) (b1_1 : Int) (b1_2 : Int) (b1_3 : Int) (r2 : List (Int × Int × Int × Int)) : L1 (b0_0, b1_0, b1_1, b1_2, b1_3, r2, ()) = F1 (L4) slices_Index_of.impl b0_0 b1_0 b1_1 b1_2 b1_3 r2 := rfl
theorem impl_eq (x1 : Int × Int × Int × Int) (b1_0 : List (Int × Int × Int × Int)) (r2 : List (Int × Int × Int × Int)) : impl (x1, b1_0, r2, ()) = F0 L1 x1 b1_0 r2 := rfl
theorem con : Con Try.prog 74 2 rs.length 2 pin pout impl := by
  refine con_of_run' (nt := 31) (c := c0) tabGood Try.func74 (by kernel_rfl) (by kernel_rfl) (by kernel_rfl) (by kernel_rfl) (by kernel_rfl) (by kernel_rfl) (by kernel_rfl) ?_
  intro w0 O y hnp
  generalize hPost : (fun (a' : Act) (w' : World) => ∃ μ' S' st', Rel 31 w0 O μ' S' st' a' w' ∧ endOf (tabOf tab) rs 2 pout st' = some y) = Post
  have fin : ∀ (μ : Id → Option Value) (S : Nat → Prop) (st : St) (a : Act) (w : World), Rel 31 w0 O μ S st a w → endOf (tabOf tab) rs 2 pout st = some y → Post a w := fun μ S st a w h he => by rw [← hPost]; exact ⟨μ, S, st, h, he⟩
  have hp : ∀ (J1 : List Item → P1 → Option PO), ∀ (J4 : List Item → P4 → Option PO), Parts Try.prog 74 (pg slices_Index_of.impl J1 J4) [(1, cut p1 J1), (4, cut p4 J4)] := fun J1 J4 => ⟨tab_ok tabGood rfl, (handAt_ok slices_Index_of.con handNil_ok), rfl⟩
  have g4 : Good Try.prog 31 w0 O Post y T4 p4 L4 := good_orders (hs := hd slices_Index_of.impl) (cv' := hd slices_Index_of.impl) (Checked.mixed Try.checked) (hp (atT T1 (fun _ => none)) (atT T4 (fun _ => none))) (handAt_ok slices_Index_of.con handNil_ok) (handAt_nat handNil_nat) (handAt_nat handNil_nat) (runOK_of (hp (atT T1 (fun _ => none)) (atT T4 (fun _ => none))) hnp ⟨cutOK_at good_none, cutOK_at good_none, trivial⟩ fin) (fun x => ⟨_, (seg4 slices_Index_of.impl (atT T1 (fun _ => none)) (atT T4 (fun _ => none)) x.1 x.2.1 x.2.2.1 x.2.2.2.1 x.2.2.2.2.1 x.2.2.2.2.2.1)⟩)
  have g1 : Good Try.prog 31 w0 O Post y T1 p1 L1 := good_orders (hs := hd slices_Index_of.impl) (cv' := hd slices_Index_of.impl) (Checked.mixed Try.checked) (hp (atT T1 (fun _ => none)) (atT T4 L4)) (handAt_ok slices_Index_of.con handNil_ok) (handAt_nat handNil_nat) (handAt_nat handNil_nat) (runOK_of (hp (atT T1 (fun _ => none)) (atT T4 L4)) hnp ⟨cutOK_at good_none, cutOK_at g4, trivial⟩ fin) (fun x => ⟨_, (seg1 slices_Index_of.impl (atT T1 (fun _ => none)) (atT T4 L4) x.1 x.2.1 x.2.2.1 x.2.2.2.1 x.2.2.2.2.1 x.2.2.2.2.2.1).trans (by simp only [atT_self] <;> rfl)⟩)
  exact good_first (hp (atT T1 L1) (atT T4 (fun _ => none))) (runOK_of (hp (atT T1 L1) (atT T4 (fun _ => none))) hnp ⟨cutOK_at g1, cutOK_at good_none, trivial⟩ fin) (fun x => (seg0 slices_Index_of.impl (atT T1 L1) (atT T4 (fun _ => none)) x.1 x.2.1 x.2.2.1).trans (by simp only [atT_self] <;> rfl))
end impl_pushing_put

/-! ### (*loop.example/wholecheck/impl.pushing).of -/
namespace impl_pushing_of
noncomputable abbrev c0 : Code := (Try.f49.body).getD .skip
noncomputable abbrev pin : Tpl := ⟨[⟨0, false, [.ptr 500001 0]⟩, ⟨1, false, [.d (.int .i64)]⟩, ⟨2, false, [.d .bool]⟩], [(500001, .box [.d (.sl (.prod (.int .i64) (.prod (.int .i64) (.prod (.int .i64) (.last (.int .i64)))))), .row 500002]), (500002, .row 75 true (.prod (.int .i64) (.prod (.int .i64) (.prod (.int .i64) (.last (.int .i64))))))]⟩
noncomputable abbrev pout : Tpl := ⟨[⟨0, false, [.d (.int .i64)]⟩, ⟨1, false, [.ptr 500001 0]⟩], [(500001, .box [.d (.sl (.prod (.int .i64) (.prod (.int .i64) (.prod (.int .i64) (.last (.int .i64)))))), .row 500200]), (500200, .row 75 true (.prod (.int .i64) (.prod (.int .i64) (.prod (.int .i64) (.last (.int .i64))))))]⟩
noncomputable abbrev p13 : Tpl := ⟨[⟨0, false, [.ptr 3000000 0]⟩, ⟨2, false, [.d .bool]⟩, ⟨7, false, [.ptr 3000001 0]⟩], [(3000000, .box [.d (.sl (.prod (.int .i64) (.prod (.int .i64) (.prod (.int .i64) (.last (.int .i64)))))), .row 3000002]), (3000001, .box [.d (.int .i64), .d (.int .i64), .d (.int .i64), .d (.int .i64)]), (3000002, .row 75 true (.prod (.int .i64) (.prod (.int .i64) (.prod (.int .i64) (.last (.int .i64))))))]⟩
noncomputable def T13 : List Item := (find 13 c0 []).getD []
noncomputable abbrev p17 : Tpl := ⟨[⟨0, false, [.ptr 3000000 0]⟩, ⟨2, false, [.d .bool]⟩, ⟨7, false, [.ptr 3000001 0]⟩, ⟨9, false, [.d (.int .i64)]⟩, ⟨10, false, [.d (.int .i64)]⟩], [(3000000, .box [.d (.sl (.prod (.int .i64) (.prod (.int .i64) (.prod (.int .i64) (.last (.int .i64)))))), .row 3000002]), (3000001, .box [.d (.int .i64), .d (.int .i64), .d (.int .i64), .d (.int .i64)]), (3000002, .row 75 true (.prod (.int .i64) (.prod (.int .i64) (.prod (.int .i64) (.last (.int .i64))))))]⟩
noncomputable def T17 : List Item := (find 17 c0 []).getD []
noncomputable abbrev PI := Int × Bool × (List (Int × Int × Int × Int)) × (List (Int × Int × Int × Int)) × Unit
noncomputable abbrev PO := Int × (List (Int × Int × Int × Int)) × (List (Int × Int × Int × Int)) × Unit
noncomputable abbrev P13 := Bool × (List (Int × Int × Int × Int)) × Int × Int × Int × Int × (List (Int × Int × Int × Int)) × Unit
noncomputable abbrev P17 := Bool × Int × Int × (List (Int × Int × Int × Int)) × Int × Int × Int × Int × (List (Int × Int × Int × Int)) × Unit
noncomputable abbrev rs : List ResultVar := [.tmp 6]
noncomputable def F0 (J13 : P13 → Option PO) (Gimpl_pushing_of : PI → Option PO) (Gimpl_pushing_put : impl_pushing_put.PI → Option impl_pushing_put.PO) (x1 : Int) (x2 : Bool) (b1_0 : List (Int × Int × Int × Int)) (r2 : List (Int × Int × Int × Int)) : Option PO :=
  bif decide ((r2.length : Int) > 24) then
    some (0, b1_0, r2, ())
  else
    bif inb x1 b1_0.length then
      bif (b1_0.getD x1.toNat (0, 0, 0, 0)).1 == 2 then
        Option.bind (Gimpl_pushing_of ((b1_0.getD x1.toNat (0, 0, 0, 0)).2.2.1, !x2, b1_0, r2, ())) fun y0 =>
        some (y0.1, y0.2.1, y0.2.2.1, ())
      else
        bif (b1_0.getD x1.toNat (0, 0, 0, 0)).1 == 0 then
          Option.bind (Gimpl_pushing_put (b1_0.getD x1.toNat (0, 0, 0, 0), b1_0, r2, ())) fun y1 =>
          bif x2 then
            Option.bind (Gimpl_pushing_put ((2, 0, y1.1, y1.1), y1.2.1, y1.2.2.1, ())) fun y2 =>
            some (y2.1, y2.2.1, y2.2.2.1, ())
          else
            some (y1.1, y1.2.1, y1.2.2.1, ())
        else
          bif (b1_0.getD x1.toNat (0, 0, 0, 0)).1 == 1 then
            Option.bind (Gimpl_pushing_put (b1_0.getD x1.toNat (0, 0, 0, 0), b1_0, r2, ())) fun y3 =>
            bif x2 then
              Option.bind (Gimpl_pushing_put ((2, 0, y3.1, y3.1), y3.2.1, y3.2.2.1, ())) fun y4 =>
              some (y4.1, y4.2.1, y4.2.2.1, ())
            else
              some (y3.1, y3.2.1, y3.2.2.1, ())
          else
            J13 (x2, b1_0, (b1_0.getD x1.toNat (0, 0, 0, 0)).1, (b1_0.getD x1.toNat (0, 0, 0, 0)).2.1, (b1_0.getD x1.toNat (0, 0, 0, 0)).2.2.1, (b1_0.getD x1.toNat (0, 0, 0, 0)).2.2.2, r2, ())
    else
      none
noncomputable def F13 (J17 : P17 → Option PO) (Gimpl_pushing_of : PI → Option PO) (t2 : Bool) (b0_0 : List (Int × Int × Int × Int)) (b1_0 : Int) (b1_1 : Int) (b1_2 : Int) (b1_3 : Int) (r2 : List (Int × Int × Int × Int)) : Option PO :=
  Option.bind (Gimpl_pushing_of (b1_2, t2, b0_0, r2, ())) fun y5 =>
  bif b1_0 != 5 then
    Option.bind (Gimpl_pushing_of (b1_3, t2, y5.2.1, y5.2.2.1, ())) fun y6 =>
    J17 (t2, y5.1, y6.1, y6.2.1, b1_0, b1_1, b1_2, b1_3, y6.2.2.1, ())
  else
    J17 (t2, y5.1, y5.1, y5.2.1, b1_0, b1_1, b1_2, b1_3, y5.2.2.1, ())
noncomputable def F17 (Gimpl_pushing_put : impl_pushing_put.PI → Option impl_pushing_put.PO) (t2 : Bool) (t9 : Int) (t10 : Int) (b0_0 : List (Int × Int × Int × Int)) (b1_0 : Int) (b1_1 : Int) (b1_2 : Int) (b1_3 : Int) (r2 : List (Int × Int × Int × Int)) : Option PO :=
  bif t2 then
    Option.bind (Gimpl_pushing_put ((mapGet (.int .i64) (.int .i64) (mapPut (.int .i64) (.int .i64) (mapPut (.int .i64) (.int .i64) (mapPut (.int .i64) (.int .i64) (mapPut (.int .i64) (.int .i64) (mapPut (.int .i64) (.int .i64) [] 3 4) 4 3) 6 7) 7 6) 5 5) b1_0, 0, t9, t10), b0_0, r2, ())) fun y7 =>
    some (y7.1, y7.2.1, y7.2.2.1, ())
  else
    Option.bind (Gimpl_pushing_put ((b1_0, 0, t9, t10), b0_0, r2, ())) fun y8 =>
    some (y8.1, y8.2.1, y8.2.2.1, ())
noncomputable def hd {R : Type} (Gimpl_pushing_of : PI → Option PO) (Gimpl_pushing_put : impl_pushing_put.PI → Option impl_pushing_put.PO) : Hand R := (handAt 74 [40, 46, 74] false ⟨2, 1, 2, impl_pushing_put.pin, impl_pushing_put.pout, Gimpl_pushing_put⟩ (handAt 49 [34, 52, 61] false ⟨3, 1, 3, pin, pout, Gimpl_pushing_of⟩ handNil))
noncomputable def pg (Gimpl_pushing_of : PI → Option PO) (Gimpl_pushing_put : impl_pushing_put.PI → Option impl_pushing_put.PO) (J13 : List Item → P13 → Option PO) (J17 : List Item → P17 → Option PO) : Prog PO := { nt := 75, np := 3, tb := tabOf tab, hd := hd Gimpl_pushing_of Gimpl_pushing_put, cuts := cutsOf [(13, cut p13 J13), (17, cut p17 J17)], fin := endOf (tabOf tab) rs 3 pout }
theorem seg0 (Gimpl_pushing_of : PI → Option PO) (Gimpl_pushing_put : impl_pushing_put.PI → Option impl_pushing_put.PO) (J13 : List Item → P13 → Option PO) (J17 : List Item → P17 → Option PO) (x1 : Int) (x2 : Bool) (b1_0 : List (Int × Int × Int × Int)) (r2 : List (Int × Int × Int × Int)) : arun (pg Gimpl_pushing_of Gimpl_pushing_put J13 J17) 5000 [.code c0] (mk pin (x1, x2, b1_0, r2, ())) = F0 (J13 T13) Gimpl_pushing_of Gimpl_pushing_put x1 x2 b1_0 r2 := by kernel_rfl
theorem seg13 (Gimpl_pushing_of : PI → Option PO) (Gimpl_pushing_put : impl_pushing_put.PI → Option impl_pushing_put.PO) (J13 : List Item → P13 → Option PO) (J17 : List Item → P17 → Option PO) (t2 : Bool) (b0_0 : List (Int × Int × Int × Int)) (b1_0 : Int) (b1_1 : Int) (b1_2 : Int) (b1_3 : Int) (r2 : List (Int × Int × Int × Int)) : arun1 (pg Gimpl_pushing_of Gimpl_pushing_put J13 J17) 5000 T13 (mk p13 (t2, b0_0, b1_0, b1_1, b1_2, b1_3, r2, ())) = F13 (J17 T17) Gimpl_pushing_of t2 b0_0 b1_0 b1_1 b1_2 b1_3 r2 := by kernel_rfl
theorem seg17 (Gimpl_pushing_of : PI → Option PO) (Gimpl_pushing_put : impl_pushing_put.PI → Option impl_pushing_put.PO) (J13 : List Item → P13 → Option PO) (J17 : List Item → P17 → Option PO) (t2 : Bool) (t9 : Int) (t10 : Int) (b0_0 : List (Int × Int × Int × Int)) (b1_0 : Int) (b1_1 : Int) (b1_2 : Int) (b1_3 : Int) (r2 : List (Int × Int × Int × Int)) : arun1 (pg Gimpl_pushing_of Gimpl_pushing_put J13 J17) 5000 T17 (mk p17 (t2, t9, t10, b0_0, b1_0, b1_1, b1_2, b1_3, r2, ())) = F17 Gimpl_pushing_put t2 t9 t10 b0_0 b1_0 b1_1 b1_2 b1_3 r2 := by kernel_rfl
noncomputable def L17 (Gself : PI → Option PO) : P17 → Option PO := fun x => F17 impl_pushing_put.impl x.1 x.2.1 x.2.2.1 x.2.2.2.1 x.2.2.2.2.1 x.2.2.2.2.2.1 x.2.2.2.2.2.2.1 x.2.2.2.2.2.2.2.1 x.2.2.2.2.2.2.2.2.1
noncomputable def L13 (Gself : PI → Option PO) : P13 → Option PO := fun x => F13 (L17 Gself) Gself x.1 x.2.1 x.2.2.1 x.2.2.2.1 x.2.2.2.2.1 x.2.2.2.2.2.1 x.2.2.2.2.2.2.1
noncomputable def step (Gself : PI → Option PO) : PI → Option PO := fun x => F0 (L13 Gself) Gself impl_pushing_put.impl x.1 x.2.1 x.2.2.1 x.2.2.2.1
noncomputable def impl : PI → Option PO := lfp step
theorem F17_le {Gimpl_pushing_put : impl_pushing_put.PI → Option impl_pushing_put.PO} (t2 : Bool) (t9 : Int) (t10 : Int) (b0_0 : List (Int × Int × Int × Int)) (b1_0 : Int) (b1_1 : Int) (b1_2 : Int) (b1_3 : Int) (r2 : List (Int × Int × Int × Int)) : OptLe (F17 Gimpl_pushing_put t2 t9 t10 b0_0 b1_0 b1_1 b1_2 b1_3 r2) (F17 Gimpl_pushing_put t2 t9 t10 b0_0 b1_0 b1_1 b1_2 b1_3 r2) := by unfold F17; exact .refl _
theorem F13_le {J17 J17' : P17 → Option PO} (h17 : OLe J17 J17') {Gself Gself' : PI → Option PO} (hG : OLe Gself Gself') (t2 : Bool) (b0_0 : List (Int × Int × Int × Int)) (b1_0 : Int) (b1_1 : Int) (b1_2 : Int) (b1_3 : Int) (r2 : List (Int × Int × Int × Int)) : OptLe (F13 J17 Gself t2 b0_0 b1_0 b1_1 b1_2 b1_3 r2) (F13 J17' Gself' t2 b0_0 b1_0 b1_1 b1_2 b1_3 r2) := by unfold F13; exact .bind (.of hG _) fun _ => .cond (.bind (.of hG _) fun _ => .of h17 _) (.of h17 _)
theorem F0_le {J13 J13' : P13 → Option PO} (h13 : OLe J13 J13') {Gself Gself' : PI → Option PO} (hG : OLe Gself Gself') {Gimpl_pushing_put : impl_pushing_put.PI → Option impl_pushing_put.PO} (x1 : Int) (x2 : Bool) (b1_0 : List (Int × Int × Int × Int)) (r2 : List (Int × Int × Int × Int)) : OptLe (F0 J13 Gself Gimpl_pushing_put x1 x2 b1_0 r2) (F0 J13' Gself' Gimpl_pushing_put x1 x2 b1_0 r2) := by unfold F0; exact .cond (.refl _) (.cond (.cond (.bind (.of hG _) fun _ => .refl _) (.cond (.refl _) (.cond (.refl _) (.of h13 _)))) (.refl _))
theorem L17_eq (Gself : PI → Option PO) (t2 : Bool) (t9 : Int) (t10 : Int) (b0_0 : List (Int × Int × Int × Int)) (b1_0 : Int) (b1_1 : Int) (b1_2 : Int) (b1_3 : Int) (r2 : List (Int × Int × Int × Int)) : L17 Gself (t2, t9, t10, b0_0, b1_0, b1_1, b1_2, b1_3, r2, ()) = F17 impl_pushing_put.impl t2 t9 t10 b0_0 b1_0 b1_1 b1_2 b1_3 r2 := rfl
theorem L17_le {Gself Gself' : PI → Option PO} (hG : OLe Gself Gself') : OLe (L17 Gself) (L17 Gself') := fun x => F17_le x.1 x.2.1 x.2.2.1 x.2.2.2.1 x.2.2.2.2.1 x.2.2.2.2.2.1 x.2.2.2.2.2.2.1 x.2.2.2.2.2.2.2.1 x.2.2.2.2.2.2.2.2.1
theorem L13_eq (Gself : PI → Option PO) (t2 : Bool) (b0_0 : List (Int × Int × Int × Int)) (b1_0 : Int) (b1_1 : Int) (b1_2 : Int) (b1_3 : Int) (r2 : List (Int × Int × Int × Int)) : L13 Gself (t2, b0_0, b1_0, b1_1, b1_2, b1_3, r2, ()) = F13 (L17 Gself) Gself t2 b0_0 b1_0 b1_1 b1_2 b1_3 r2 := rfl
theorem L13_le {Gself Gself' : PI → Option PO} (hG : OLe Gself Gself') : OLe (L13 Gself) (L13 Gself') := fun x => F13_le (L17_le hG) hG x.1 x.2.1 x.2.2.1 x.2.2.2.1 x.2.2.2.2.1 x.2.2.2.2.2.1 x.2.2.2.2.2.2.1
theorem step_mono : OMono step := fun G G' hG x => F0_le (L13_le hG) hG x.1 x.2.1 x.2.2.1 x.2.2.2.1
theorem impl_eq (x1 : Int) (x2 : Bool) (b1_0 : List (Int × Int × Int × Int)) (r2 : List (Int × Int × Int × Int)) : impl (x1, x2, b1_0, r2, ()) = F0 (L13 impl) impl impl_pushing_put.impl x1 x2 b1_0 r2 := congrFun (lfp_eq step_mono) _
theorem con_step (Gself : PI → Option PO) (hself : Con Try.prog 49 3 rs.length 3 pin pout Gself) : Con Try.prog 49 3 rs.length 3 pin pout (step Gself) := by
  refine con_of_run' (nt := 75) (c := c0) tabGood Try.func49 (by kernel_rfl) (by kernel_rfl) (by kernel_rfl) (by kernel_rfl) (by kernel_rfl) (by kernel_rfl) (by kernel_rfl) ?_
  intro w0 O y hnp
  generalize hPost : (fun (a' : Act) (w' : World) => ∃ μ' S' st', Rel 75 w0 O μ' S' st' a' w' ∧ endOf (tabOf tab) rs 3 pout st' = some y) = Post
  have fin : ∀ (μ : Id → Option Value) (S : Nat → Prop) (st : St) (a : Act) (w : World), Rel 75 w0 O μ S st a w → endOf (tabOf tab) rs 3 pout st = some y → Post a w := fun μ S st a w h he => by rw [← hPost]; exact ⟨μ, S, st, h, he⟩
  have hp : ∀ (J13 : List Item → P13 → Option PO), ∀ (J17 : List Item → P17 → Option PO), Parts Try.prog 49 (pg Gself impl_pushing_put.impl J13 J17) [(13, cut p13 J13), (17, cut p17 J17)] := fun J13 J17 => ⟨tab_ok tabGood rfl, (handAt_ok impl_pushing_put.con (handAt_ok hself handNil_ok)), rfl⟩
  have g17 : Good Try.prog 75 w0 O Post y T17 p17 (L17 Gself) := good_part (hp (atT T13 (fun _ => none)) (atT T17 (fun _ => none))) (runOK_of (hp (atT T13 (fun _ => none)) (atT T17 (fun _ => none))) hnp ⟨cutOK_at good_none, cutOK_at good_none, trivial⟩ fin) (fun x => (seg17 Gself impl_pushing_put.impl (atT T13 (fun _ => none)) (atT T17 (fun _ => none)) x.1 x.2.1 x.2.2.1 x.2.2.2.1 x.2.2.2.2.1 x.2.2.2.2.2.1 x.2.2.2.2.2.2.1 x.2.2.2.2.2.2.2.1 x.2.2.2.2.2.2.2.2.1))
  have g13 : Good Try.prog 75 w0 O Post y T13 p13 (L13 Gself) := good_part (hp (atT T13 (fun _ => none)) (atT T17 (L17 Gself))) (runOK_of (hp (atT T13 (fun _ => none)) (atT T17 (L17 Gself))) hnp ⟨cutOK_at good_none, cutOK_at g17, trivial⟩ fin) (fun x => (seg13 Gself impl_pushing_put.impl (atT T13 (fun _ => none)) (atT T17 (L17 Gself)) x.1 x.2.1 x.2.2.1 x.2.2.2.1 x.2.2.2.2.1 x.2.2.2.2.2.1 x.2.2.2.2.2.2.1).trans (by simp only [atT_self] <;> rfl))
  exact good_first (hp (atT T13 (L13 Gself)) (atT T17 (fun _ => none))) (runOK_of (hp (atT T13 (L13 Gself)) (atT T17 (fun _ => none))) hnp ⟨cutOK_at g13, cutOK_at good_none, trivial⟩ fin) (fun x => (seg0 Gself impl_pushing_put.impl (atT T13 (L13 Gself)) (atT T17 (fun _ => none)) x.1 x.2.1 x.2.2.1 x.2.2.2.1).trans (by simp only [atT_self] <;> rfl))
theorem con : Con Try.prog 49 3 rs.length 3 pin pout impl := con_lfp (c := c0) Try.func49 (by kernel_rfl) (by kernel_rfl) (by kernel_rfl) con_step
end impl_pushing_of

/-! ### loop.example/wholecheck/impl.clone[loop.example/wholecheck/impl.Time] -/
namespace impl_clone_of
noncomputable abbrev c0 : Code := (Try.f50.body).getD .skip
noncomputable abbrev pin : Tpl := ⟨[⟨0, false, [.d (.sl (.prod (.int .i64) (.prod (.int .i64) (.prod (.int .i64) (.last (.int .i64))))))]⟩], []⟩
noncomputable abbrev pout : Tpl := ⟨[⟨0, false, [.row 500200]⟩], [(500200, .row 75 false (.prod (.int .i64) (.prod (.int .i64) (.prod (.int .i64) (.last (.int .i64))))))]⟩
noncomputable abbrev PI := (List (Int × Int × Int × Int)) × Unit
noncomputable abbrev PO := (List (Int × Int × Int × Int)) × Unit
noncomputable abbrev rs : List ResultVar := [.tmp 2]
noncomputable def F0 (x0 : List (Int × Int × Int × Int)) : Option PO :=
  bif (x0.length : Int) == 0 then
    some ([], ())
  else
    bif decide (0 ≤ (x0.length : Int)) && decide ((x0.length : Int) ≤ (x0.length : Int)) && decide ((x0.length : Int) * 32 ≤ 140737488355328) then
      some (x0.take (List.replicate (x0.length : Int).toNat (0, 0, 0, 0) : List (Int × Int × Int × Int)).length ++ (List.replicate (x0.length : Int).toNat (0, 0, 0, 0) : List (Int × Int × Int × Int)).drop x0.length, ())
    else
      none
noncomputable def hd {R : Type} : Hand R := handNil
noncomputable def pg : Prog PO := { nt := 14, np := 1, tb := tabOf tab, hd := hd, cuts := cutsOf [], fin := endOf (tabOf tab) rs 1 pout }
theorem seg0 (x0 : List (Int × Int × Int × Int)) : arun (pg) 5000 [.code c0] (mk pin (x0, ())) = F0 x0 := by kernel_rfl
noncomputable def impl : PI → Option PO := fun x => F0 x.1
theorem impl_eq (x0 : List (Int × Int × Int × Int)) : impl (x0, ()) = F0 x0 := rfl
theorem con : Con Try.prog 50 1 rs.length 1 pin pout impl := by
  refine con_of_run' (nt := 14) (c := c0) tabGood Try.func50 (by kernel_rfl) (by kernel_rfl) (by kernel_rfl) (by kernel_rfl) (by kernel_rfl) (by kernel_rfl) (by kernel_rfl) ?_
  intro w0 O y hnp
  generalize hPost : (fun (a' : Act) (w' : World) => ∃ μ' S' st', Rel 14 w0 O μ' S' st' a' w' ∧ endOf (tabOf tab) rs 1 pout st' = some y) = Post
  have fin : ∀ (μ : Id → Option Value) (S : Nat → Prop) (st : St) (a : Act) (w : World), Rel 14 w0 O μ S st a w → endOf (tabOf tab) rs 1 pout st = some y → Post a w := fun μ S st a w h he => by rw [← hPost]; exact ⟨μ, S, st, h, he⟩
  have hp : Parts Try.prog 50 (pg) [] := ⟨tab_ok tabGood rfl, handNil_ok, rfl⟩
  exact good_first (hp) (runOK_of (hp) hnp trivial fin) (fun x => (seg0 x.1))
end impl_clone_of

/-! ### loop.example/wholecheck/impl.Pushed -/
namespace impl_Pushed
noncomputable abbrev c0 : Code := (Try.f18.body).getD .skip
noncomputable abbrev pin : Tpl := ⟨[⟨0, false, [.d (.sl (.prod (.int .i64) (.prod (.int .i64) (.prod (.int .i64) (.last (.int .i64))))))]⟩, ⟨1, false, [.d (.int .i64)]⟩], []⟩
noncomputable abbrev pout : Tpl := ⟨[⟨0, false, [.row 500200]⟩], [(500200, .row 75 false (.prod (.int .i64) (.prod (.int .i64) (.prod (.int .i64) (.last (.int .i64))))))]⟩
noncomputable abbrev PI := (List (Int × Int × Int × Int)) × Int × Unit
noncomputable abbrev PO := (List (Int × Int × Int × Int)) × Unit
noncomputable abbrev rs : List ResultVar := [.tmp 4]
noncomputable def F0 (Gimpl_TimesValid : impl_TimesValid.PI → Option impl_TimesValid.PO) (Gimpl_clone_of : impl_clone_of.PI → Option impl_clone_of.PO) (Gimpl_pushing_of : impl_pushing_of.PI → Option impl_pushing_of.PO) (x0 : List (Int × Int × Int × Int)) (x1 : Int) : Option PO :=
  Option.bind (Gimpl_TimesValid (x0, x1, ())) fun y0 =>
  bif !y0.1 then
    some ([], ())
  else
    Option.bind (Gimpl_pushing_of (wI ((x0.length : Int) - 1), false, x0, [], ())) fun y1 =>
    bif decide ((y1.2.2.1.length : Int) > 24) then
      some ([], ())
    else
      bif decide (0 ≤ wI (y1.1 + 1)) && decide (wI (y1.1 + 1) ≤ (y1.2.2.1.length : Int)) then
        Option.bind (Gimpl_clone_of ((y1.2.2.1.drop 0).take ((wI (y1.1 + 1)).toNat - 0), ())) fun y2 =>
        some (y2.1, ())
      else
        none
noncomputable def hd {R : Type} (Gimpl_TimesValid : impl_TimesValid.PI → Option impl_TimesValid.PO) (Gimpl_clone_of : impl_clone_of.PI → Option impl_clone_of.PO) (Gimpl_pushing_of : impl_pushing_of.PI → Option impl_pushing_of.PO) : Hand R := (handAt 50 [32] true ⟨1, 1, 1, impl_clone_of.pin, impl_clone_of.pout, Gimpl_clone_of⟩ (handAt 49 [18] false ⟨3, 1, 3, impl_pushing_of.pin, impl_pushing_of.pout, Gimpl_pushing_of⟩ (handAt 48 [9] true ⟨2, 1, 2, impl_TimesValid.pin, impl_TimesValid.pout, Gimpl_TimesValid⟩ handNil)))
noncomputable def pg (Gimpl_TimesValid : impl_TimesValid.PI → Option impl_TimesValid.PO) (Gimpl_clone_of : impl_clone_of.PI → Option impl_clone_of.PO) (Gimpl_pushing_of : impl_pushing_of.PI → Option impl_pushing_of.PO) : Prog PO := { nt := 33, np := 2, tb := tabOf tab, hd := hd Gimpl_TimesValid Gimpl_clone_of Gimpl_pushing_of, cuts := cutsOf [], fin := endOf (tabOf tab) rs 2 pout }
theorem seg0 (Gimpl_TimesValid : impl_TimesValid.PI → Option impl_TimesValid.PO) (Gimpl_clone_of : impl_clone_of.PI → Option impl_clone_of.PO) (Gimpl_pushing_of : impl_pushing_of.PI → Option impl_pushing_of.PO) (x0 : List (Int × Int × Int × Int)) (x1 : Int) : arun (pg Gimpl_TimesValid Gimpl_clone_of Gimpl_pushing_of) 5000 [.code c0] (mk pin (x0, x1, ())) = F0 Gimpl_TimesValid Gimpl_clone_of Gimpl_pushing_of x0 x1 := by kernel_rfl
noncomputable def impl : PI → Option PO := fun x => F0 impl_TimesValid.impl impl_clone_of.impl impl_pushing_of.impl x.1 x.2.1
theorem impl_eq (x0 : List (Int × Int × Int × Int)) (x1 : Int) : impl (x0, x1, ()) = F0 impl_TimesValid.impl impl_clone_of.impl impl_pushing_of.impl x0 x1 := rfl
theorem con : Con Try.prog 18 2 rs.length 2 pin pout impl := by
  refine con_of_run' (nt := 33) (c := c0) tabGood Try.func18 (by kernel_rfl) (by kernel_rfl) (by kernel_rfl) (by kernel_rfl) (by kernel_rfl) (by kernel_rfl) (by kernel_rfl) ?_
  intro w0 O y hnp
  generalize hPost : (fun (a' : Act) (w' : World) => ∃ μ' S' st', Rel 33 w0 O μ' S' st' a' w' ∧ endOf (tabOf tab) rs 2 pout st' = some y) = Post
  have fin : ∀ (μ : Id → Option Value) (S : Nat → Prop) (st : St) (a : Act) (w : World), Rel 33 w0 O μ S st a w → endOf (tabOf tab) rs 2 pout st = some y → Post a w := fun μ S st a w h he => by rw [← hPost]; exact ⟨μ, S, st, h, he⟩
  have hp : Parts Try.prog 18 (pg impl_TimesValid.impl impl_clone_of.impl impl_pushing_of.impl) [] := ⟨tab_ok tabGood rfl, (handAt_ok impl_clone_of.con (handAt_ok impl_pushing_of.con (handAt_ok impl_TimesValid.con handNil_ok))), rfl⟩
  exact good_first (hp) (runOK_of (hp) hnp trivial fin) (fun x => (seg0 impl_TimesValid.impl impl_clone_of.impl impl_pushing_of.impl x.1 x.2.1))
end impl_Pushed

/-! ### loop.example/wholecheck/laws.eqTime -/
namespace laws_eqTime
noncomputable abbrev c0 : Code := (Try.f51.body).getD .skip
noncomputable abbrev pin : Tpl := ⟨[⟨0, true, [.d (.prod (.int .i64) (.prod (.int .i64) (.prod (.int .i64) (.last (.int .i64)))))]⟩, ⟨1, true, [.d (.prod (.int .i64) (.prod (.int .i64) (.prod (.int .i64) (.last (.int .i64)))))]⟩], []⟩
noncomputable abbrev pout : Tpl := ⟨[⟨0, false, [.d .bool]⟩], []⟩
noncomputable abbrev PI := (Int × Int × Int × Int) × (Int × Int × Int × Int) × Unit
noncomputable abbrev PO := Bool × Unit
noncomputable abbrev rs : List ResultVar := [.tmp 4]
noncomputable def F0 (x0 : Int × Int × Int × Int) (x1 : Int × Int × Int × Int) : Option PO :=
  bif x0.1 != x1.1 then
    some (false, ())
  else
    bif x0.2.1 != x1.2.1 then
      some (false, ())
    else
      bif x0.2.2.1 != x1.2.2.1 then
        some (false, ())
      else
        bif x0.2.2.2 != x1.2.2.2 then
          some (false, ())
        else
          some (true, ())
noncomputable def hd {R : Type} : Hand R := handNil
noncomputable def pg : Prog PO := { nt := 25, np := 2, tb := tabOf tab, hd := hd, cuts := cutsOf [], fin := endOf (tabOf tab) rs 2 pout }
theorem seg0 (x0 : Int × Int × Int × Int) (x1 : Int × Int × Int × Int) : arun (pg) 5000 [.code c0] (mk pin (x0, x1, ())) = F0 x0 x1 := by kernel_rfl
noncomputable def impl : PI → Option PO := fun x => F0 x.1 x.2.1
theorem impl_eq (x0 : Int × Int × Int × Int) (x1 : Int × Int × Int × Int) : impl (x0, x1, ()) = F0 x0 x1 := rfl
theorem con : Con Try.prog 51 2 rs.length 2 pin pout impl := by
  refine con_of_run' (nt := 25) (c := c0) tabGood Try.func51 (by kernel_rfl) (by kernel_rfl) (by kernel_rfl) (by kernel_rfl) (by kernel_rfl) (by kernel_rfl) (by kernel_rfl) ?_
  intro w0 O y hnp
  generalize hPost : (fun (a' : Act) (w' : World) => ∃ μ' S' st', Rel 25 w0 O μ' S' st' a' w' ∧ endOf (tabOf tab) rs 2 pout st' = some y) = Post
  have fin : ∀ (μ : Id → Option Value) (S : Nat → Prop) (st : St) (a : Act) (w : World), Rel 25 w0 O μ S st a w → endOf (tabOf tab) rs 2 pout st = some y → Post a w := fun μ S st a w h he => by rw [← hPost]; exact ⟨μ, S, st, h, he⟩
  have hp : Parts Try.prog 51 (pg) [] := ⟨tab_ok tabGood rfl, handNil_ok, rfl⟩
  exact good_first (hp) (runOK_of (hp) hnp trivial fin) (fun x => (seg0 x.1 x.2.1))
end laws_eqTime

/-! ### loop.example/wholecheck/laws.eqTimeS -/
namespace laws_eqTimeS
noncomputable abbrev c0 : Code := (Try.f19.body).getD .skip
noncomputable abbrev pin : Tpl := ⟨[⟨0, false, [.d (.sl (.prod (.int .i64) (.prod (.int .i64) (.prod (.int .i64) (.last (.int .i64))))))]⟩, ⟨1, false, [.d (.sl (.prod (.int .i64) (.prod (.int .i64) (.prod (.int .i64) (.last (.int .i64))))))]⟩], []⟩
noncomputable abbrev pout : Tpl := ⟨[⟨0, false, [.d .bool]⟩], []⟩
noncomputable abbrev p4 : Tpl := ⟨[⟨0, false, [.d (.sl (.prod (.int .i64) (.prod (.int .i64) (.prod (.int .i64) (.last (.int .i64))))))]⟩, ⟨1, false, [.d (.sl (.prod (.int .i64) (.prod (.int .i64) (.prod (.int .i64) (.last (.int .i64))))))]⟩, ⟨5, false, [.d (.int .i64)]⟩], []⟩
noncomputable def T4 : List Item := (find 4 c0 []).getD []
noncomputable abbrev p6 : Tpl := ⟨[⟨0, false, [.d (.sl (.prod (.int .i64) (.prod (.int .i64) (.prod (.int .i64) (.last (.int .i64))))))]⟩, ⟨1, false, [.d (.sl (.prod (.int .i64) (.prod (.int .i64) (.prod (.int .i64) (.last (.int .i64))))))]⟩, ⟨5, false, [.d (.int .i64)]⟩], []⟩
noncomputable def T6 : List Item := (find 6 c0 []).getD []
noncomputable abbrev PI := (List (Int × Int × Int × Int)) × (List (Int × Int × Int × Int)) × Unit
noncomputable abbrev PO := Bool × Unit
noncomputable abbrev P4 := (List (Int × Int × Int × Int)) × (List (Int × Int × Int × Int)) × Int × Unit
noncomputable abbrev P6 := (List (Int × Int × Int × Int)) × (List (Int × Int × Int × Int)) × Int × Unit
noncomputable abbrev rs : List ResultVar := [.tmp 4]
noncomputable def F0 (J4 : P4 → Option PO) (x0 : List (Int × Int × Int × Int)) (x1 : List (Int × Int × Int × Int)) : Option PO :=
  bif (x0.length : Int) != (x1.length : Int) then
    some (false, ())
  else
    J4 (x0, x1, 0, ())
noncomputable def F4 (J6 : P6 → Option PO) (t0 : List (Int × Int × Int × Int)) (t1 : List (Int × Int × Int × Int)) (t5 : Int) : Option PO :=
  bif decide (t5 < (t0.length : Int)) then
    J6 (t0, t1, t5, ())
  else
    some (true, ())
noncomputable def F6 (J4 : P4 → Option PO) (Glaws_eqTime : laws_eqTime.PI → Option laws_eqTime.PO) (t0 : List (Int × Int × Int × Int)) (t1 : List (Int × Int × Int × Int)) (t5 : Int) : Option PO :=
  bif inb t5 t0.length then
    bif inb t5 t1.length then
      Option.bind (Glaws_eqTime (t0.getD t5.toNat (0, 0, 0, 0), t1.getD t5.toNat (0, 0, 0, 0), ())) fun y0 =>
      bif !y0.1 then
        some (false, ())
      else
        J4 (t0, t1, wI (t5 + 1), ())
    else
      none
  else
    none
noncomputable def hd {R : Type} (Glaws_eqTime : laws_eqTime.PI → Option laws_eqTime.PO) : Hand R := (handAt 51 [25] true ⟨2, 1, 2, laws_eqTime.pin, laws_eqTime.pout, Glaws_eqTime⟩ handNil)
noncomputable def pg (Glaws_eqTime : laws_eqTime.PI → Option laws_eqTime.PO) (J4 : List Item → P4 → Option PO) (J6 : List Item → P6 → Option PO) : Prog PO := { nt := 27, np := 2, tb := tabOf tab, hd := hd Glaws_eqTime, cuts := cutsOf [(4, cut p4 J4), (6, cut p6 J6)], fin := endOf (tabOf tab) rs 2 pout }
theorem seg0 (Glaws_eqTime : laws_eqTime.PI → Option laws_eqTime.PO) (J4 : List Item → P4 → Option PO) (J6 : List Item → P6 → Option PO) (x0 : List (Int × Int × Int × Int)) (x1 : List (Int × Int × Int × Int)) : arun (pg Glaws_eqTime J4 J6) 5000 [.code c0] (mk pin (x0, x1, ())) = F0 (J4 T4) x0 x1 := by kernel_rfl
theorem seg4 (Glaws_eqTime : laws_eqTime.PI → Option laws_eqTime.PO) (J4 : List Item → P4 → Option PO) (J6 : List Item → P6 → Option PO) (t0 : List (Int × Int × Int × Int)) (t1 : List (Int × Int × Int × Int)) (t5 : Int) : arun1 (pg Glaws_eqTime J4 J6) 5000 T4 (mk p4 (t0, t1, t5, ())) = F4 (J6 T6) t0 t1 t5 := by kernel_rfl
theorem seg6 (Glaws_eqTime : laws_eqTime.PI → Option laws_eqTime.PO) (J4 : List Item → P4 → Option PO) (J6 : List Item → P6 → Option PO) (t0 : List (Int × Int × Int × Int)) (t1 : List (Int × Int × Int × Int)) (t5 : Int) : arunE (pg Glaws_eqTime J4 J6) 5000 T6 (mk p6 (t0, t1, t5, ())) = List.replicate (arunE (pg Glaws_eqTime J4 J6) 5000 T6 (mk p6 (t0, t1, t5, ()))).length (F6 (J4 T4) Glaws_eqTime t0 t1 t5) := by kernel_rfl
noncomputable def L6 (J4 : P4 → Option PO) : P6 → Option PO := fun x => F6 J4 laws_eqTime.impl x.1 x.2.1 x.2.2.1
noncomputable def L4 : P4 → Option PO := lfp fun J4 x => F4 (L6 J4) x.1 x.2.1 x.2.2.1
noncomputable def impl : PI → Option PO := fun x => F0 L4 x.1 x.2.1
theorem F6_le {J4 J4' : P4 → Option PO} (h4 : OLe J4 J4') {Glaws_eqTime : laws_eqTime.PI → Option laws_eqTime.PO} (t0 : List (Int × Int × Int × Int)) (t1 : List (Int × Int × Int × Int)) (t5 : Int) : OptLe (F6 J4 Glaws_eqTime t0 t1 t5) (F6 J4' Glaws_eqTime t0 t1 t5) := by unfold F6; exact .cond (.cond (.bind (.refl _) fun _ => .cond (.refl _) (.of h4 _)) (.refl _)) (.refl _)
theorem F4_le {J6 J6' : P6 → Option PO} (h6 : OLe J6 J6') (t0 : List (Int × Int × Int × Int)) (t1 : List (Int × Int × Int × Int)) (t5 : Int) : OptLe (F4 J6 t0 t1 t5) (F4 J6' t0 t1 t5) := by unfold F4; exact .cond (.of h6 _) (.refl _)
theorem L6_eq (J4 : P4 → Option PO) (t0 : List (Int × Int × Int × Int)) (t1 : List (Int × Int × Int × Int)) (t5 : Int) : L6 J4 (t0, t1, t5, ()) = F6 J4 laws_eqTime.impl t0 t1 t5 := rfl
theorem L6_le {J4 J4' : P4 → Option PO} (h4 : OLe J4 J4') : OLe (L6 J4) (L6 J4') := fun x => F6_le h4 x.1 x.2.1 x.2.2.1
theorem L4_mono : OMono fun J4 (x : P4) => F4 (L6 J4) x.1 x.2.1 x.2.2.1 := fun J J' h4 x => F4_le (L6_le h4) x.1 x.2.1 x.2.2.1
theorem L4_eq (t0 : List (Int × Int × Int × Int)) (t1 : List (Int × Int × Int × Int)) (t5 : Int) : L4 (t0, t1, t5, ()) = F4 (L6 (L4)) t0 t1 t5 := congrFun (lfp_eq (L4_mono)) _
theorem impl_eq (x0 : List (Int × Int × Int × Int)) (x1 : List (Int × Int × Int × Int)) : impl (x0, x1, ()) = F0 L4 x0 x1 := rfl
theorem con : Con Try.prog 19 2 rs.length 2 pin pout impl := by
  refine con_of_run' (nt := 27) (c := c0) tabGood Try.func19 (by kernel_rfl) (by kernel_rfl) (by kernel_rfl) (by kernel_rfl) (by kernel_rfl) (by kernel_rfl) (by kernel_rfl) ?_
  intro w0 O y hnp
  generalize hPost : (fun (a' : Act) (w' : World) => ∃ μ' S' st', Rel 27 w0 O μ' S' st' a' w' ∧ endOf (tabOf tab) rs 2 pout st' = some y) = Post
  have fin : ∀ (μ : Id → Option Value) (S : Nat → Prop) (st : St) (a : Act) (w : World), Rel 27 w0 O μ S st a w → endOf (tabOf tab) rs 2 pout st = some y → Post a w := fun μ S st a w h he => by rw [← hPost]; exact ⟨μ, S, st, h, he⟩
  have hp : ∀ (J4 : List Item → P4 → Option PO), ∀ (J6 : List Item → P6 → Option PO), Parts Try.prog 19 (pg laws_eqTime.impl J4 J6) [(4, cut p4 J4), (6, cut p6 J6)] := fun J4 J6 => ⟨tab_ok tabGood rfl, (handAt_ok laws_eqTime.con handNil_ok), rfl⟩
  have g6 : ∀ (J4 : P4 → Option PO), Good Try.prog 27 w0 O Post y T4 p4 J4 → Good Try.prog 27 w0 O Post y T6 p6 (L6 J4) := fun J4 h4 => good_orders (hs := hd laws_eqTime.impl) (cv' := hd laws_eqTime.impl) (Checked.mixed Try.checked) (hp (atT T4 J4) (atT T6 (fun _ => none))) (handAt_ok laws_eqTime.con handNil_ok) (handAt_nat handNil_nat) (handAt_nat handNil_nat) (runOK_of (hp (atT T4 J4) (atT T6 (fun _ => none))) hnp ⟨cutOK_at h4, cutOK_at good_none, trivial⟩ fin) (fun x => ⟨_, (seg6 laws_eqTime.impl (atT T4 J4) (atT T6 (fun _ => none)) x.1 x.2.1 x.2.2.1).trans (by simp only [atT_self] <;> rfl)⟩)
  have g4 : Good Try.prog 27 w0 O Post y T4 p4 L4 := good_lfp fun J4 h4 => good_part (hp (atT T4 (fun _ => none)) (atT T6 (L6 J4))) (runOK_of (hp (atT T4 (fun _ => none)) (atT T6 (L6 J4))) hnp ⟨cutOK_at good_none, cutOK_at (g6 J4 h4), trivial⟩ fin) (fun x => (seg4 laws_eqTime.impl (atT T4 (fun _ => none)) (atT T6 (L6 J4)) x.1 x.2.1 x.2.2.1).trans (by simp only [atT_self] <;> rfl))
  exact good_first (hp (atT T4 L4) (atT T6 (fun _ => none))) (runOK_of (hp (atT T4 L4) (atT T6 (fun _ => none))) hnp ⟨cutOK_at g4, cutOK_at good_none, trivial⟩ fin) (fun x => (seg0 laws_eqTime.impl (atT T4 L4) (atT T6 (fun _ => none)) x.1 x.2.1).trans (by simp only [atT_self] <;> rfl))
end laws_eqTimeS

/-! ### loop.example/wholecheck/laws.markTimeS -/
namespace laws_markTimeS
noncomputable abbrev c0 : Code := (Try.f20.body).getD .skip
noncomputable abbrev pin : Tpl := ⟨[⟨0, false, [.row 500001]⟩, ⟨1, false, [.d (.int .i64)]⟩], [(500001, .row 75 false (.prod (.int .i64) (.prod (.int .i64) (.prod (.int .i64) (.last (.int .i64))))))]⟩
noncomputable abbrev pout : Tpl := ⟨[⟨0, false, [.d (.int .i64)]⟩, ⟨1, false, [.row 500001]⟩], [(500001, .row 75 false (.prod (.int .i64) (.prod (.int .i64) (.prod (.int .i64) (.last (.int .i64))))))]⟩
noncomputable abbrev p2 : Tpl := ⟨[⟨0, false, [.row 3000000]⟩, ⟨1, false, [.d (.int .i64)]⟩, ⟨5, false, [.d (.int .i64)]⟩], [(3000000, .row 75 false (.prod (.int .i64) (.prod (.int .i64) (.prod (.int .i64) (.last (.int .i64))))))]⟩
noncomputable def T2 : List Item := (find 2 c0 []).getD []
noncomputable abbrev PI := Int × (List (Int × Int × Int × Int)) × Unit
noncomputable abbrev PO := Int × (List (Int × Int × Int × Int)) × Unit
noncomputable abbrev P2 := Int × Int × (List (Int × Int × Int × Int)) × Unit
noncomputable abbrev rs : List ResultVar := [.tmp 4]
noncomputable def F0 (J2 : P2 → Option PO) (x1 : Int) (r1 : List (Int × Int × Int × Int)) : Option PO :=
  J2 (x1, 0, r1, ())
noncomputable def F2 (J2 : P2 → Option PO) (t1 : Int) (t5 : Int) (r0 : List (Int × Int × Int × Int)) : Option PO :=
  bif decide (t5 < (r0.length : Int)) then
    bif inb t5 r0.length then
      bif inb t5 (r0.set t5.toNat (t1, (r0.getD t5.toNat (0, 0, 0, 0)).2)).length then
        bif inb t5 ((r0.set t5.toNat (t1, (r0.getD t5.toNat (0, 0, 0, 0)).2)).set t5.toNat (((r0.set t5.toNat (t1, (r0.getD t5.toNat (0, 0, 0, 0)).2)).getD t5.toNat (0, 0, 0, 0)).1, wI (t1 + 1), ((r0.set t5.toNat (t1, (r0.getD t5.toNat (0, 0, 0, 0)).2)).getD t5.toNat (0, 0, 0, 0)).2.2)).length then
          bif inb t5 (((r0.set t5.toNat (t1, (r0.getD t5.toNat (0, 0, 0, 0)).2)).set t5.toNat (((r0.set t5.toNat (t1, (r0.getD t5.toNat (0, 0, 0, 0)).2)).getD t5.toNat (0, 0, 0, 0)).1, wI (t1 + 1), ((r0.set t5.toNat (t1, (r0.getD t5.toNat (0, 0, 0, 0)).2)).getD t5.toNat (0, 0, 0, 0)).2.2)).set t5.toNat ((((r0.set t5.toNat (t1, (r0.getD t5.toNat (0, 0, 0, 0)).2)).set t5.toNat (((r0.set t5.toNat (t1, (r0.getD t5.toNat (0, 0, 0, 0)).2)).getD t5.toNat (0, 0, 0, 0)).1, wI (t1 + 1), ((r0.set t5.toNat (t1, (r0.getD t5.toNat (0, 0, 0, 0)).2)).getD t5.toNat (0, 0, 0, 0)).2.2)).getD t5.toNat (0, 0, 0, 0)).1, (((r0.set t5.toNat (t1, (r0.getD t5.toNat (0, 0, 0, 0)).2)).set t5.toNat (((r0.set t5.toNat (t1, (r0.getD t5.toNat (0, 0, 0, 0)).2)).getD t5.toNat (0, 0, 0, 0)).1, wI (t1 + 1), ((r0.set t5.toNat (t1, (r0.getD t5.toNat (0, 0, 0, 0)).2)).getD t5.toNat (0, 0, 0, 0)).2.2)).getD t5.toNat (0, 0, 0, 0)).2.1, wI ((wI (t1 + 1)) + 1), (((r0.set t5.toNat (t1, (r0.getD t5.toNat (0, 0, 0, 0)).2)).set t5.toNat (((r0.set t5.toNat (t1, (r0.getD t5.toNat (0, 0, 0, 0)).2)).getD t5.toNat (0, 0, 0, 0)).1, wI (t1 + 1), ((r0.set t5.toNat (t1, (r0.getD t5.toNat (0, 0, 0, 0)).2)).getD t5.toNat (0, 0, 0, 0)).2.2)).getD t5.toNat (0, 0, 0, 0)).2.2.2)).length then
            J2 (wI ((wI ((wI ((wI (t1 + 1)) + 1)) + 1)) + 1), wI (t5 + 1), (((r0.set t5.toNat (t1, (r0.getD t5.toNat (0, 0, 0, 0)).2)).set t5.toNat (((r0.set t5.toNat (t1, (r0.getD t5.toNat (0, 0, 0, 0)).2)).getD t5.toNat (0, 0, 0, 0)).1, wI (t1 + 1), ((r0.set t5.toNat (t1, (r0.getD t5.toNat (0, 0, 0, 0)).2)).getD t5.toNat (0, 0, 0, 0)).2.2)).set t5.toNat ((((r0.set t5.toNat (t1, (r0.getD t5.toNat (0, 0, 0, 0)).2)).set t5.toNat (((r0.set t5.toNat (t1, (r0.getD t5.toNat (0, 0, 0, 0)).2)).getD t5.toNat (0, 0, 0, 0)).1, wI (t1 + 1), ((r0.set t5.toNat (t1, (r0.getD t5.toNat (0, 0, 0, 0)).2)).getD t5.toNat (0, 0, 0, 0)).2.2)).getD t5.toNat (0, 0, 0, 0)).1, (((r0.set t5.toNat (t1, (r0.getD t5.toNat (0, 0, 0, 0)).2)).set t5.toNat (((r0.set t5.toNat (t1, (r0.getD t5.toNat (0, 0, 0, 0)).2)).getD t5.toNat (0, 0, 0, 0)).1, wI (t1 + 1), ((r0.set t5.toNat (t1, (r0.getD t5.toNat (0, 0, 0, 0)).2)).getD t5.toNat (0, 0, 0, 0)).2.2)).getD t5.toNat (0, 0, 0, 0)).2.1, wI ((wI (t1 + 1)) + 1), (((r0.set t5.toNat (t1, (r0.getD t5.toNat (0, 0, 0, 0)).2)).set t5.toNat (((r0.set t5.toNat (t1, (r0.getD t5.toNat (0, 0, 0, 0)).2)).getD t5.toNat (0, 0, 0, 0)).1, wI (t1 + 1), ((r0.set t5.toNat (t1, (r0.getD t5.toNat (0, 0, 0, 0)).2)).getD t5.toNat (0, 0, 0, 0)).2.2)).getD t5.toNat (0, 0, 0, 0)).2.2.2)).set t5.toNat (((((r0.set t5.toNat (t1, (r0.getD t5.toNat (0, 0, 0, 0)).2)).set t5.toNat (((r0.set t5.toNat (t1, (r0.getD t5.toNat (0, 0, 0, 0)).2)).getD t5.toNat (0, 0, 0, 0)).1, wI (t1 + 1), ((r0.set t5.toNat (t1, (r0.getD t5.toNat (0, 0, 0, 0)).2)).getD t5.toNat (0, 0, 0, 0)).2.2)).set t5.toNat ((((r0.set t5.toNat (t1, (r0.getD t5.toNat (0, 0, 0, 0)).2)).set t5.toNat (((r0.set t5.toNat (t1, (r0.getD t5.toNat (0, 0, 0, 0)).2)).getD t5.toNat (0, 0, 0, 0)).1, wI (t1 + 1), ((r0.set t5.toNat (t1, (r0.getD t5.toNat (0, 0, 0, 0)).2)).getD t5.toNat (0, 0, 0, 0)).2.2)).getD t5.toNat (0, 0, 0, 0)).1, (((r0.set t5.toNat (t1, (r0.getD t5.toNat (0, 0, 0, 0)).2)).set t5.toNat (((r0.set t5.toNat (t1, (r0.getD t5.toNat (0, 0, 0, 0)).2)).getD t5.toNat (0, 0, 0, 0)).1, wI (t1 + 1), ((r0.set t5.toNat (t1, (r0.getD t5.toNat (0, 0, 0, 0)).2)).getD t5.toNat (0, 0, 0, 0)).2.2)).getD t5.toNat (0, 0, 0, 0)).2.1, wI ((wI (t1 + 1)) + 1), (((r0.set t5.toNat (t1, (r0.getD t5.toNat (0, 0, 0, 0)).2)).set t5.toNat (((r0.set t5.toNat (t1, (r0.getD t5.toNat (0, 0, 0, 0)).2)).getD t5.toNat (0, 0, 0, 0)).1, wI (t1 + 1), ((r0.set t5.toNat (t1, (r0.getD t5.toNat (0, 0, 0, 0)).2)).getD t5.toNat (0, 0, 0, 0)).2.2)).getD t5.toNat (0, 0, 0, 0)).2.2.2)).getD t5.toNat (0, 0, 0, 0)).1, ((((r0.set t5.toNat (t1, (r0.getD t5.toNat (0, 0, 0, 0)).2)).set t5.toNat (((r0.set t5.toNat (t1, (r0.getD t5.toNat (0, 0, 0, 0)).2)).getD t5.toNat (0, 0, 0, 0)).1, wI (t1 + 1), ((r0.set t5.toNat (t1, (r0.getD t5.toNat (0, 0, 0, 0)).2)).getD t5.toNat (0, 0, 0, 0)).2.2)).set t5.toNat ((((r0.set t5.toNat (t1, (r0.getD t5.toNat (0, 0, 0, 0)).2)).set t5.toNat (((r0.set t5.toNat (t1, (r0.getD t5.toNat (0, 0, 0, 0)).2)).getD t5.toNat (0, 0, 0, 0)).1, wI (t1 + 1), ((r0.set t5.toNat (t1, (r0.getD t5.toNat (0, 0, 0, 0)).2)).getD t5.toNat (0, 0, 0, 0)).2.2)).getD t5.toNat (0, 0, 0, 0)).1, (((r0.set t5.toNat (t1, (r0.getD t5.toNat (0, 0, 0, 0)).2)).set t5.toNat (((r0.set t5.toNat (t1, (r0.getD t5.toNat (0, 0, 0, 0)).2)).getD t5.toNat (0, 0, 0, 0)).1, wI (t1 + 1), ((r0.set t5.toNat (t1, (r0.getD t5.toNat (0, 0, 0, 0)).2)).getD t5.toNat (0, 0, 0, 0)).2.2)).getD t5.toNat (0, 0, 0, 0)).2.1, wI ((wI (t1 + 1)) + 1), (((r0.set t5.toNat (t1, (r0.getD t5.toNat (0, 0, 0, 0)).2)).set t5.toNat (((r0.set t5.toNat (t1, (r0.getD t5.toNat (0, 0, 0, 0)).2)).getD t5.toNat (0, 0, 0, 0)).1, wI (t1 + 1), ((r0.set t5.toNat (t1, (r0.getD t5.toNat (0, 0, 0, 0)).2)).getD t5.toNat (0, 0, 0, 0)).2.2)).getD t5.toNat (0, 0, 0, 0)).2.2.2)).getD t5.toNat (0, 0, 0, 0)).2.1, ((((r0.set t5.toNat (t1, (r0.getD t5.toNat (0, 0, 0, 0)).2)).set t5.toNat (((r0.set t5.toNat (t1, (r0.getD t5.toNat (0, 0, 0, 0)).2)).getD t5.toNat (0, 0, 0, 0)).1, wI (t1 + 1), ((r0.set t5.toNat (t1, (r0.getD t5.toNat (0, 0, 0, 0)).2)).getD t5.toNat (0, 0, 0, 0)).2.2)).set t5.toNat ((((r0.set t5.toNat (t1, (r0.getD t5.toNat (0, 0, 0, 0)).2)).set t5.toNat (((r0.set t5.toNat (t1, (r0.getD t5.toNat (0, 0, 0, 0)).2)).getD t5.toNat (0, 0, 0, 0)).1, wI (t1 + 1), ((r0.set t5.toNat (t1, (r0.getD t5.toNat (0, 0, 0, 0)).2)).getD t5.toNat (0, 0, 0, 0)).2.2)).getD t5.toNat (0, 0, 0, 0)).1, (((r0.set t5.toNat (t1, (r0.getD t5.toNat (0, 0, 0, 0)).2)).set t5.toNat (((r0.set t5.toNat (t1, (r0.getD t5.toNat (0, 0, 0, 0)).2)).getD t5.toNat (0, 0, 0, 0)).1, wI (t1 + 1), ((r0.set t5.toNat (t1, (r0.getD t5.toNat (0, 0, 0, 0)).2)).getD t5.toNat (0, 0, 0, 0)).2.2)).getD t5.toNat (0, 0, 0, 0)).2.1, wI ((wI (t1 + 1)) + 1), (((r0.set t5.toNat (t1, (r0.getD t5.toNat (0, 0, 0, 0)).2)).set t5.toNat (((r0.set t5.toNat (t1, (r0.getD t5.toNat (0, 0, 0, 0)).2)).getD t5.toNat (0, 0, 0, 0)).1, wI (t1 + 1), ((r0.set t5.toNat (t1, (r0.getD t5.toNat (0, 0, 0, 0)).2)).getD t5.toNat (0, 0, 0, 0)).2.2)).getD t5.toNat (0, 0, 0, 0)).2.2.2)).getD t5.toNat (0, 0, 0, 0)).2.2.1, wI ((wI ((wI (t1 + 1)) + 1)) + 1)), ())
          else
            none
        else
          none
      else
        none
    else
      none
  else
    some (t1, r0, ())
noncomputable def hd {R : Type} : Hand R := handNil
noncomputable def pg (J2 : List Item → P2 → Option PO) : Prog PO := { nt := 41, np := 1, tb := tabOf tab, hd := hd, cuts := cutsOf [(2, cut p2 J2)], fin := endOf (tabOf tab) rs 1 pout }
theorem seg0 (J2 : List Item → P2 → Option PO) (x1 : Int) (r1 : List (Int × Int × Int × Int)) : arun (pg J2) 5000 [.code c0] (mk pin (x1, r1, ())) = F0 (J2 T2) x1 r1 := by kernel_rfl
theorem seg2 (J2 : List Item → P2 → Option PO) (t1 : Int) (t5 : Int) (r0 : List (Int × Int × Int × Int)) : arun1 (pg J2) 5000 T2 (mk p2 (t1, t5, r0, ())) = F2 (J2 T2) t1 t5 r0 := by kernel_rfl
noncomputable def L2 : P2 → Option PO := lfp fun J2 x => F2 J2 x.1 x.2.1 x.2.2.1
noncomputable def impl : PI → Option PO := fun x => F0 L2 x.1 x.2.1
theorem F2_le {J2 J2' : P2 → Option PO} (h2 : OLe J2 J2') (t1 : Int) (t5 : Int) (r0 : List (Int × Int × Int × Int)) : OptLe (F2 J2 t1 t5 r0) (F2 J2' t1 t5 r0) := by unfold F2; exact .cond (.cond (.cond (.cond (.cond (.of h2 _) (.refl _)) (.refl _)) (.refl _)) (.refl _)) (.refl _)
theorem L2_mono : OMono fun J2 (x : P2) => F2 J2 x.1 x.2.1 x.2.2.1 := fun J J' h2 x => F2_le h2 x.1 x.2.1 x.2.2.1
theorem L2_eq (t1 : Int) (t5 : Int) (r0 : List (Int × Int × Int × Int)) : L2 (t1, t5, r0, ()) = F2 (L2) t1 t5 r0 := congrFun (lfp_eq (L2_mono)) _
theorem impl_eq (x1 : Int) (r1 : List (Int × Int × Int × Int)) : impl (x1, r1, ()) = F0 L2 x1 r1 := rfl
theorem con : Con Try.prog 20 2 rs.length 1 pin pout impl := by
  refine con_of_run' (nt := 41) (c := c0) tabGood Try.func20 (by kernel_rfl) (by kernel_rfl) (by kernel_rfl) (by kernel_rfl) (by kernel_rfl) (by kernel_rfl) (by kernel_rfl) ?_
  intro w0 O y hnp
  generalize hPost : (fun (a' : Act) (w' : World) => ∃ μ' S' st', Rel 41 w0 O μ' S' st' a' w' ∧ endOf (tabOf tab) rs 1 pout st' = some y) = Post
  have fin : ∀ (μ : Id → Option Value) (S : Nat → Prop) (st : St) (a : Act) (w : World), Rel 41 w0 O μ S st a w → endOf (tabOf tab) rs 1 pout st = some y → Post a w := fun μ S st a w h he => by rw [← hPost]; exact ⟨μ, S, st, h, he⟩
  have hp : ∀ (J2 : List Item → P2 → Option PO), Parts Try.prog 20 (pg J2) [(2, cut p2 J2)] := fun J2 => ⟨tab_ok tabGood rfl, handNil_ok, rfl⟩
  have g2 : Good Try.prog 41 w0 O Post y T2 p2 L2 := good_lfp fun J2 h2 => good_part (hp (atT T2 J2)) (runOK_of (hp (atT T2 J2)) hnp ⟨cutOK_at h2, trivial⟩ fin) (fun x => (seg2 (atT T2 J2) x.1 x.2.1 x.2.2.1).trans (by simp only [atT_self] <;> rfl))
  exact good_first (hp (atT T2 L2)) (runOK_of (hp (atT T2 L2)) hnp ⟨cutOK_at g2, trivial⟩ fin) (fun x => (seg0 (atT T2 L2) x.1 x.2.1).trans (by simp only [atT_self] <;> rfl))
end laws_markTimeS

/-! ### loop.example/wholecheck/laws.heldTimeS -/
namespace laws_heldTimeS
noncomputable abbrev c0 : Code := (Try.f21.body).getD .skip
noncomputable abbrev pin : Tpl := ⟨[⟨0, false, [.d (.sl (.prod (.int .i64) (.prod (.int .i64) (.prod (.int .i64) (.last (.int .i64))))))]⟩, ⟨1, false, [.d (.int .i64)]⟩], []⟩
noncomputable abbrev pout : Tpl := ⟨[⟨0, false, [.d (.int .i64)]⟩], []⟩
noncomputable abbrev p2 : Tpl := ⟨[⟨0, false, [.d (.sl (.prod (.int .i64) (.prod (.int .i64) (.prod (.int .i64) (.last (.int .i64))))))]⟩, ⟨1, false, [.d (.int .i64)]⟩, ⟨5, false, [.d (.int .i64)]⟩], []⟩
noncomputable def T2 : List Item := (find 2 c0 []).getD []
noncomputable abbrev PI := (List (Int × Int × Int × Int)) × Int × Unit
noncomputable abbrev PO := Int × Unit
noncomputable abbrev P2 := (List (Int × Int × Int × Int)) × Int × Int × Unit
noncomputable abbrev rs : List ResultVar := [.tmp 4]
noncomputable def F0 (J2 : P2 → Option PO) (x0 : List (Int × Int × Int × Int)) (x1 : Int) : Option PO :=
  J2 (x0, x1, 0, ())
noncomputable def F2 (J2 : P2 → Option PO) (t0 : List (Int × Int × Int × Int)) (t1 : Int) (t5 : Int) : Option PO :=
  bif decide (t5 < (t0.length : Int)) then
    bif inb t5 t0.length then
      bif (t0.getD t5.toNat (0, 0, 0, 0)).1 != t1 then
        some ((-1), ())
      else
        bif inb t5 t0.length then
          bif (t0.getD t5.toNat (0, 0, 0, 0)).2.1 != wI (t1 + 1) then
            some ((-1), ())
          else
            bif inb t5 t0.length then
              bif (t0.getD t5.toNat (0, 0, 0, 0)).2.2.1 != wI ((wI (t1 + 1)) + 1) then
                some ((-1), ())
              else
                bif inb t5 t0.length then
                  bif (t0.getD t5.toNat (0, 0, 0, 0)).2.2.2 != wI ((wI ((wI (t1 + 1)) + 1)) + 1) then
                    some ((-1), ())
                  else
                    J2 (t0, wI ((wI ((wI ((wI (t1 + 1)) + 1)) + 1)) + 1), wI (t5 + 1), ())
                else
                  none
            else
              none
        else
          none
    else
      none
  else
    some (t1, ())
noncomputable def hd {R : Type} : Hand R := handNil
noncomputable def pg (J2 : List Item → P2 → Option PO) : Prog PO := { nt := 49, np := 1, tb := tabOf tab, hd := hd, cuts := cutsOf [(2, cut p2 J2)], fin := endOf (tabOf tab) rs 1 pout }
theorem seg0 (J2 : List Item → P2 → Option PO) (x0 : List (Int × Int × Int × Int)) (x1 : Int) : arun (pg J2) 5000 [.code c0] (mk pin (x0, x1, ())) = F0 (J2 T2) x0 x1 := by kernel_rfl
theorem seg2 (J2 : List Item → P2 → Option PO) (t0 : List (Int × Int × Int × Int)) (t1 : Int) (t5 : Int) : arun1 (pg J2) 5000 T2 (mk p2 (t0, t1, t5, ())) = F2 (J2 T2) t0 t1 t5 := by kernel_rfl
noncomputable def L2 : P2 → Option PO := lfp fun J2 x => F2 J2 x.1 x.2.1 x.2.2.1
noncomputable def impl : PI → Option PO := fun x => F0 L2 x.1 x.2.1
theorem F2_le {J2 J2' : P2 → Option PO} (h2 : OLe J2 J2') (t0 : List (Int × Int × Int × Int)) (t1 : Int) (t5 : Int) : OptLe (F2 J2 t0 t1 t5) (F2 J2' t0 t1 t5) := by unfold F2; exact .cond (.cond (.cond (.refl _) (.cond (.cond (.refl _) (.cond (.cond (.refl _) (.cond (.cond (.refl _) (.of h2 _)) (.refl _))) (.refl _))) (.refl _))) (.refl _)) (.refl _)
theorem L2_mono : OMono fun J2 (x : P2) => F2 J2 x.1 x.2.1 x.2.2.1 := fun J J' h2 x => F2_le h2 x.1 x.2.1 x.2.2.1
theorem L2_eq (t0 : List (Int × Int × Int × Int)) (t1 : Int) (t5 : Int) : L2 (t0, t1, t5, ()) = F2 (L2) t0 t1 t5 := congrFun (lfp_eq (L2_mono)) _
theorem impl_eq (x0 : List (Int × Int × Int × Int)) (x1 : Int) : impl (x0, x1, ()) = F0 L2 x0 x1 := rfl
theorem con : Con Try.prog 21 2 rs.length 1 pin pout impl := by
  refine con_of_run' (nt := 49) (c := c0) tabGood Try.func21 (by kernel_rfl) (by kernel_rfl) (by kernel_rfl) (by kernel_rfl) (by kernel_rfl) (by kernel_rfl) (by kernel_rfl) ?_
  intro w0 O y hnp
  generalize hPost : (fun (a' : Act) (w' : World) => ∃ μ' S' st', Rel 49 w0 O μ' S' st' a' w' ∧ endOf (tabOf tab) rs 1 pout st' = some y) = Post
  have fin : ∀ (μ : Id → Option Value) (S : Nat → Prop) (st : St) (a : Act) (w : World), Rel 49 w0 O μ S st a w → endOf (tabOf tab) rs 1 pout st = some y → Post a w := fun μ S st a w h he => by rw [← hPost]; exact ⟨μ, S, st, h, he⟩
  have hp : ∀ (J2 : List Item → P2 → Option PO), Parts Try.prog 21 (pg J2) [(2, cut p2 J2)] := fun J2 => ⟨tab_ok tabGood rfl, handNil_ok, rfl⟩
  have g2 : Good Try.prog 49 w0 O Post y T2 p2 L2 := good_lfp fun J2 h2 => good_part (hp (atT T2 J2)) (runOK_of (hp (atT T2 J2)) hnp ⟨cutOK_at h2, trivial⟩ fin) (fun x => (seg2 (atT T2 J2) x.1 x.2.1 x.2.2.1).trans (by simp only [atT_self] <;> rfl))
  exact good_first (hp (atT T2 L2)) (runOK_of (hp (atT T2 L2)) hnp ⟨cutOK_at g2, trivial⟩ fin) (fun x => (seg0 (atT T2 L2) x.1 x.2.1).trans (by simp only [atT_self] <;> rfl))
end laws_heldTimeS

/-! ### loop.example/wholecheck/laws.FnExactPushed -/
namespace laws_FnExactPushed
noncomputable abbrev c0 : Code := (Try.f5.body).getD .skip
noncomputable abbrev pin : Tpl := ⟨[⟨0, false, [.d (.sl (.prod (.int .i64) (.prod (.int .i64) (.prod (.int .i64) (.last (.int .i64))))))]⟩, ⟨1, false, [.d (.int .i64)]⟩], []⟩
noncomputable abbrev pout : Tpl := ⟨[⟨0, false, [.d .bool]⟩], []⟩
noncomputable abbrev PI := (List (Int × Int × Int × Int)) × Int × Unit
noncomputable abbrev PO := Bool × Unit
noncomputable abbrev rs : List ResultVar := [.tmp 4]
noncomputable def F0 (Gimpl_Pushed : impl_Pushed.PI → Option impl_Pushed.PO) (Glaws_eqTimeS : laws_eqTimeS.PI → Option laws_eqTimeS.PO) (Glaws_heldTimeS : laws_heldTimeS.PI → Option laws_heldTimeS.PO) (Glaws_markTimeS : laws_markTimeS.PI → Option laws_markTimeS.PO) (Glaws_szTimeS : laws_szTimeS.PI → Option laws_szTimeS.PO) (Glaws_toTimeS : laws_toTimeS.PI → Option laws_toTimeS.PO) (Gspec_Pushed : spec_Pushed.PI → Option spec_Pushed.PO) (x0 : List (Int × Int × Int × Int)) (x1 : Int) : Option PO :=
  Option.bind (Glaws_szTimeS (x0, 1048576, ())) fun y0 =>
  bif decide (y0.1 < 0) then
    some (true, ())
  else
    Option.bind (Glaws_toTimeS (x0, ())) fun y1 =>
    Option.bind (Gspec_Pushed (y1.1, x1, ())) fun y2 =>
    Option.bind (Glaws_toTimeS (x0, ())) fun y3 =>
    Option.bind (Gimpl_Pushed (y3.1, x1, ())) fun y4 =>
    Option.bind (Glaws_eqTimeS (y4.1, y2.1, ())) fun y5 =>
    bif !y5.1 then
      some (false, ())
    else
      Option.bind (Glaws_toTimeS (x0, ())) fun y6 =>
      Option.bind (Glaws_eqTimeS (y3.1, y6.1, ())) fun y7 =>
      bif !y7.1 then
        some (false, ())
      else
        Option.bind (Glaws_markTimeS (1, y3.1, ())) fun y8 =>
        bif decide (y8.1 < 0) then
          some (false, ())
        else
          Option.bind (Glaws_eqTimeS (y4.1, y2.1, ())) fun y9 =>
          bif !y9.1 then
            some (false, ())
          else
            Option.bind (Glaws_markTimeS (1, y4.1, ())) fun y10 =>
            Option.bind (Glaws_heldTimeS (y10.2.1, 1, ())) fun y11 =>
            bif decide (y11.1 < 0) then
              some (false, ())
            else
              bif y11.1 != y10.1 then
                some (false, ())
              else
                Option.bind (Glaws_toTimeS (x0, ())) fun y12 =>
                Option.bind (Gimpl_Pushed (y12.1, x1, ())) fun y13 =>
                Option.bind (Glaws_eqTimeS (y13.1, y2.1, ())) fun y14 =>
                bif !y14.1 then
                  some (false, ())
                else
                  Option.bind (Glaws_heldTimeS (y10.2.1, 1, ())) fun y15 =>
                  bif decide (y15.1 < 0) then
                    some (false, ())
                  else
                    bif y15.1 != y10.1 then
                      some (false, ())
                    else
                      some (true, ())
noncomputable def hd {R : Type} (Gimpl_Pushed : impl_Pushed.PI → Option impl_Pushed.PO) (Glaws_eqTimeS : laws_eqTimeS.PI → Option laws_eqTimeS.PO) (Glaws_heldTimeS : laws_heldTimeS.PI → Option laws_heldTimeS.PO) (Glaws_markTimeS : laws_markTimeS.PI → Option laws_markTimeS.PO) (Glaws_szTimeS : laws_szTimeS.PI → Option laws_szTimeS.PO) (Glaws_toTimeS : laws_toTimeS.PI → Option laws_toTimeS.PO) (Gspec_Pushed : spec_Pushed.PI → Option spec_Pushed.PO) : Hand R := (handAt 21 [52, 68] true ⟨2, 1, 1, laws_heldTimeS.pin, laws_heldTimeS.pout, Glaws_heldTimeS⟩ (handAt 20 [38, 49] true ⟨2, 1, 1, laws_markTimeS.pin, laws_markTimeS.pout, Glaws_markTimeS⟩ (handAt 19 [29, 34, 44, 64] true ⟨2, 1, 2, laws_eqTimeS.pin, laws_eqTimeS.pout, Glaws_eqTimeS⟩ (handAt 18 [26, 61] true ⟨2, 1, 2, impl_Pushed.pin, impl_Pushed.pout, Gimpl_Pushed⟩ (handAt 17 [19, 23, 33, 59] true ⟨1, 1, 1, laws_toTimeS.pin, laws_toTimeS.pout, Glaws_toTimeS⟩ (handAt 16 [21] false ⟨2, 1, 2, spec_Pushed.pin, spec_Pushed.pout, Gspec_Pushed⟩ (handAt 15 [15] true ⟨2, 1, 1, laws_szTimeS.pin, laws_szTimeS.pout, Glaws_szTimeS⟩ handNil)))))))
noncomputable def pg (Gimpl_Pushed : impl_Pushed.PI → Option impl_Pushed.PO) (Glaws_eqTimeS : laws_eqTimeS.PI → Option laws_eqTimeS.PO) (Glaws_heldTimeS : laws_heldTimeS.PI → Option laws_heldTimeS.PO) (Glaws_markTimeS : laws_markTimeS.PI → Option laws_markTimeS.PO) (Glaws_szTimeS : laws_szTimeS.PI → Option laws_szTimeS.PO) (Glaws_toTimeS : laws_toTimeS.PI → Option laws_toTimeS.PO) (Gspec_Pushed : spec_Pushed.PI → Option spec_Pushed.PO) : Prog PO := { nt := 74, np := 2, tb := tabOf tab, hd := hd Gimpl_Pushed Glaws_eqTimeS Glaws_heldTimeS Glaws_markTimeS Glaws_szTimeS Glaws_toTimeS Gspec_Pushed, cuts := cutsOf [], fin := endOf (tabOf tab) rs 2 pout }
theorem seg0 (Gimpl_Pushed : impl_Pushed.PI → Option impl_Pushed.PO) (Glaws_eqTimeS : laws_eqTimeS.PI → Option laws_eqTimeS.PO) (Glaws_heldTimeS : laws_heldTimeS.PI → Option laws_heldTimeS.PO) (Glaws_markTimeS : laws_markTimeS.PI → Option laws_markTimeS.PO) (Glaws_szTimeS : laws_szTimeS.PI → Option laws_szTimeS.PO) (Glaws_toTimeS : laws_toTimeS.PI → Option laws_toTimeS.PO) (Gspec_Pushed : spec_Pushed.PI → Option spec_Pushed.PO) (x0 : List (Int × Int × Int × Int)) (x1 : Int) : arun (pg Gimpl_Pushed Glaws_eqTimeS Glaws_heldTimeS Glaws_markTimeS Glaws_szTimeS Glaws_toTimeS Gspec_Pushed) 5000 [.code c0] (mk pin (x0, x1, ())) = F0 Gimpl_Pushed Glaws_eqTimeS Glaws_heldTimeS Glaws_markTimeS Glaws_szTimeS Glaws_toTimeS Gspec_Pushed x0 x1 := by kernel_rfl
noncomputable def impl : PI → Option PO := fun x => F0 impl_Pushed.impl laws_eqTimeS.impl laws_heldTimeS.impl laws_markTimeS.impl laws_szTimeS.impl laws_toTimeS.impl spec_Pushed.impl x.1 x.2.1
theorem impl_eq (x0 : List (Int × Int × Int × Int)) (x1 : Int) : impl (x0, x1, ()) = F0 impl_Pushed.impl laws_eqTimeS.impl laws_heldTimeS.impl laws_markTimeS.impl laws_szTimeS.impl laws_toTimeS.impl spec_Pushed.impl x0 x1 := rfl
theorem con : Con Try.prog 5 2 rs.length 2 pin pout impl := by
  refine con_of_run' (nt := 74) (c := c0) tabGood Try.func5 (by kernel_rfl) (by kernel_rfl) (by kernel_rfl) (by kernel_rfl) (by kernel_rfl) (by kernel_rfl) (by kernel_rfl) ?_
  intro w0 O y hnp
  generalize hPost : (fun (a' : Act) (w' : World) => ∃ μ' S' st', Rel 74 w0 O μ' S' st' a' w' ∧ endOf (tabOf tab) rs 2 pout st' = some y) = Post
  have fin : ∀ (μ : Id → Option Value) (S : Nat → Prop) (st : St) (a : Act) (w : World), Rel 74 w0 O μ S st a w → endOf (tabOf tab) rs 2 pout st = some y → Post a w := fun μ S st a w h he => by rw [← hPost]; exact ⟨μ, S, st, h, he⟩
  have hp : Parts Try.prog 5 (pg impl_Pushed.impl laws_eqTimeS.impl laws_heldTimeS.impl laws_markTimeS.impl laws_szTimeS.impl laws_toTimeS.impl spec_Pushed.impl) [] := ⟨tab_ok tabGood rfl, (handAt_ok laws_heldTimeS.con (handAt_ok laws_markTimeS.con (handAt_ok laws_eqTimeS.con (handAt_ok impl_Pushed.con (handAt_ok laws_toTimeS.con (handAt_ok spec_Pushed.con (handAt_ok laws_szTimeS.con handNil_ok))))))), rfl⟩
  exact good_first (hp) (runOK_of (hp) hnp trivial fin) (fun x => (seg0 impl_Pushed.impl laws_eqTimeS.impl laws_heldTimeS.impl laws_markTimeS.impl laws_szTimeS.impl laws_toTimeS.impl spec_Pushed.impl x.1 x.2.1))
end laws_FnExactPushed
end Go.Proofs.YtgagmcbeobkfoaaB
