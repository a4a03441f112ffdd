/- PRINTED BY A PROGRAM OF THIS CLAIM'S AUTHOR (wip/gen): functions of the given program, their parts, their contracts. -/
import Derived.Test.YtambmmpilakgoaaDoorB34
import Derived.Test.YtambmmpilakgoaaDoorB39
import Derived.Test.YtambmmpilakgoaaDoorChecked
import Derived.Test.YtambmmpilakgoaaDoorLFnExactNamesValid
set_option linter.unusedVariables false
set_option maxRecDepth 100000
namespace Go.Proofs.YtambmmpilakgoaaDoorB
open Go
def tab : Tab := [(4, { kind := .scalar, zero := [.d .bool false], bytes := 1, data := some .bool, eqf := none }),
  (9, { kind := .scalar, zero := [.d .str ([] : List UInt8)], bytes := 16, data := some .str, eqf := none }),
  (22, { kind := .slice 9, zero := [.nilS], bytes := 24, data := some (.sl .str), eqf := none })]
theorem tabGood : tabB Tryd.prog tab = true := by kernel_rfl

/-! ### loop.example/wholecheck/laws.szStringS -/
namespace laws_szStringS
noncomputable abbrev c0 : Code := (Tryd.f11.body).getD .skip
noncomputable abbrev pin : Tpl := ⟨[⟨0, false, [.d (.sl .str)]⟩, ⟨1, false, [.d (.int .i64)]⟩], []⟩
noncomputable abbrev pout : Tpl := ⟨[⟨0, false, [.d (.int .i64)]⟩], []⟩
noncomputable abbrev p5 : Tpl := ⟨[⟨0, false, [.d (.sl .str)]⟩, ⟨1, false, [.d (.int .i64)]⟩, ⟨5, false, [.d (.int .i64)]⟩], []⟩
noncomputable def T5 : List Item := (find 5 c0 []).getD []
noncomputable abbrev PI := (List (List UInt8)) × Int × Unit
noncomputable abbrev PO := Int × Unit
noncomputable abbrev P5 := (List (List UInt8)) × Int × Int × Unit
noncomputable abbrev rs : List ResultVar := [.tmp 4]
noncomputable def F0 (J5 : P5 → Option PO) (x0 : List (List UInt8)) (x1 : Int) : Option PO :=
  bif decide (wI (x1 - (x0.length : Int)) < 0) then
    some ((-1), ())
  else
    J5 (x0, wI (x1 - (x0.length : Int)), 0, ())
noncomputable def F5 (J5 : P5 → Option PO) (t0 : List (List UInt8)) (t1 : Int) (t5 : Int) : Option PO :=
  bif decide (t5 < (t0.length : Int)) then
    bif inb t5 t0.length then
      bif decide (wI (t1 - ((t0.getD t5.toNat []).length : Int)) < 0) then
        some ((-1), ())
      else
        J5 (t0, wI (t1 - ((t0.getD t5.toNat []).length : Int)), wI (t5 + 1), ())
    else
      none
  else
    some (t1, ())
noncomputable def hd {R : Type} : Hand R := handNil
noncomputable def pg (J5 : List Item → P5 → Option PO) : Prog PO := { nt := 28, np := 1, tb := tabOf tab, hd := hd, cuts := cutsOf [(5, cut p5 J5)], fin := endOf (tabOf tab) rs 1 pout }
noncomputable def q : FuncId → Bool := fun f => hasId [] f
theorem seg0 (J5 : List Item → P5 → Option PO) (x0 : List (List UInt8)) (x1 : Int) : arun (pg J5) 5000 [.code c0] (mk pin (x0, x1, ())) = F0 (J5 T5) x0 x1 := by kernel_rfl
theorem seg5 (J5 : List Item → P5 → Option PO) (t0 : List (List UInt8)) (t1 : Int) (t5 : Int) : arun1 (pg J5) 5000 T5 (mk p5 (t0, t1, t5, ())) = F5 (J5 T5) t0 t1 t5 := by kernel_rfl
noncomputable def L5 : P5 → Option PO := lfp fun J5 x => F5 J5 x.1 x.2.1 x.2.2.1
noncomputable def impl : PI → Option PO := fun x => F0 L5 x.1 x.2.1
theorem F5_le {J5 J5' : P5 → Option PO} (h5 : OLe J5 J5') (t0 : List (List UInt8)) (t1 : Int) (t5 : Int) : OptLe (F5 J5 t0 t1 t5) (F5 J5' t0 t1 t5) := by unfold F5; exact .cond (.cond (.cond (.refl _) (.of h5 _)) (.refl _)) (.refl _)
theorem L5_mono : OMono fun J5 (x : P5) => F5 J5 x.1 x.2.1 x.2.2.1 := fun J J' h5 x => F5_le h5 x.1 x.2.1 x.2.2.1
theorem L5_eq (t0 : List (List UInt8)) (t1 : Int) (t5 : Int) : L5 (t0, t1, t5, ()) = F5 (L5) t0 t1 t5 := congrFun (lfp_eq (L5_mono)) _
theorem impl_eq (x0 : List (List UInt8)) (x1 : Int) : impl (x0, x1, ()) = F0 L5 x0 x1 := rfl
theorem con : Con Tryd.prog 11 2 rs.length 1 pin pout impl := by
  refine con_of_run' (nt := 28) (c := c0) tabGood Tryd.func11 (by kernel_rfl) (by kernel_rfl) (by kernel_rfl) (by kernel_rfl) (by kernel_rfl) (by kernel_rfl) (by kernel_rfl) ?_
  intro w0 O y hnp
  generalize hPost : (fun (a' : Act) (w' : World) => ∃ μ' S' st', Rel 28 w0 O μ' S' st' a' w' ∧ endOf (tabOf tab) rs 1 pout st' = some y) = Post
  have fin : ∀ (μ : Id → Option Value) (S : Nat → Prop) (st : St) (a : Act) (w : World), Rel 28 w0 O μ S st a w → endOf (tabOf tab) rs 1 pout st = some y → Post a w := fun μ S st a w h he => by rw [← hPost]; exact ⟨μ, S, st, h, he⟩
  have hp : ∀ (J5 : List Item → P5 → Option PO), Parts Tryd.prog 11 (pg J5) [(5, cut p5 J5)] := fun J5 => ⟨tab_ok tabGood rfl, handNil_ok, rfl⟩
  have g5 : Good Tryd.prog 28 w0 O Post y T5 p5 L5 := good_lfp fun J5 h5 => good_part (hp (atT T5 J5)) (runOK_of (hp (atT T5 J5)) hnp ⟨cutOK_at h5, trivial⟩ fin) (fun x => (seg5 (atT T5 J5) x.1 x.2.1 x.2.2.1).trans (by simp only [atT_self] <;> rfl))
  exact good_first (hp (atT T5 L5)) (runOK_of (hp (atT T5 L5)) hnp ⟨cutOK_at g5, trivial⟩ fin) (fun x => (seg0 (atT T5 L5) x.1 x.2.1).trans (by simp only [atT_self] <;> rfl))
end laws_szStringS

/-! ### loop.example/wholecheck/laws.toStringS -/
namespace laws_toStringS
noncomputable abbrev c0 : Code := (Tryd.f13.body).getD .skip
noncomputable abbrev pin : Tpl := ⟨[⟨0, false, [.d (.sl .str)]⟩], []⟩
noncomputable abbrev pout : Tpl := ⟨[⟨0, false, [.row 600001]⟩], [(600001, .row 9 false .str)]⟩
noncomputable abbrev p3 : Tpl := ⟨[⟨0, false, [.d (.sl .str)]⟩, ⟨3, false, [.row 3000000]⟩, ⟨4, false, [.d (.int .i64)]⟩], [(3000000, .row 9 false .str)]⟩
noncomputable def T3 : List Item := (find 3 c0 []).getD []
noncomputable abbrev PI := (List (List UInt8)) × Unit
noncomputable abbrev PO := (List (List UInt8)) × Unit
noncomputable abbrev P3 := (List (List UInt8)) × Int × (List (List UInt8)) × Unit
noncomputable abbrev rs : List ResultVar := [.tmp 2]
noncomputable def F0 (J3 : P3 → Option PO) (x0 : List (List UInt8)) : Option PO :=
  bif decide (0 ≤ (x0.length : Int)) && decide ((x0.length : Int) ≤ (x0.length : Int)) && decide ((x0.length : Int) * 16 ≤ 140737488355328) then
    J3 (x0, 0, (List.replicate (x0.length : Int).toNat [] : List (List UInt8)), ())
  else
    none
noncomputable def F3 (J3 : P3 → Option PO) (t0 : List (List UInt8)) (t4 : Int) (r0 : List (List UInt8)) : Option PO :=
  bif decide (t4 < (t0.length : Int)) then
    bif inb t4 t0.length then
      bif inb t4 r0.length then
        J3 (t0, wI (t4 + 1), r0.set t4.toNat (t0.getD t4.toNat []), ())
      else
        none
    else
      none
  else
    some (r0, ())
noncomputable def hd {R : Type} : Hand R := handNil
noncomputable def pg (J3 : List Item → P3 → Option PO) : Prog PO := { nt := 22, np := 1, tb := tabOf tab, hd := hd, cuts := cutsOf [(3, cut p3 J3)], fin := endOf (tabOf tab) rs 1 pout }
noncomputable def q : FuncId → Bool := fun f => hasId [] f
theorem seg0 (J3 : List Item → P3 → Option PO) (x0 : List (List UInt8)) : arun (pg J3) 5000 [.code c0] (mk pin (x0, ())) = F0 (J3 T3) x0 := by kernel_rfl
theorem seg3 (J3 : List Item → P3 → Option PO) (t0 : List (List UInt8)) (t4 : Int) (r0 : List (List UInt8)) : arun1 (pg J3) 5000 T3 (mk p3 (t0, t4, r0, ())) = F3 (J3 T3) t0 t4 r0 := by kernel_rfl
noncomputable def L3 : P3 → Option PO := lfp fun J3 x => F3 J3 x.1 x.2.1 x.2.2.1
noncomputable def impl : PI → Option PO := fun x => F0 L3 x.1
theorem F3_le {J3 J3' : P3 → Option PO} (h3 : OLe J3 J3') (t0 : List (List UInt8)) (t4 : Int) (r0 : List (List UInt8)) : OptLe (F3 J3 t0 t4 r0) (F3 J3' t0 t4 r0) := by unfold F3; exact .cond (.cond (.cond (.of h3 _) (.refl _)) (.refl _)) (.refl _)
theorem L3_mono : OMono fun J3 (x : P3) => F3 J3 x.1 x.2.1 x.2.2.1 := fun J J' h3 x => F3_le h3 x.1 x.2.1 x.2.2.1
theorem L3_eq (t0 : List (List UInt8)) (t4 : Int) (r0 : List (List UInt8)) : L3 (t0, t4, r0, ()) = F3 (L3) t0 t4 r0 := congrFun (lfp_eq (L3_mono)) _
theorem impl_eq (x0 : List (List UInt8)) : impl (x0, ()) = F0 L3 x0 := rfl
theorem con : Con Tryd.prog 13 1 rs.length 1 pin pout impl := by
  refine con_of_run' (nt := 22) (c := c0) tabGood Tryd.func13 (by kernel_rfl) (by kernel_rfl) (by kernel_rfl) (by kernel_rfl) (by kernel_rfl) (by kernel_rfl) (by kernel_rfl) ?_
  intro w0 O y hnp
  generalize hPost : (fun (a' : Act) (w' : World) => ∃ μ' S' st', Rel 22 w0 O μ' S' st' a' w' ∧ endOf (tabOf tab) rs 1 pout st' = some y) = Post
  have fin : ∀ (μ : Id → Option Value) (S : Nat → Prop) (st : St) (a : Act) (w : World), Rel 22 w0 O μ S st a w → endOf (tabOf tab) rs 1 pout st = some y → Post a w := fun μ S st a w h he => by rw [← hPost]; exact ⟨μ, S, st, h, he⟩
  have hp : ∀ (J3 : List Item → P3 → Option PO), Parts Tryd.prog 13 (pg J3) [(3, cut p3 J3)] := fun J3 => ⟨tab_ok tabGood rfl, handNil_ok, rfl⟩
  have g3 : Good Tryd.prog 22 w0 O Post y T3 p3 L3 := good_lfp fun J3 h3 => good_part (hp (atT T3 J3)) (runOK_of (hp (atT T3 J3)) hnp ⟨cutOK_at h3, trivial⟩ fin) (fun x => (seg3 (atT T3 J3) x.1 x.2.1 x.2.2.1).trans (by simp only [atT_self] <;> rfl))
  exact good_first (hp (atT T3 L3)) (runOK_of (hp (atT T3 L3)) hnp ⟨cutOK_at g3, trivial⟩ fin) (fun x => (seg0 (atT T3 L3) x.1).trans (by simp only [atT_self] <;> rfl))
end laws_toStringS

/-! ### loop.example/wholecheck/spec.l1In -/
namespace spec_l1In
noncomputable abbrev c0 : Code := (Tryd.f103.body).getD .skip
noncomputable abbrev pin : Tpl := ⟨[⟨0, false, [.d (.int .i64)]⟩, ⟨1, false, [.d (.int .i64)]⟩, ⟨2, false, [.d (.int .i64)]⟩], []⟩
noncomputable abbrev pout : Tpl := ⟨[⟨0, false, [.d .bool]⟩], []⟩
noncomputable abbrev PI := Int × Int × Int × Unit
noncomputable abbrev PO := Bool × Unit
noncomputable abbrev rs : List ResultVar := [.tmp 6]
noncomputable def F0 (x0 : Int) (x1 : Int) (x2 : Int) : Option PO :=
  bif decide (x0 ≥ x1) then
    some (decide (x0 ≤ x2), ())
  else
    some (false, ())
noncomputable def hd {R : Type} : Hand R := handNil
noncomputable def pg : Prog PO := { nt := 15, np := 3, tb := tabOf tab, hd := hd, cuts := cutsOf [], fin := endOf (tabOf tab) rs 3 pout }
noncomputable def q : FuncId → Bool := fun f => hasId [] f
theorem seg0 (x0 : Int) (x1 : Int) (x2 : Int) : arun (pg) 5000 [.code c0] (mk pin (x0, x1, x2, ())) = F0 x0 x1 x2 := by kernel_rfl
noncomputable def impl : PI → Option PO := fun x => F0 x.1 x.2.1 x.2.2.1
theorem impl_eq (x0 : Int) (x1 : Int) (x2 : Int) : impl (x0, x1, x2, ()) = F0 x0 x1 x2 := rfl
theorem con : Con Tryd.prog 103 3 rs.length 3 pin pout impl := by
  refine con_of_run' (nt := 15) (c := c0) tabGood Tryd.func103 (by kernel_rfl) (by kernel_rfl) (by kernel_rfl) (by kernel_rfl) (by kernel_rfl) (by kernel_rfl) (by kernel_rfl) ?_
  intro w0 O y hnp
  generalize hPost : (fun (a' : Act) (w' : World) => ∃ μ' S' st', Rel 15 w0 O μ' S' st' a' w' ∧ endOf (tabOf tab) rs 3 pout st' = some y) = Post
  have fin : ∀ (μ : Id → Option Value) (S : Nat → Prop) (st : St) (a : Act) (w : World), Rel 15 w0 O μ S st a w → endOf (tabOf tab) rs 3 pout st = some y → Post a w := fun μ S st a w h he => by rw [← hPost]; exact ⟨μ, S, st, h, he⟩
  have hp : Parts Tryd.prog 103 (pg) [] := ⟨tab_ok tabGood rfl, handNil_ok, rfl⟩
  exact good_first (hp) (runOK_of (hp) hnp trivial fin) (fun x => (seg0 x.1 x.2.1 x.2.2.1))
end spec_l1In

/-! ### loop.example/wholecheck/spec.l30Name -/
namespace spec_l30Name
noncomputable abbrev c0 : Code := (Tryd.f49.body).getD .skip
noncomputable abbrev pin : Tpl := ⟨[⟨0, false, [.d .str]⟩], []⟩
noncomputable abbrev pout : Tpl := ⟨[⟨0, false, [.d .bool]⟩], []⟩
noncomputable abbrev p2 : Tpl := ⟨[⟨0, false, [.d .str]⟩, ⟨3, false, [.d (.int .i64)]⟩], []⟩
noncomputable def T2 : List Item := (find 2 c0 []).getD []
noncomputable abbrev PI := (List UInt8) × Unit
noncomputable abbrev PO := Bool × Unit
noncomputable abbrev P2 := (List UInt8) × Int × Unit
noncomputable abbrev rs : List ResultVar := [.tmp 2]
noncomputable def F0 (J2 : P2 → Option PO) (x0 : List UInt8) : Option PO :=
  J2 (x0, 0, ())
noncomputable def F2 (J2 : P2 → Option PO) (Gspec_l1In : spec_l1In.PI → Option spec_l1In.PO) (t0 : List UInt8) (t3 : Int) : Option PO :=
  bif decide (t3 < (t0.length : Int)) then
    bif inb t3 t0.length then
      bif decide (((t0.getD t3.toNat 0).toNat : Int) < 97) then
        some (false, ())
      else
        bif inb t3 t0.length then
          bif decide (((t0.getD t3.toNat 0).toNat : Int) > 122) then
            some (false, ())
          else
            J2 (t0, wI (t3 + 1), ())
        else
          none
    else
      none
  else
    Option.bind (Gspec_l1In ((t0.length : Int), 1, 8, ())) fun y0 =>
    some (y0.1, ())
noncomputable def hd {R : Type} (Gspec_l1In : spec_l1In.PI → Option spec_l1In.PO) : Hand R := (handAt 103 [22] true ⟨3, 1, 3, spec_l1In.pin, spec_l1In.pout, Gspec_l1In⟩ handNil)
noncomputable def pg (Gspec_l1In : spec_l1In.PI → Option spec_l1In.PO) (J2 : List Item → P2 → Option PO) : Prog PO := { nt := 23, np := 1, tb := tabOf tab, hd := hd Gspec_l1In, cuts := cutsOf [(2, cut p2 J2)], fin := endOf (tabOf tab) rs 1 pout }
noncomputable def q : FuncId → Bool := fun f => hasId [103] f
theorem seg0 (Gspec_l1In : spec_l1In.PI → Option spec_l1In.PO) (J2 : List Item → P2 → Option PO) (x0 : List UInt8) : arun (pg Gspec_l1In J2) 5000 [.code c0] (mk pin (x0, ())) = F0 (J2 T2) x0 := by kernel_rfl
theorem seg2 (Gspec_l1In : spec_l1In.PI → Option spec_l1In.PO) (J2 : List Item → P2 → Option PO) (t0 : List UInt8) (t3 : Int) : arun1 (pg Gspec_l1In J2) 5000 T2 (mk p2 (t0, t3, ())) = F2 (J2 T2) Gspec_l1In t0 t3 := by kernel_rfl
noncomputable def L2 : P2 → Option PO := lfp fun J2 x => F2 J2 spec_l1In.impl x.1 x.2.1
noncomputable def impl : PI → Option PO := fun x => F0 L2 x.1
theorem F2_le {J2 J2' : P2 → Option PO} (h2 : OLe J2 J2') {Gspec_l1In : spec_l1In.PI → Option spec_l1In.PO} (t0 : List UInt8) (t3 : Int) : OptLe (F2 J2 Gspec_l1In t0 t3) (F2 J2' Gspec_l1In t0 t3) := by unfold F2; exact .cond (.cond (.cond (.refl _) (.cond (.cond (.refl _) (.of h2 _)) (.refl _))) (.refl _)) (.refl _)
theorem L2_mono : OMono fun J2 (x : P2) => F2 J2 spec_l1In.impl x.1 x.2.1 := fun J J' h2 x => F2_le h2 x.1 x.2.1
theorem L2_eq (t0 : List UInt8) (t3 : Int) : L2 (t0, t3, ()) = F2 (L2) spec_l1In.impl t0 t3 := congrFun (lfp_eq (L2_mono)) _
theorem impl_eq (x0 : List UInt8) : impl (x0, ()) = F0 L2 x0 := rfl
theorem con : Con Tryd.prog 49 1 rs.length 1 pin pout impl := by
  refine con_of_run' (nt := 23) (c := c0) tabGood Tryd.func49 (by kernel_rfl) (by kernel_rfl) (by kernel_rfl) (by kernel_rfl) (by kernel_rfl) (by kernel_rfl) (by kernel_rfl) ?_
  intro w0 O y hnp
  generalize hPost : (fun (a' : Act) (w' : World) => ∃ μ' S' st', Rel 23 w0 O μ' S' st' a' w' ∧ endOf (tabOf tab) rs 1 pout st' = some y) = Post
  have fin : ∀ (μ : Id → Option Value) (S : Nat → Prop) (st : St) (a : Act) (w : World), Rel 23 w0 O μ S st a w → endOf (tabOf tab) rs 1 pout st = some y → Post a w := fun μ S st a w h he => by rw [← hPost]; exact ⟨μ, S, st, h, he⟩
  have hp : ∀ (J2 : List Item → P2 → Option PO), Parts Tryd.prog 49 (pg spec_l1In.impl J2) [(2, cut p2 J2)] := fun J2 => ⟨tab_ok tabGood rfl, (handAt_ok spec_l1In.con handNil_ok), rfl⟩
  have g2 : Good Tryd.prog 23 w0 O Post y T2 p2 L2 := good_lfp fun J2 h2 => good_part (hp (atT T2 J2)) (runOK_of (hp (atT T2 J2)) hnp ⟨cutOK_at h2, trivial⟩ fin) (fun x => (seg2 spec_l1In.impl (atT T2 J2) x.1 x.2.1).trans (by simp only [atT_self] <;> rfl))
  exact good_first (hp (atT T2 L2)) (runOK_of (hp (atT T2 L2)) hnp ⟨cutOK_at g2, trivial⟩ fin) (fun x => (seg0 spec_l1In.impl (atT T2 L2) x.1).trans (by simp only [atT_self] <;> rfl))
end spec_l30Name

/-! ### loop.example/wholecheck/spec.l30At -/
namespace spec_l30At
noncomputable abbrev c0 : Code := (Tryd.f50.body).getD .skip
noncomputable abbrev pin : Tpl := ⟨[⟨0, false, [.d (.sl .str)]⟩, ⟨1, false, [.d .str]⟩], []⟩
noncomputable abbrev pout : Tpl := ⟨[⟨0, false, [.d (.int .i64)]⟩], []⟩
noncomputable abbrev p2 : Tpl := ⟨[⟨0, false, [.d (.sl .str)]⟩, ⟨1, false, [.d .str]⟩, ⟨5, false, [.d (.int .i64)]⟩], []⟩
noncomputable def T2 : List Item := (find 2 c0 []).getD []
noncomputable abbrev PI := (List (List UInt8)) × (List UInt8) × Unit
noncomputable abbrev PO := Int × Unit
noncomputable abbrev P2 := (List (List UInt8)) × (List UInt8) × Int × Unit
noncomputable abbrev rs : List ResultVar := [.tmp 4]
noncomputable def F0 (J2 : P2 → Option PO) (x0 : List (List UInt8)) (x1 : List UInt8) : Option PO :=
  J2 (x0, x1, 0, ())
noncomputable def F2 (J2 : P2 → Option PO) (t0 : List (List UInt8)) (t1 : List UInt8) (t5 : Int) : Option PO :=
  bif decide (t5 < (t0.length : Int)) then
    bif inb t5 t0.length then
      bif (t0.getD t5.toNat []) == t1 then
        some (t5, ())
      else
        J2 (t0, t1, wI (t5 + 1), ())
    else
      none
  else
    some ((-1), ())
noncomputable def hd {R : Type} : Hand R := handNil
noncomputable def pg (J2 : List Item → P2 → Option PO) : Prog PO := { nt := 19, np := 2, tb := tabOf tab, hd := hd, cuts := cutsOf [(2, cut p2 J2)], fin := endOf (tabOf tab) rs 2 pout }
noncomputable def q : FuncId → Bool := fun f => hasId [] f
theorem seg0 (J2 : List Item → P2 → Option PO) (x0 : List (List UInt8)) (x1 : List UInt8) : arun (pg J2) 5000 [.code c0] (mk pin (x0, x1, ())) = F0 (J2 T2) x0 x1 := by kernel_rfl
theorem seg2 (J2 : List Item → P2 → Option PO) (t0 : List (List UInt8)) (t1 : List UInt8) (t5 : Int) : arun1 (pg J2) 5000 T2 (mk p2 (t0, t1, t5, ())) = F2 (J2 T2) t0 t1 t5 := by kernel_rfl
noncomputable def L2 : P2 → Option PO := lfp fun J2 x => F2 J2 x.1 x.2.1 x.2.2.1
noncomputable def impl : PI → Option PO := fun x => F0 L2 x.1 x.2.1
theorem F2_le {J2 J2' : P2 → Option PO} (h2 : OLe J2 J2') (t0 : List (List UInt8)) (t1 : List UInt8) (t5 : Int) : OptLe (F2 J2 t0 t1 t5) (F2 J2' t0 t1 t5) := by unfold F2; exact .cond (.cond (.cond (.refl _) (.of h2 _)) (.refl _)) (.refl _)
theorem L2_mono : OMono fun J2 (x : P2) => F2 J2 x.1 x.2.1 x.2.2.1 := fun J J' h2 x => F2_le h2 x.1 x.2.1 x.2.2.1
theorem L2_eq (t0 : List (List UInt8)) (t1 : List UInt8) (t5 : Int) : L2 (t0, t1, t5, ()) = F2 (L2) t0 t1 t5 := congrFun (lfp_eq (L2_mono)) _
theorem impl_eq (x0 : List (List UInt8)) (x1 : List UInt8) : impl (x0, x1, ()) = F0 L2 x0 x1 := rfl
theorem con : Con Tryd.prog 50 2 rs.length 2 pin pout impl := by
  refine con_of_run' (nt := 19) (c := c0) tabGood Tryd.func50 (by kernel_rfl) (by kernel_rfl) (by kernel_rfl) (by kernel_rfl) (by kernel_rfl) (by kernel_rfl) (by kernel_rfl) ?_
  intro w0 O y hnp
  generalize hPost : (fun (a' : Act) (w' : World) => ∃ μ' S' st', Rel 19 w0 O μ' S' st' a' w' ∧ endOf (tabOf tab) rs 2 pout st' = some y) = Post
  have fin : ∀ (μ : Id → Option Value) (S : Nat → Prop) (st : St) (a : Act) (w : World), Rel 19 w0 O μ S st a w → endOf (tabOf tab) rs 2 pout st = some y → Post a w := fun μ S st a w h he => by rw [← hPost]; exact ⟨μ, S, st, h, he⟩
  have hp : ∀ (J2 : List Item → P2 → Option PO), Parts Tryd.prog 50 (pg J2) [(2, cut p2 J2)] := fun J2 => ⟨tab_ok tabGood rfl, handNil_ok, rfl⟩
  have g2 : Good Tryd.prog 19 w0 O Post y T2 p2 L2 := good_lfp fun J2 h2 => good_part (hp (atT T2 J2)) (runOK_of (hp (atT T2 J2)) hnp ⟨cutOK_at h2, trivial⟩ fin) (fun x => (seg2 (atT T2 J2) x.1 x.2.1 x.2.2.1).trans (by simp only [atT_self] <;> rfl))
  exact good_first (hp (atT T2 L2)) (runOK_of (hp (atT T2 L2)) hnp ⟨cutOK_at g2, trivial⟩ fin) (fun x => (seg0 (atT T2 L2) x.1 x.2.1).trans (by simp only [atT_self] <;> rfl))
end spec_l30At

/-! ### loop.example/wholecheck/spec.NamesValid -/
namespace spec_NamesValid
noncomputable abbrev c0 : Code := (Tryd.f12.body).getD .skip
noncomputable abbrev pin : Tpl := ⟨[⟨0, false, [.d (.sl .str)]⟩], []⟩
noncomputable abbrev pout : Tpl := ⟨[⟨0, false, [.d .bool]⟩], []⟩
noncomputable abbrev p2 : Tpl := ⟨[⟨0, false, [.d (.sl .str)]⟩, ⟨3, false, [.d (.int .i64)]⟩], []⟩
noncomputable def T2 : List Item := (find 2 c0 []).getD []
noncomputable abbrev p4 : Tpl := ⟨[⟨0, false, [.d (.sl .str)]⟩, ⟨3, false, [.d (.int .i64)]⟩], []⟩
noncomputable def T4 : List Item := (find 4 c0 []).getD []
noncomputable abbrev PI := (List (List UInt8)) × Unit
noncomputable abbrev PO := Bool × Unit
noncomputable abbrev P2 := (List (List UInt8)) × Int × Unit
noncomputable abbrev P4 := (List (List UInt8)) × Int × Unit
noncomputable abbrev rs : List ResultVar := [.tmp 2]
noncomputable def F0 (J2 : P2 → Option PO) (x0 : List (List UInt8)) : Option PO :=
  J2 (x0, 0, ())
noncomputable def F2 (J4 : P4 → Option PO) (t0 : List (List UInt8)) (t3 : Int) : Option PO :=
  bif decide (t3 < (t0.length : Int)) then
    J4 (t0, t3, ())
  else
    some (decide ((t0.length : Int) ≤ 5), ())
noncomputable def F4 (J2 : P2 → Option PO) (Gspec_l30At : spec_l30At.PI → Option spec_l30At.PO) (Gspec_l30Name : spec_l30Name.PI → Option spec_l30Name.PO) (t0 : List (List UInt8)) (t3 : Int) : Option PO :=
  bif inb t3 t0.length then
    Option.bind (Gspec_l30Name (t0.getD t3.toNat [], ())) fun y0 =>
    bif !y0.1 then
      some (false, ())
    else
      bif decide (0 ≤ t3) && decide (t3 ≤ (t0.length : Int)) then
        bif inb t3 t0.length then
          Option.bind (Gspec_l30At ((t0.take t3.toNat).drop 0, t0.getD t3.toNat [], ())) fun y1 =>
          bif decide (y1.1 ≥ 0) then
            some (false, ())
          else
            J2 (t0, wI (t3 + 1), ())
        else
          none
      else
        none
  else
    none
noncomputable def hd {R : Type} (Gspec_l30At : spec_l30At.PI → Option spec_l30At.PO) (Gspec_l30Name : spec_l30Name.PI → Option spec_l30Name.PO) : Hand R := (handAt 50 [24] true ⟨2, 1, 2, spec_l30At.pin, spec_l30At.pout, Gspec_l30At⟩ (handAt 49 [14] true ⟨1, 1, 1, spec_l30Name.pin, spec_l30Name.pout, Gspec_l30Name⟩ handNil))
noncomputable def pg (Gspec_l30At : spec_l30At.PI → Option spec_l30At.PO) (Gspec_l30Name : spec_l30Name.PI → Option spec_l30Name.PO) (J2 : List Item → P2 → Option PO) (J4 : List Item → P4 → Option PO) : Prog PO := { nt := 30, np := 1, tb := tabOf tab, hd := hd Gspec_l30At Gspec_l30Name, cuts := cutsOf [(2, cut p2 J2), (4, cut p4 J4)], fin := endOf (tabOf tab) rs 1 pout }
noncomputable def q : FuncId → Bool := fun f => hasId [49, 50] f
theorem seg0 (Gspec_l30At : spec_l30At.PI → Option spec_l30At.PO) (Gspec_l30Name : spec_l30Name.PI → Option spec_l30Name.PO) (J2 : List Item → P2 → Option PO) (J4 : List Item → P4 → Option PO) (x0 : List (List UInt8)) : arun (pg Gspec_l30At Gspec_l30Name J2 J4) 5000 [.code c0] (mk pin (x0, ())) = F0 (J2 T2) x0 := by kernel_rfl
theorem seg2 (Gspec_l30At : spec_l30At.PI → Option spec_l30At.PO) (Gspec_l30Name : spec_l30Name.PI → Option spec_l30Name.PO) (J2 : List Item → P2 → Option PO) (J4 : List Item → P4 → Option PO) (t0 : List (List UInt8)) (t3 : Int) : arun1 (pg Gspec_l30At Gspec_l30Name J2 J4) 5000 T2 (mk p2 (t0, t3, ())) = F2 (J4 T4) t0 t3 := by kernel_rfl
theorem seg4 (Gspec_l30At : spec_l30At.PI → Option spec_l30At.PO) (Gspec_l30Name : spec_l30Name.PI → Option spec_l30Name.PO) (J2 : List Item → P2 → Option PO) (J4 : List Item → P4 → Option PO) (t0 : List (List UInt8)) (t3 : Int) : arunQ (pg Gspec_l30At Gspec_l30Name J2 J4) q [] [] 5000 T4 (mk p4 (t0, t3, ())) = List.replicate (arunQ (pg Gspec_l30At Gspec_l30Name J2 J4) q [] [] 5000 T4 (mk p4 (t0, t3, ()))).length (F4 (J2 T2) Gspec_l30At Gspec_l30Name t0 t3) := by kernel_rfl
noncomputable def L4 (J2 : P2 → Option PO) : P4 → Option PO := fun x => F4 J2 spec_l30At.impl spec_l30Name.impl x.1 x.2.1
noncomputable def L2 : P2 → Option PO := lfp fun J2 x => F2 (L4 J2) x.1 x.2.1
noncomputable def impl : PI → Option PO := fun x => F0 L2 x.1
theorem F4_le {J2 J2' : P2 → Option PO} (h2 : OLe J2 J2') {Gspec_l30At : spec_l30At.PI → Option spec_l30At.PO} {Gspec_l30Name : spec_l30Name.PI → Option spec_l30Name.PO} (t0 : List (List UInt8)) (t3 : Int) : OptLe (F4 J2 Gspec_l30At Gspec_l30Name t0 t3) (F4 J2' Gspec_l30At Gspec_l30Name t0 t3) := by unfold F4; exact .cond (.bind (.refl _) fun _ => .cond (.refl _) (.cond (.cond (.bind (.refl _) fun _ => .cond (.refl _) (.of h2 _)) (.refl _)) (.refl _))) (.refl _)
theorem F2_le {J4 J4' : P4 → Option PO} (h4 : OLe J4 J4') (t0 : List (List UInt8)) (t3 : Int) : OptLe (F2 J4 t0 t3) (F2 J4' t0 t3) := by unfold F2; exact .cond (.of h4 _) (.refl _)
theorem L4_eq (J2 : P2 → Option PO) (t0 : List (List UInt8)) (t3 : Int) : L4 J2 (t0, t3, ()) = F4 J2 spec_l30At.impl spec_l30Name.impl t0 t3 := rfl
theorem L4_le {J2 J2' : P2 → Option PO} (h2 : OLe J2 J2') : OLe (L4 J2) (L4 J2') := fun x => F4_le h2 x.1 x.2.1
theorem L2_mono : OMono fun J2 (x : P2) => F2 (L4 J2) x.1 x.2.1 := fun J J' h2 x => F2_le (L4_le h2) x.1 x.2.1
theorem L2_eq (t0 : List (List UInt8)) (t3 : Int) : L2 (t0, t3, ()) = F2 (L4 (L2)) t0 t3 := congrFun (lfp_eq (L2_mono)) _
theorem impl_eq (x0 : List (List UInt8)) : impl (x0, ()) = F0 L2 x0 := rfl
theorem con : Con Tryd.prog 12 1 rs.length 1 pin pout impl := by
  refine con_of_run' (nt := 30) (c := c0) tabGood Tryd.func12 (by kernel_rfl) (by kernel_rfl) (by kernel_rfl) (by kernel_rfl) (by kernel_rfl) (by kernel_rfl) (by kernel_rfl) ?_
  intro w0 O y hnp
  generalize hPost : (fun (a' : Act) (w' : World) => ∃ μ' S' st', Rel 30 w0 O μ' S' st' a' w' ∧ endOf (tabOf tab) rs 1 pout st' = some y) = Post
  have fin : ∀ (μ : Id → Option Value) (S : Nat → Prop) (st : St) (a : Act) (w : World), Rel 30 w0 O μ S st a w → endOf (tabOf tab) rs 1 pout st = some y → Post a w := fun μ S st a w h he => by rw [← hPost]; exact ⟨μ, S, st, h, he⟩
  have hp : ∀ (J2 : List Item → P2 → Option PO), ∀ (J4 : List Item → P4 → Option PO), Parts Tryd.prog 12 (pg spec_l30At.impl spec_l30Name.impl J2 J4) [(2, cut p2 J2), (4, cut p4 J4)] := fun J2 J4 => ⟨tab_ok tabGood rfl, (handAt_ok spec_l30At.con (handAt_ok spec_l30Name.con handNil_ok)), rfl⟩
  have g4 : ∀ (J2 : P2 → Option PO), Good Tryd.prog 30 w0 O Post y T2 p2 J2 → Good Tryd.prog 30 w0 O Post y T4 p4 (L4 J2) := fun J2 h2 => good_quiet (hs := hd spec_l30At.impl spec_l30Name.impl) (cv' := hd spec_l30At.impl spec_l30Name.impl) (Checked.mixed Tryd.checked) (hp (atT T2 J2) (atT T4 (fun _ => none))) (handAt_D spec_l30At.con (by rfl) rfl (handAt_D spec_l30Name.con (by rfl) rfl handNil_D)) (handAt_nat (handAt_nat handNil_nat)) (handAt_nat (handAt_nat handNil_nat)) (runOK_of (hp (atT T2 J2) (atT T4 (fun _ => none))) hnp ⟨cutOK_at h2, cutOK_at (p := p4) (T := T4) (J := fun _ => none) good_none, trivial⟩ fin) (fun x => all_same ⟨_, (seg4 spec_l30At.impl spec_l30Name.impl (atT T2 J2) (atT T4 (fun _ => none)) x.1 x.2.1).trans (by simp only [atT_self] <;> rfl)⟩)
  have g2 : Good Tryd.prog 30 w0 O Post y T2 p2 L2 := good_lfp fun J2 h2 => good_part (hp (atT T2 (fun _ => none)) (atT T4 (L4 J2))) (runOK_of (hp (atT T2 (fun _ => none)) (atT T4 (L4 J2))) hnp ⟨cutOK_at (p := p2) (T := T2) (J := fun _ => none) good_none, cutOK_at (g4 J2 h2), trivial⟩ fin) (fun x => (seg2 spec_l30At.impl spec_l30Name.impl (atT T2 (fun _ => none)) (atT T4 (L4 J2)) x.1 x.2.1).trans (by simp only [atT_self] <;> rfl))
  exact good_first (hp (atT T2 L2) (atT T4 (fun _ => none))) (runOK_of (hp (atT T2 L2) (atT T4 (fun _ => none))) hnp ⟨cutOK_at g2, cutOK_at (p := p4) (T := T4) (J := fun _ => none) good_none, trivial⟩ fin) (fun x => (seg0 spec_l30At.impl spec_l30Name.impl (atT T2 L2) (atT T4 (fun _ => none)) x.1).trans (by simp only [atT_self] <;> rfl))
end spec_NamesValid

/-! ### loop.example/wholecheck/impl.in -/
namespace impl_in
noncomputable abbrev c0 : Code := (Tryd.f61.body).getD .skip
noncomputable abbrev pin : Tpl := ⟨[⟨0, false, [.d (.int .i64)]⟩, ⟨1, false, [.d (.int .i64)]⟩, ⟨2, false, [.d (.int .i64)]⟩], []⟩
noncomputable abbrev pout : Tpl := ⟨[⟨0, false, [.d .bool]⟩], []⟩
noncomputable abbrev PI := Int × Int × Int × Unit
noncomputable abbrev PO := Bool × Unit
noncomputable abbrev rs : List ResultVar := [.tmp 6]
noncomputable def F0 (x0 : Int) (x1 : Int) (x2 : Int) : Option PO :=
  bif decide (x0 ≥ x1) then
    some (decide (x0 ≤ x2), ())
  else
    some (false, ())
noncomputable def hd {R : Type} : Hand R := handNil
noncomputable def pg : Prog PO := { nt := 15, np := 3, tb := tabOf tab, hd := hd, cuts := cutsOf [], fin := endOf (tabOf tab) rs 3 pout }
noncomputable def q : FuncId → Bool := fun f => hasId [] f
theorem seg0 (x0 : Int) (x1 : Int) (x2 : Int) : arun (pg) 5000 [.code c0] (mk pin (x0, x1, x2, ())) = F0 x0 x1 x2 := by kernel_rfl
noncomputable def impl : PI → Option PO := fun x => F0 x.1 x.2.1 x.2.2.1
theorem impl_eq (x0 : Int) (x1 : Int) (x2 : Int) : impl (x0, x1, x2, ()) = F0 x0 x1 x2 := rfl
theorem con : Con Tryd.prog 61 3 rs.length 3 pin pout impl := by
  refine con_of_run' (nt := 15) (c := c0) tabGood Tryd.func61 (by kernel_rfl) (by kernel_rfl) (by kernel_rfl) (by kernel_rfl) (by kernel_rfl) (by kernel_rfl) (by kernel_rfl) ?_
  intro w0 O y hnp
  generalize hPost : (fun (a' : Act) (w' : World) => ∃ μ' S' st', Rel 15 w0 O μ' S' st' a' w' ∧ endOf (tabOf tab) rs 3 pout st' = some y) = Post
  have fin : ∀ (μ : Id → Option Value) (S : Nat → Prop) (st : St) (a : Act) (w : World), Rel 15 w0 O μ S st a w → endOf (tabOf tab) rs 3 pout st = some y → Post a w := fun μ S st a w h he => by rw [← hPost]; exact ⟨μ, S, st, h, he⟩
  have hp : Parts Tryd.prog 61 (pg) [] := ⟨tab_ok tabGood rfl, handNil_ok, rfl⟩
  exact good_first (hp) (runOK_of (hp) hnp trivial fin) (fun x => (seg0 x.1 x.2.1 x.2.2.1))
end impl_in

/-! ### loop.example/wholecheck/impl.nameOk -/
namespace impl_nameOk
noncomputable abbrev c0 : Code := (Tryd.f51.body).getD .skip
noncomputable abbrev pin : Tpl := ⟨[⟨0, false, [.d .str]⟩], []⟩
noncomputable abbrev pout : Tpl := ⟨[⟨0, false, [.d .bool]⟩], []⟩
noncomputable abbrev PI := (List UInt8) × Unit
noncomputable abbrev PO := Bool × Unit
noncomputable abbrev rs : List ResultVar := [.tmp 2]
noncomputable def F0 (Gimpl_in : impl_in.PI → Option impl_in.PO) (Glib_Trim : lib_Trim.PI → Option lib_Trim.PO) (x0 : List UInt8) : Option PO :=
  Option.bind (Gimpl_in ((x0.length : Int), 1, 8, ())) fun y0 =>
  bif y0.1 then
    Option.bind (Glib_Trim (x0, ([97, 98, 99, 100, 101, 102, 103, 104, 105, 106, 107, 108, 109, 110, 111, 112, 113, 114, 115, 116, 117, 118, 119, 120, 121, 122] : List UInt8), ())) fun y1 =>
    some (y1.1 == [], ())
  else
    some (false, ())
noncomputable def hd {R : Type} (Gimpl_in : impl_in.PI → Option impl_in.PO) (Glib_Trim : lib_Trim.PI → Option lib_Trim.PO) : Hand R := (handAt 104 [8] true ⟨2, 1, 0, lib_Trim.pin, lib_Trim.pout, Glib_Trim⟩ (handAt 61 [5] true ⟨3, 1, 3, impl_in.pin, impl_in.pout, Gimpl_in⟩ handNil))
noncomputable def pg (Gimpl_in : impl_in.PI → Option impl_in.PO) (Glib_Trim : lib_Trim.PI → Option lib_Trim.PO) : Prog PO := { nt := 11, np := 1, tb := tabOf tab, hd := hd Gimpl_in Glib_Trim, cuts := cutsOf [], fin := endOf (tabOf tab) rs 1 pout }
noncomputable def q : FuncId → Bool := fun f => hasId [61, 104] f
theorem seg0 (Gimpl_in : impl_in.PI → Option impl_in.PO) (Glib_Trim : lib_Trim.PI → Option lib_Trim.PO) (x0 : List UInt8) : arun (pg Gimpl_in Glib_Trim) 5000 [.code c0] (mk pin (x0, ())) = F0 Gimpl_in Glib_Trim x0 := by kernel_rfl
noncomputable def impl : PI → Option PO := fun x => F0 impl_in.impl lib_Trim.impl x.1
theorem impl_eq (x0 : List UInt8) : impl (x0, ()) = F0 impl_in.impl lib_Trim.impl x0 := rfl
theorem con : Con Tryd.prog 51 1 rs.length 1 pin pout impl := by
  refine con_of_run' (nt := 11) (c := c0) tabGood Tryd.func51 (by kernel_rfl) (by kernel_rfl) (by kernel_rfl) (by kernel_rfl) (by kernel_rfl) (by kernel_rfl) (by kernel_rfl) ?_
  intro w0 O y hnp
  generalize hPost : (fun (a' : Act) (w' : World) => ∃ μ' S' st', Rel 11 w0 O μ' S' st' a' w' ∧ endOf (tabOf tab) rs 1 pout st' = some y) = Post
  have fin : ∀ (μ : Id → Option Value) (S : Nat → Prop) (st : St) (a : Act) (w : World), Rel 11 w0 O μ S st a w → endOf (tabOf tab) rs 1 pout st = some y → Post a w := fun μ S st a w h he => by rw [← hPost]; exact ⟨μ, S, st, h, he⟩
  have hp : Parts Tryd.prog 51 (pg impl_in.impl lib_Trim.impl) [] := ⟨tab_ok tabGood rfl, (handAt_ok lib_Trim.con (handAt_ok impl_in.con handNil_ok)), rfl⟩
  exact good_first (hp) (runOK_of (hp) hnp trivial fin) (fun x => (seg0 impl_in.impl lib_Trim.impl x.1))
end impl_nameOk

/-! ### slices.Index[[]string,string] -/
namespace slices_Index_of
noncomputable abbrev c0 : Code := (Tryd.f105.body).getD .skip
noncomputable abbrev pin : Tpl := ⟨[⟨0, false, [.d (.sl .str)]⟩, ⟨1, false, [.d .str]⟩], []⟩
noncomputable abbrev pout : Tpl := ⟨[⟨0, false, [.d (.int .i64)]⟩], []⟩
noncomputable abbrev p2 : Tpl := ⟨[⟨0, false, [.d (.sl .str)]⟩, ⟨1, false, [.d .str]⟩, ⟨7, false, [.d (.int .i64)]⟩, ⟨8, false, [.d (.int .i64)]⟩], []⟩
noncomputable def T2 : List Item := (find 2 c0 []).getD []
noncomputable abbrev PI := (List (List UInt8)) × (List UInt8) × Unit
noncomputable abbrev PO := Int × Unit
noncomputable abbrev P2 := (List (List UInt8)) × (List UInt8) × Int × Int × Unit
noncomputable abbrev rs : List ResultVar := [.tmp 4]
noncomputable def F0 (J2 : P2 → Option PO) (x0 : List (List UInt8)) (x1 : List UInt8) : Option PO :=
  J2 (x0, x1, (x0.length : Int), 0, ())
noncomputable def F2 (J2 : P2 → Option PO) (t0 : List (List UInt8)) (t1 : List UInt8) (t7 : Int) (t8 : Int) : Option PO :=
  bif decide (t8 < t7) then
    bif inb t8 t0.length then
      bif t1 == (t0.getD t8.toNat []) then
        some (t8, ())
      else
        J2 (t0, t1, t7, wI (t8 + 1), ())
    else
      none
  else
    some ((-1), ())
noncomputable def hd {R : Type} : Hand R := handNil
noncomputable def pg (J2 : List Item → P2 → Option PO) : Prog PO := { nt := 19, np := 2, tb := tabOf tab, hd := hd, cuts := cutsOf [(2, cut p2 J2)], fin := endOf (tabOf tab) rs 2 pout }
noncomputable def q : FuncId → Bool := fun f => hasId [] f
theorem seg0 (J2 : List Item → P2 → Option PO) (x0 : List (List UInt8)) (x1 : List UInt8) : arun (pg J2) 5000 [.code c0] (mk pin (x0, x1, ())) = F0 (J2 T2) x0 x1 := by kernel_rfl
theorem seg2 (J2 : List Item → P2 → Option PO) (t0 : List (List UInt8)) (t1 : List UInt8) (t7 : Int) (t8 : Int) : arun1 (pg J2) 5000 T2 (mk p2 (t0, t1, t7, t8, ())) = F2 (J2 T2) t0 t1 t7 t8 := by kernel_rfl
noncomputable def L2 : P2 → Option PO := lfp fun J2 x => F2 J2 x.1 x.2.1 x.2.2.1 x.2.2.2.1
noncomputable def impl : PI → Option PO := fun x => F0 L2 x.1 x.2.1
theorem F2_le {J2 J2' : P2 → Option PO} (h2 : OLe J2 J2') (t0 : List (List UInt8)) (t1 : List UInt8) (t7 : Int) (t8 : Int) : OptLe (F2 J2 t0 t1 t7 t8) (F2 J2' t0 t1 t7 t8) := by unfold F2; exact .cond (.cond (.cond (.refl _) (.of h2 _)) (.refl _)) (.refl _)
theorem L2_mono : OMono fun J2 (x : P2) => F2 J2 x.1 x.2.1 x.2.2.1 x.2.2.2.1 := fun J J' h2 x => F2_le h2 x.1 x.2.1 x.2.2.1 x.2.2.2.1
theorem L2_eq (t0 : List (List UInt8)) (t1 : List UInt8) (t7 : Int) (t8 : Int) : L2 (t0, t1, t7, t8, ()) = F2 (L2) t0 t1 t7 t8 := congrFun (lfp_eq (L2_mono)) _
theorem impl_eq (x0 : List (List UInt8)) (x1 : List UInt8) : impl (x0, x1, ()) = F0 L2 x0 x1 := rfl
theorem con : Con Tryd.prog 105 2 rs.length 2 pin pout impl := by
  refine con_of_run' (nt := 19) (c := c0) tabGood Tryd.func105 (by kernel_rfl) (by kernel_rfl) (by kernel_rfl) (by kernel_rfl) (by kernel_rfl) (by kernel_rfl) (by kernel_rfl) ?_
  intro w0 O y hnp
  generalize hPost : (fun (a' : Act) (w' : World) => ∃ μ' S' st', Rel 19 w0 O μ' S' st' a' w' ∧ endOf (tabOf tab) rs 2 pout st' = some y) = Post
  have fin : ∀ (μ : Id → Option Value) (S : Nat → Prop) (st : St) (a : Act) (w : World), Rel 19 w0 O μ S st a w → endOf (tabOf tab) rs 2 pout st = some y → Post a w := fun μ S st a w h he => by rw [← hPost]; exact ⟨μ, S, st, h, he⟩
  have hp : ∀ (J2 : List Item → P2 → Option PO), Parts Tryd.prog 105 (pg J2) [(2, cut p2 J2)] := fun J2 => ⟨tab_ok tabGood rfl, handNil_ok, rfl⟩
  have g2 : Good Tryd.prog 19 w0 O Post y T2 p2 L2 := good_lfp fun J2 h2 => good_part (hp (atT T2 J2)) (runOK_of (hp (atT T2 J2)) hnp ⟨cutOK_at h2, trivial⟩ fin) (fun x => (seg2 (atT T2 J2) x.1 x.2.1 x.2.2.1 x.2.2.2.1).trans (by simp only [atT_self] <;> rfl))
  exact good_first (hp (atT T2 L2)) (runOK_of (hp (atT T2 L2)) hnp ⟨cutOK_at g2, trivial⟩ fin) (fun x => (seg0 (atT T2 L2) x.1 x.2.1).trans (by simp only [atT_self] <;> rfl))
end slices_Index_of

/-! ### slices.Contains[[]string,string] -/
namespace slices_Contains_of
noncomputable abbrev c0 : Code := (Tryd.f52.body).getD .skip
noncomputable abbrev pin : Tpl := ⟨[⟨0, false, [.d (.sl .str)]⟩, ⟨1, false, [.d .str]⟩], []⟩
noncomputable abbrev pout : Tpl := ⟨[⟨0, false, [.d .bool]⟩], []⟩
noncomputable abbrev PI := (List (List UInt8)) × (List UInt8) × Unit
noncomputable abbrev PO := Bool × Unit
noncomputable abbrev rs : List ResultVar := [.tmp 4]
noncomputable def F0 (Gslices_Index_of : slices_Index_of.PI → Option slices_Index_of.PO) (x0 : List (List UInt8)) (x1 : List UInt8) : Option PO :=
  Option.bind (Gslices_Index_of (x0, x1, ())) fun y0 =>
  some (decide (y0.1 ≥ 0), ())
noncomputable def hd {R : Type} (Gslices_Index_of : slices_Index_of.PI → Option slices_Index_of.PO) : Hand R := (handAt 105 [7] true ⟨2, 1, 2, slices_Index_of.pin, slices_Index_of.pout, Gslices_Index_of⟩ handNil)
noncomputable def pg (Gslices_Index_of : slices_Index_of.PI → Option slices_Index_of.PO) : Prog PO := { nt := 9, np := 2, tb := tabOf tab, hd := hd Gslices_Index_of, cuts := cutsOf [], fin := endOf (tabOf tab) rs 2 pout }
noncomputable def q : FuncId → Bool := fun f => hasId [105] f
theorem seg0 (Gslices_Index_of : slices_Index_of.PI → Option slices_Index_of.PO) (x0 : List (List UInt8)) (x1 : List UInt8) : arun (pg Gslices_Index_of) 5000 [.code c0] (mk pin (x0, x1, ())) = F0 Gslices_Index_of x0 x1 := by kernel_rfl
noncomputable def impl : PI → Option PO := fun x => F0 slices_Index_of.impl x.1 x.2.1
theorem impl_eq (x0 : List (List UInt8)) (x1 : List UInt8) : impl (x0, x1, ()) = F0 slices_Index_of.impl x0 x1 := rfl
theorem con : Con Tryd.prog 52 2 rs.length 2 pin pout impl := by
  refine con_of_run' (nt := 9) (c := c0) tabGood Tryd.func52 (by kernel_rfl) (by kernel_rfl) (by kernel_rfl) (by kernel_rfl) (by kernel_rfl) (by kernel_rfl) (by kernel_rfl) ?_
  intro w0 O y hnp
  generalize hPost : (fun (a' : Act) (w' : World) => ∃ μ' S' st', Rel 9 w0 O μ' S' st' a' w' ∧ endOf (tabOf tab) rs 2 pout st' = some y) = Post
  have fin : ∀ (μ : Id → Option Value) (S : Nat → Prop) (st : St) (a : Act) (w : World), Rel 9 w0 O μ S st a w → endOf (tabOf tab) rs 2 pout st = some y → Post a w := fun μ S st a w h he => by rw [← hPost]; exact ⟨μ, S, st, h, he⟩
  have hp : Parts Tryd.prog 52 (pg slices_Index_of.impl) [] := ⟨tab_ok tabGood rfl, (handAt_ok slices_Index_of.con handNil_ok), rfl⟩
  exact good_first (hp) (runOK_of (hp) hnp trivial fin) (fun x => (seg0 slices_Index_of.impl x.1 x.2.1))
end slices_Contains_of

/-! ### loop.example/wholecheck/impl.NamesValid -/
namespace impl_NamesValid
noncomputable abbrev c0 : Code := (Tryd.f14.body).getD .skip
noncomputable abbrev pin : Tpl := ⟨[⟨0, false, [.d (.sl .str)]⟩], []⟩
noncomputable abbrev pout : Tpl := ⟨[⟨0, false, [.d .bool]⟩], []⟩
noncomputable abbrev p4 : Tpl := ⟨[⟨0, false, [.d (.sl .str)]⟩, ⟨8, false, [.d (.sl .str)]⟩, ⟨9, false, [.d (.int .i64)]⟩, ⟨10, false, [.d (.int .i64)]⟩], []⟩
noncomputable def T4 : List Item := (find 4 c0 []).getD []
noncomputable abbrev PI := (List (List UInt8)) × Unit
noncomputable abbrev PO := Bool × Unit
noncomputable abbrev P4 := (List (List UInt8)) × (List (List UInt8)) × Int × Int × Unit
noncomputable abbrev rs : List ResultVar := [.tmp 2]
noncomputable def F0 (J4 : P4 → Option PO) (x0 : List (List UInt8)) : Option PO :=
  bif decide ((x0.length : Int) > 5) then
    some (false, ())
  else
    J4 (x0, x0, (x0.length : Int), 0, ())
noncomputable def F4 (J4 : P4 → Option PO) (Gimpl_nameOk : impl_nameOk.PI → Option impl_nameOk.PO) (Gslices_Contains_of : slices_Contains_of.PI → Option slices_Contains_of.PO) (t0 : List (List UInt8)) (t8 : List (List UInt8)) (t9 : Int) (t10 : Int) : Option PO :=
  bif decide (t10 < t9) then
    bif inb t10 t8.length then
      Option.bind (Gimpl_nameOk (t8.getD t10.toNat [], ())) fun y0 =>
      bif !y0.1 then
        some (false, ())
      else
        bif decide (0 ≤ t10) && decide (t10 ≤ (t0.length : Int)) then
          Option.bind (Gslices_Contains_of ((t0.take t10.toNat).drop 0, t8.getD t10.toNat [], ())) fun y1 =>
          bif y1.1 then
            some (false, ())
          else
            J4 (t0, t8, t9, wI (t10 + 1), ())
        else
          none
    else
      none
  else
    some (true, ())
noncomputable def hd {R : Type} (Gimpl_nameOk : impl_nameOk.PI → Option impl_nameOk.PO) (Gslices_Contains_of : slices_Contains_of.PI → Option slices_Contains_of.PO) : Hand R := (handAt 52 [23] true ⟨2, 1, 2, slices_Contains_of.pin, slices_Contains_of.pout, Gslices_Contains_of⟩ (handAt 51 [16] true ⟨1, 1, 1, impl_nameOk.pin, impl_nameOk.pout, Gimpl_nameOk⟩ handNil))
noncomputable def pg (Gimpl_nameOk : impl_nameOk.PI → Option impl_nameOk.PO) (Gslices_Contains_of : slices_Contains_of.PI → Option slices_Contains_of.PO) (J4 : List Item → P4 → Option PO) : Prog PO := { nt := 26, np := 1, tb := tabOf tab, hd := hd Gimpl_nameOk Gslices_Contains_of, cuts := cutsOf [(4, cut p4 J4)], fin := endOf (tabOf tab) rs 1 pout }
noncomputable def q : FuncId → Bool := fun f => hasId [51, 52] f
theorem seg0 (Gimpl_nameOk : impl_nameOk.PI → Option impl_nameOk.PO) (Gslices_Contains_of : slices_Contains_of.PI → Option slices_Contains_of.PO) (J4 : List Item → P4 → Option PO) (x0 : List (List UInt8)) : arun (pg Gimpl_nameOk Gslices_Contains_of J4) 5000 [.code c0] (mk pin (x0, ())) = F0 (J4 T4) x0 := by kernel_rfl
theorem seg4 (Gimpl_nameOk : impl_nameOk.PI → Option impl_nameOk.PO) (Gslices_Contains_of : slices_Contains_of.PI → Option slices_Contains_of.PO) (J4 : List Item → P4 → Option PO) (t0 : List (List UInt8)) (t8 : List (List UInt8)) (t9 : Int) (t10 : Int) : arun1 (pg Gimpl_nameOk Gslices_Contains_of J4) 5000 T4 (mk p4 (t0, t8, t9, t10, ())) = F4 (J4 T4) Gimpl_nameOk Gslices_Contains_of t0 t8 t9 t10 := by kernel_rfl
noncomputable def L4 : P4 → Option PO := lfp fun J4 x => F4 J4 impl_nameOk.impl slices_Contains_of.impl x.1 x.2.1 x.2.2.1 x.2.2.2.1
noncomputable def impl : PI → Option PO := fun x => F0 L4 x.1
theorem F4_le {J4 J4' : P4 → Option PO} (h4 : OLe J4 J4') {Gimpl_nameOk : impl_nameOk.PI → Option impl_nameOk.PO} {Gslices_Contains_of : slices_Contains_of.PI → Option slices_Contains_of.PO} (t0 : List (List UInt8)) (t8 : List (List UInt8)) (t9 : Int) (t10 : Int) : OptLe (F4 J4 Gimpl_nameOk Gslices_Contains_of t0 t8 t9 t10) (F4 J4' Gimpl_nameOk Gslices_Contains_of t0 t8 t9 t10) := by unfold F4; exact .cond (.cond (.bind (.refl _) fun _ => .cond (.refl _) (.cond (.bind (.refl _) fun _ => .cond (.refl _) (.of h4 _)) (.refl _))) (.refl _)) (.refl _)
theorem L4_mono : OMono fun J4 (x : P4) => F4 J4 impl_nameOk.impl slices_Contains_of.impl x.1 x.2.1 x.2.2.1 x.2.2.2.1 := fun J J' h4 x => F4_le h4 x.1 x.2.1 x.2.2.1 x.2.2.2.1
theorem L4_eq (t0 : List (List UInt8)) (t8 : List (List UInt8)) (t9 : Int) (t10 : Int) : L4 (t0, t8, t9, t10, ()) = F4 (L4) impl_nameOk.impl slices_Contains_of.impl t0 t8 t9 t10 := congrFun (lfp_eq (L4_mono)) _
theorem impl_eq (x0 : List (List UInt8)) : impl (x0, ()) = F0 L4 x0 := rfl
theorem con : Con Tryd.prog 14 1 rs.length 1 pin pout impl := by
  refine con_of_run' (nt := 26) (c := c0) tabGood Tryd.func14 (by kernel_rfl) (by kernel_rfl) (by kernel_rfl) (by kernel_rfl) (by kernel_rfl) (by kernel_rfl) (by kernel_rfl) ?_
  intro w0 O y hnp
  generalize hPost : (fun (a' : Act) (w' : World) => ∃ μ' S' st', Rel 26 w0 O μ' S' st' a' w' ∧ endOf (tabOf tab) rs 1 pout st' = some y) = Post
  have fin : ∀ (μ : Id → Option Value) (S : Nat → Prop) (st : St) (a : Act) (w : World), Rel 26 w0 O μ S st a w → endOf (tabOf tab) rs 1 pout st = some y → Post a w := fun μ S st a w h he => by rw [← hPost]; exact ⟨μ, S, st, h, he⟩
  have hp : ∀ (J4 : List Item → P4 → Option PO), Parts Tryd.prog 14 (pg impl_nameOk.impl slices_Contains_of.impl J4) [(4, cut p4 J4)] := fun J4 => ⟨tab_ok tabGood rfl, (handAt_ok slices_Contains_of.con (handAt_ok impl_nameOk.con handNil_ok)), rfl⟩
  have g4 : Good Tryd.prog 26 w0 O Post y T4 p4 L4 := good_lfp fun J4 h4 => good_part (hp (atT T4 J4)) (runOK_of (hp (atT T4 J4)) hnp ⟨cutOK_at h4, trivial⟩ fin) (fun x => (seg4 impl_nameOk.impl slices_Contains_of.impl (atT T4 J4) x.1 x.2.1 x.2.2.1 x.2.2.2.1).trans (by simp only [atT_self] <;> rfl))
  exact good_first (hp (atT T4 L4)) (runOK_of (hp (atT T4 L4)) hnp ⟨cutOK_at g4, trivial⟩ fin) (fun x => (seg0 impl_nameOk.impl slices_Contains_of.impl (atT T4 L4) x.1).trans (by simp only [atT_self] <;> rfl))
end impl_NamesValid

/-! ### loop.example/wholecheck/laws.eqStringS -/
namespace laws_eqStringS
noncomputable abbrev c0 : Code := (Tryd.f15.body).getD .skip
noncomputable abbrev pin : Tpl := ⟨[⟨0, false, [.d (.sl .str)]⟩, ⟨1, false, [.d (.sl .str)]⟩], []⟩
noncomputable abbrev pout : Tpl := ⟨[⟨0, false, [.d .bool]⟩], []⟩
noncomputable abbrev p4 : Tpl := ⟨[⟨0, false, [.d (.sl .str)]⟩, ⟨1, false, [.d (.sl .str)]⟩, ⟨5, false, [.d (.int .i64)]⟩], []⟩
noncomputable def T4 : List Item := (find 4 c0 []).getD []
noncomputable abbrev p6 : Tpl := ⟨[⟨0, false, [.d (.sl .str)]⟩, ⟨1, false, [.d (.sl .str)]⟩, ⟨5, false, [.d (.int .i64)]⟩], []⟩
noncomputable def T6 : List Item := (find 6 c0 []).getD []
noncomputable abbrev PI := (List (List UInt8)) × (List (List UInt8)) × Unit
noncomputable abbrev PO := Bool × Unit
noncomputable abbrev P4 := (List (List UInt8)) × (List (List UInt8)) × Int × Unit
noncomputable abbrev P6 := (List (List UInt8)) × (List (List UInt8)) × Int × Unit
noncomputable abbrev rs : List ResultVar := [.tmp 4]
noncomputable def F0 (J4 : P4 → Option PO) (x0 : List (List UInt8)) (x1 : List (List UInt8)) : Option PO :=
  bif (x0.length : Int) != (x1.length : Int) then
    some (false, ())
  else
    J4 (x0, x1, 0, ())
noncomputable def F4 (J6 : P6 → Option PO) (t0 : List (List UInt8)) (t1 : List (List UInt8)) (t5 : Int) : Option PO :=
  bif decide (t5 < (t0.length : Int)) then
    J6 (t0, t1, t5, ())
  else
    some (true, ())
noncomputable def F6 (J4 : P4 → Option PO) (t0 : List (List UInt8)) (t1 : List (List UInt8)) (t5 : Int) : Option PO :=
  bif inb t5 t0.length then
    bif inb t5 t1.length then
      bif !((t0.getD t5.toNat []) == (t1.getD t5.toNat [])) then
        some (false, ())
      else
        J4 (t0, t1, wI (t5 + 1), ())
    else
      none
  else
    none
noncomputable def hd {R : Type} : Hand R := handNil
noncomputable def pg (J4 : List Item → P4 → Option PO) (J6 : List Item → P6 → Option PO) : Prog PO := { nt := 26, np := 2, tb := tabOf tab, hd := hd, cuts := cutsOf [(4, cut p4 J4), (6, cut p6 J6)], fin := endOf (tabOf tab) rs 2 pout }
noncomputable def q : FuncId → Bool := fun f => hasId [] f
theorem seg0 (J4 : List Item → P4 → Option PO) (J6 : List Item → P6 → Option PO) (x0 : List (List UInt8)) (x1 : List (List UInt8)) : arun (pg J4 J6) 5000 [.code c0] (mk pin (x0, x1, ())) = F0 (J4 T4) x0 x1 := by kernel_rfl
theorem seg4 (J4 : List Item → P4 → Option PO) (J6 : List Item → P6 → Option PO) (t0 : List (List UInt8)) (t1 : List (List UInt8)) (t5 : Int) : arun1 (pg J4 J6) 5000 T4 (mk p4 (t0, t1, t5, ())) = F4 (J6 T6) t0 t1 t5 := by kernel_rfl
theorem seg6 (J4 : List Item → P4 → Option PO) (J6 : List Item → P6 → Option PO) (t0 : List (List UInt8)) (t1 : List (List UInt8)) (t5 : Int) : arunQ (pg J4 J6) q [] [] 5000 T6 (mk p6 (t0, t1, t5, ())) = List.replicate (arunQ (pg J4 J6) q [] [] 5000 T6 (mk p6 (t0, t1, t5, ()))).length (F6 (J4 T4) t0 t1 t5) := by kernel_rfl
noncomputable def L6 (J4 : P4 → Option PO) : P6 → Option PO := fun x => F6 J4 x.1 x.2.1 x.2.2.1
noncomputable def L4 : P4 → Option PO := lfp fun J4 x => F4 (L6 J4) x.1 x.2.1 x.2.2.1
noncomputable def impl : PI → Option PO := fun x => F0 L4 x.1 x.2.1
theorem F6_le {J4 J4' : P4 → Option PO} (h4 : OLe J4 J4') (t0 : List (List UInt8)) (t1 : List (List UInt8)) (t5 : Int) : OptLe (F6 J4 t0 t1 t5) (F6 J4' t0 t1 t5) := by unfold F6; exact .cond (.cond (.cond (.refl _) (.of h4 _)) (.refl _)) (.refl _)
theorem F4_le {J6 J6' : P6 → Option PO} (h6 : OLe J6 J6') (t0 : List (List UInt8)) (t1 : List (List UInt8)) (t5 : Int) : OptLe (F4 J6 t0 t1 t5) (F4 J6' t0 t1 t5) := by unfold F4; exact .cond (.of h6 _) (.refl _)
theorem L6_eq (J4 : P4 → Option PO) (t0 : List (List UInt8)) (t1 : List (List UInt8)) (t5 : Int) : L6 J4 (t0, t1, t5, ()) = F6 J4 t0 t1 t5 := rfl
theorem L6_le {J4 J4' : P4 → Option PO} (h4 : OLe J4 J4') : OLe (L6 J4) (L6 J4') := fun x => F6_le h4 x.1 x.2.1 x.2.2.1
theorem L4_mono : OMono fun J4 (x : P4) => F4 (L6 J4) x.1 x.2.1 x.2.2.1 := fun J J' h4 x => F4_le (L6_le h4) x.1 x.2.1 x.2.2.1
theorem L4_eq (t0 : List (List UInt8)) (t1 : List (List UInt8)) (t5 : Int) : L4 (t0, t1, t5, ()) = F4 (L6 (L4)) t0 t1 t5 := congrFun (lfp_eq (L4_mono)) _
theorem impl_eq (x0 : List (List UInt8)) (x1 : List (List UInt8)) : impl (x0, x1, ()) = F0 L4 x0 x1 := rfl
theorem con : Con Tryd.prog 15 2 rs.length 2 pin pout impl := by
  refine con_of_run' (nt := 26) (c := c0) tabGood Tryd.func15 (by kernel_rfl) (by kernel_rfl) (by kernel_rfl) (by kernel_rfl) (by kernel_rfl) (by kernel_rfl) (by kernel_rfl) ?_
  intro w0 O y hnp
  generalize hPost : (fun (a' : Act) (w' : World) => ∃ μ' S' st', Rel 26 w0 O μ' S' st' a' w' ∧ endOf (tabOf tab) rs 2 pout st' = some y) = Post
  have fin : ∀ (μ : Id → Option Value) (S : Nat → Prop) (st : St) (a : Act) (w : World), Rel 26 w0 O μ S st a w → endOf (tabOf tab) rs 2 pout st = some y → Post a w := fun μ S st a w h he => by rw [← hPost]; exact ⟨μ, S, st, h, he⟩
  have hp : ∀ (J4 : List Item → P4 → Option PO), ∀ (J6 : List Item → P6 → Option PO), Parts Tryd.prog 15 (pg J4 J6) [(4, cut p4 J4), (6, cut p6 J6)] := fun J4 J6 => ⟨tab_ok tabGood rfl, handNil_ok, rfl⟩
  have g6 : ∀ (J4 : P4 → Option PO), Good Tryd.prog 26 w0 O Post y T4 p4 J4 → Good Tryd.prog 26 w0 O Post y T6 p6 (L6 J4) := fun J4 h4 => good_quiet (hs := hd) (cv' := hd) (Checked.mixed Tryd.checked) (hp (atT T4 J4) (atT T6 (fun _ => none))) handNil_D handNil_nat handNil_nat (runOK_of (hp (atT T4 J4) (atT T6 (fun _ => none))) hnp ⟨cutOK_at h4, cutOK_at (p := p6) (T := T6) (J := fun _ => none) good_none, trivial⟩ fin) (fun x => all_same ⟨_, (seg6 (atT T4 J4) (atT T6 (fun _ => none)) x.1 x.2.1 x.2.2.1).trans (by simp only [atT_self] <;> rfl)⟩)
  have g4 : Good Tryd.prog 26 w0 O Post y T4 p4 L4 := good_lfp fun J4 h4 => good_part (hp (atT T4 (fun _ => none)) (atT T6 (L6 J4))) (runOK_of (hp (atT T4 (fun _ => none)) (atT T6 (L6 J4))) hnp ⟨cutOK_at (p := p4) (T := T4) (J := fun _ => none) good_none, cutOK_at (g6 J4 h4), trivial⟩ fin) (fun x => (seg4 (atT T4 (fun _ => none)) (atT T6 (L6 J4)) x.1 x.2.1 x.2.2.1).trans (by simp only [atT_self] <;> rfl))
  exact good_first (hp (atT T4 L4) (atT T6 (fun _ => none))) (runOK_of (hp (atT T4 L4) (atT T6 (fun _ => none))) hnp ⟨cutOK_at g4, cutOK_at (p := p6) (T := T6) (J := fun _ => none) good_none, trivial⟩ fin) (fun x => (seg0 (atT T4 L4) (atT T6 (fun _ => none)) x.1 x.2.1).trans (by simp only [atT_self] <;> rfl))
end laws_eqStringS

/-! ### loop.example/wholecheck/laws.FnExactNamesValid -/
namespace laws_FnExactNamesValid
noncomputable abbrev c0 : Code := (Tryd.f3.body).getD .skip
noncomputable abbrev pin : Tpl := ⟨[⟨0, false, [.d (.sl .str)]⟩], []⟩
noncomputable abbrev pout : Tpl := ⟨[⟨0, false, [.d .bool]⟩], []⟩
noncomputable abbrev PI := (List (List UInt8)) × Unit
noncomputable abbrev PO := Bool × Unit
noncomputable abbrev rs : List ResultVar := [.tmp 2]
noncomputable def F0 (Gimpl_NamesValid : impl_NamesValid.PI → Option impl_NamesValid.PO) (Glaws_eqStringS : laws_eqStringS.PI → Option laws_eqStringS.PO) (Glaws_szStringS : laws_szStringS.PI → Option laws_szStringS.PO) (Glaws_toStringS : laws_toStringS.PI → Option laws_toStringS.PO) (Gspec_NamesValid : spec_NamesValid.PI → Option spec_NamesValid.PO) (x0 : List (List UInt8)) : Option PO :=
  Option.bind (Glaws_szStringS (x0, 1048576, ())) fun y0 =>
  bif decide (y0.1 < 0) then
    some (true, ())
  else
    Option.bind (Glaws_toStringS (x0, ())) fun y1 =>
    Option.bind (Gspec_NamesValid (y1.1, ())) fun y2 =>
    Option.bind (Glaws_toStringS (x0, ())) fun y3 =>
    Option.bind (Gimpl_NamesValid (y3.1, ())) fun y4 =>
    bif !(y4.1 == y2.1) then
      some (false, ())
    else
      Option.bind (Glaws_toStringS (x0, ())) fun y5 =>
      Option.bind (Glaws_eqStringS (y3.1, y5.1, ())) fun y6 =>
      bif !y6.1 then
        some (false, ())
      else
        some (true, ())
noncomputable def hd {R : Type} (Gimpl_NamesValid : impl_NamesValid.PI → Option impl_NamesValid.PO) (Glaws_eqStringS : laws_eqStringS.PI → Option laws_eqStringS.PO) (Glaws_szStringS : laws_szStringS.PI → Option laws_szStringS.PO) (Glaws_toStringS : laws_toStringS.PI → Option laws_toStringS.PO) (Gspec_NamesValid : spec_NamesValid.PI → Option spec_NamesValid.PO) : Hand R := (handAt 15 [25] true ⟨2, 1, 2, laws_eqStringS.pin, laws_eqStringS.pout, Glaws_eqStringS⟩ (handAt 14 [18] true ⟨1, 1, 1, impl_NamesValid.pin, impl_NamesValid.pout, Gimpl_NamesValid⟩ (handAt 13 [13, 16, 24] true ⟨1, 1, 1, laws_toStringS.pin, laws_toStringS.pout, Glaws_toStringS⟩ (handAt 12 [14] true ⟨1, 1, 1, spec_NamesValid.pin, spec_NamesValid.pout, Gspec_NamesValid⟩ (handAt 11 [9] true ⟨2, 1, 1, laws_szStringS.pin, laws_szStringS.pout, Glaws_szStringS⟩ handNil)))))
noncomputable def pg (Gimpl_NamesValid : impl_NamesValid.PI → Option impl_NamesValid.PO) (Glaws_eqStringS : laws_eqStringS.PI → Option laws_eqStringS.PO) (Glaws_szStringS : laws_szStringS.PI → Option laws_szStringS.PO) (Glaws_toStringS : laws_toStringS.PI → Option laws_toStringS.PO) (Gspec_NamesValid : spec_NamesValid.PI → Option spec_NamesValid.PO) : Prog PO := { nt := 27, np := 1, tb := tabOf tab, hd := hd Gimpl_NamesValid Glaws_eqStringS Glaws_szStringS Glaws_toStringS Gspec_NamesValid, cuts := cutsOf [], fin := endOf (tabOf tab) rs 1 pout }
noncomputable def q : FuncId → Bool := fun f => hasId [11, 12, 14, 15] f
theorem seg0 (Gimpl_NamesValid : impl_NamesValid.PI → Option impl_NamesValid.PO) (Glaws_eqStringS : laws_eqStringS.PI → Option laws_eqStringS.PO) (Glaws_szStringS : laws_szStringS.PI → Option laws_szStringS.PO) (Glaws_toStringS : laws_toStringS.PI → Option laws_toStringS.PO) (Gspec_NamesValid : spec_NamesValid.PI → Option spec_NamesValid.PO) (x0 : List (List UInt8)) : arun (pg Gimpl_NamesValid Glaws_eqStringS Glaws_szStringS Glaws_toStringS Gspec_NamesValid) 5000 [.code c0] (mk pin (x0, ())) = F0 Gimpl_NamesValid Glaws_eqStringS Glaws_szStringS Glaws_toStringS Gspec_NamesValid x0 := by kernel_rfl
noncomputable def impl : PI → Option PO := fun x => F0 impl_NamesValid.impl laws_eqStringS.impl laws_szStringS.impl laws_toStringS.impl spec_NamesValid.impl x.1
theorem impl_eq (x0 : List (List UInt8)) : impl (x0, ()) = F0 impl_NamesValid.impl laws_eqStringS.impl laws_szStringS.impl laws_toStringS.impl spec_NamesValid.impl x0 := rfl
theorem con : Con Tryd.prog 3 1 rs.length 1 pin pout impl := by
  refine con_of_run' (nt := 27) (c := c0) tabGood Tryd.func3 (by kernel_rfl) (by kernel_rfl) (by kernel_rfl) (by kernel_rfl) (by kernel_rfl) (by kernel_rfl) (by kernel_rfl) ?_
  intro w0 O y hnp
  generalize hPost : (fun (a' : Act) (w' : World) => ∃ μ' S' st', Rel 27 w0 O μ' S' st' a' w' ∧ endOf (tabOf tab) rs 1 pout st' = some y) = Post
  have fin : ∀ (μ : Id → Option Value) (S : Nat → Prop) (st : St) (a : Act) (w : World), Rel 27 w0 O μ S st a w → endOf (tabOf tab) rs 1 pout st = some y → Post a w := fun μ S st a w h he => by rw [← hPost]; exact ⟨μ, S, st, h, he⟩
  have hp : Parts Tryd.prog 3 (pg impl_NamesValid.impl laws_eqStringS.impl laws_szStringS.impl laws_toStringS.impl spec_NamesValid.impl) [] := ⟨tab_ok tabGood rfl, (handAt_ok laws_eqStringS.con (handAt_ok impl_NamesValid.con (handAt_ok laws_toStringS.con (handAt_ok spec_NamesValid.con (handAt_ok laws_szStringS.con handNil_ok))))), rfl⟩
  exact good_first (hp) (runOK_of (hp) hnp trivial fin) (fun x => (seg0 impl_NamesValid.impl laws_eqStringS.impl laws_szStringS.impl laws_toStringS.impl spec_NamesValid.impl x.1))
end laws_FnExactNamesValid
end Go.Proofs.YtambmmpilakgoaaDoorB
